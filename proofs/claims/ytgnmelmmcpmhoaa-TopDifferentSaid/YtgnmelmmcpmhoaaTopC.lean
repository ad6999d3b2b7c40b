/-
  Walks: the law TopDifferent, over whatever memory.
-/
import Derived.Test.YtgnmelmmcpmhoaaProg
import Derived.Test.YtgnmelmmcpmhoaaBase
import Derived.Test.YtgnmelmmcpmhoaaUpdA
import Derived.Test.YtgnmelmmcpmhoaaUpdB
import Derived.Test.YtgnmelmmcpmhoaaUpdC
import Derived.Test.YtgnmelmmcpmhoaaUpdD
import Derived.Test.YtgnmelmmcpmhoaaUpdE
import Derived.Test.YtgnmelmmcpmhoaaUpdF
import Derived.Test.YtgnmelmmcpmhoaaLawA
import Derived.Test.YtgnmelmmcpmhoaaLawE
import Derived.Test.YtgnmelmmcpmhoaaPlain
import Derived.Test.YtgnmelmmcpmhoaaRevC
import Derived.Test.YtgnmelmmcpmhoaaTopA
import Derived.Test.YtgnmelmmcpmhoaaTopP
import Derived.Test.YtgnmelmmcpmhoaaTopB
namespace Go.Proofs.Ytgnmelmmcpmhoaa
open Go.RowKit

/-- Update and Dalal's revision differ at this belief and input, which are consistent. -/
def hitD (n b s : Nat) : Bool := b &&& s != 0 && updS n (famF n cntB) b s != dalS n b s
theorem hitD_some {n : Nat} (hn : n = 4 ∨ n = 8) : ∃ b, b < 16 ∧ 1 ≤ b ∧ ∃ s, s < 16 ∧ 1 ≤ s ∧ hitD n b s = true := by
  rcases hn with rfl | rfl
  · have key : (List.range 16).any (fun b => decide (1 ≤ b) && (List.range 16).any fun s => decide (1 ≤ s) && hitD 4 b s) = true := by decide +kernel
    simp only [List.any_eq_true, List.mem_range, Bool.and_eq_true, decide_eq_true_eq] at key
    obtain ⟨b, hb, h1, s, hs, h2, h3⟩ := key
    exact ⟨b, hb, h1, s, hs, h2, h3⟩
  · have key : (List.range 16).any (fun b => decide (1 ≤ b) && (List.range 16).any fun s => decide (1 ≤ s) && hitD 8 b s) = true := by decide +kernel
    simp only [List.any_eq_true, List.mem_range, Bool.and_eq_true, decide_eq_true_eq] at key
    obtain ⟨b, hb, h1, s, hs, h2, h3⟩ := key
    exact ⟨b, hb, h1, s, hs, h2, h3⟩
theorem dal_meet {n b s : Nat} (hn : n = 4 ∨ n = 8) (hb : b < 16) (hs : s < 16) (h : b &&& s ≠ 0) : dalS n b s = b &&& s := by
  rcases hn with rfl | rfl
  · have key : ∀ b : Nat, b < 16 → ∀ s : Nat, s < 16 → b &&& s ≠ 0 → dalS 4 b s = b &&& s := by decide +kernel
    exact key b hb s hs h
  · have key : ∀ b : Nat, b < 16 → ∀ s : Nat, s < 16 → b &&& s ≠ 0 → dalS 8 b s = b &&& s := by decide +kernel
    exact key b hb s hs h

set_option maxHeartbeats 4000000 in
theorem different_core (x : Nat) (w : World) (hx : x < 256) :
    Calls Try.prog 12 #[.int .u8 x] w fun e w' => e = .returned (.bool true) ∧ Below w.heap.size w w' := by
  have HB := Lib.hid (Below.refl w.heap.size w)
  obtain ⟨kk, ekk⟩ : ∃ kk, kk = 2 + x % 2 := ⟨_, rfl⟩
  have hk3 : kk ≤ 3 := by omega
  have hk2 : kk = 2 ∨ kk = 3 := by omega
  have hmx : 2 + (x : Int) % 2 = (kk : Int) := by rw [ekk]; rfl
  have hmx' : 2 + (x : Int).tmod 2 = (kk : Int) := by rw [Int.tmod_eq_emod_of_nonneg (by omega)]; exact hmx
  obtain ⟨n, hn⟩ : ∃ n, n = 2 ^ kk := ⟨_, rfl⟩
  have hn8 := pow_le8 hn hk3
  have hn48 : n = 4 ∨ n = 8 := by rw [hn]; rcases hk2 with rfl | rfl <;> decide
  have hn4 : 4 ≤ n := by omega
  obtain ⟨c1, c2, c3⟩ := fam_check hk3 hn
  have HN := Lib.hid hn
  have HK := Lib.hid hk3
  have C2 := Lib.hid c2
  have H48 := Lib.hid hn48
  clear hn c1 c2 c3 ekk hk2 hn48
  go_enter Try.func12, Try.ntmps12
  go_wp2_with fail
  refine (bMoves_any _).mono ?_
  rintro e w0 ⟨rfl, hst⟩
  have HB := Lib.hid (HB.out.trans (hst.mono HB.out.size))
  clear hst
  go_wp2_with fail
  refine (Forbus_any kk _).mono ?_
  intro e v8 h1
  obtain ⟨A8, k8, R, cc, rfl, hm, hf, hb⟩ := famPost0_of' HK.out HN.out h1
  clear h1 hf
  go_wp2_with fail
  have hst := hb.trans ((below_alloc v8 (.cells #[.int .i64 kk, .slice A8 n k8] 24)).mono hb.size)
  have HG := Lib.hid (Fam.new (k := kk) (c := k8) 24 hm)
  have HB := Lib.hid (HB.out.trans (hst.mono HB.out.size))
  clear hm hb hst
  generalize v8.alloc _ = W at HB HG ⊢
  generalize v8.heap.size = b8 at HG ⊢
  have HG0 := Lib.hid HG.out
  have HB0 := Lib.hid HB.out
  clear HG HB
  go_loopw [6] (fun bv wr => ∃ b : Nat, 1 ≤ b ∧ b ≤ 16 ∧ bv = .int .u64 b ∧ Below W.heap.size W wr ∧ Hid (∀ b', 1 ≤ b' → b' < b → ∀ s', 1 ≤ s' → s' < 16 → hitD n b' s' = false)) (fun bv _ => 16 - (intOf bv).toNat)
  case atStart => exact ⟨1, by omega, by omega, rfl, Below.refl _ _, Lib.hid fun b' h1 h2 => by omega⟩
  case round =>
    obtain ⟨b, hb1, hb16, rfl, hbl, HA⟩ := hrel
    by_cases hblt : b < 16
    · have HBL := Lib.hid hbl
      clear hbl
      have hdb : decide ((b : Int) < 16) = true := by simp; omega
      go_wp2_with (fail)
      go_loopw [7] (fun sv wr => ∃ s : Nat, 1 ≤ s ∧ s ≤ 16 ∧ sv = .int .u64 s ∧ Below W.heap.size W wr ∧ Hid (∀ s', 1 ≤ s' → s' < s → hitD n b s' = false)) (fun sv _ => 16 - (intOf sv).toNat)
      case atStart => exact ⟨1, by omega, by omega, rfl, HBL.out, Lib.hid fun s' h1 h2 => by omega⟩
      case round =>
        clear HBL
        obtain ⟨s, hs1, hs16, rfl, hbl, HI⟩ := hrel
        by_cases hslt : s < 16
        · obtain ⟨E, eE⟩ : ∃ E, E = b &&& s := ⟨_, rfl⟩
          have hand : bits .and .u64 (b : Int) (s : Int) = (E : Int) := by rw [u64_and_nat _ _ (by omega) (by omega), eE]
          obtain ⟨X, eX⟩ : ∃ X, X = updS n (famF n cntB) b s := ⟨_, rfl⟩
          obtain ⟨D, eD⟩ : ∃ D, D = dalS n b s := ⟨_, rfl⟩
          have hds : decide ((s : Int) < 16) = true := by simp; omega
          have hnext : hitD n b s = (E != 0 && X != D) := by unfold hitD; rw [eX, eE, eD]
          have hmeet : E ≠ 0 → D = E := fun h => by rw [eD, eE]; exact dal_meet H48.out hblt hslt (by rw [← eE]; exact h)
          have HX := Lib.hid eX
          have HD := Lib.hid eD
          have HNX := Lib.hid hnext
          have HME := Lib.hid hmeet
          have p16 := Lib.hid (show b < 2 ^ n ∧ s < 2 ^ n from ⟨Nat.lt_of_lt_of_le hblt (Nat.le_trans (by decide) (Nat.pow_le_pow_right (by decide) hn4)), Nat.lt_of_lt_of_le hslt (Nat.le_trans (by decide) (Nat.pow_le_pow_right (by decide) hn4))⟩)
          have hst2 : Hid (hitD n b s = false → ∀ s', 1 ≤ s' → s' < s + 1 → hitD n b s' = false) := Lib.hid fun h s' h1 h2 => by
            rcases Nat.lt_succ_iff_lt_or_eq.1 h2 with h3 | rfl
            · exact HI.out s' h1 h3
            · exact h
          obtain ⟨d0, d1, R, cc, hm⟩ := HG0.out.below hbl
          have HM := Lib.hid hm
          have HB := Lib.hid hbl
          clear eE eX eD hnext hmeet hm hbl
          go_wp2_with (fail)
          refine (upds_val kk b s X _ _ _ _ _ _ _ _ HM.out HX.out C2.out p16.out.1 p16.out.2).mono ?_
          rintro e V ⟨rfl, hst⟩
          have HB := Lib.hid (HB.out.trans (hst.mono HB.out.size))
          clear HM d0 d1 hst
          go_wp2_with (fail)
          refine (dal_val kk n b s D _ (by omega) HN.out p16.out.1 p16.out.2 HD.out).mono ?_
          rintro e V ⟨rfl, hst⟩
          have HB := Lib.hid (HB.out.trans (hst.mono HB.out.size))
          clear hst
          by_cases hE : E = 0
          · have h1 : ((E : Int) != 0) = false := by rw [hE]; rfl
            go_wp2_with (fail)
            go_roundw
            case rel => exact ⟨s + 1, by omega, by omega, by go_num, HB.out, Lib.hid (hst2.out (by rw [HNX.out, hE]; rfl))⟩
            case measure => simp [intOf]; omega
          · have h1 : ((E : Int) != 0) = true := by rw [bne_iff_ne]; omega
            have hE' : (E != 0) = true := by simpa using hE
            have hDE := HME.out hE
            have h3 : ((D : Int) != (E : Int)) = false := by rw [hDE]; simp
            have HDE := Lib.hid hDE
            clear hDE
            by_cases hXE : X = D
            · have h2 : ((X : Int) != (D : Int)) = false := by rw [hXE]; simp
              have HXE := Lib.hid hXE
              clear hXE
              go_wp2_with (fail)
              go_roundw
              case rel => exact ⟨s + 1, by omega, by omega, by go_num, HB.out, Lib.hid (hst2.out (by rw [HNX.out, HXE.out]; simp))⟩
              case measure => simp [intOf]; omega
            · have h2 : ((X : Int) != (D : Int)) = true := by rw [bne_iff_ne]; omega
              go_wp2_with (fail)
              go_ret
              exact ⟨rfl, HB0.out.trans (HB.out.mono HB0.out.size)⟩
        · have hs : s = 16 := by omega
          subst hs
          have HB := Lib.hid hbl
          clear hbl
          go_wp2_with (fail)
          go_roundw
          case rel => exact ⟨b + 1, by omega, by omega, by go_num, HB.out, Lib.hid fun b' h1 h2 s' h3 h4 => by
            rcases Nat.lt_succ_iff_lt_or_eq.1 h2 with h5 | rfl
            · exact HA.out b' h1 h5 s' h3 h4
            · exact HI.out s' h3 h4⟩
          case measure => simp [intOf]; omega
    · exfalso
      obtain ⟨b', h1, h2, s', h3, h4, h5⟩ := hitD_some H48.out
      have := HA.out b' h2 (by omega) s' h4 h3
      rw [h5] at this; cases this
end Go.Proofs.Ytgnmelmmcpmhoaa
