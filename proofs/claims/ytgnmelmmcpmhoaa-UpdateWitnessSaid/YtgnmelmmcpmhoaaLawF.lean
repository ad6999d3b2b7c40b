/-
  Walks: the law UpdateWitness, over whatever memory.
-/
import Derived.Test.YtgnmelmmcpmhoaaProg
import Derived.Test.YtgnmelmmcpmhoaaBase
import Derived.Test.YtgnmelmmcpmhoaaUpdA
import Derived.Test.YtgnmelmmcpmhoaaUpdB
import Derived.Test.YtgnmelmmcpmhoaaUpdC
import Derived.Test.YtgnmelmmcpmhoaaUpdD
import Derived.Test.YtgnmelmmcpmhoaaUpdE
import Derived.Test.YtgnmelmmcpmhoaaUpdF
import Derived.Test.YtgnmelmmcpmhoaaRefB
import Derived.Test.YtgnmelmmcpmhoaaLawA
import Derived.Test.YtgnmelmmcpmhoaaLawB
import Derived.Test.YtgnmelmmcpmhoaaLawC
import Derived.Test.YtgnmelmmcpmhoaaLawE
import Derived.Test.YtgnmelmmcpmhoaaPlain
import Derived.LoopN
namespace Go.Proofs.Ytgnmelmmcpmhoaa
open Go.RowKit

def hitB (n : Nat) (cl : Nat → Nat → Bool) (b s : Nat) : Bool := b &&& s != 0 && updS n (famF n cl) b s != b &&& s
def hitS (n : Nat) (cl : Nat → Nat → Bool) (b s : Nat) : Bool := (List.range s).any fun x => x != 0 && hitB n cl b x
def hitAll (n : Nat) (cl : Nat → Nat → Bool) (b : Nat) : Bool := (List.range b).any fun x => x != 0 && hitS n cl x 16
theorem hit_facts {k n : Nat} (hk : k = 2 ∨ k = 3) (hn : n = 2 ^ k) : hitAll n subB 16 = true ∧ hitAll n cntB 16 = true := by
  subst hn
  rcases hk with rfl | rfl <;> decide +kernel
theorem hitS_succ (n : Nat) (cl : Nat → Nat → Bool) (b s : Nat) (hs : s ≠ 0) : hitS n cl b (s + 1) = (hitS n cl b s || hitB n cl b s) := by
  have h : (s != 0) = true := by simpa using hs
  unfold hitS; rw [List.range_succ, List.any_append]; simp [h]
theorem hitAll_succ (n : Nat) (cl : Nat → Nat → Bool) (b : Nat) (hs : b ≠ 0) : hitAll n cl (b + 1) = (hitAll n cl b || hitS n cl b 16) := by
  have h : (b != 0) = true := by simpa using hs
  unfold hitAll; rw [List.range_succ, List.any_append]; simp [h]

theorem hitS_one (n : Nat) (cl : Nat → Nat → Bool) (b : Nat) : hitS n cl b 1 = false := rfl
theorem hitAll_one (n : Nat) (cl : Nat → Nat → Bool) : hitAll n cl 1 = false := rfl
set_option maxHeartbeats 4000000 in
set_option maxRecDepth 100000 in
theorem witness_core (x : Nat) (w : World) (hx : x < 256) :
    Calls Try.prog 9 #[.int .u8 x] w fun e w' => e = .returned (.bool true) ∧ Below w.heap.size w w' := by
  have HB := Lib.hid (Below.refl w.heap.size w)
  obtain ⟨kk, ekk⟩ : ∃ kk, kk = 2 + x % 2 := ⟨_, rfl⟩
  have hk3 : kk ≤ 3 := by omega
  have hk2 : kk = 2 ∨ kk = 3 := by omega
  have hmx : 2 + (x : Int) % 2 = (kk : Int) := by rw [ekk]; rfl
  have hmx' : 2 + (x : Int).tmod 2 = (kk : Int) := by rw [Int.tmod_eq_emod_of_nonneg (by omega)]; exact hmx
  obtain ⟨n, hn⟩ : ∃ n, n = 2 ^ kk := ⟨_, rfl⟩
  have hn8 := pow_le8 hn hk3
  have hn4 : 4 ≤ n := by rw [hn]; rcases hk2 with rfl | rfl <;> decide
  obtain ⟨c1, c2, -⟩ := fam_check hk3 hn
  have HN := Lib.hid hn
  have HK := Lib.hid hk3
  have C1 := Lib.hid c1
  have C2 := Lib.hid c2
  obtain ⟨hw, hf⟩ := hit_facts hk2 hn
  have HW := Lib.hid hw
  have HF := Lib.hid hf
  clear hn c1 c2 hk2 ekk hw hf
  go_enter Try.func9, Try.ntmps9
  go_wp2_with fail
  refine (awake_any _).mono ?_
  rintro e w0 ⟨rfl, hst⟩
  have HB := Lib.hid (HB.out.trans (hst.mono HB.out.size))
  clear hst
  go_wp2_with fail
  refine wp_loop_rounds 3 ?_
  rw [rounds_succ]
  go_wp2_with fail
  obtain ⟨-, hc1⟩ := cells_box2 w0 (.func (.func 16) #[] #[]) (.func (.func 18) #[] #[]) 28
  have hst := below_alloc w0 (.cells #[.func (.func 16) #[] #[], .func (.func 18) #[] #[]] 28)
  generalize w0.alloc (.cells #[.func (.func 16) #[] #[], .func (.func 18) #[] #[]] 28) = W0 at hc1 hst ⊢
  have HB := Lib.hid (HB.out.trans (hst.mono HB.out.size))
  clear hst
  refine (Winslett_any kk _).mono ?_
  intro e v8 h1
  obtain ⟨A8, k8, R, cc, rfl, hm, hf, hb⟩ := famPost0_of' HK.out HN.out h1
  clear h1 hf
  go_wp2_with (fail)
  have hst := hb.trans ((below_alloc v8 (.cells #[.int .i64 kk, .slice A8 n k8] 24)).mono hb.size)
  have HG := Lib.hid (Fam.new (k := kk) (c := k8) 24 hm)
  have HB := Lib.hid (HB.out.trans (hst.mono HB.out.size))
  have hc1 := cell_below hst hc1
  clear hm hb hst
  generalize v8.alloc _ = W at HB hc1 HG ⊢
  generalize v8.heap.size = b8 at HG ⊢
  have HC1 := Lib.hid hc1
  have HG0 := Lib.hid HG.out
  have HB0 := Lib.hid HB.out
  clear hc1 HG HB
  go_loopw [8, 9] (fun fd bv wr => ∃ b : Nat, 1 ≤ b ∧ b ≤ 16 ∧ fd = .bool (hitAll n subB b) ∧ bv = .int .u64 b ∧ Below W.heap.size W wr) (fun _ bv _ => 16 - (intOf bv).toNat)
  case atStart => exact ⟨1, by omega, by omega, by rw [hitAll_one], rfl, Below.refl _ _⟩
  case round =>
    obtain ⟨b, hb1, hb16, rfl, rfl, hbl⟩ := hrel
    by_cases hblt : b < 16
    · have HBL := Lib.hid hbl
      clear hbl
      have hdb : decide ((b : Int) < 16) = true := by simp; omega
      go_wp2_with (fail)
      obtain ⟨fa, efa⟩ : ∃ fa, fa = hitAll n subB b := ⟨_, rfl⟩
      rw [← efa]
      have EFA := Lib.hid efa
      clear efa
      go_loopw [8, 10] (fun fd sv wr => ∃ s : Nat, 1 ≤ s ∧ s ≤ 16 ∧ fd = .bool (fa || hitS n subB b s) ∧ sv = .int .u64 s ∧ Below W.heap.size W wr) (fun _ sv _ => 16 - (intOf sv).toNat)
      case atStart => exact ⟨1, by omega, by omega, by rw [hitS_one, Bool.or_false], rfl, HBL.out⟩
      case round =>
        clear HBL
        obtain ⟨s, hs1, hs16, rfl, rfl, hbl⟩ := hrel
        by_cases hslt : s < 16
        · obtain ⟨E, eE⟩ : ∃ E, E = b &&& s := ⟨_, rfl⟩
          have hand : bits .and .u64 (b : Int) (s : Int) = (E : Int) := by rw [u64_and_nat _ _ (by omega) (by omega), eE]
          obtain ⟨X, eX⟩ : ∃ X, X = updS n (famF n subB) b s := ⟨_, rfl⟩
          have hnext : hitS n subB b (s + 1) = (hitS n subB b s || (E != 0 && X != E)) := by rw [hitS_succ _ _ _ _ (by omega), eX, eE]; rfl
          have HX := Lib.hid eX
          have HNX := Lib.hid hnext
          have p16 := Lib.hid (show b < 2 ^ n ∧ s < 2 ^ n from ⟨Nat.lt_of_lt_of_le hblt (Nat.le_trans (by decide) (Nat.pow_le_pow_right (by decide) hn4)), Nat.lt_of_lt_of_le hslt (Nat.le_trans (by decide) (Nat.pow_le_pow_right (by decide) hn4))⟩)
          obtain ⟨d0, d1, R, cc, hm⟩ := HG0.out.below hbl
          have HM := Lib.hid hm
          have HB := Lib.hid hbl
          clear eE eX hnext hm hbl
          go_wp2_with (fail)
          refine (up_val kk b s X _ _ _ _ _ _ _ _ HM.out HX.out C1.out p16.out.1 p16.out.2).mono ?_
          rintro e V ⟨rfl, hst⟩
          have HB := Lib.hid (HB.out.trans (hst.mono HB.out.size))
          clear HM d0 d1 hst
          obtain ⟨fb, efb⟩ : ∃ fb, fb = (fa || hitS n subB b s) := ⟨_, rfl⟩
          rw [← efb]
          have EFB := Lib.hid efb
          clear efb
          cases fb
          · by_cases hE : E = 0
            · have h1 : ((E : Int) != 0) = false := by rw [hE]; rfl
              go_wp2_with (fail)
              go_round
              case rel => exact ⟨s + 1, by omega, by omega, by rw [HNX.out, ← Bool.or_assoc, ← EFB.out, hE]; rfl, by go_num, HB.out⟩
              case measure => simp [intOf]; omega
            · have h1 : ((E : Int) != 0) = true := by rw [bne_iff_ne]; omega
              have hE' : (E != 0) = true := by simpa using hE
              cases hXE : (X != E)
              · have h2 : ((X : Int) != (E : Int)) = false := by rw [bne_eq_false_iff_eq] at *; rw [hXE]
                go_wp2_with (fail)
                go_round
                case rel => exact ⟨s + 1, by omega, by omega, by rw [HNX.out, ← Bool.or_assoc, ← EFB.out, hXE, Bool.and_false]; rfl, by go_num, HB.out⟩
                case measure => simp [intOf]; omega
              · have h2 : ((X : Int) != (E : Int)) = true := by rw [bne_iff_ne] at hXE ⊢; omega
                go_wp2_with (fail)
                go_round
                case rel => exact ⟨s + 1, by omega, by omega, by rw [HNX.out, ← Bool.or_assoc, ← EFB.out, hXE, hE']; rfl, by go_num, HB.out⟩
                case measure => simp [intOf]; omega
          · go_wp2_with (fail)
            go_round
            case rel => exact ⟨s + 1, by omega, by omega, by rw [HNX.out, ← Bool.or_assoc, ← EFB.out]; rfl, by go_num, HB.out⟩
            case measure => simp [intOf]; omega
        · have hs : s = 16 := by omega
          subst hs
          have HB := Lib.hid hbl
          clear hbl
          go_wp2_with (fail)
          go_round
          case rel => exact ⟨b + 1, by omega, by omega, by rw [hitAll_succ _ _ _ (by omega), ← EFA.out], by go_num, HB.out⟩
          case measure => simp [intOf]; omega
    · have hb : b = 16 := by omega
      subst hb
      rw [HW.out]
      have hc1 := cell_below hbl HC1.out
      have HB := Lib.hid (HB0.out.trans (hbl.mono HB0.out.size))
      clear hbl
      go_wp2_with (fail)
      rw [rounds_succ]
      go_wp2_with (fail)
      clear HG0 HB0 HC1
      refine (Forbus_any kk _).mono ?_
      intro e v8 h1
      obtain ⟨A8, k8, R, cc, rfl, hm, hf, hb⟩ := famPost0_of' HK.out HN.out h1
      clear h1 hf
      go_wp2_with (fail)
      have hst := hb.trans ((below_alloc v8 (.cells #[.int .i64 kk, .slice A8 n k8] 24)).mono hb.size)
      have HG := Lib.hid (Fam.new (k := kk) (c := k8) 24 hm)
      have HB := Lib.hid (HB.out.trans (hst.mono HB.out.size))
      have hc1 := cell_below hst hc1
      clear hm hb hst
      generalize v8.alloc _ = W at HB hc1 HG ⊢
      generalize v8.heap.size = b8 at HG ⊢
      have HC1 := Lib.hid hc1
      have HG0 := Lib.hid HG.out
      have HB0 := Lib.hid HB.out
      clear hc1 HG HB
      go_loopw [8, 9] (fun fd bv wr => ∃ b : Nat, 1 ≤ b ∧ b ≤ 16 ∧ fd = .bool (hitAll n cntB b) ∧ bv = .int .u64 b ∧ Below W.heap.size W wr) (fun _ bv _ => 16 - (intOf bv).toNat)
      case atStart => exact ⟨1, by omega, by omega, by rw [hitAll_one], rfl, Below.refl _ _⟩
      case round =>
        obtain ⟨b, hb1, hb16, rfl, rfl, hbl⟩ := hrel
        by_cases hblt : b < 16
        · have HBL := Lib.hid hbl
          clear hbl
          have hdb : decide ((b : Int) < 16) = true := by simp; omega
          go_wp2_with (fail)
          obtain ⟨fa, efa⟩ : ∃ fa, fa = hitAll n cntB b := ⟨_, rfl⟩
          rw [← efa]
          have EFA := Lib.hid efa
          clear efa
          go_loopw [8, 10] (fun fd sv wr => ∃ s : Nat, 1 ≤ s ∧ s ≤ 16 ∧ fd = .bool (fa || hitS n cntB b s) ∧ sv = .int .u64 s ∧ Below W.heap.size W wr) (fun _ sv _ => 16 - (intOf sv).toNat)
          case atStart => exact ⟨1, by omega, by omega, by rw [hitS_one, Bool.or_false], rfl, HBL.out⟩
          case round =>
            clear HBL
            obtain ⟨s, hs1, hs16, rfl, rfl, hbl⟩ := hrel
            by_cases hslt : s < 16
            · obtain ⟨E, eE⟩ : ∃ E, E = b &&& s := ⟨_, rfl⟩
              have hand : bits .and .u64 (b : Int) (s : Int) = (E : Int) := by rw [u64_and_nat _ _ (by omega) (by omega), eE]
              obtain ⟨X, eX⟩ : ∃ X, X = updS n (famF n cntB) b s := ⟨_, rfl⟩
              have hnext : hitS n cntB b (s + 1) = (hitS n cntB b s || (E != 0 && X != E)) := by rw [hitS_succ _ _ _ _ (by omega), eX, eE]; rfl
              have HX := Lib.hid eX
              have HNX := Lib.hid hnext
              have p16 := Lib.hid (show b < 2 ^ n ∧ s < 2 ^ n from ⟨Nat.lt_of_lt_of_le hblt (Nat.le_trans (by decide) (Nat.pow_le_pow_right (by decide) hn4)), Nat.lt_of_lt_of_le hslt (Nat.le_trans (by decide) (Nat.pow_le_pow_right (by decide) hn4))⟩)
              obtain ⟨d0, d1, R, cc, hm⟩ := HG0.out.below hbl
              have HM := Lib.hid hm
              have HB := Lib.hid hbl
              clear eE eX hnext hm hbl
              go_wp2_with (fail)
              refine (up_val kk b s X _ _ _ _ _ _ _ _ HM.out HX.out C2.out p16.out.1 p16.out.2).mono ?_
              rintro e V ⟨rfl, hst⟩
              have HB := Lib.hid (HB.out.trans (hst.mono HB.out.size))
              clear HM d0 d1 hst
              obtain ⟨fb, efb⟩ : ∃ fb, fb = (fa || hitS n cntB b s) := ⟨_, rfl⟩
              rw [← efb]
              have EFB := Lib.hid efb
              clear efb
              cases fb
              · by_cases hE : E = 0
                · have h1 : ((E : Int) != 0) = false := by rw [hE]; rfl
                  go_wp2_with (fail)
                  go_round
                  case rel => exact ⟨s + 1, by omega, by omega, by rw [HNX.out, ← Bool.or_assoc, ← EFB.out, hE]; rfl, by go_num, HB.out⟩
                  case measure => simp [intOf]; omega
                · have h1 : ((E : Int) != 0) = true := by rw [bne_iff_ne]; omega
                  have hE' : (E != 0) = true := by simpa using hE
                  cases hXE : (X != E)
                  · have h2 : ((X : Int) != (E : Int)) = false := by rw [bne_eq_false_iff_eq] at *; rw [hXE]
                    go_wp2_with (fail)
                    go_round
                    case rel => exact ⟨s + 1, by omega, by omega, by rw [HNX.out, ← Bool.or_assoc, ← EFB.out, hXE, Bool.and_false]; rfl, by go_num, HB.out⟩
                    case measure => simp [intOf]; omega
                  · have h2 : ((X : Int) != (E : Int)) = true := by rw [bne_iff_ne] at hXE ⊢; omega
                    go_wp2_with (fail)
                    go_round
                    case rel => exact ⟨s + 1, by omega, by omega, by rw [HNX.out, ← Bool.or_assoc, ← EFB.out, hXE, hE']; rfl, by go_num, HB.out⟩
                    case measure => simp [intOf]; omega
              · go_wp2_with (fail)
                go_round
                case rel => exact ⟨s + 1, by omega, by omega, by rw [HNX.out, ← Bool.or_assoc, ← EFB.out]; rfl, by go_num, HB.out⟩
                case measure => simp [intOf]; omega
            · have hs : s = 16 := by omega
              subst hs
              have HB := Lib.hid hbl
              clear hbl
              go_wp2_with (fail)
              go_round
              case rel => exact ⟨b + 1, by omega, by omega, by rw [hitAll_succ _ _ _ (by omega), ← EFA.out], by go_num, HB.out⟩
              case measure => simp [intOf]; omega
        · have hb : b = 16 := by omega
          subst hb
          rw [HF.out]
          have hc1 := cell_below hbl HC1.out
          have HB := Lib.hid (HB0.out.trans (hbl.mono HB0.out.size))
          clear hbl
          go_wp2_with (fail)
          rw [rounds_succ]
          go_wp2_with (fail)
          go_ret
          exact ⟨rfl, HB.out⟩
end Go.Proofs.Ytgnmelmmcpmhoaa
