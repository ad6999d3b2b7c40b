/-
  Walks: the law TopRevisionInside, over whatever memory.
-/
import Derived.Test.YtgnmelmmcpmhoaaProg
import Derived.Test.YtgnmelmmcpmhoaaBase
import Derived.Test.YtgnmelmmcpmhoaaUpdA
import Derived.Test.YtgnmelmmcpmhoaaUpdB
import Derived.Test.YtgnmelmmcpmhoaaUpdC
import Derived.Test.YtgnmelmmcpmhoaaUpdD
import Derived.Test.YtgnmelmmcpmhoaaUpdE
import Derived.Test.YtgnmelmmcpmhoaaUpdF
import Derived.Test.YtgnmelmmcpmhoaaLawA
import Derived.Test.YtgnmelmmcpmhoaaLawB
import Derived.Test.YtgnmelmmcpmhoaaLawE
import Derived.Test.YtgnmelmmcpmhoaaPlain
import Derived.Test.YtgnmelmmcpmhoaaRevA
import Derived.Test.YtgnmelmmcpmhoaaRevC
import Derived.Test.YtgnmelmmcpmhoaaTopA
import Derived.Test.YtgnmelmmcpmhoaaTopP
import Derived.Test.YtgnmelmmcpmhoaaTopB
import Derived.Test.YtgnmelmmcpmhoaaTopD
namespace Go.Proofs.Ytgnmelmmcpmhoaa
open Go.RowKit

theorem clos_dal {k N s b : Nat} (hk : k ≤ 3) (hN : N = 2 ^ k) (hb : b < 2 ^ N) (hs : s < 2 ^ N) : closV k N s b = dalS N b s := by
  unfold closV
  by_cases h0 : b = 0
  · rw [if_pos h0, h0, dal_empty hs]
  · rw [if_neg h0, dal_closest hk hN hb h0]
theorem inside_end {k N b s : Nat} (hk : k ≤ 3) (hN : N = 2 ^ k) (hb : b < 2 ^ N) (h0 : b ≠ 0) (hs : s < 2 ^ N) (h : ∀ v, v < N → b.testBit v = true → betV k N (2 ^ v) s = betV k N b s) : updS N (famF N cntB) b s = dalS N b s := by
  by_cases hs0 : s = 0
  · rw [hs0, upd_no, dal_none]
  · refine upd_is_dal hk hN hb h0 hs hs0 fun v hv hbv => ?_
    have h1 := h v hv hbv
    unfold betV at h1
    rw [if_neg (fun h => h.elim (by have := Nat.two_pow_pos v; omega) hs0), if_neg (fun h => h.elim h0 hs0)] at h1
    omega
theorem bet_val (a b kk N : Nat) (z : Int) (w : World) (hk : kk ≤ 3) (hN : N = 2 ^ kk) (ha : a < 2 ^ N) (hb : b < 2 ^ N) (hz : z = betV kk N a b) :
    Calls Try.prog 37 #[.int .u64 a, .int .u64 b, .int .i64 kk] w fun e w' => e = .returned (.int .i64 z) ∧ w = w' := by
  rw [hz]; exact between_any a b kk N w hk hN ha hb
theorem clos_val (s b kk N Y : Nat) (w : World) (hk : kk ≤ 3) (hN : N = 2 ^ kk) (hs : s < 2 ^ N) (hb : b < 2 ^ N) (hY : Y = dalS N b s) :
    Calls Try.prog 36 #[.int .u64 s, .int .u64 b, .int .i64 kk] w fun e w' => e = .returned (.tuple #[.int .u64 Y, .int .i64 0]) ∧ w = w' := by
  rw [hY, ← clos_dal hk hN hb hs]; exact closest_any s b kk N w hk hN hs hb

set_option maxHeartbeats 4000000 in
set_option maxRecDepth 100000 in
theorem inside_core (x b s : Nat) (w : World) (hx : x < 256) (hb : b < 18446744073709551616) (hs : s < 18446744073709551616) :
    Calls Try.prog 13 #[.int .u8 x, .int .u64 b, .int .u64 s] w fun e w' => e = .returned (.bool true) ∧ Below w.heap.size w w' := by
  have HB := Lib.hid (Below.refl w.heap.size w)
  obtain ⟨kk, ekk⟩ : ∃ kk, kk = x % 4 := ⟨_, rfl⟩
  have hk3 : kk ≤ 3 := by omega
  have hmx : (x : Int) % 4 = (kk : Int) := by rw [ekk]; rfl
  obtain ⟨n, hn⟩ : ∃ n, n = 2 ^ kk := ⟨_, rfl⟩
  have hn8 := pow_le8 hn hk3
  have hw := wrap_pow hn (by omega)
  have hall := all_val kk (by omega)
  obtain ⟨bb, ebb⟩ : ∃ bb, bb = b &&& (2 ^ 2 ^ kk - 1) := ⟨_, rfl⟩
  obtain ⟨ss, ess⟩ : ∃ ss, ss = s &&& (2 ^ 2 ^ kk - 1) := ⟨_, rfl⟩
  obtain ⟨hmb, hbl⟩ := and_mask (by omega) hb ebb
  obtain ⟨hms, hsl⟩ := and_mask (by omega) hs ess
  rw [← hn] at hbl hsl
  have h64 := pow_lt64 (k := n) (by omega)
  have hb64 : bb < 18446744073709551616 := by omega
  obtain ⟨c1, c2, c3⟩ := fam_check hk3 hn
  obtain ⟨M, eM⟩ : ∃ M, M = 2 ^ 2 ^ kk - 1 := ⟨_, rfl⟩
  rw [← eM] at hall hmb hms
  obtain ⟨X, eX⟩ : ∃ X, X = updS n (famF n cntB) bb ss := ⟨_, rfl⟩
  obtain ⟨Y, eY⟩ : ∃ Y, Y = dalS n bb ss := ⟨_, rfl⟩
  have hYl : Y < 2 ^ n := by rw [eY]; exact dalS_lt _ _ _
  have hXl : X < 2 ^ n := by rw [eX]; exact updS_lt _ _ _ _
  have hno : bb = 0 → X = 0 ∧ Y = ss := fun h => ⟨by rw [eX, h]; exact upd_none _ _, by rw [eY, h]; exact dal_empty hsl⟩
  have hyx : bb ≠ 0 → bits .andNot .u64 (Y : Int) (X : Int) = 0 := fun h => by
    rw [bits_andNot _ _ (by omega) (by omega), (andNot_eq_zero (by omega) (by omega)).2 fun i hi => ?_]
    · rfl
    · rw [eX]; rw [eY] at hi; exact dal_inside hbl h hi
  have hend : bb ≠ 0 → (∀ v, v < n → bb.testBit v = true → betV kk n (2 ^ v) ss = betV kk n bb ss) → X = Y := fun h h' => by
    rw [eX, eY]; exact inside_end hk3 hn hbl h hsl h'
  have HX := Lib.hid eX
  have HY := Lib.hid eY
  have HNO := Lib.hid hno
  have HYX := Lib.hid hyx
  have HE := Lib.hid hend
  have HN := Lib.hid hn
  have HK := Lib.hid hk3
  have LS := Lib.hid hsl
  have LB := Lib.hid hbl
  have C2 := Lib.hid c2
  clear eX eY hno hyx hend hn hsl hbl c1 c2 c3 ekk ebb ess h64 eM hYl hXl
  go_enter Try.func13, Try.ntmps13
  go_wp2_with fail
  refine (bMoves_any _).mono ?_
  rintro e w0 ⟨rfl, hst⟩
  have HB := Lib.hid (HB.out.trans (hst.mono HB.out.size))
  clear hst
  go_wp2_with fail
  refine (Forbus_any kk _).mono ?_
  intro e v11 h1
  obtain ⟨A11, k11, R, cc, rfl, hm, hf, hb⟩ := famPost0_of' HK.out HN.out h1
  clear h1 hf
  go_upto_region 7 with (fail)
  have hst := hb.trans ((below_alloc v11 (.cells #[.int .i64 kk, .slice A11 n k11] 24)).mono hb.size)
  have HG11 := Lib.hid (Fam.new (k := kk) (c := k11) 24 hm)
  have HB := Lib.hid (HB.out.trans (hst.mono HB.out.size))
  clear hm hb
  generalize v11.alloc _ = W at HB hst HG11 ⊢
  generalize v11.heap.size = b11 at HG11 ⊢
  have d0 := HG11.out.c0
  have d1 := HG11.out.c1
  obtain ⟨R, cc, hm⟩ := HG11.out.mat
  have HM := Lib.hid hm
  clear hm
  go_wp2_with fail
  refine (upds_val kk bb ss X _ _ _ _ _ _ _ _ HM.out HX.out C2.out LB.out LS.out).mono ?_
  rintro e V ⟨rfl, hst⟩
  clear HM d0 d1
  have HB := Lib.hid (HB.out.trans (hst.mono HB.out.size))
  clear hst
  go_wp2_with fail
  refine (dal_val kk n bb ss Y _ (by omega) HN.out LB.out LS.out HY.out).mono ?_
  rintro e w' ⟨rfl, hst⟩
  have HB := Lib.hid (HB.out.trans (hst.mono HB.out.size))
  clear hst
  by_cases hb0 : bb = 0
  · obtain ⟨hx0, hys⟩ := HNO.out hb0
    have h1 : ((bb : Int) == 0) = true := by rw [hb0]; rfl
    have h2 : ((X : Int) == 0) = true := by rw [hx0]; rfl
    have h3 : ((Y : Int) == (ss : Int)) = true := by rw [hys]; simp
    clear hb0 hx0 hys
    go_wp2_with (go_at_call 36; refine (clos_val ss bb kk n Y _ HK.out HN.out LS.out LB.out HY.out).mono ?_; rintro e w' ⟨rfl, rfl⟩)
    go_ret
    exact ⟨rfl, HB.out⟩
  · have h1 : ((bb : Int) == 0) = false := by rw [beq_eq_false_iff_ne]; omega
    have hyx := HYX.out hb0
    have HE := Lib.hid (HE.out hb0)
    obtain ⟨L, eL⟩ : ∃ L, L = betV kk n bb ss := ⟨_, rfl⟩
    have HL := Lib.hid eL
    clear hb0 eL
    go_wp2_with (first | (go_at_call 36; refine (clos_val ss bb kk n Y _ HK.out HN.out LS.out LB.out HY.out).mono ?_; rintro e w' ⟨rfl, rfl⟩) | (go_at_call 37; refine (bet_val bb ss kk n L _ HK.out HN.out LB.out LS.out HL.out).mono ?_; rintro e w' ⟨rfl, rfl⟩))
    go_loop [100] (fun i => ∃ v : Nat, v ≤ n ∧ i = .int .i64 v ∧ Hid (∀ v', v' < v → bb.testBit v' = true → betV kk n (2 ^ v') ss = betV kk n bb ss)) (fun i => n - (intOf i).toNat)
    case atStart => exact ⟨0, Nat.zero_le _, rfl, Lib.hid fun v' h => absurd h (Nat.not_lt_zero _)⟩
    case round =>
      obtain ⟨v, hv, rfl, HI⟩ := hrel
      by_cases hlt : v < n
      · have hbit := bits_has' bb v hb64 (by omega)
        obtain ⟨P, eP⟩ : ∃ P, P = 2 ^ v := ⟨_, rfl⟩
        have hsh := shl_one eP (by omega)
        have hP : P < 2 ^ n := by rw [eP]; exact Nat.pow_lt_pow_right (by decide) hlt
        have LP := Lib.hid hP
        have HP := Lib.hid eP
        clear hP eP
        cases hbu : bb.testBit v
        · rw [hbu] at hbit
          have hI := HI.out
          have HI2 : Hid (∀ v', v' < v + 1 → bb.testBit v' = true → betV kk n (2 ^ v') ss = betV kk n bb ss) := Lib.hid fun v' h1 h2 => by
            rcases Nat.lt_succ_iff_lt_or_eq.1 h1 with h3 | rfl
            · exact hI v' h3 h2
            · rw [hbu] at h2; cases h2
          clear hI
          go_wp2_with fail
          go_round
          case rel => exact ⟨v + 1, by omega, by go_num, HI2⟩
          case measure => simp [intOf]; omega
        · rw [hbu] at hbit
          obtain ⟨z, ez⟩ : ∃ z, z = betV kk n P ss := ⟨_, rfl⟩
          have HZ := Lib.hid ez
          by_cases hz : z = L
          · have h5 : (z != L) = false := by rw [hz]; simp
            have hI := HI.out
            have HI2 : Hid (∀ v', v' < v + 1 → bb.testBit v' = true → betV kk n (2 ^ v') ss = betV kk n bb ss) := Lib.hid fun v' h1 h2 => by
              rcases Nat.lt_succ_iff_lt_or_eq.1 h1 with h3 | rfl
              · exact hI v' h3 h2
              · rw [← HP.out, ← ez, hz, HL.out]
            clear hI ez hz
            go_wp2_with (go_at_call 37; refine (bet_val P ss kk n z _ HK.out HN.out LP.out LS.out HZ.out).mono ?_; rintro e w' ⟨rfl, rfl⟩)
            go_round
            case rel => exact ⟨v + 1, by omega, by go_num, HI2⟩
            case measure => simp [intOf]; omega
          · have h5 : (z != L) = true := by rw [bne_iff_ne]; exact hz
            clear ez hz
            go_wp2_with (go_at_call 37; refine (bet_val P ss kk n z _ HK.out HN.out LP.out LS.out HZ.out).mono ?_; rintro e w' ⟨rfl, rfl⟩)
            go_ret
            exact ⟨rfl, HB.out⟩
      · obtain rfl : v = n := by omega
        have hfin : ((X : Int) == (Y : Int)) = true := by rw [HE.out HI.out]; simp
        go_wp2_with fail
        go_ret
        exact ⟨rfl, HB.out⟩
end Go.Proofs.Ytgnmelmmcpmhoaa
