/-
  Walks: the reference of layer 41: minimal, Minimal, Update, Erase, Total.
-/
import Derived.Test.YtgnmelmmcpmhoaaProg
import Derived.Test.YtgnmelmmcpmhoaaBase
import Derived.Test.YtgnmelmmcpmhoaaUpdA
import Derived.Test.YtgnmelmmcpmhoaaUpdB
import Derived.Test.YtgnmelmmcpmhoaaUpdC
import Derived.Test.YtgnmelmmcpmhoaaUpdD
import Derived.Test.YtgnmelmmcpmhoaaRefA
import Derived.Test.YtgnmelmmcpmhoaaRefB
namespace Go.Proofs.Ytgnmelmmcpmhoaa
open Go.RowKit

set_option maxHeartbeats 2000000 in
theorem refMinimal_in (kk N c v s : Nat) (A : Option Addr) (R : Nat → Option Addr) (m cc : Nat → Nat) (F : Nat → Nat → Nat) (w : World) (hM : Mat w A N R m cc F) (hk : kk ≤ 3) (hN : N = 2 ^ kk) (hv : v < N) (hmv : m v = N) (hs : s < 18446744073709551616) :
    Calls Try.prog 52 #[.agg #[.int .i64 kk, .slice A N c], .int .i64 v, .int .u64 s] w fun e w' => e = .returned (.int .u64 (minS N (F v) s : Nat)) ∧ Below w.heap.size w w' := by
  have hw := wrap_pow hN (by omega)
  have hN8 := pow_le8 hN hk
  have HM := Lib.hid hM
  have HV := Lib.hid hmv
  have hle : N ≤ m v := by omega
  clear hN hM hmv
  go_enter Try.func52, Try.ntmps52
  go_wp2_with fail
  obtain ⟨d0, d1⟩ := cells_box2 w (.int .i64 kk) (.slice A N c) 24
  have hB := below_alloc w (.cells #[.int .i64 kk, .slice A N c] 24)
  generalize w.alloc (.cells #[.int .i64 kk, .slice A N c] 24) = W at d0 d1 hB ⊢
  have HM0 := Lib.hid (HM.out.below hB)
  have HB0 := Lib.hid hB
  have D0 := Lib.hid d0
  have D1 := Lib.hid d1
  clear hB HM
  go_loopw [7, 8] (fun o i wr => ∃ u : Nat, u ≤ N ∧ i = .int .i64 u ∧ o = .int .u64 (mkSet u (minB N (F v) s) : Nat) ∧ Below W.heap.size W wr) (fun _ i _ => N - (intOf i).toNat)
  case atStart => exact ⟨0, Nat.zero_le _, rfl, rfl, Below.refl _ _⟩
  case round =>
    obtain ⟨u, hu, rfl, rfl, hbl⟩ := hrel
    have HM := Lib.hid (HM0.out.below hbl)
    have d0 := cell_below hbl D0.out
    have d1 := cell_below hbl D1.out
    have HB := Lib.hid hbl
    clear hbl
    by_cases hlt : u < N
    · go_wp2_with (go_at_call 53; refine (refHas_any _ _ _ (by assumption)).mono ?_; rintro e w' ⟨rfl, rfl⟩)
      clear d0 d1 HM
      go_loopw [9, 10] (fun o i wr => ∃ x : Nat, x ≤ N ∧ i = .int .i64 x ∧ o = .bool (bestAt (F v) s u x) ∧ Below W.heap.size W wr) (fun _ i _ => N - (intOf i).toNat)
      case atStart => exact ⟨0, Nat.zero_le _, rfl, by rw [bestAt_zero], HB.out⟩
      case round =>
        clear HB
        obtain ⟨x, hx, rfl, rfl, hbl⟩ := hrel
        have HM := Lib.hid (HM0.out.below hbl)
        have d0 := cell_below hbl D0.out
        have d1 := cell_below hbl D1.out
        have HB := Lib.hid hbl
        clear hbl
        by_cases hxlt : x < N
        · have HBS := Lib.hid (bestAt_succ (F v) s u x)
          have HNB := Lib.hid (show notBefore (F v) s u x = !(s.testBit x && strB (F v) x u) from rfl)
          cases h1 : s.testBit x
          · go_wp2_with (first | (go_at_call 53; refine (refHas_any _ _ _ (by assumption)).mono ?_; rintro e w' ⟨rfl, rfl⟩) | (go_at_call 48; refine (refStrictly_any _ _ _ _ _ _ _ _ _ _ _ _ HM.out (by omega) (by omega) (by omega)).mono ?_; rintro e w' ⟨rfl, hb1⟩; have d0 := cell_below hb1 d0; have d1 := cell_below hb1 d1; have HM := Lib.hid (HM.out.below hb1); have HB := Lib.hid (HB.out.trans (hb1.mono HB.out.size)); clear hb1))
            go_round
            case rel => exact ⟨x + 1, by omega, by go_num, by rw [HBS.out, HNB.out, h1, Bool.false_and, Bool.not_false, Bool.and_true], HB.out⟩
            case measure => simp [intOf]; omega
          · cases h2 : strB (F v) x u
            · go_wp2_with (first | (go_at_call 53; refine (refHas_any _ _ _ (by assumption)).mono ?_; rintro e w' ⟨rfl, rfl⟩) | (go_at_call 48; refine (refStrictly_any _ _ _ _ _ _ _ _ _ _ _ _ HM.out (by omega) (by omega) (by omega)).mono ?_; rintro e w' ⟨rfl, hb1⟩; have d0 := cell_below hb1 d0; have d1 := cell_below hb1 d1; have HM := Lib.hid (HM.out.below hb1); have HB := Lib.hid (HB.out.trans (hb1.mono HB.out.size)); clear hb1))
              go_round
              case rel => exact ⟨x + 1, by omega, by go_num, by rw [HBS.out, HNB.out, h1, h2, Bool.and_false, Bool.not_false, Bool.and_true], HB.out⟩
              case measure => simp [intOf]; omega
            · go_wp2_with (first | (go_at_call 53; refine (refHas_any _ _ _ (by assumption)).mono ?_; rintro e w' ⟨rfl, rfl⟩) | (go_at_call 48; refine (refStrictly_any _ _ _ _ _ _ _ _ _ _ _ _ HM.out (by omega) (by omega) (by omega)).mono ?_; rintro e w' ⟨rfl, hb1⟩; have d0 := cell_below hb1 d0; have d1 := cell_below hb1 d1; have HM := Lib.hid (HM.out.below hb1); have HB := Lib.hid (HB.out.trans (hb1.mono HB.out.size)); clear hb1))
              go_round
              case rel => exact ⟨x + 1, by omega, by go_num, by rw [HBS.out, HNB.out, h1, h2, Bool.true_and, Bool.not_true, Bool.and_false], HB.out⟩
              case measure => simp [intOf]; omega
        · obtain rfl : x = N := by omega
          obtain ⟨P, hP⟩ : ∃ P, P = 2 ^ u := ⟨_, rfl⟩
          have hsh := shl_one hP (by omega)
          have HP := Lib.hid hP
          clear hP
          cases hb : bestAt (F v) s u x
          · go_wp2
            go_round
            case rel => exact ⟨u + 1, by omega, by go_num, by rw [mkSet_succ_no (p := minB x (F v) s) hb], HB.out⟩
            case measure => simp [intOf]; omega
          · have hor := or_mkSet (p := minB x (F v) s) HP.out (by omega) hb
            go_wp2
            go_round
            case rel => exact ⟨u + 1, by omega, by go_num, rfl, HB.out⟩
            case measure => simp [intOf]; omega
    · obtain rfl : u = N := by omega
      go_wp2
      go_ret
      exact ⟨rfl, HB0.out.trans (HB.out.mono HB0.out.size)⟩

/-! ### Minimal -/
theorem mask_out {kk n s : Nat} (hk : kk ≤ 3) (hn : n = 2 ^ kk) (hs : s < 18446744073709551616) : (bits .andNot .u64 (s : Int) ((2 ^ 2 ^ kk - 1 : Nat) : Int) != 0) = !decide (s < 2 ^ n) := by
  have h64 : 2 ^ kk ≤ 64 := Nat.le_trans (pow_le8 rfl hk) (by decide)
  rw [bits_andNot _ _ hs (mask_lt (k := kk) (by omega)), hn, Bool.eq_iff_iff, bne_iff_ne, Bool.not_eq_true', decide_eq_false_iff_not, ← andNot_mask hs h64]
  omega

set_option maxHeartbeats 2000000 in
theorem refMinimal_any (k v : Int) (s : Nat) (A : Option Addr) (n c : Nat) (R : Nat → Option Addr) (m cc : Nat → Nat) (F : Nat → Nat → Nat) (w : World) (hM : Mat w A n R m cc F) (hs : s < 18446744073709551616) :
    Calls Try.prog 26 #[.agg #[.int .i64 k, .slice A n c], .int .i64 v, .int .u64 s] w fun e w' =>
      e = .returned (.tuple #[.int .u64 (minimalV k n m F v s : Nat), .int .i64 (minimalE k n m F v s : Nat)]) ∧ Below w.heap.size w w' := by
  have HM := Lib.hid hM
  clear hM
  by_cases hchk : checkZ k n m F = 0
  · obtain ⟨kk, rfl, hk3, hnk, hmv, -, -⟩ := checkZ_ok hchk
    have HMV := Lib.hid hmv
    have hn8 := pow_le8 hnk hk3
    have hw := wrap_pow hnk (by omega)
    have hz : ((checkZ kk n m F : Int) != 0) = false := int_ne0f.2 hchk
    have hmask := mask_out hk3 hnk hs
    have HN := Lib.hid hnk
    clear hnk hmv
    by_cases hv : 0 ≤ v ∧ v < n
    · obtain ⟨z, rfl⟩ := Int.eq_ofNat_of_zero_le hv.1
      have hzn : z < n := by omega
      have hv1 : decide ((z : Int) < 0) = false := by simp
      have hv2 : decide ((n : Int) ≤ (z : Int)) = false := by simp; omega
      by_cases hsn : s < 2 ^ n
      · rw [decide_eq_true hsn] at hmask
        have hmask' : (bits .andNot .u64 (s : Int) ((2 ^ 2 ^ kk - 1 : Nat) : Int) != 0) = false := hmask
        have HV := Lib.hid (show minimalV kk n m F z s = minS n (F z) s ∧ minimalE kk n m F z s = 0 from ⟨by unfold minimalV; rw [if_pos ⟨hchk, ⟨by omega, by omega⟩, hsn⟩]; rfl, by unfold minimalE; rw [if_pos hchk, if_pos ⟨⟨by omega, by omega⟩, hsn⟩]⟩)
        clear hchk hv hsn hmask
        go_enter Try.func26, Try.ntmps26
        go_wp2_with fail
        obtain ⟨d0, d1⟩ := cells_box2 w (.int .i64 kk) (.slice A n c) 24
        have hB := below_alloc w (.cells #[.int .i64 kk, .slice A n c] 24)
        generalize w.alloc (.cells #[.int .i64 kk, .slice A n c] 24) = W at d0 d1 hB ⊢
        have HM := Lib.hid (HM.out.below hB)
        have HB := Lib.hid hB
        clear hB
        go_wp2_with (first | (go_at_call 21; refine (refCheck_any _ _ _ _ _ _ _ _ _ HM.out).mono ?_; rintro e w' ⟨rfl, hb1⟩; have d0 := cell_below hb1 d0; have d1 := cell_below hb1 d1; have HM := Lib.hid (HM.out.below hb1); have HB := Lib.hid (HB.out.trans (hb1.mono HB.out.size)); clear hb1) | (go_at_call 46; refine (refAll_any _ _ (by omega)).mono ?_; rintro e w' ⟨rfl, rfl⟩) | (go_at_call 52; refine (refMinimal_in kk n c z s _ _ _ _ _ _ HM.out (by omega) HN.out hzn (HMV.out z hzn) (by assumption)).mono ?_; rintro e w' ⟨rfl, hb1⟩; have d0 := cell_below hb1 d0; have d1 := cell_below hb1 d1; have HM := Lib.hid (HM.out.below hb1); have HB := Lib.hid (HB.out.trans (hb1.mono HB.out.size)); clear hb1))
        go_ret2
        exact ⟨by rw [HV.out.1, HV.out.2]; rfl, HB.out⟩
      · rw [decide_eq_false hsn] at hmask
        have hmask' : (bits .andNot .u64 (s : Int) ((2 ^ 2 ^ kk - 1 : Nat) : Int) != 0) = true := hmask
        have HV := Lib.hid (show minimalV kk n m F z s = 0 ∧ minimalE kk n m F z s = 2 from ⟨by unfold minimalV; rw [if_neg fun h => hsn h.2.2], by unfold minimalE; rw [if_pos hchk, if_neg fun h => hsn h.2]⟩)
        clear hchk hv hsn hmask
        go_enter Try.func26, Try.ntmps26
        go_wp2_with fail
        obtain ⟨d0, d1⟩ := cells_box2 w (.int .i64 kk) (.slice A n c) 24
        have hB := below_alloc w (.cells #[.int .i64 kk, .slice A n c] 24)
        generalize w.alloc (.cells #[.int .i64 kk, .slice A n c] 24) = W at d0 d1 hB ⊢
        have HM := Lib.hid (HM.out.below hB)
        have HB := Lib.hid hB
        clear hB
        go_wp2_with (first | (go_at_call 21; refine (refCheck_any _ _ _ _ _ _ _ _ _ HM.out).mono ?_; rintro e w' ⟨rfl, hb1⟩; have d0 := cell_below hb1 d0; have d1 := cell_below hb1 d1; have HM := Lib.hid (HM.out.below hb1); have HB := Lib.hid (HB.out.trans (hb1.mono HB.out.size)); clear hb1) | (go_at_call 46; refine (refAll_any _ _ (by omega)).mono ?_; rintro e w' ⟨rfl, rfl⟩))
        go_ret2
        exact ⟨by rw [HV.out.1, HV.out.2]; rfl, HB.out⟩
    · have HV := Lib.hid (show minimalV kk n m F v s = 0 ∧ minimalE kk n m F v s = 2 from ⟨by unfold minimalV; rw [if_neg fun h => hv h.2.1], by unfold minimalE; rw [if_pos hchk, if_neg fun h => hv h.1]⟩)
      by_cases h0 : v < 0
      · have hv1 : decide (v < 0) = true := by simpa using h0
        clear hchk hv hmask
        go_enter Try.func26, Try.ntmps26
        go_wp2_with fail
        obtain ⟨d0, d1⟩ := cells_box2 w (.int .i64 kk) (.slice A n c) 24
        have hB := below_alloc w (.cells #[.int .i64 kk, .slice A n c] 24)
        generalize w.alloc (.cells #[.int .i64 kk, .slice A n c] 24) = W at d0 d1 hB ⊢
        have HM := Lib.hid (HM.out.below hB)
        have HB := Lib.hid hB
        clear hB
        go_wp2_with (first | (go_at_call 21; refine (refCheck_any _ _ _ _ _ _ _ _ _ HM.out).mono ?_; rintro e w' ⟨rfl, hb1⟩; have d0 := cell_below hb1 d0; have d1 := cell_below hb1 d1; have HM := Lib.hid (HM.out.below hb1); have HB := Lib.hid (HB.out.trans (hb1.mono HB.out.size)); clear hb1) | (go_at_call 46; refine (refAll_any _ _ (by omega)).mono ?_; rintro e w' ⟨rfl, rfl⟩))
        go_ret2
        exact ⟨by rw [HV.out.1, HV.out.2]; rfl, HB.out⟩
      · have h0 : decide (v < 0) = false := by simpa using h0
        have hv1 : decide ((n : Int) ≤ v) = true := by simp at h0 ⊢; omega
        clear hchk hv hmask
        go_enter Try.func26, Try.ntmps26
        go_wp2_with fail
        obtain ⟨d0, d1⟩ := cells_box2 w (.int .i64 kk) (.slice A n c) 24
        have hB := below_alloc w (.cells #[.int .i64 kk, .slice A n c] 24)
        generalize w.alloc (.cells #[.int .i64 kk, .slice A n c] 24) = W at d0 d1 hB ⊢
        have HM := Lib.hid (HM.out.below hB)
        have HB := Lib.hid hB
        clear hB
        go_wp2_with (first | (go_at_call 21; refine (refCheck_any _ _ _ _ _ _ _ _ _ HM.out).mono ?_; rintro e w' ⟨rfl, hb1⟩; have d0 := cell_below hb1 d0; have d1 := cell_below hb1 d1; have HM := Lib.hid (HM.out.below hb1); have HB := Lib.hid (HB.out.trans (hb1.mono HB.out.size)); clear hb1) | (go_at_call 46; refine (refAll_any _ _ (by omega)).mono ?_; rintro e w' ⟨rfl, rfl⟩))
        go_ret2
        exact ⟨by rw [HV.out.1, HV.out.2]; rfl, HB.out⟩
  · have hb : ((checkZ k n m F : Int) != 0) = true := int_ne0.2 hchk
    have HV := Lib.hid (show minimalV k n m F v s = 0 ∧ minimalE k n m F v s = checkZ k n m F from ⟨by unfold minimalV; rw [if_neg fun h => hchk h.1], by unfold minimalE; rw [if_neg hchk]⟩)
    clear hchk
    go_enter Try.func26, Try.ntmps26
    go_wp2_with fail
    obtain ⟨d0, d1⟩ := cells_box2 w (.int .i64 k) (.slice A n c) 24
    have hB := below_alloc w (.cells #[.int .i64 k, .slice A n c] 24)
    generalize w.alloc (.cells #[.int .i64 k, .slice A n c] 24) = W at d0 d1 hB ⊢
    have HM := Lib.hid (HM.out.below hB)
    have HB := Lib.hid hB
    clear hB
    go_wp2_with (first | (go_at_call 21; refine (refCheck_any _ _ _ _ _ _ _ _ _ HM.out).mono ?_; rintro e w' ⟨rfl, hb1⟩; have d0 := cell_below hb1 d0; have d1 := cell_below hb1 d1; have HM := Lib.hid (HM.out.below hb1); have HB := Lib.hid (HB.out.trans (hb1.mono HB.out.size)); clear hb1) | (go_at_call 46; refine (refAll_any _ _ (by omega)).mono ?_; rintro e w' ⟨rfl, rfl⟩))
    go_ret2
    exact ⟨by rw [HV.out.1, HV.out.2]; rfl, HB.out⟩

/-! ### Update -/
theorem mask_out2 {kk n b s : Nat} (hk : kk ≤ 3) (hn : n = 2 ^ kk) (hb : b < 18446744073709551616) (hs : s < 18446744073709551616) : (bits .andNot .u64 (bits .or .u64 (b : Int) (s : Int)) ((2 ^ 2 ^ kk - 1 : Nat) : Int) != 0) = !decide (b < 2 ^ n ∧ s < 2 ^ n) := by
  rw [u64_or_nat _ _ hb hs, mask_out hk hn (or_lt64 hb hs)]
  congr 1
  rw [decide_eq_decide]
  constructor
  · intro h
    exact ⟨Nat.lt_of_le_of_lt Nat.left_le_or h, Nat.lt_of_le_of_lt Nat.right_le_or h⟩
  · intro h; exact Nat.or_lt_two_pow h.1 h.2

set_option maxHeartbeats 2000000 in
theorem refUpdate_any (k : Int) (b s : Nat) (A : Option Addr) (n c : Nat) (R : Nat → Option Addr) (m cc : Nat → Nat) (F : Nat → Nat → Nat) (w : World) (hM : Mat w A n R m cc F) (hb : b < 18446744073709551616) (hs : s < 18446744073709551616) :
    Calls Try.prog 28 #[.agg #[.int .i64 k, .slice A n c], .int .u64 b, .int .u64 s] w fun e w' =>
      e = .returned (.tuple #[.int .u64 (updV k n m F b s : Nat), .int .i64 (updE k n m F b s : Nat)]) ∧ Below w.heap.size w w' := by
  have HM := Lib.hid hM
  clear hM
  by_cases hchk : checkZ k n m F = 0
  · obtain ⟨kk, rfl, hk3, hnk, hmv, -, -⟩ := checkZ_ok hchk
    have HMV := Lib.hid hmv
    have hn8 := pow_le8 hnk hk3
    have hw := wrap_pow hnk (by omega)
    have hz : ((checkZ kk n m F : Int) != 0) = false := int_ne0f.2 hchk
    have hmask := mask_out2 hk3 hnk hb hs
    have HN := Lib.hid hnk
    clear hnk hmv
    by_cases hbs : b < 2 ^ n ∧ s < 2 ^ n
    · rw [decide_eq_true hbs] at hmask
      have hmask' : (bits .andNot .u64 (bits .or .u64 (b : Int) (s : Int)) ((2 ^ 2 ^ kk - 1 : Nat) : Int) != 0) = false := hmask
      have HV := Lib.hid (show updV kk n m F b s = updS n F b s ∧ updE kk n m F b s = 0 from ⟨by unfold updV; rw [if_pos ⟨hchk, hbs⟩], by unfold updE; rw [if_pos hchk, if_pos hbs]⟩)
      clear hchk hbs hmask
      go_enter Try.func28, Try.ntmps28
      go_wp2_with fail
      obtain ⟨d0, d1⟩ := cells_box2 w (.int .i64 kk) (.slice A n c) 24
      have hB := below_alloc w (.cells #[.int .i64 kk, .slice A n c] 24)
      generalize w.alloc (.cells #[.int .i64 kk, .slice A n c] 24) = W at d0 d1 hB ⊢
      have HM := Lib.hid (HM.out.below hB)
      have HB := Lib.hid hB
      clear hB
      go_wp2_with fail
      refine (refCheck_any _ _ _ _ _ _ _ _ _ HM.out).mono ?_
      rintro e w' ⟨rfl, hb1⟩
      have d0 := cell_below hb1 d0
      have d1 := cell_below hb1 d1
      have HM := Lib.hid (HM.out.below hb1)
      have HB := Lib.hid (HB.out.trans (hb1.mono HB.out.size))
      clear hb1
      rename World => W1
      go_wp2_with (go_at_call 46; refine (refAll_any _ _ (by omega)).mono ?_; rintro e w' ⟨rfl, rfl⟩)
      have HM0 := Lib.hid HM.out
      have HB0 := Lib.hid HB.out
      have D0 := Lib.hid d0
      have D1 := Lib.hid d1
      clear HM HB d0 d1
      go_loopw [9, 10] (fun o i wr => ∃ u : Nat, u ≤ n ∧ i = .int .i64 u ∧ o = .int .u64 (unionS b (fun v => minS n (F v) s) u : Nat) ∧ Below W1.heap.size W1 wr) (fun _ i _ => n - (intOf i).toNat)
      case atStart => exact ⟨0, Nat.zero_le _, rfl, rfl, Below.refl _ _⟩
      case round =>
        obtain ⟨u, hu, rfl, rfl, hbl⟩ := hrel
        have HM := Lib.hid (HM0.out.below hbl)
        have d0 := cell_below hbl D0.out
        have d1 := cell_below hbl D1.out
        have HB := Lib.hid hbl
        clear hbl
        by_cases hlt : u < n
        · cases hbu : b.testBit u
          · go_wp2_with (first | (go_at_call 53; refine (refHas_any _ _ _ (by assumption)).mono ?_; rintro e w' ⟨rfl, rfl⟩))
            go_round
            case rel => exact ⟨u + 1, by omega, by go_num, by rw [unionS_no hbu], HB.out⟩
            case measure => simp [intOf]; omega
          · have hor := or_union (n := n) (b := b) (g := fun v => minS n (F v) s) (by omega) hlt (fun v _ => mkSet_lt _ _) hbu
            go_wp2_with (first | (go_at_call 53; refine (refHas_any _ _ _ (by assumption)).mono ?_; rintro e w' ⟨rfl, rfl⟩) | (go_at_call 52; refine (refMinimal_in kk n c u s _ _ _ _ _ _ HM.out (by omega) HN.out hlt (HMV.out u hlt) (by assumption)).mono ?_; rintro e w' ⟨rfl, hb1⟩; have d0 := cell_below hb1 d0; have d1 := cell_below hb1 d1; have HM := Lib.hid (HM.out.below hb1); have HB := Lib.hid (HB.out.trans (hb1.mono HB.out.size)); clear hb1))
            go_round
            case rel => exact ⟨u + 1, by omega, by go_num, rfl, HB.out⟩
            case measure => simp [intOf]; omega
        · obtain rfl : u = n := by omega
          go_wp2
          go_ret2
          exact ⟨by rw [HV.out.1, HV.out.2]; rfl, HB0.out.trans (HB.out.mono HB0.out.size)⟩
    · rw [decide_eq_false hbs] at hmask
      have hmask' : (bits .andNot .u64 (bits .or .u64 (b : Int) (s : Int)) ((2 ^ 2 ^ kk - 1 : Nat) : Int) != 0) = true := hmask
      have HV := Lib.hid (show updV kk n m F b s = 0 ∧ updE kk n m F b s = 2 from ⟨by unfold updV; rw [if_neg fun h => hbs h.2], by unfold updE; rw [if_pos hchk, if_neg hbs]⟩)
      clear hchk hbs hmask
      go_enter Try.func28, Try.ntmps28
      go_wp2_with fail
      obtain ⟨d0, d1⟩ := cells_box2 w (.int .i64 kk) (.slice A n c) 24
      have hB := below_alloc w (.cells #[.int .i64 kk, .slice A n c] 24)
      generalize w.alloc (.cells #[.int .i64 kk, .slice A n c] 24) = W at d0 d1 hB ⊢
      have HM := Lib.hid (HM.out.below hB)
      have HB := Lib.hid hB
      clear hB
      go_wp2_with (first | (go_at_call 21; refine (refCheck_any _ _ _ _ _ _ _ _ _ HM.out).mono ?_; rintro e w' ⟨rfl, hb1⟩; have d0 := cell_below hb1 d0; have d1 := cell_below hb1 d1; have HM := Lib.hid (HM.out.below hb1); have HB := Lib.hid (HB.out.trans (hb1.mono HB.out.size)); clear hb1) | (go_at_call 46; refine (refAll_any _ _ (by omega)).mono ?_; rintro e w' ⟨rfl, rfl⟩))
      go_ret2
      exact ⟨by rw [HV.out.1, HV.out.2]; rfl, HB.out⟩
  · have hb : ((checkZ k n m F : Int) != 0) = true := int_ne0.2 hchk
    have HV := Lib.hid (show updV k n m F b s = 0 ∧ updE k n m F b s = checkZ k n m F from ⟨by unfold updV; rw [if_neg fun h => hchk h.1], by unfold updE; rw [if_neg hchk]⟩)
    clear hchk
    go_enter Try.func28, Try.ntmps28
    go_wp2_with fail
    obtain ⟨d0, d1⟩ := cells_box2 w (.int .i64 k) (.slice A n c) 24
    have hB := below_alloc w (.cells #[.int .i64 k, .slice A n c] 24)
    generalize w.alloc (.cells #[.int .i64 k, .slice A n c] 24) = W at d0 d1 hB ⊢
    have HM := Lib.hid (HM.out.below hB)
    have HB := Lib.hid hB
    clear hB
    go_wp2_with (first | (go_at_call 21; refine (refCheck_any _ _ _ _ _ _ _ _ _ HM.out).mono ?_; rintro e w' ⟨rfl, hb1⟩; have d0 := cell_below hb1 d0; have d1 := cell_below hb1 d1; have HM := Lib.hid (HM.out.below hb1); have HB := Lib.hid (HB.out.trans (hb1.mono HB.out.size)); clear hb1) | (go_at_call 46; refine (refAll_any _ _ (by omega)).mono ?_; rintro e w' ⟨rfl, rfl⟩))
    go_ret2
    exact ⟨by rw [HV.out.1, HV.out.2]; rfl, HB.out⟩

/-! ### Erase -/
set_option maxHeartbeats 2000000 in
theorem refErase_any (k : Int) (b s : Nat) (A : Option Addr) (n c : Nat) (R : Nat → Option Addr) (m cc : Nat → Nat) (F : Nat → Nat → Nat) (w : World) (hM : Mat w A n R m cc F) (hb : b < 18446744073709551616) (hs : s < 18446744073709551616) :
    Calls Try.prog 30 #[.agg #[.int .i64 k, .slice A n c], .int .u64 b, .int .u64 s] w fun e w' =>
      e = .returned (.tuple #[.int .u64 (eraV k n m F b s : Nat), .int .i64 (updE k n m F b s : Nat)]) ∧ Below w.heap.size w w' := by
  have HM := Lib.hid hM
  clear hM
  by_cases he : updE k n m F b s = 0
  · have hez : ((updE k n m F b s : Int) != 0) = false := int_ne0f.2 he
    obtain ⟨hchk, hbn, hsn⟩ := updE_ok he
    obtain ⟨kk, rfl, hk3, hnk, -⟩ := checkZ_ok hchk
    have hn8 := pow_le8 hnk hk3
    have hcm : bits .andNot .u64 ((2 ^ 2 ^ kk - 1 : Nat) : Int) (s : Int) = ((complS n s : Nat) : Int) := by
      rw [bits_andNot _ _ (mask_lt (k := kk) (by omega)) hs, hnk]; rfl
    have hcl : complS n s < 18446744073709551616 := Nat.lt_trans complS_lt (pow_lt64 (by omega))
    have HE := Lib.hid (show updV kk n m F b (complS n s) = updS n F b (complS n s) ∧ updE kk n m F b (complS n s) = 0 from
      ⟨by unfold updV; rw [if_pos ⟨hchk, hbn, complS_lt⟩], by unfold updE; rw [if_pos hchk, if_pos ⟨hbn, complS_lt⟩]⟩)
    obtain ⟨Z, HZ⟩ : ∃ Z, Hid (Z = updS n F b (complS n s) ||| b) := ⟨_, rfl⟩
    have hor : bits .or .u64 (b : Int) (updV kk n m F b (complS n s) : Int) = (Z : Int) := by
      rw [HE.out.1, HZ.out, u64_or_nat _ _ hb (Nat.lt_trans (updS_lt _ _ _ _) (pow_lt64 (by omega))), Nat.or_comm]
    have HV := Lib.hid (show eraV kk n m F b s = Z ∧ updE kk n m F b s = 0 from ⟨by unfold eraV; rw [if_pos he, HZ.out], he⟩)
    clear hnk hchk hbn hsn he
    go_enter Try.func30, Try.ntmps30
    go_wp2_with fail
    obtain ⟨d0, d1⟩ := cells_box2 w (.int .i64 kk) (.slice A n c) 24
    have hB := below_alloc w (.cells #[.int .i64 kk, .slice A n c] 24)
    generalize w.alloc (.cells #[.int .i64 kk, .slice A n c] 24) = W at d0 d1 hB ⊢
    have HM := Lib.hid (HM.out.below hB)
    have HB := Lib.hid hB
    clear hB
    refine (refUpdate_any _ _ _ _ _ _ _ _ _ _ _ HM.out hb hs).mono ?_
    rintro e w' ⟨rfl, hb1⟩
    have d0 := cell_below hb1 d0
    have d1 := cell_below hb1 d1
    have HM := Lib.hid (HM.out.below hb1)
    have HB := Lib.hid (HB.out.trans (hb1.mono HB.out.size))
    clear hb1
    go_wp2_with fail
    go_region_held3 (fun x => x.cell? ⟨w.heap.size, 0, none⟩ = some (.int .i64 kk) ∧ x.cell? ⟨w.heap.size, 1, none⟩ = some (.slice A n c)) (first | exact ⟨d0, d1⟩ | (exact ⟨by assumption, by assumption⟩))
      (first | (go_at_call 46; refine (refAll_any _ _ (by omega)).mono ?_; rintro e w' ⟨rfl, rfl⟩) | (go_at_call 28; refine (refUpdate_any _ _ _ _ _ _ _ _ _ _ _ (by exact HM.out) hb hcl).mono ?_; rintro e w' ⟨rfl, hb1⟩; have d0 := cell_below hb1 d0; have d1 := cell_below hb1 d1; have HB := Lib.hid (HB.out.trans (Below.mono ⟨hb1.os, hb1.tape, hb1.output, hb1.size, hb1.block⟩ HB.out.size)); clear hb1))
    go_wp2
    go_ret2
    exact ⟨by rw [HV.out.1, HV.out.2]; rfl, HB.out⟩
  · have hz : ((updE k n m F b s : Int) != 0) = true := int_ne0.2 he
    have HV := Lib.hid (show eraV k n m F b s = 0 by unfold eraV; rw [if_neg he])
    clear he
    go_enter Try.func30, Try.ntmps30
    go_wp2_with fail
    obtain ⟨d0, d1⟩ := cells_box2 w (.int .i64 k) (.slice A n c) 24
    have hB := below_alloc w (.cells #[.int .i64 k, .slice A n c] 24)
    generalize w.alloc (.cells #[.int .i64 k, .slice A n c] 24) = W at d0 d1 hB ⊢
    have HM := Lib.hid (HM.out.below hB)
    have HB := Lib.hid hB
    clear hB
    refine (refUpdate_any _ _ _ _ _ _ _ _ _ _ _ HM.out hb hs).mono ?_
    rintro e w' ⟨rfl, hb1⟩
    have d0 := cell_below hb1 d0
    have d1 := cell_below hb1 d1
    have HM := Lib.hid (HM.out.below hb1)
    have HB := Lib.hid (HB.out.trans (hb1.mono HB.out.size))
    clear hb1
    go_wp2
    go_ret2
    exact ⟨by rw [HV.out]; rfl, HB.out⟩

/-! ### Total -/
set_option maxHeartbeats 2000000 in
theorem refTotal_any (k : Int) (A : Option Addr) (n c : Nat) (R : Nat → Option Addr) (m cc : Nat → Nat) (F : Nat → Nat → Nat) (w : World) (hM : Mat w A n R m cc F) :
    Calls Try.prog 23 #[.agg #[.int .i64 k, .slice A n c]] w fun e w' => e = .returned (.bool (totalB k n m F)) ∧ Below w.heap.size w w' := by
  have HM := Lib.hid hM
  clear hM
  by_cases hchk : checkZ k n m F = 0
  · have hz : ((checkZ k n m F : Int) != 0) = false := int_ne0f.2 hchk
    have HT := Lib.hid (show totalB k n m F = allB n (totMat n F) by unfold totalB; rw [hchk]; rfl)
    obtain ⟨kk, rfl, hk3, hnk, hmv, -, -⟩ := checkZ_ok hchk
    have HMV := Lib.hid hmv
    have hn8 := pow_le8 hnk hk3
    have hw := wrap_pow hnk (by omega)
    clear hnk hmv hchk
    go_enter Try.func23, Try.ntmps23
    go_wp2_with fail
    obtain ⟨d0, d1⟩ := cells_box2 w (.int .i64 kk) (.slice A n c) 24
    have hB := below_alloc w (.cells #[.int .i64 kk, .slice A n c] 24)
    generalize w.alloc (.cells #[.int .i64 kk, .slice A n c] 24) = W at d0 d1 hB ⊢
    have HM := Lib.hid (HM.out.below hB)
    have HB := Lib.hid hB
    clear hB
    refine (refCheck_any _ _ _ _ _ _ _ _ _ HM.out).mono ?_
    rintro e w' ⟨rfl, hb1⟩
    have d0 := cell_below hb1 d0
    have d1 := cell_below hb1 d1
    have HM := Lib.hid (HM.out.below hb1)
    have HB := Lib.hid (HB.out.trans (hb1.mono HB.out.size))
    clear hb1
    rename World => W
    have HM0 := Lib.hid HM.out
    have HB0 := Lib.hid HB.out
    have D0 := Lib.hid d0
    have D1 := Lib.hid d1
    go_wp2
    clear HM HB d0 d1
    go_loopw [4] (fun i wr => ∃ v : Nat, v ≤ n ∧ i = .int .i64 v ∧ Upto (totMat n F) v ∧ Below W.heap.size W wr) (fun i _ => n - (intOf i).toNat)
    case atStart => exact ⟨0, Nat.zero_le _, rfl, upto_zero _, Below.refl _ _⟩
    case round =>
      obtain ⟨v, hv, rfl, hV, hbl⟩ := hrel
      have HB := Lib.hid hbl
      clear hbl
      by_cases hlt : v < n
      · have hmv := HMV.out v hlt
        go_wp2
        go_loopw [5] (fun i wr => ∃ u : Nat, u ≤ n ∧ i = .int .i64 u ∧ Upto (totRow n (F v)) u ∧ Below W.heap.size W wr) (fun i _ => n - (intOf i).toNat)
        case atStart => exact ⟨0, Nat.zero_le _, rfl, upto_zero _, HB.out⟩
        case round =>
          clear HB
          obtain ⟨u, hu, rfl, hU, hbl⟩ := hrel
          have HB := Lib.hid hbl
          clear hbl
          by_cases hult : u < n
          · go_wp2
            go_loopw [6] (fun i wr => ∃ x : Nat, x ≤ n ∧ i = .int .i64 x ∧ Upto (totIn (F v) u) x ∧ Below W.heap.size W wr) (fun i _ => n - (intOf i).toNat)
            case atStart => exact ⟨0, Nat.zero_le _, rfl, upto_zero _, HB.out⟩
            case round =>
              clear HB
              obtain ⟨x, hx, rfl, hX, hbl⟩ := hrel
              have HM := Lib.hid (HM0.out.below hbl)
              have d0 := cell_below hbl D0.out
              have d1 := cell_below hbl D1.out
              have HB := Lib.hid hbl
              clear hbl
              by_cases hxlt : x < n
              · have hle : u < m v := by omega
                have hle2 : x < m v := by omega
                have HI := Lib.hid (show totIn (F v) u x = ((F v u).testBit x || (F v x).testBit u) from rfl)
                cases h1 : (F v u).testBit x
                · cases h2 : (F v x).testBit u
                  · go_wp2_with (first | (go_at_call 50; refine (closer_any _ _ _ _ _ _ _ _ _ _ _ _ HM.out (by omega) (by omega)).mono ?_; rintro e w' ⟨rfl, hb1⟩; have d0 := cell_below hb1 d0; have d1 := cell_below hb1 d1; have HM := Lib.hid (HM.out.below hb1); have HB := Lib.hid (HB.out.trans (hb1.mono HB.out.size)); clear hb1))
                    go_ret
                    exact ⟨ret_bool (by rw [HT.out]; exact (not_all hlt (not_all hult (not_all hxlt (by rw [HI.out, h1, h2]; rfl)))).symm), HB0.out.trans (HB.out.mono HB0.out.size)⟩
                  · go_wp2_with (first | (go_at_call 50; refine (closer_any _ _ _ _ _ _ _ _ _ _ _ _ HM.out (by omega) (by omega)).mono ?_; rintro e w' ⟨rfl, hb1⟩; have d0 := cell_below hb1 d0; have d1 := cell_below hb1 d1; have HM := Lib.hid (HM.out.below hb1); have HB := Lib.hid (HB.out.trans (hb1.mono HB.out.size)); clear hb1))
                    go_round
                    case rel => exact ⟨x + 1, by omega, by go_num, hX.succ (by rw [HI.out, h1, h2]; rfl), HB.out⟩
                    case measure => simp [intOf]; omega
                · go_wp2_with (first | (go_at_call 50; refine (closer_any _ _ _ _ _ _ _ _ _ _ _ _ HM.out (by omega) (by omega)).mono ?_; rintro e w' ⟨rfl, hb1⟩; have d0 := cell_below hb1 d0; have d1 := cell_below hb1 d1; have HM := Lib.hid (HM.out.below hb1); have HB := Lib.hid (HB.out.trans (hb1.mono HB.out.size)); clear hb1))
                  go_round
                  case rel => exact ⟨x + 1, by omega, by go_num, hX.succ (by rw [HI.out, h1]; rfl), HB.out⟩
                  case measure => simp [intOf]; omega
              · go_wp2
                go_round
                case rel => exact ⟨u + 1, by omega, by go_num, hU.succ (hX.all (by omega)), HB.out⟩
                case measure => simp [intOf]; omega
          · go_wp2
            go_round
            case rel => exact ⟨v + 1, by omega, by go_num, hV.succ (hU.all (by omega)), HB.out⟩
            case measure => simp [intOf]; omega
      · go_wp2
        go_ret
        exact ⟨ret_bool (by rw [HT.out]; exact (hV.all (by omega)).symm), HB0.out.trans (HB.out.mono HB0.out.size)⟩
  · have hz : ((checkZ k n m F : Int) != 0) = true := int_ne0.2 hchk
    have HT := Lib.hid (show totalB k n m F = false by unfold totalB; simp [hchk])
    clear hchk
    go_enter Try.func23, Try.ntmps23
    go_wp2_with fail
    obtain ⟨d0, d1⟩ := cells_box2 w (.int .i64 k) (.slice A n c) 24
    have hB := below_alloc w (.cells #[.int .i64 k, .slice A n c] 24)
    generalize w.alloc (.cells #[.int .i64 k, .slice A n c] 24) = W at d0 d1 hB ⊢
    have HM := Lib.hid (HM.out.below hB)
    have HB := Lib.hid hB
    clear hB
    refine (refCheck_any _ _ _ _ _ _ _ _ _ HM.out).mono ?_
    rintro e w' ⟨rfl, hb1⟩
    have d0 := cell_below hb1 d0
    have d1 := cell_below hb1 d1
    have HM := Lib.hid (HM.out.below hb1)
    have HB := Lib.hid (HB.out.trans (hb1.mono HB.out.size))
    clear hb1
    go_wp2
    go_ret
    exact ⟨by rw [HT.out]; rfl, HB.out⟩
end Go.Proofs.Ytgnmelmmcpmhoaa
