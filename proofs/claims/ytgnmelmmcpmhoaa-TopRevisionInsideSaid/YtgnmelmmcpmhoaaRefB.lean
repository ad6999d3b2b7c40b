/-
  Walks: the reference of layer 41: Check, Few.
-/
import Derived.Test.YtgnmelmmcpmhoaaProg
import Derived.Test.YtgnmelmmcpmhoaaBase
import Derived.Test.YtgnmelmmcpmhoaaUpdA
import Derived.Test.YtgnmelmmcpmhoaaUpdB
import Derived.Test.YtgnmelmmcpmhoaaUpdC
import Derived.Test.YtgnmelmmcpmhoaaRefA
namespace Go.Proofs.Ytgnmelmmcpmhoaa
open Go.RowKit

def rordErr (n : Nat) (F : Nat → Nat → Nat) (v : Nat) : Nat := if rpreB n (F v) then (if stateB n (F v) v then 0 else 16) else 9
theorem rordErr_pre {n v : Nat} {F : Nat → Nat → Nat} (h : rpreB n (F v) = false) : rordErr n F v = 9 := by unfold rordErr; rw [h]; rfl
theorem rordErr_ok {n v : Nat} {F : Nat → Nat → Nat} (h : rpreB n (F v) = true) (h' : stateB n (F v) v = true) : rordErr n F v = 0 := by unfold rordErr; rw [h, h']; rfl
theorem rordErr_state {n v : Nat} {F : Nat → Nat → Nat} (h : rpreB n (F v) = true) (h' : stateB n (F v) v = false) : rordErr n F v = 16 := by unfold rordErr; rw [h, h']; rfl
/-- The reference's error of a family. -/
def rcheckF (k : Nat) (len : Nat) (m : Nat → Nat) (F : Nat → Nat → Nat) : Nat :=
  if len = 2 ^ k then (if allB (2 ^ k) (formRow k (2 ^ k) m F) then firstErr (2 ^ k) (rordErr (2 ^ k) F) else 3) else 3
theorem rcheckF_form {kk N : Nat} {m : Nat → Nat} {F : Nat → Nat → Nat} (hN : N = 2 ^ kk) (h : allB N (formRow kk N m F) = false) : rcheckF kk N m F = 3 := by
  unfold rcheckF; rw [if_pos hN, ← hN, h]; rfl
theorem rcheckF_ok {kk N : Nat} {m : Nat → Nat} {F : Nat → Nat → Nat} (hN : N = 2 ^ kk) (h : allB N (formRow kk N m F) = true) : rcheckF kk N m F = firstErr N (rordErr N F) := by
  unfold rcheckF; rw [if_pos hN, ← hN, h]; rfl

theorem refCheck_far (k : Int) (A : Option Addr) (n c : Nat) (w : World) (hk : ¬ (0 ≤ k ∧ k ≤ 3)) :
    Calls Try.prog 21 #[.agg #[.int .i64 k, .slice A n c]] w fun e w' => e = .returned (.int .i64 2) ∧ Below w.heap.size w w' := by
  by_cases h0 : k < 0
  · go_enter Try.func21, Try.ntmps21
    go_wp2
    go_ret
    exact ⟨rfl, below_alloc _ _⟩
  · have h3 : 3 < k := by omega
    clear hk
    go_enter Try.func21, Try.ntmps21
    go_wp2
    go_ret
    exact ⟨rfl, below_alloc _ _⟩
theorem refCheck_len (kk : Nat) (A : Option Addr) (n c : Nat) (w : World) (hk : kk ≤ 3) (hn : n ≠ 2 ^ kk) :
    Calls Try.prog 21 #[.agg #[.int .i64 kk, .slice A n c]] w fun e w' => e = .returned (.int .i64 3) ∧ Below w.heap.size w w' := by
  obtain ⟨N, hN⟩ : ∃ N, N = 2 ^ kk := ⟨_, rfl⟩
  have hw := wrap_pow hN (by omega)
  have hne : ((n : Int) != (N : Int)) = true := by rw [bne_iff_ne]; omega
  clear hN hn
  go_enter Try.func21, Try.ntmps21
  go_wp2
  go_ret
  exact ⟨rfl, below_alloc _ _⟩

theorem formIn_no' {kk j : Nat} {f : Nat → Nat} (hk : kk ≤ 4) (hf : f j < 18446744073709551616) (h : ((andNot (f j) (2 ^ 2 ^ kk - 1) : Int) != 0) = true) : formIn kk f j = false := by
  unfold formIn; rw [setErr_yes hf hk h]; rfl
theorem formIn_yes' {kk j : Nat} {f : Nat → Nat} (hk : kk ≤ 4) (hf : f j < 18446744073709551616) (h : ((andNot (f j) (2 ^ 2 ^ kk - 1) : Int) != 0) = false) : formIn kk f j = true := by
  unfold formIn; rw [setErr_no hf hk h]; rfl

set_option maxHeartbeats 1000000 in
theorem refCheck_in (kk N : Nat) (A : Option Addr) (c : Nat) (R : Nat → Option Addr) (m cc : Nat → Nat) (F : Nat → Nat → Nat) (w : World) (hM : Mat w A N R m cc F) (hk : kk ≤ 3) (hN : N = 2 ^ kk) :
    Calls Try.prog 21 #[.agg #[.int .i64 kk, .slice A N c]] w fun e w' => e = .returned (.int .i64 (rcheckF kk N m F : Nat)) ∧ Below w.heap.size w w' := by
  have hw := wrap_pow hN (by omega)
  have hN8 := pow_le8 hN hk
  have hd1 : decide ((kk : Int) < 0) = false := by simp
  have hd2 : decide (3 < (kk : Int)) = false := by simp; omega
  have HM := Lib.hid hM
  have HN := Lib.hid hN
  clear hM hN
  go_enter Try.func21, Try.ntmps21
  go_wp2
  obtain ⟨d0, d1⟩ := cells_box2 w (.int .i64 kk) (.slice A N c) 24
  have hB := below_alloc w (.cells #[.int .i64 kk, .slice A N c] 24)
  generalize w.alloc (.cells #[.int .i64 kk, .slice A N c] 24) = W at d0 d1 hB ⊢
  have HM0 := Lib.hid (HM.out.below hB)
  have HB0 := Lib.hid hB
  have D0 := Lib.hid d0
  have D1 := Lib.hid d1
  clear hB HM hd1 hd2 hw
  go_loopw [4] (fun i wr => ∃ v : Nat, v ≤ N ∧ i = .int .i64 v ∧ Upto (formRow kk N m F) v ∧ Below W.heap.size W wr) (fun i _ => N - (intOf i).toNat)
  case atStart => exact ⟨0, Nat.zero_le _, rfl, upto_zero _, Below.refl _ _⟩
  case round =>
    obtain ⟨v, hv, rfl, hform, hbl⟩ := hrel
    clear d0 d1
    have HM := Lib.hid (HM0.out.below hbl)
    have d0 := cell_below hbl D0.out
    have d1 := cell_below hbl D1.out
    have HB := Lib.hid hbl
    clear hbl
    by_cases hlt : v < N
    · obtain ⟨b, off, rfl, hc, hm, hr⟩ := HM.out v hlt
      by_cases hmv : m v = N
      · have HMV := Lib.hid hmv
        rw [hmv] at hc
        clear hmv hm hr
        go_wp2
        clear hc d0 d1 HM
        go_loopw [5] (fun i wr => ∃ j : Nat, j ≤ N ∧ i = .int .i64 j ∧ Upto (formIn kk (F v)) j ∧ Below W.heap.size W wr) (fun i _ => N - (intOf i).toNat)
        case atStart => exact ⟨0, Nat.zero_le _, rfl, upto_zero _, HB.out⟩
        case round =>
          clear HB
          obtain ⟨j, hj, rfl, hin, hbl⟩ := hrel
          have HM := Lib.hid (HM0.out.below hbl)
          have d0 := cell_below hbl D0.out
          have d1 := cell_below hbl D1.out
          have HB := Lib.hid hbl
          clear hbl
          by_cases hjlt : j < N
          · obtain ⟨b, off, e, hc, hm, hr⟩ := HM.out v hlt
            obtain ⟨b', off', he, hc', hb'⟩ := hr j (by rw [HMV.out]; exact hjlt)
            injection e with e
            injection e with e1 e2 e3
            subst e1 e2
            rw [HMV.out, he] at hc
            have HBN := Lib.hid (bits_andNot _ _ hb' (mask_lt (k := kk) (by omega)))
            have HE := Lib.hid he
            clear he hr hm
            go_wp2_with fail
            go_quiet ((go_at_call 46; first | exact quiet_l0 (refAll_any _ _ (by omega)) | exact quiet_l1 (refAll_any _ _ (by omega))))
            go_wp2
            · have hne : (bits .andNot .u64 (F v j : Int) ((2 ^ 2 ^ kk - 1 : Nat) : Int) != 0) = true := by assumption
              rw [HBN.out] at hne
              go_ret
              exact ⟨ret_int (by rw [rcheckF_form HN.out (not_all hlt (formRow_no1 hjlt (formIn_no' (by omega) hb' hne)))]; rfl), HB0.out.trans ((below_drewN HB.out _).mono HB0.out.size)⟩
            · have hne : (bits .andNot .u64 (F v j : Int) ((2 ^ 2 ^ kk - 1 : Nat) : Int) != 0) = false := by assumption
              rw [HBN.out] at hne
              go_round
              case rel => exact ⟨j + 1, by omega, by go_num, hin.succ (formIn_yes' (by omega) hb' hne), below_drewN HB.out _⟩
              case measure => simp [intOf]; omega
          · go_wp2
            go_round
            case rel => exact ⟨v + 1, by omega, by go_num, hform.succ (formRow_yes HMV.out (hin.all (by omega))), HB.out⟩
            case measure => simp [intOf]; omega
      · have hmf : ((m v : Int) != (N : Int)) = true := by rw [bne_iff_ne]; omega
        have HF := Lib.hid (rcheckF_form (F := F) HN.out (not_all hlt (formRow_no0 hmv)))
        clear hmv hr
        go_wp2
        go_ret
        exact ⟨ret_int (by rw [HF.out]; rfl), HB0.out.trans (HB.out.mono HB0.out.size)⟩
    · have HA := Lib.hid (rcheckF_ok HN.out (hform.all (by omega)))
      have HFO := Lib.hid (fun u (hu : u < N) => (formRow_of (hform u (by omega))).1)
      clear hform
      go_wp2
      clear d0 d1 HM
      go_loopw [6] (fun i wr => ∃ k : Nat, k ≤ N ∧ i = .int .i64 k ∧ Upto (fun u => rordErr N F u == 0) k ∧ Below W.heap.size W wr) (fun i _ => N - (intOf i).toNat)
      case atStart => exact ⟨0, Nat.zero_le _, rfl, upto_zero _, HB.out⟩
      case round =>
        clear HB
        obtain ⟨z, hz, rfl, hord, hbl⟩ := hrel
        have HM := Lib.hid (HM0.out.below hbl)
        have d0 := cell_below hbl D0.out
        have d1 := cell_below hbl D1.out
        have HB := Lib.hid hbl
        clear hbl
        by_cases hzlt : z < N
        · have HH := Lib.hid (fun (hne : rordErr N F z ≠ 0) => firstErr_hit (n := N) (g := rordErr N F) hzlt (fun u hu => by simpa using hord u hu) hne)
          cases hpre : rpreB N (F z)
          · go_wp2_with (first | (go_at_call 47; refine (refPre_any _ _ _ _ _ _ _ _ _ _ HM.out (by omega) HN.out (by omega) (HFO.out _ hzlt)).mono ?_; rintro e w' ⟨rfl, hb1⟩; have d0 := cell_below hb1 d0; have d1 := cell_below hb1 d1; have HM := Lib.hid (HM.out.below hb1); have HB := Lib.hid (HB.out.trans (hb1.mono HB.out.size)); clear hb1))
            go_ret
            exact ⟨ret_int (by rw [HA.out, HH.out (by rw [rordErr_pre hpre]; decide), rordErr_pre hpre]; rfl), HB0.out.trans (HB.out.mono HB0.out.size)⟩
          · go_wp2_with (first | (go_at_call 47; refine (refPre_any _ _ _ _ _ _ _ _ _ _ HM.out (by omega) HN.out (by omega) (HFO.out _ hzlt)).mono ?_; rintro e w' ⟨rfl, hb1⟩; have d0 := cell_below hb1 d0; have d1 := cell_below hb1 d1; have HM := Lib.hid (HM.out.below hb1); have HB := Lib.hid (HB.out.trans (hb1.mono HB.out.size)); clear hb1))
            clear d0 d1 HM
            go_loopw [7] (fun i wr => ∃ j : Nat, j ≤ N ∧ i = .int .i64 j ∧ Upto (fun x => x == z || strB (F z) z x) j ∧ Below W.heap.size W wr) (fun i _ => N - (intOf i).toNat)
            case atStart => exact ⟨0, Nat.zero_le _, rfl, upto_zero _, HB.out⟩
            case round =>
              clear HB
              obtain ⟨j, hj, rfl, hin, hbl⟩ := hrel
              have HM := Lib.hid (HM0.out.below hbl)
              have d0 := cell_below hbl D0.out
              have d1 := cell_below hbl D1.out
              have HB := Lib.hid hbl
              clear hbl
              by_cases hjlt : j < N
              · by_cases hjz : j = z
                · subst hjz
                  go_wp2
                  go_round
                  case rel => exact ⟨j + 1, by omega, by go_num, hin.succ (by simp), HB.out⟩
                  case measure => simp [intOf]; omega
                · have hbne : ((j : Int) != (z : Int)) = true := by rw [bne_iff_ne]; omega
                  have hmz := HFO.out z hzlt
                  have hle : z < m z := by omega
                  have hle2 : j < m z := by omega
                  clear hmz
                  go_wp2_with (first | (go_at_call 48; refine (refStrictly_any _ _ _ _ _ _ _ _ _ _ _ _ HM.out (by omega) (by omega) (by omega)).mono ?_; rintro e w' ⟨rfl, hb1⟩; have d0 := cell_below hb1 d0; have d1 := cell_below hb1 d1; have HM := Lib.hid (HM.out.below hb1); have HB := Lib.hid (HB.out.trans (hb1.mono HB.out.size)); clear hb1))
                  · have hs : (!strB (F z) z j) = true := by assumption
                    have hst : stateB N (F z) z = false := not_all hjlt (by
                      have h1 : (j == z) = false := by simpa using hjz
                      rw [h1, Bool.false_or]; simpa using hs)
                    go_ret
                    exact ⟨ret_int (by rw [HA.out, HH.out (by rw [rordErr_state hpre hst]; decide), rordErr_state hpre hst]; rfl), HB0.out.trans (HB.out.mono HB0.out.size)⟩
                  · have hs : (!strB (F z) z j) = false := by assumption
                    go_round
                    case rel => exact ⟨j + 1, by omega, by go_num, hin.succ (by rw [Bool.or_eq_true]; exact .inr (by simpa using hs)), HB.out⟩
                    case measure => simp [intOf]; omega
              · go_wp2
                go_round
                case rel => exact ⟨z + 1, by omega, by go_num, hord.succ (by rw [rordErr_ok hpre (hin.all (by omega))]; rfl), HB.out⟩
                case measure => simp [intOf]; omega
        · go_wp2
          go_ret
          exact ⟨ret_int (by rw [HA.out, firstErr_zero (fun u hu => by simpa using hord u (by omega))]; rfl), HB0.out.trans (HB.out.mono HB0.out.size)⟩

/-! ### the two are the same -/
theorem preB_iff {n : Nat} {f : Nat → Nat} (hf : ∀ j, j < n → f j < 2 ^ n) (hn : n ≤ 63) : preB n f = true ↔ ∀ u, u < n → (f u).testBit u = true ∧ ∀ x y, x < n → y < n → (f u).testBit x = true → (f x).testBit y = true → (f u).testBit y = true := by
  have h64 : ∀ j, j < n → f j < 18446744073709551616 := fun j hj => Nat.lt_trans (hf j hj) (pow_lt64 (by omega))
  unfold preB
  rw [allB_iff]
  constructor
  · intro h u hu
    have h1 := h u hu
    unfold preRow at h1
    rw [Bool.and_eq_true] at h1
    refine ⟨h1.1, fun x y hx hy hux hxy => ?_⟩
    have h2 := allB_iff.1 h1.2 x hx
    unfold preIn at h2
    rw [hux] at h2
    have h3 : andNot (f x) (f u) = 0 := by simpa using h2
    exact (andNot_eq_zero (h64 x hx) (h64 u hu)).1 h3 y hxy
  · intro h u hu
    obtain ⟨h1, h2⟩ := h u hu
    unfold preRow
    rw [Bool.and_eq_true, allB_iff]
    refine ⟨h1, fun x hx => ?_⟩
    unfold preIn
    cases hux : (f u).testBit x
    · rfl
    · have h3 : andNot (f x) (f u) = 0 := (andNot_eq_zero (h64 x hx) (h64 u hu)).2 fun i hi => by
        rcases Nat.lt_or_ge i n with hlt | hge
        · exact h2 x i hx hlt hux hi
        · rw [Nat.testBit_lt_two_pow (Nat.lt_of_lt_of_le (hf x hx) (Nat.pow_le_pow_right (by decide) hge))] at hi; cases hi
      rw [h3]; rfl
theorem rpreB_iff {n : Nat} {f : Nat → Nat} : rpreB n f = true ↔ ∀ u, u < n → (f u).testBit u = true ∧ ∀ x y, x < n → y < n → (f u).testBit x = true → (f x).testBit y = true → (f u).testBit y = true := by
  unfold rpreB
  rw [allB_iff]
  constructor
  · intro h u hu
    have h1 := h u hu
    unfold rpRow at h1
    rw [Bool.and_eq_true] at h1
    refine ⟨h1.1, fun x y hx hy hux hxy => ?_⟩
    have h2 := allB_iff.1 (allB_iff.1 h1.2 x hx) y hy
    unfold trn at h2
    rw [hux, hxy] at h2
    simpa using h2
  · intro h u hu
    obtain ⟨h1, h2⟩ := h u hu
    unfold rpRow
    rw [Bool.and_eq_true, allB_iff]
    refine ⟨h1, fun x hx => allB_iff.2 fun y hy => ?_⟩
    unfold trn
    cases hux : (f u).testBit x
    · rfl
    · cases hxy : (f x).testBit y
      · rfl
      · rw [h2 x y hx hy hux hxy]; rfl
theorem firstErr_congr {n : Nat} {g h : Nat → Nat} (e : ∀ u, u < n → g u = h u) : firstErr n g = firstErr n h := by
  induction n with
  | zero => rfl
  | succ k ih => rw [firstErr, firstErr, ih fun u hu => e u (by omega), e k (by omega)]
theorem rcheckF_eq (kk n : Nat) (m : Nat → Nat) (F : Nat → Nat → Nat) (hk : kk ≤ 3) : rcheckF kk n m F = checkF kk n m F := by
  by_cases hn : n = 2 ^ kk
  · cases hf : allB n (formRow kk n m F)
    · rw [rcheckF_form hn hf, checkF_form hn hf]
    · rw [rcheckF_ok hn hf, checkF_ok hn hf]
      have h8 := pow_le8 hn hk
      refine firstErr_congr fun v hv => ?_
      have e : rpreB n (F v) = preB n (F v) := by
        rw [Bool.eq_iff_iff, rpreB_iff, preB_iff (fun j hj => by have := (formRow_of (allB_iff.1 hf v hv)).2 j hj; rwa [← hn] at this) (by omega)]
      unfold rordErr ordErr
      rw [e]
  · unfold rcheckF checkF; rw [if_neg hn, if_neg hn]

theorem refCheck_any (k : Int) (A : Option Addr) (n c : Nat) (R : Nat → Option Addr) (m cc : Nat → Nat) (F : Nat → Nat → Nat) (w : World) (hM : Mat w A n R m cc F) :
    Calls Try.prog 21 #[.agg #[.int .i64 k, .slice A n c]] w fun e w' => e = .returned (.int .i64 (checkZ k n m F : Nat)) ∧ Below w.heap.size w w' := by
  by_cases hk : 0 ≤ k ∧ k ≤ 3
  · obtain ⟨kk, rfl⟩ := Int.eq_ofNat_of_zero_le hk.1
    have e : checkZ (kk : Int) n m F = rcheckF kk n m F := by unfold checkZ; rw [if_pos hk, Int.toNat_natCast, rcheckF_eq kk n m F (by omega)]
    rw [e]
    by_cases hn : n = 2 ^ kk
    · exact refCheck_in kk n A c R m cc F w hM (by omega) hn
    · have e2 : rcheckF kk n m F = 3 := by unfold rcheckF; rw [if_neg hn]
      rw [e2]
      exact refCheck_len kk A n c w (by omega) hn
  · have e : checkZ k n m F = 2 := by unfold checkZ; rw [if_neg hk]
    rw [e]
    exact refCheck_far k A n c w hk

/-! ### Few -/
def fewB (n : Nat) (m : Nat → Nat) : Bool := decide (n ≤ 20) && allB n (fun i => decide (m i ≤ 20))
set_option maxHeartbeats 400000 in
theorem Few_any (k : Int) (A : Option Addr) (n c : Nat) (R : Nat → Option Addr) (m cc : Nat → Nat) (F : Nat → Nat → Nat) (w : World) (hM : Mat w A n R m cc F) :
    Calls Try.prog 15 #[.agg #[.int .i64 k, .slice A n c]] w fun e w' => e = .returned (.bool (fewB n m)) ∧ Below w.heap.size w w' := by
  by_cases hn : n ≤ 20
  · have HM := Lib.hid hM
    have HF := Lib.hid (show fewB n m = allB n (fun i => decide (m i ≤ 20)) by unfold fewB; rw [decide_eq_true hn]; rfl)
    clear hM
    go_enter Try.func15, Try.ntmps15
    go_wp2_with fail
    obtain ⟨d0, d1⟩ := cells_box2 w (.int .i64 k) (.slice A n c) 24
    have hB := below_alloc w (.cells #[.int .i64 k, .slice A n c] 24)
    generalize w.alloc (.cells #[.int .i64 k, .slice A n c] 24) = W at d0 d1 hB ⊢
    have HM0 := Lib.hid (HM.out.below hB)
    have HB := Lib.hid hB
    clear hB HM
    go_loop [3] (fun i => ∃ v : Nat, v ≤ n ∧ i = .int .i64 v ∧ Upto (fun i => decide (m i ≤ 20)) v) (fun i => n - (intOf i).toNat)
    case atStart => exact ⟨0, Nat.zero_le _, rfl, upto_zero _⟩
    case round =>
      obtain ⟨v, hv, rfl, hU⟩ := hrel
      by_cases hlt : v < n
      · obtain ⟨b, off, rfl, hc, hm, hr⟩ := HM0.out v hlt
        clear hr
        by_cases h20 : m v ≤ 20
        · go_wp2
          go_round
          case rel => exact ⟨v + 1, by omega, by go_num, hU.succ (decide_eq_true h20)⟩
          case measure => simp [intOf]; omega
        · have h21 : 20 < m v := by omega
          go_wp2
          go_ret
          exact ⟨ret_bool (by rw [HF.out]; exact (not_all hlt (decide_eq_false h20)).symm), HB.out⟩
      · go_wp2
        go_ret
        exact ⟨ret_bool (by rw [HF.out]; exact (hU.all (by omega)).symm), HB.out⟩
  · have hn' : 20 < n := by omega
    have HF := Lib.hid (show fewB n m = false by unfold fewB; rw [decide_eq_false hn]; rfl)
    clear hn hM
    go_enter Try.func15, Try.ntmps15
    go_wp2
    go_ret
    exact ⟨by rw [HF.out]; rfl, below_alloc _ _⟩
end Go.Proofs.Ytgnmelmmcpmhoaa
