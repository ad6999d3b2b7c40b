/-
  Walks: beliefset.Check; update.Check.
-/
import Derived.Test.YtgnmelmmcpmhoaaProg
import Derived.Test.YtgnmelmmcpmhoaaBase
import Derived.Test.YtgnmelmmcpmhoaaUpdA
namespace Go.Proofs.Ytgnmelmmcpmhoaa
open Go.RowKit

theorem setErr_yes {k s : Nat} (hs : s < 18446744073709551616) (hk : k ≤ 4) (h : ((andNot s (2 ^ 2 ^ k - 1) : Int) != 0) = true) : setErr k s = 2 := by
  have h1 := two_pow_le16 hk
  have h2 := int_ne0.1 h
  rw [Ne, andNot_mask hs (by omega)] at h2
  unfold setErr; rw [if_neg h2]
theorem setErr_no {k s : Nat} (hs : s < 18446744073709551616) (hk : k ≤ 4) (h : ((andNot s (2 ^ 2 ^ k - 1) : Int) != 0) = false) : setErr k s = 0 := by
  have h1 := two_pow_le16 hk
  have h2 := int_ne0f.1 h
  rw [andNot_mask hs (by omega)] at h2
  unfold setErr; rw [if_pos h2]
theorem mask_lt {k : Nat} (hk : k ≤ 4) : 2 ^ 2 ^ k - 1 < 18446744073709551616 := by
  have h1 := two_pow_le16 hk
  have := pow_lt64 (k := 2 ^ k) (by omega)
  omega

set_option maxHeartbeats 400000 in
theorem bsCheck_any (s k : Nat) (w : World) (hs : s < 18446744073709551616) (hk : k ≤ 4) :
    Calls Try.prog 43 #[.int .u64 s, .int .i64 k] w fun e w' => e = .returned (.int .i64 (setErr k s : Nat)) ∧ w = w' := by
  have hb := bits_andNot s (2 ^ 2 ^ k - 1) hs (mask_lt hk)
  have HY := Lib.hid (fun h => setErr_yes hs hk h)
  have HN := Lib.hid (fun h => setErr_no hs hk h)
  go_enter Try.func43, Try.ntmps43
  go_wp2_with (first | (go_at_call 60; refine (valid_any _ _ (by omega)).mono ?_; rintro e w' ⟨rfl, rfl⟩) | (go_at_call 61; refine (all_any _ _ (by omega)).mono ?_; rintro e w' ⟨rfl, rfl⟩))
  · go_ret
    exact ⟨ret_int (by rw [HY.out (by assumption)]; rfl), rfl⟩
  · go_ret
    exact ⟨ret_int (by rw [HN.out (by assumption)]; rfl), rfl⟩

/-- The error of the family's row v: 9 if it is no preorder, 16 if v is not first in it. -/
def stateB (n : Nat) (f : Nat → Nat) (v : Nat) : Bool := allB n (fun x => x == v || strB f v x)
def ordErr (n : Nat) (F : Nat → Nat → Nat) (v : Nat) : Nat := if preB n (F v) then (if stateB n (F v) v then 0 else 16) else 9
theorem ordErr_pre {n v : Nat} {F : Nat → Nat → Nat} (h : preB n (F v) = false) : ordErr n F v = 9 := by unfold ordErr; rw [h]; rfl
theorem ordErr_ok {n v : Nat} {F : Nat → Nat → Nat} (h : preB n (F v) = true) (h' : stateB n (F v) v = true) : ordErr n F v = 0 := by unfold ordErr; rw [h, h']; rfl
theorem ordErr_state {n v : Nat} {F : Nat → Nat → Nat} (h : preB n (F v) = true) (h' : stateB n (F v) v = false) : ordErr n F v = 16 := by unfold ordErr; rw [h, h']; rfl
def formIn (k : Nat) (f : Nat → Nat) (x : Nat) : Bool := setErr k (f x) == 0
def formRow (k n : Nat) (m : Nat → Nat) (F : Nat → Nat → Nat) (v : Nat) : Bool := m v == n && allB n (formIn k (F v))
def checkF (k : Nat) (len : Nat) (m : Nat → Nat) (F : Nat → Nat → Nat) : Nat :=
  if len = 2 ^ k then (if allB (2 ^ k) (formRow k (2 ^ k) m F) then firstErr (2 ^ k) (ordErr (2 ^ k) F) else 3) else 3
def checkZ (k : Int) (len : Nat) (m : Nat → Nat) (F : Nat → Nat → Nat) : Nat := if 0 ≤ k ∧ k ≤ 3 then checkF k.toNat len m F else 2

theorem wrap_pow {k N : Nat} (hN : N = 2 ^ k) (hk : k ≤ 4) : IntKind.i64.wrap ((2 : Int) ^ k) = (N : Int) := by
  have h : k = 0 ∨ k = 1 ∨ k = 2 ∨ k = 3 ∨ k = 4 := by omega
  subst hN
  rcases h with rfl | rfl | rfl | rfl | rfl <;> rfl
theorem cells_box2 (w : World) (x y : Value) (T : TypeId) : (w.alloc (.cells #[x, y] T)).cell? ⟨w.heap.size, 0, none⟩ = some x ∧ (w.alloc (.cells #[x, y] T)).cell? ⟨w.heap.size, 1, none⟩ = some y := by
  constructor <;> go_simp

theorem updCheck_far (k : Int) (A : Option Addr) (n c : Nat) (w : World) (hk : ¬ (0 ≤ k ∧ k ≤ 3)) :
    Calls Try.prog 20 #[.agg #[.int .i64 k, .slice A n c]] w fun e w' => e = .returned (.int .i64 2) ∧ Below w.heap.size w w' := by
  by_cases h0 : k < 0
  · go_enter Try.func20, Try.ntmps20
    go_wp2
    go_ret
    exact ⟨rfl, below_alloc _ _⟩
  · have h3 : 3 < k := by omega
    clear hk
    go_enter Try.func20, Try.ntmps20
    go_wp2
    go_ret
    exact ⟨rfl, below_alloc _ _⟩
theorem updCheck_len (kk : Nat) (A : Option Addr) (n c : Nat) (w : World) (hk : kk ≤ 3) (hn : n ≠ 2 ^ kk) :
    Calls Try.prog 20 #[.agg #[.int .i64 kk, .slice A n c]] w fun e w' => e = .returned (.int .i64 3) ∧ Below w.heap.size w w' := by
  obtain ⟨N, hN⟩ : ∃ N, N = 2 ^ kk := ⟨_, rfl⟩
  have hw := wrap_pow hN (by omega)
  have hne : ((n : Int) != (N : Int)) = true := by rw [bne_iff_ne]; omega
  clear hN hn
  go_enter Try.func20, Try.ntmps20
  go_wp2
  go_ret
  exact ⟨rfl, below_alloc _ _⟩

theorem formRow_no0 {kk N v : Nat} {m : Nat → Nat} {F : Nat → Nat → Nat} (h : ¬ m v = N) : formRow kk N m F v = false := by
  unfold formRow; simp [h]
theorem formRow_no1 {kk N v j : Nat} {m : Nat → Nat} {F : Nat → Nat → Nat} (hj : j < N) (h : formIn kk (F v) j = false) : formRow kk N m F v = false := by
  unfold formRow; rw [not_all hj h, Bool.and_false]
theorem formRow_yes {kk N v : Nat} {m : Nat → Nat} {F : Nat → Nat → Nat} (h : m v = N) (h' : allB N (formIn kk (F v)) = true) : formRow kk N m F v = true := by
  unfold formRow; rw [h', h]; simp
theorem formIn_no {kk j : Nat} {f : Nat → Nat} (h : ((setErr kk (f j) : Int) != 0) = true) : formIn kk f j = false := by
  unfold formIn; simpa using int_ne0.1 h
theorem formIn_yes {kk j : Nat} {f : Nat → Nat} (h : ((setErr kk (f j) : Int) != 0) = false) : formIn kk f j = true := by
  unfold formIn; simpa using int_ne0f.1 h
theorem formRow_of {kk N v : Nat} {m : Nat → Nat} {F : Nat → Nat → Nat} (h : formRow kk N m F v = true) : m v = N ∧ ∀ j, j < N → F v j < 2 ^ 2 ^ kk := by
  unfold formRow at h
  simp only [Bool.and_eq_true, beq_iff_eq] at h
  refine ⟨h.1, fun j hj => ?_⟩
  have := allB_iff.1 h.2 j hj
  unfold formIn setErr at this
  by_cases hlt : F v j < 2 ^ 2 ^ kk
  · exact hlt
  · rw [if_neg hlt] at this; cases this
theorem checkF_form {kk N : Nat} {m : Nat → Nat} {F : Nat → Nat → Nat} (hN : N = 2 ^ kk) (h : allB N (formRow kk N m F) = false) : checkF kk N m F = 3 := by
  unfold checkF; rw [if_pos hN, ← hN, h]; rfl
theorem checkF_ok {kk N : Nat} {m : Nat → Nat} {F : Nat → Nat → Nat} (hN : N = 2 ^ kk) (h : allB N (formRow kk N m F) = true) : checkF kk N m F = firstErr N (ordErr N F) := by
  unfold checkF; rw [if_pos hN, ← hN, h]; rfl
theorem pow_le8 {N kk : Nat} (hN : N = 2 ^ kk) (hk : kk ≤ 3) : N ≤ 8 := by
  subst hN; exact Nat.pow_le_pow_right (n := 2) (i := kk) (j := 3) (by decide) hk

set_option maxHeartbeats 1000000 in
theorem updCheck_in (kk N : Nat) (A : Option Addr) (c : Nat) (R : Nat → Option Addr) (m cc : Nat → Nat) (F : Nat → Nat → Nat) (w : World) (hM : Mat w A N R m cc F) (hk : kk ≤ 3) (hN : N = 2 ^ kk) :
    Calls Try.prog 20 #[.agg #[.int .i64 kk, .slice A N c]] w fun e w' => e = .returned (.int .i64 (checkF kk N m F : Nat)) ∧ Below w.heap.size w w' := by
  have hw := wrap_pow hN (by omega)
  have hN8 := pow_le8 hN hk
  have hd1 : decide ((kk : Int) < 0) = false := by simp
  have hd2 : decide (3 < (kk : Int)) = false := by simp; omega
  have HM := Lib.hid hM
  have HN := Lib.hid hN
  clear hM hN
  go_enter Try.func20, Try.ntmps20
  go_wp2
  obtain ⟨c0, c1⟩ := cells_box2 w (.int .i64 kk) (.slice A N c) 24
  have hB := below_alloc w (.cells #[.int .i64 kk, .slice A N c] 24)
  generalize w.alloc (.cells #[.int .i64 kk, .slice A N c] 24) = W at c0 c1 hB ⊢
  have HM' := Lib.hid (HM.out.below hB)
  clear HM hd1 hd2 hw
  go_loop [30] (fun i => ∃ k : Nat, k ≤ N ∧ i = .int .i64 k ∧ Upto (formRow kk N m F) k) (fun i => N - (intOf i).toNat)
  case atStart => exact ⟨0, Nat.zero_le _, rfl, upto_zero _⟩
  case round =>
    obtain ⟨v, hv, rfl, hform⟩ := hrel
    by_cases hlt : v < N
    · obtain ⟨b, off, rfl, hc, hm, hr⟩ := HM'.out v hlt
      have HR := Lib.hid hr
      clear hr
      by_cases hmv : m v = N
      · have HMV := Lib.hid hmv
        rw [hmv] at hc
        clear hmv hm
        go_wp2
        go_loop [40] (fun i => ∃ j : Nat, j ≤ N ∧ i = .int .i64 j ∧ Upto (formIn kk (F v)) j) (fun i => N - (intOf i).toNat)
        case atStart => exact ⟨0, Nat.zero_le _, rfl, upto_zero _⟩
        case round =>
          obtain ⟨j, hj, rfl, hin⟩ := hrel
          by_cases hjlt : j < N
          · obtain ⟨b', off', he, hc', hb'⟩ := HR.out j (by rw [HMV.out]; exact hjlt)
            rw [he] at hc ⊢
            have HE := Lib.hid he
            clear he
            go_wp2_with (go_at_call 43; refine (bsCheck_any _ _ _ (by assumption) (by omega)).mono ?_; rintro e w' ⟨rfl, rfl⟩)
            · have hne : ((setErr kk (F v j) : Int) != 0) = true := by assumption
              go_ret
              exact ⟨ret_int (by rw [checkF_form HN.out (not_all hlt (formRow_no1 hjlt (formIn_no hne)))]; rfl), hB⟩
            · have hne : ((setErr kk (F v j) : Int) != 0) = false := by assumption
              go_round
              case rel => exact ⟨j + 1, by omega, by go_num, hin.succ (formIn_yes hne)⟩
              case measure => simp [intOf]; omega
          · go_wp2
            go_round
            case rel => exact ⟨v + 1, by omega, by go_num, hform.succ (formRow_yes HMV.out (hin.all (by omega)))⟩
            case measure => simp [intOf]; omega
      · have hmf : ((m v : Int) != (N : Int)) = true := by rw [bne_iff_ne]; omega
        have HF := Lib.hid (checkF_form (F := F) HN.out (not_all hlt (formRow_no0 hmv)))
        clear hmv
        go_wp2
        go_ret
        exact ⟨ret_int (by rw [HF.out]; rfl), hB⟩
    · have HA := Lib.hid (checkF_ok HN.out (hform.all (by omega)))
      have HFO := Lib.hid (fun u (hu : u < N) => (formRow_of (hform u (by omega))).1)
      clear hform
      go_wp2
      go_loop [54] (fun i => ∃ k : Nat, k ≤ N ∧ i = .int .i64 k ∧ Upto (fun u => ordErr N F u == 0) k) (fun i => N - (intOf i).toNat)
      case atStart => exact ⟨0, Nat.zero_le _, rfl, upto_zero _⟩
      case round =>
        obtain ⟨z, hz, rfl, hord⟩ := hrel
        by_cases hzlt : z < N
        · obtain ⟨b, off, rfl, hc, hm, hr⟩ := HM'.out z hzlt
          rw [HFO.out z hzlt] at hc hr
          have HR := Lib.hid hr
          have HH := Lib.hid (fun (hne : ordErr N F z ≠ 0) => firstErr_hit (n := N) (g := ordErr N F) hzlt (fun u hu => by simpa using hord u hu) hne)
          clear hr hm
          cases hpre : preB N (F z)
          · go_wp2_with (go_at_call 44; refine (preorder_any _ _ _ _ _ (HR.out) (by omega)).mono ?_; rintro e w' ⟨rfl, rfl⟩)
            go_ret
            exact ⟨ret_int (by rw [HA.out, HH.out (by rw [ordErr_pre hpre]; decide), ordErr_pre hpre]; rfl), hB⟩
          · go_wp2_with (go_at_call 44; refine (preorder_any _ _ _ _ _ (HR.out) (by omega)).mono ?_; rintro e w' ⟨rfl, rfl⟩)
            go_loop [63] (fun i => ∃ j : Nat, j ≤ N ∧ i = .int .i64 j ∧ Upto (fun x => x == z || strB (F z) z x) j) (fun i => N - (intOf i).toNat)
            case atStart => exact ⟨0, Nat.zero_le _, rfl, upto_zero _⟩
            case round =>
              obtain ⟨j, hj, rfl, hin⟩ := hrel
              by_cases hjlt : j < N
              · by_cases hjz : j = z
                · subst hjz
                  go_wp2
                  go_round
                  case rel => exact ⟨j + 1, by omega, by go_num, hin.succ (by simp)⟩
                  case measure => simp [intOf]; omega
                · have hbne : ((j : Int) != (z : Int)) = true := by rw [bne_iff_ne]; omega
                  go_wp2_with (go_at_call 45; refine (strictly_any _ _ _ _ _ _ _ (HR.out) (by omega) (by omega)).mono ?_; rintro e w' ⟨rfl, rfl⟩)
                  · have hs : (!strB (F z) z j) = true := by assumption
                    have hst : stateB N (F z) z = false := not_all hjlt (by
                      have h1 : (j == z) = false := by simpa using hjz
                      rw [h1, Bool.false_or]; simpa using hs)
                    go_ret
                    exact ⟨ret_int (by rw [HA.out, HH.out (by rw [ordErr_state hpre hst]; decide), ordErr_state hpre hst]; rfl), hB⟩
                  · have hs : (!strB (F z) z j) = false := by assumption
                    go_round
                    case rel => exact ⟨j + 1, by omega, by go_num, hin.succ (by rw [Bool.or_eq_true]; exact .inr (by simpa using hs))⟩
                    case measure => simp [intOf]; omega
              · go_wp2
                go_round
                case rel => exact ⟨z + 1, by omega, by go_num, hord.succ (by rw [ordErr_ok hpre (hin.all (by omega))]; rfl)⟩
                case measure => simp [intOf]; omega
        · go_wp2
          go_ret
          exact ⟨ret_int (by rw [HA.out, firstErr_zero (fun u hu => by simpa using hord u (by omega))]; rfl), hB⟩
theorem updCheck_any (k : Int) (A : Option Addr) (n c : Nat) (R : Nat → Option Addr) (m cc : Nat → Nat) (F : Nat → Nat → Nat) (w : World) (hM : Mat w A n R m cc F) :
    Calls Try.prog 20 #[.agg #[.int .i64 k, .slice A n c]] w fun e w' => e = .returned (.int .i64 (checkZ k n m F : Nat)) ∧ Below w.heap.size w w' := by
  by_cases hk : 0 ≤ k ∧ k ≤ 3
  · obtain ⟨kk, rfl⟩ := Int.eq_ofNat_of_zero_le hk.1
    have e : checkZ (kk : Int) n m F = checkF kk n m F := by unfold checkZ; rw [if_pos hk, Int.toNat_natCast]
    rw [e]
    by_cases hn : n = 2 ^ kk
    · exact updCheck_in kk n A c R m cc F w hM (by omega) hn
    · have e2 : checkF kk n m F = 3 := by unfold checkF; rw [if_neg hn]
      rw [e2]
      exact updCheck_len kk A n c w (by omega) hn
  · have e : checkZ k n m F = 2 := by unfold checkZ; rw [if_neg hk]
    rw [e]
    exact updCheck_far k A n c w hk
end Go.Proofs.Ytgnmelmmcpmhoaa
