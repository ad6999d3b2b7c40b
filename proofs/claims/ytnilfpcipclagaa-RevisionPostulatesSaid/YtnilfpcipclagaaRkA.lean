/-
  Walks: package revision: Distances.
-/
import Derived.Test.YtnilfpcipclagaaProg
import Derived.Test.YtnilfpcipclagaaBase
import Derived.Test.YtnilfpcipclagaaOnes
import Derived.Test.YtnilfpcipclagaaBs
import Derived.Test.YtnilfpcipclagaaRow
import Derived.Deep.OwnRows
namespace Go.Proofs.Ytnilfpcipclagaa
open Go.RowKit

theorem i64_xor_nat' (a b : Nat) (ha : a < 16) (hb : b < 16) : bits .xor .i64 (a : Int) (b : Int) = ((a ^^^ b : Nat) : Int) := i64_xor_nat a b (by omega) (by omega)

/-- One more than the least distance from the valuations of b below u (0: there is none). -/
def dq (b v : Nat) : Nat → Nat
  | 0 => 0
  | u + 1 => if b.testBit u = true ∧ (dq b v u = 0 ∨ popc (u ^^^ v) + 1 < dq b v u) then popc (u ^^^ v) + 1 else dq b v u
theorem dq_no (b v u : Nat) (h : ¬ (b.testBit u = true ∧ (dq b v u = 0 ∨ popc (u ^^^ v) + 1 < dq b v u))) : dq b v (u + 1) = dq b v u := if_neg h
theorem dq_yes (b v u : Nat) (h : b.testBit u = true ∧ (dq b v u = 0 ∨ popc (u ^^^ v) + 1 < dq b v u)) : dq b v (u + 1) = popc (u ^^^ v) + 1 := if_pos h
theorem popc_le (x : Nat) : popc x ≤ 4 := by unfold popc; omega
theorem dq_le (b v u : Nat) : dq b v u ≤ 5 := by
  induction u with
  | zero => exact Nat.zero_le _
  | succ u ih =>
    unfold dq
    have := popc_le (u ^^^ v)
    split <;> omega
def distF (N b v : Nat) : Nat := dq b v N - 1
set_option maxHeartbeats 2000000 in
theorem Distances_in (kk N b : Nat) (w : World) (hk : kk ≤ 4) (hN : N = 2 ^ kk) (hb : b < 2 ^ N) (hb64 : b < 18446744073709551616) :
    Calls Try.prog 30 #[.int .i64 kk, .int .u64 b] w fun e w' => e = .returned (.tuple #[.slice (some ⟨w.heap.size, 0, none⟩) N N, .int .i64 0]) ∧ RowI w' w.heap.size N (distF N b) ∧ Below w.heap.size w w' := by
  have hw := wrap_pow hN (by omega)
  have hN16 : N ≤ 16 := by rw [hN]; exact Nat.le_trans (Nat.pow_le_pow_right (by decide) hk) (by decide)
  have hse : ((setErr kk b : Int) != 0) = false := by unfold setErr; rw [← hN, if_pos hb]; rfl
  have hd1 : decide ((kk : Int) < 0) = false := by simp
  have hd2 : decide (4 < (kk : Int)) = false := by simp; omega
  have hmk := run_make_row' (P := Try.prog) 22 3 (.int .i64 0) 8 Try.underlying22 Try.infoInt rfl .i64 .i64 N (by omega) (by omega)
  have HN := Lib.hid hN
  clear hN hb
  go_enter Try.func30, Try.ntmps30
  go_wp2_with (first | (go_at_call 48; refine (bsCheck_any _ _ _ (by assumption) (by omega)).mono ?_; rintro e w' ⟨rfl, rfl⟩))
  have hrow := RowI.made w N 3
  have hbl := below_alloc w (.cells (madeCells #[.int .i64 0] N) 3)
  clear hmk
  generalize w.alloc (.cells (madeCells #[.int .i64 0] N) 3) = W at hrow hbl ⊢
  have HW := Lib.hid hbl
  have HR := Lib.hid hrow
  clear hrow hbl
  go_loopw [25] (fun i wr => ∃ v : Nat, v ≤ N ∧ i = .int .i64 v ∧ RowI wr w.heap.size N (fun k => if k < v then distF N b k else 0) ∧ Below w.heap.size w wr) (fun i _ => N - (intOf i).toNat)
  case atStart => exact ⟨0, Nat.zero_le _, rfl, HR.out.congr (fun k hk => by rw [if_neg (Nat.not_lt_zero _)]), HW.out⟩
  case round =>
    clear HR HW
    obtain ⟨v, hv, rfl, hrow, hbl⟩ := hrel
    have HR := Lib.hid hrow
    have HB := Lib.hid hbl
    clear hrow hbl
    by_cases hlt : v < N
    · go_wp2
      go_loopw [30] (fun i wr => ∃ u : Nat, u ≤ N ∧ i = .int .i64 u ∧ RowI wr w.heap.size N (upd (fun k => if k < v then distF N b k else 0) v (dq b v u)) ∧ Below w.heap.size w wr) (fun i _ => N - (intOf i).toNat)
      case atStart => exact ⟨0, Nat.zero_le _, rfl, HR.out.congr (fun k hk => by
        unfold upd
        by_cases h : k = v
        · rw [if_pos h, if_neg (by omega)]; rfl
        · rw [if_neg h]), HB.out⟩
      case round =>
        clear HR HB
        obtain ⟨u, hu, rfl, hrow, hbl⟩ := hrel
        obtain ⟨hc, hfz⟩ := hrow v hlt
        unfold upd at hc
        rw [if_pos rfl] at hc
        have HR := Lib.hid hrow
        have HB := Lib.hid hbl
        clear hrow hbl
        by_cases hult : u < N
        · have hxv := i64_xor_nat' u v (by omega) (by omega)
          have hxl : u ^^^ v < 16 := Nat.xor_lt_two_pow (n := 4) (by omega) (by omega)
          have hp := popc_le (u ^^^ v)
          have hq := dq_le b v u
          have hbit := bits_has' b u hb64 (by omega)
          have HY := Lib.hid (dq_yes b v u)
          have HNo := Lib.hid (dq_no b v u)
          obtain ⟨q, eq⟩ : ∃ q, q = dq b v u := ⟨_, rfl⟩
          rw [← eq] at hc hq
          have EQ := Lib.hid eq
          clear eq
          cases hbu : b.testBit u
          · rw [hbu] at hbit
            go_wp2_with (first | (go_at_call 51; refine (ones_any _ _ (by assumption)).mono ?_; rintro e w' ⟨rfl, rfl⟩))
            refine ⟨⟨u + 1, by omega, by go_num, ?_, HB.out⟩, by simp [intOf]; omega⟩
            rw [HNo.out (by rw [hbu]; exact fun h => by cases h.1)]
            exact HR.out
          · rw [hbu] at hbit
            by_cases hq0 : q = 0
            · have hq1 : ((q : Int) == 0) = true := by rw [hq0]; rfl
              go_wp2_with (first | (go_at_call 51; refine (ones_any _ _ (by assumption)).mono ?_; rintro e w' ⟨rfl, rfl⟩))
              refine ⟨⟨u + 1, by omega, by go_num, ?_, HB.out.setCell (Nat.le_refl _) _⟩, by simp [intOf]; omega⟩
              rw [HY.out ⟨hbu, .inl (by rw [← EQ.out]; exact hq0)⟩]
              exact (HR.out.set' hlt (x := popc (u ^^^ v) + 1) (by omega)).congr fun k _ => upd_upd _ _ _ _ _
            · have hq1 : ((q : Int) == 0) = false := by rw [beq_eq_false_iff_ne]; omega
              by_cases hd : popc (u ^^^ v) + 1 < q
              · have hd1 : decide ((popc (u ^^^ v) : Int) + 1 < (q : Int)) = true := by rw [decide_eq_true_eq]; omega
                go_wp2_with (first | (go_at_call 51; refine (ones_any _ _ (by assumption)).mono ?_; rintro e w' ⟨rfl, rfl⟩))
                refine ⟨⟨u + 1, by omega, by go_num, ?_, HB.out.setCell (Nat.le_refl _) _⟩, by simp [intOf]; omega⟩
                rw [HY.out ⟨hbu, .inr (by rw [← EQ.out]; exact hd)⟩]
                exact (HR.out.set' hlt (x := popc (u ^^^ v) + 1) (by omega)).congr fun k _ => upd_upd _ _ _ _ _
              · have hd1 : decide ((popc (u ^^^ v) : Int) + 1 < (q : Int)) = false := by rw [decide_eq_false_iff_not]; omega
                go_wp2_with (first | (go_at_call 51; refine (ones_any _ _ (by assumption)).mono ?_; rintro e w' ⟨rfl, rfl⟩))
                refine ⟨⟨u + 1, by omega, by go_num, ?_, HB.out⟩, by simp [intOf]; omega⟩
                rw [HNo.out (by rw [← EQ.out]; exact fun h => by omega)]
                exact HR.out
        · obtain rfl : u = N := by omega
          have hq := dq_le b v u
          go_wp2
          refine ⟨⟨v + 1, by omega, by go_num, ?_, HB.out.setCell (Nat.le_refl _) _⟩, by simp [intOf]; omega⟩
          refine (HR.out.set' hlt (x := distF u b v) (by unfold distF; split <;> omega)).congr fun k hk => ?_
          rw [upd_upd]
          unfold upd
          by_cases h : k = v
          · subst h; rw [if_pos rfl, if_pos (by omega)]
          · rw [if_neg h]
            show (if k < v then distF u b k else 0) = _
            by_cases h2 : k < v
            · rw [if_pos h2, if_pos (by omega)]
            · rw [if_neg h2, if_neg (by omega)]
    · obtain rfl : v = N := by omega
      go_wp2
      go_ret2
      exact ⟨rfl, HR.out.congr (fun k hk => by rw [if_pos hk]), HB.out⟩

/-- The error of Distances. -/
def distErr (n : Int) (b : Nat) : Nat := if 0 ≤ n ∧ n ≤ 4 then (if b < 2 ^ 2 ^ n.toNat then 0 else 1) else 2
theorem distErr_ok {n : Int} {b : Nat} (h : distErr n b = 0) : ∃ k : Nat, n = k ∧ k ≤ 4 ∧ b < 2 ^ 2 ^ k := by
  unfold distErr at h
  by_cases h1 : 0 ≤ n ∧ n ≤ 4
  · rw [if_pos h1] at h
    by_cases h2 : b < 2 ^ 2 ^ n.toNat
    · exact ⟨n.toNat, by omega, by omega, h2⟩
    · rw [if_neg h2] at h; cases h
  · rw [if_neg h1] at h; cases h
set_option maxHeartbeats 1000000 in
theorem Distances_err (n : Int) (b : Nat) (w : World) (hb : b < 18446744073709551616) (he : distErr n b ≠ 0) :
    Calls Try.prog 30 #[.int .i64 n, .int .u64 b] w fun e w' => e = .returned (.tuple #[.slice none 0 0, .int .i64 (distErr n b : Nat)]) ∧ w = w' := by
  by_cases h0 : n < 0
  · have hd1 : decide (n < 0) = true := decide_eq_true h0
    have HE := Lib.hid (show distErr n b = 2 from if_neg (by omega))
    clear he h0
    go_enter Try.func30, Try.ntmps30
    go_wp2
    go_ret2
    exact ⟨by rw [HE.out]; rfl, rfl⟩
  · have hd1 : decide (n < 0) = false := decide_eq_false h0
    by_cases h4 : 4 < n
    · have hd2 : decide (4 < n) = true := decide_eq_true h4
      have HE := Lib.hid (show distErr n b = 2 from if_neg (by omega))
      clear he h0 h4
      go_enter Try.func30, Try.ntmps30
      go_wp2
      go_ret2
      exact ⟨by rw [HE.out]; rfl, rfl⟩
    · have hd2 : decide (4 < n) = false := decide_eq_false h4
      obtain ⟨k, rfl⟩ : ∃ k : Nat, n = k := ⟨n.toNat, by omega⟩
      have hk : k ≤ 4 := by omega
      have hE : distErr k b = if b < 2 ^ 2 ^ k then 0 else 1 := if_pos (by omega)
      have hnb : ¬ b < 2 ^ 2 ^ k := fun h => he (by rw [hE, if_pos h])
      rw [if_neg hnb] at hE
      have HE := Lib.hid hE
      have hse : ((setErr k b : Int) != 0) = true := by unfold setErr; rw [if_neg hnb]; rfl
      clear he h0 h4 hE hnb
      go_enter Try.func30, Try.ntmps30
      go_wp2_with (first | (go_at_call 48; refine (bsCheck_any _ _ _ (by assumption) (by omega)).mono ?_; rintro e w' ⟨rfl, rfl⟩))
      go_ret2
      exact ⟨by rw [HE.out]; rfl, rfl⟩
end Go.Proofs.Ytnilfpcipclagaa
