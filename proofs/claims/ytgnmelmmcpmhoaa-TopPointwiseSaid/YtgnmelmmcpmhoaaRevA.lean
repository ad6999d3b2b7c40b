/-
  Walks: package revision: Distances, Check, least, Revise, Dalal.
-/
import Derived.Test.YtgnmelmmcpmhoaaProg
import Derived.Test.YtgnmelmmcpmhoaaBase
import Derived.Test.YtgnmelmmcpmhoaaOnes
import Derived.Test.YtgnmelmmcpmhoaaUpdA
import Derived.Test.YtgnmelmmcpmhoaaUpdB
import Derived.Test.YtgnmelmmcpmhoaaUpdC
import Derived.Test.YtgnmelmmcpmhoaaUpdE
import Derived.Deep.OwnRows
namespace Go.Proofs.Ytgnmelmmcpmhoaa
open Go.RowKit

/-- The cells of a block of ints. -/
def RowI (w : World) (B N : Nat) (g : Nat → Nat) : Prop := ∀ k, k < N → w.cell? ⟨B, k, none⟩ = some (.int .i64 (g k)) ∧ w.frozen? ⟨B, k, none⟩ = false
def upd (g : Nat → Nat) (j x : Nat) : Nat → Nat := fun k => if k = j then x else g k
theorem RowI.set {w : World} {B N j x : Nat} {g : Nat → Nat} (h : RowI w B N g) (hj : j < N) : RowI (w.setCell ⟨B, j, none⟩ (.int .i64 x)) B N (upd g j x) := fun k hk => by
  obtain ⟨h1, h2⟩ := h k hk
  refine ⟨?_, by rw [World.frozen?_setCell]; exact h2⟩
  unfold upd
  by_cases hkj : k = j
  · subst hkj
    rw [if_pos rfl]
    exact World.cell?_setCell_same' _ _ _ (by rw [h1]; rfl)
  · rw [if_neg hkj, World.cell?_setCell_other _ _ _ _ (by simp [hkj])]
    exact h1
theorem RowI.congr {w : World} {B N : Nat} {g g' : Nat → Nat} (h : RowI w B N g) (e : ∀ k, k < N → g k = g' k) : RowI w B N g' := fun k hk => by
  rw [← e k hk]; exact h k hk

theorem RowI.made (w : World) (N : Nat) (T : TypeId) : RowI (w.alloc (.cells (madeCells #[.int .i64 0] N) T)) w.heap.size N (fun _ => 0) := fun k hk =>
  ⟨(World.rowIs_made w (.int .i64 0) N T).cell hk, (World.rowIs_made w (.int .i64 0) N T).frozen k⟩
theorem bits_has' (s v : Nat) (hs : s < 18446744073709551616) (hv : v ≤ 64) : (bits .and .u64 ((s : Int) / 2 ^ v) 1 == 1) = s.testBit v := by
  have h := bits_has s v hs
  rwa [Nat.min_eq_left hv] at h
theorem i64_xor_nat' (a b : Nat) (ha : a < 16) (hb : b < 16) : bits .xor .i64 (a : Int) (b : Int) = ((a ^^^ b : Nat) : Int) := i64_xor_nat a b (by omega) (by omega)

theorem RowI.set' {w : World} {B N j x : Nat} {z : Int} {g : Nat → Nat} (h : RowI w B N g) (hj : j < N) (hz : z = (x : Int)) : RowI (w.setCell ⟨B, j, none⟩ (.int .i64 z)) B N (upd g j x) := by
  rw [hz]; exact h.set hj
theorem upd_upd (g : Nat → Nat) (j x y k : Nat) : upd (upd g j x) j y k = upd g j y k := by
  unfold upd; by_cases h : k = j <;> simp [h]

/-- One more than the least distance from the valuations of b below u (0: there is none). -/
def dq (b v : Nat) : Nat → Nat
  | 0 => 0
  | u + 1 => if b.testBit u = true ∧ (dq b v u = 0 ∨ popc (u ^^^ v) + 1 < dq b v u) then popc (u ^^^ v) + 1 else dq b v u
theorem dq_no (b v u : Nat) (h : ¬ (b.testBit u = true ∧ (dq b v u = 0 ∨ popc (u ^^^ v) + 1 < dq b v u))) : dq b v (u + 1) = dq b v u := if_neg h
theorem dq_yes (b v u : Nat) (h : b.testBit u = true ∧ (dq b v u = 0 ∨ popc (u ^^^ v) + 1 < dq b v u)) : dq b v (u + 1) = popc (u ^^^ v) + 1 := if_pos h
theorem popc_le (x : Nat) : popc x ≤ 4 := by unfold popc; omega
theorem dq_le (b v u : Nat) : dq b v u ≤ 5 := by
  induction u with
  | zero => exact Nat.zero_le _
  | succ u ih =>
    unfold dq
    have := popc_le (u ^^^ v)
    split <;> omega
def distF (N b v : Nat) : Nat := dq b v N - 1
theorem Try.infoInt : (Try.prog.info? 3).map (fun i => (i.zero, i.size, i.bytes)) = some (some (.int .i64 0), 1, 8) := by kernel_rfl

set_option maxHeartbeats 2000000 in
theorem Distances_in (kk N b : Nat) (w : World) (hk : kk ≤ 4) (hN : N = 2 ^ kk) (hb : b < 2 ^ N) (hb64 : b < 18446744073709551616) :
    Calls Try.prog 54 #[.int .i64 kk, .int .u64 b] w fun e w' => e = .returned (.tuple #[.slice (some ⟨w.heap.size, 0, none⟩) N N, .int .i64 0]) ∧ RowI w' w.heap.size N (distF N b) ∧ Below w.heap.size w w' := by
  have hw := wrap_pow hN (by omega)
  have hN16 : N ≤ 16 := by rw [hN]; exact Nat.le_trans (Nat.pow_le_pow_right (by decide) hk) (by decide)
  have hse : ((setErr kk b : Int) != 0) = false := by unfold setErr; rw [← hN, if_pos hb]; rfl
  have hd1 : decide ((kk : Int) < 0) = false := by simp
  have hd2 : decide (4 < (kk : Int)) = false := by simp; omega
  have hmk := run_make_row' (P := Try.prog) 65 3 (.int .i64 0) 8 Try.underlying65 Try.infoInt rfl .i64 .i64 N (by omega) (by omega)
  have HN := Lib.hid hN
  clear hN hb
  go_enter Try.func54, Try.ntmps54
  go_wp2_with (first | (go_at_call 43; refine (bsCheck_any _ _ _ (by assumption) (by omega)).mono ?_; rintro e w' ⟨rfl, rfl⟩))
  have hrow := RowI.made w N 3
  have hbl := below_alloc w (.cells (madeCells #[.int .i64 0] N) 3)
  clear hmk
  generalize w.alloc (.cells (madeCells #[.int .i64 0] N) 3) = W at hrow hbl ⊢
  have HW := Lib.hid hbl
  have HR := Lib.hid hrow
  clear hrow hbl
  go_loopw [25] (fun i wr => ∃ v : Nat, v ≤ N ∧ i = .int .i64 v ∧ RowI wr w.heap.size N (fun k => if k < v then distF N b k else 0) ∧ Below w.heap.size w wr) (fun i _ => N - (intOf i).toNat)
  case atStart => exact ⟨0, Nat.zero_le _, rfl, HR.out.congr (fun k hk => by rw [if_neg (Nat.not_lt_zero _)]), HW.out⟩
  case round =>
    clear HR HW
    obtain ⟨v, hv, rfl, hrow, hbl⟩ := hrel
    have HR := Lib.hid hrow
    have HB := Lib.hid hbl
    clear hrow hbl
    by_cases hlt : v < N
    · go_wp2
      go_loopw [30] (fun i wr => ∃ u : Nat, u ≤ N ∧ i = .int .i64 u ∧ RowI wr w.heap.size N (upd (fun k => if k < v then distF N b k else 0) v (dq b v u)) ∧ Below w.heap.size w wr) (fun i _ => N - (intOf i).toNat)
      case atStart => exact ⟨0, Nat.zero_le _, rfl, HR.out.congr (fun k hk => by
        unfold upd
        by_cases h : k = v
        · rw [if_pos h, if_neg (by omega)]; rfl
        · rw [if_neg h]), HB.out⟩
      case round =>
        clear HR HB
        obtain ⟨u, hu, rfl, hrow, hbl⟩ := hrel
        obtain ⟨hc, hfz⟩ := hrow v hlt
        unfold upd at hc
        rw [if_pos rfl] at hc
        have HR := Lib.hid hrow
        have HB := Lib.hid hbl
        clear hrow hbl
        by_cases hult : u < N
        · have hxv := i64_xor_nat' u v (by omega) (by omega)
          have hxl : u ^^^ v < 16 := Nat.xor_lt_two_pow (n := 4) (by omega) (by omega)
          have hp := popc_le (u ^^^ v)
          have hq := dq_le b v u
          have hbit := bits_has' b u hb64 (by omega)
          have HY := Lib.hid (dq_yes b v u)
          have HNo := Lib.hid (dq_no b v u)
          obtain ⟨q, eq⟩ : ∃ q, q = dq b v u := ⟨_, rfl⟩
          rw [← eq] at hc hq
          have EQ := Lib.hid eq
          clear eq
          cases hbu : b.testBit u
          · rw [hbu] at hbit
            go_wp2_with (first | (go_at_call 42; refine (ones_any _ _ (by assumption)).mono ?_; rintro e w' ⟨rfl, rfl⟩))
            refine ⟨⟨u + 1, by omega, by go_num, ?_, HB.out⟩, by simp [intOf]; omega⟩
            rw [HNo.out (by rw [hbu]; exact fun h => by cases h.1)]
            exact HR.out
          · rw [hbu] at hbit
            by_cases hq0 : q = 0
            · have hq1 : ((q : Int) == 0) = true := by rw [hq0]; rfl
              go_wp2_with (first | (go_at_call 42; refine (ones_any _ _ (by assumption)).mono ?_; rintro e w' ⟨rfl, rfl⟩))
              refine ⟨⟨u + 1, by omega, by go_num, ?_, HB.out.setCell (Nat.le_refl _) _⟩, by simp [intOf]; omega⟩
              rw [HY.out ⟨hbu, .inl (by rw [← EQ.out]; exact hq0)⟩]
              exact (HR.out.set' hlt (x := popc (u ^^^ v) + 1) (by omega)).congr fun k _ => upd_upd _ _ _ _ _
            · have hq1 : ((q : Int) == 0) = false := by rw [beq_eq_false_iff_ne]; omega
              by_cases hd : popc (u ^^^ v) + 1 < q
              · have hd1 : decide ((popc (u ^^^ v) : Int) + 1 < (q : Int)) = true := by rw [decide_eq_true_eq]; omega
                go_wp2_with (first | (go_at_call 42; refine (ones_any _ _ (by assumption)).mono ?_; rintro e w' ⟨rfl, rfl⟩))
                refine ⟨⟨u + 1, by omega, by go_num, ?_, HB.out.setCell (Nat.le_refl _) _⟩, by simp [intOf]; omega⟩
                rw [HY.out ⟨hbu, .inr (by rw [← EQ.out]; exact hd)⟩]
                exact (HR.out.set' hlt (x := popc (u ^^^ v) + 1) (by omega)).congr fun k _ => upd_upd _ _ _ _ _
              · have hd1 : decide ((popc (u ^^^ v) : Int) + 1 < (q : Int)) = false := by rw [decide_eq_false_iff_not]; omega
                go_wp2_with (first | (go_at_call 42; refine (ones_any _ _ (by assumption)).mono ?_; rintro e w' ⟨rfl, rfl⟩))
                refine ⟨⟨u + 1, by omega, by go_num, ?_, HB.out⟩, by simp [intOf]; omega⟩
                rw [HNo.out (by rw [← EQ.out]; exact fun h => by omega)]
                exact HR.out
        · obtain rfl : u = N := by omega
          have hq := dq_le b v u
          go_wp2
          refine ⟨⟨v + 1, by omega, by go_num, ?_, HB.out.setCell (Nat.le_refl _) _⟩, by simp [intOf]; omega⟩
          refine (HR.out.set' hlt (x := distF u b v) (by unfold distF; split <;> omega)).congr fun k hk => ?_
          rw [upd_upd]
          unfold upd
          by_cases h : k = v
          · subst h; rw [if_pos rfl, if_pos (by omega)]
          · rw [if_neg h]
            show (if k < v then distF u b k else 0) = _
            by_cases h2 : k < v
            · rw [if_pos h2, if_pos (by omega)]
            · rw [if_neg h2, if_neg (by omega)]
    · obtain rfl : v = N := by omega
      go_wp2
      go_ret2
      exact ⟨rfl, HR.out.congr (fun k hk => by rw [if_pos hk]), HB.out⟩
end Go.Proofs.Ytgnmelmmcpmhoaa
