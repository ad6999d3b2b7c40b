/-
  Walks of layer 54: power, alive, reaches, Clean of the reference.
-/
import Derived.Test.YtgnkeecjaffnaaaProg
import Derived.Test.YtgnkeecjaffnaaaBase
import Derived.Test.YtgnkeecjaffnaaaRow
import Derived.Test.YtgnkeecjaffnaaaRowsOf
import Derived.Test.YtgnkeecjaffnaaaPc
import Derived.Test.YtgnkeecjaffnaaaPd
import Derived.Test.YtgnkeecjaffnaaaPrB
import Derived.Test.YtgnkeecjaffnaaaPfP
import Derived.Test.YtgnkeecjaffnaaaPfL
import Derived.Test.YtgnkeecjaffnaaaPfA
import Derived.Test.YtgnkeecjaffnaaaPfQ
namespace Go.Proofs.Ytgnkeecjaffnaaa
open Go.RowKit

theorem power_any (N : Nat) (w : World) (hN : N ≤ 4) : Calls Try.prog 81 #[.int .i64 N] w fun e w' => e = .returned (.int .i64 (3 ^ N : Nat)) ∧ w = w' := by
  obtain ⟨Q, hQ⟩ : ∃ Q, Q = 3 ^ N := ⟨_, rfl⟩
  rw [← hQ]
  have HQ := Lib.hid hQ
  clear hQ
  go_enter Try.func81, Try.ntmps81
  go_wp2
  go_loop [3, 4] (fun pv iv => ∃ i : Nat, i ≤ N ∧ iv = .int .i64 i ∧ pv = .int .i64 ((3 ^ i : Nat) : Int)) (fun _ iv => N - (intOf iv).toNat)
  case atStart => exact ⟨0, Nat.zero_le _, rfl, rfl⟩
  case round =>
    obtain ⟨i, hi, rfl, rfl⟩ := hrel
    have hP := three_le (Nat.le_trans hi hN)
    by_cases hlt : i < N
    · have hP3 : 3 ^ (i + 1) = 3 ^ i * 3 := Nat.pow_succ 3 i
      obtain ⟨S, hS⟩ : ∃ S, S = 3 ^ (i + 1) := ⟨_, rfl⟩
      obtain ⟨P, hPe⟩ : ∃ P, P = 3 ^ i := ⟨_, rfl⟩
      rw [← hS, ← hPe] at hP3
      rw [← hPe] at hP ⊢
      clear hPe
      go_wp2_with fail
      go_round
      case rel => exact ⟨i + 1, by omega, by go_num, by rw [← hS]; congr 1; omega⟩
      case measure => simp [intOf]; omega
    · obtain rfl : i = N := by omega
      obtain ⟨P, hPe⟩ : ∃ P, P = 3 ^ i := ⟨_, rfl⟩
      rw [← hPe] at hP HQ ⊢
      clear hPe
      go_wp2_with fail
      go_ret
      exact ⟨by rw [HQ.out]; rfl, rfl⟩
theorem alive_any (y z : Int) (t : Nat) (w : World) : Calls Try.prog 74 #[.agg #[.int .i64 y, .int .i64 z], .int .i64 t] w fun e w' => e = .returned (.bool (y == 0 || decide ((t : Int) < y))) ∧ Below w.heap.size w w' := by
  have HB := Lib.hid (below_alloc w (.cells #[.int .i64 y, .int .i64 z] 37))
  have hbk := Blk.new w #[.int .i64 y, .int .i64 z] 37
  have d0 : (w.alloc (.cells #[.int .i64 y, .int .i64 z] 37)).cell? ⟨w.heap.size, 0, none⟩ = some (.int .i64 y) := hbk.cell rfl
  clear hbk
  by_cases h0 : y = 0
  · have e0 : (y == 0) = true := by rw [beq_iff_eq]; exact h0
    clear h0
    go_enter Try.func74, Try.ntmps74
    go_upto_region 1 with (fail)
    generalize w.alloc (.cells #[.int .i64 y, .int .i64 z] 37) = W at HB d0 ⊢
    go_wp2_with fail
    go_ret
    exact ⟨by first | rfl | (rw [e0]; rfl), HB.out⟩
  · have e0 : (y == 0) = false := by rw [beq_eq_false_iff_ne]; exact h0
    clear h0
    go_enter Try.func74, Try.ntmps74
    go_upto_region 1 with (fail)
    generalize w.alloc (.cells #[.int .i64 y, .int .i64 z] 37) = W at HB d0 ⊢
    go_wp2_with fail
    go_ret
    exact ⟨by first | rfl | (rw [e0]; rfl), HB.out⟩
theorem alive_go (rd : Nat → Int) (i t : Nat) : (rd i == 0 || decide ((t : Int) < rd i)) = !goB rd i t := by
  unfold goB
  rw [Bool.eq_iff_iff]
  simp only [Bool.or_eq_true, beq_iff_eq, decide_eq_true_eq, Bool.not_eq_true', Bool.and_eq_false_iff, bne_eq_false_iff_eq, decide_eq_false_iff_not]
  omega
theorem shr_bit (Z k : Nat) : (((Z : Int) / 2 ^ k).tmod 2 == 1) = Z.testBit k := by
  have e : ((Z : Int) / 2 ^ k) = ((Z / 2 ^ k : Nat) : Int) := by rw [Int.natCast_ediv, Int.natCast_pow]; rfl
  rw [e, Nat.testBit_eq_decide_div_mod_eq]
  generalize Z / 2 ^ k = q
  show (((q % 2 : Nat) : Int) == 1) = _
  rw [Bool.eq_iff_iff, beq_iff_eq, decide_eq_true_eq]
  omega
set_option maxHeartbeats 1000000 in
theorem reaches_any (y : Int) (Z t k : Nat) (w : World) (hk : k ≤ 4) (_hZ : Z < 9223372036854775808) : Calls Try.prog 73 #[.agg #[.int .i64 y, .int .i64 Z], .int .i64 t, .int .i64 k] w fun e w' => e = .returned (.bool ((y == 0 || decide ((t : Int) < y)) || (y == (t : Int) && Z.testBit k))) ∧ Below w.heap.size w w' := by
  have HB := Lib.hid (below_alloc w (.cells #[.int .i64 y, .int .i64 Z] 37))
  have hbk := Blk.new w #[.int .i64 y, .int .i64 Z] 37
  have d0 : (w.alloc (.cells #[.int .i64 y, .int .i64 Z] 37)).cell? ⟨w.heap.size, 0, none⟩ = some (.int .i64 y) := hbk.cell rfl
  have d1 : (w.alloc (.cells #[.int .i64 y, .int .i64 Z] 37)).cell? ⟨w.heap.size, 1, none⟩ = some (.int .i64 Z) := hbk.cell rfl
  have HA := Lib.hid (fun w => alive_any y Z t w)
  have hbit := shr_bit Z k
  obtain ⟨al, eal⟩ : ∃ b, b = (y == 0 || decide ((t : Int) < y)) := ⟨_, rfl⟩
  obtain ⟨bt, ebt⟩ : ∃ b, b = Z.testBit k := ⟨_, rfl⟩
  obtain ⟨V, eV⟩ : ∃ b, b = (al || (y == (t : Int) && bt)) := ⟨_, rfl⟩
  rw [← eal] at HA
  rw [← ebt] at hbit
  rw [← eal, ← ebt, ← eV]
  have EV := Lib.hid eV
  clear hbk eal ebt eV
  have rest : ∀ (b : Bool), (y == (t : Int)) = b → al = al := fun _ _ => rfl
  clear rest
  cases al
  · by_cases hy : y = (t : Int)
    · have ty : (y == (t : Int)) = true := by rw [beq_iff_eq]; exact hy
      have EW := Lib.hid (show V = bt by rw [EV.out, ty]; rfl)
      clear hy EV
      go_enter Try.func73, Try.ntmps73
      go_upto_region 1 with (fail)
      generalize w.alloc (.cells #[.int .i64 y, .int .i64 Z] 37) = W at HB d0 d1 ⊢
      go_wp2_with (go_at_call 74; refine (HA.out _).mono ?_; rintro e w1 ⟨rfl, hb⟩; have d0 := cell_below hb d0; have d1 := cell_below hb d1; have HB := Lib.hid (HB.out.trans (hb.mono HB.out.size)); clear hb)
      go_ret
      exact ⟨by rw [EW.out]; rfl, HB.out⟩
    · have ty : (y == (t : Int)) = false := by rw [beq_eq_false_iff_ne]; exact hy
      have EW := Lib.hid (show V = false by rw [EV.out, ty]; rfl)
      clear hy EV
      go_enter Try.func73, Try.ntmps73
      go_upto_region 1 with (fail)
      generalize w.alloc (.cells #[.int .i64 y, .int .i64 Z] 37) = W at HB d0 d1 ⊢
      go_wp2_with (go_at_call 74; refine (HA.out _).mono ?_; rintro e w1 ⟨rfl, hb⟩; have d0 := cell_below hb d0; have d1 := cell_below hb d1; have HB := Lib.hid (HB.out.trans (hb.mono HB.out.size)); clear hb)
      go_ret
      exact ⟨by rw [EW.out]; rfl, HB.out⟩
  · have EW := Lib.hid (show V = true by rw [EV.out]; rfl)
    clear EV
    go_enter Try.func73, Try.ntmps73
    go_upto_region 1 with (fail)
    generalize w.alloc (.cells #[.int .i64 y, .int .i64 Z] 37) = W at HB d0 d1 ⊢
    go_wp2_with (go_at_call 74; refine (HA.out _).mono ?_; rintro e w1 ⟨rfl, hb⟩; have HB := Lib.hid (HB.out.trans (hb.mono HB.out.size)); clear hb)
    go_ret
    exact ⟨by rw [EW.out]; rfl, HB.out⟩
set_option maxHeartbeats 1000000 in
theorem rClean_any (R : Int) (A : Option Addr) (n c : Nat) (rd tv : Nat → Int) (w : World) (hT : CrS w A n rd tv) (hn : n ≤ 9223372036854775807) :
    Calls Try.prog 22 #[.int .i64 R, .slice A n c] w fun e w' => e = .returned (.int .i64 (clV R rd n : Nat)) ∧ w = w' := by
  by_cases h1 : R < 1
  · have t1 : decide (R < 1) = true := decide_eq_true h1
    have HV := Lib.hid (show clV R rd n = 0 from if_neg (by omega))
    clear h1 hT
    go_enter Try.func22, Try.ntmps22
    go_wp2_with fail
    go_ret
    exact ⟨by rw [HV.out]; rfl, rfl⟩
  have t1 : decide (R < 1) = false := decide_eq_false h1
  by_cases h3 : 3 < R
  · have t3 : decide (3 < R) = true := decide_eq_true h3
    have HV := Lib.hid (show clV R rd n = 0 from if_neg (by omega))
    clear h1 h3 hT
    go_enter Try.func22, Try.ntmps22
    go_wp2_with fail
    go_ret
    exact ⟨by rw [HV.out]; rfl, rfl⟩
  have t3 : decide (3 < R) = false := decide_eq_false h3
  obtain ⟨r, rfl⟩ : ∃ r : Nat, R = r := ⟨R.toNat, by omega⟩
  have hr3 : r ≤ 3 := by omega
  have HV := Lib.hid (show clV r rd n = clN rd n r by unfold clV; rw [if_pos (by omega), Int.toNat_natCast])
  have HX := Lib.hid hT
  clear h1 h3 hT
  go_enter Try.func22, Try.ntmps22
  go_wp2_with fail
  go_loop [5] (fun p => ∃ t : Nat, t ≤ r ∧ p = .int .i64 ((t + 1 : Nat) : Int) ∧ Hid (clN rd n t = 0)) (fun p => 5 - (intOf p).toNat)
  case atStart => exact ⟨0, Nat.zero_le _, rfl, Lib.hid rfl⟩
  case round =>
    obtain ⟨t, htr, rfl, HZ⟩ := hrel
    by_cases hlt : t < r
    · have e1 : decide (((t + 1 : Nat) : Int) ≤ (r : Int)) = true := decide_eq_true (by omega)
      have e1' : decide (t + 1 ≤ r) = true := decide_eq_true (by omega)
      have e1'' : decide ((t : Int) + 1 ≤ (r : Int)) = true := decide_eq_true (by omega)
      go_wp2_with fail
      go_loop [6, 7] (fun nv iv => ∃ i : Nat, i ≤ n ∧ iv = .int .i64 i ∧ nv = .bool (allB i (fun i => rd i != ((t + 1 : Nat) : Int)))) (fun _ iv => n - (intOf iv).toNat)
      case atStart => exact ⟨0, Nat.zero_le _, rfl, rfl⟩
      case round =>
        obtain ⟨i, hi, rfl, rfl⟩ := hrel
        by_cases hli : i < n
        · obtain ⟨b, off, rfl, c1, -, -, -⟩ := HX.out i hli
          have hs : allB (i + 1) (fun i => rd i != ((t + 1 : Nat) : Int)) = (allB i (fun i => rd i != ((t + 1 : Nat) : Int)) && (rd i != ((t + 1 : Nat) : Int))) := by
            unfold allB; rw [List.range_succ, List.all_append]; simp
          obtain ⟨q, eq⟩ : ∃ q, q = allB i (fun i => rd i != ((t + 1 : Nat) : Int)) := ⟨_, rfl⟩
          obtain ⟨q', eq'⟩ : ∃ q, q = allB (i + 1) (fun i => rd i != ((t + 1 : Nat) : Int)) := ⟨_, rfl⟩
          rw [← eq, ← eq'] at hs
          rw [← eq]
          have EQ := Lib.hid eq'
          clear eq eq'
          obtain ⟨y, ey⟩ : ∃ y, y = rd i := ⟨_, rfl⟩
          rw [← ey] at c1 hs
          clear ey
          cases q
          · have hq : q' = false := by rw [hs]; rfl
            clear hs
            go_wp2_with fail
            go_round
            case rel => exact ⟨i + 1, by omega, by go_num, by rw [← EQ.out, hq]⟩
            case measure => simp [intOf]; omega
          · have hq : q' = (y != (t : Int) + 1) := by rw [hs]; rfl
            clear hs
            go_wp2_with fail
            go_round
            case rel => exact ⟨i + 1, by omega, by go_num, by rw [← EQ.out, hq]⟩
            case measure => simp [intOf]; omega
        · obtain rfl : i = n := by omega
          cases hq : allB i (fun i => rd i != ((t + 1 : Nat) : Int))
          · have HZ2 := Lib.hid (clN_miss HZ.out hq)
            clear hq
            go_wp2_with fail
            go_round
            case rel => exact ⟨t + 1, by omega, by go_num, HZ2⟩
            case measure => simp [intOf]; omega
          · have HZ2 := Lib.hid (clN_hit HZ.out hq)
            have HV2 : Hid (clV r rd i = t + 1) := Lib.hid (by
              rw [HV.out]
              have := clN_keep (rd := rd) (n := i) (R := t + 1) (by rw [HZ2.out]; omega) (r - (t + 1))
              rw [show t + 1 + (r - (t + 1)) = r from by omega] at this
              rw [this, HZ2.out])
            clear hq
            go_wp2_with fail
            go_ret
            exact ⟨by rw [HV2.out]; rfl, rfl⟩
    · obtain rfl : t = r := by omega
      have e1 : decide (((t + 1 : Nat) : Int) ≤ (t : Int)) = false := decide_eq_false (by omega)
      have e1' : decide (t + 1 ≤ t) = false := decide_eq_false (by omega)
      have e1'' : decide ((t : Int) + 1 ≤ (t : Int)) = false := decide_eq_false (by omega)
      go_wp2_with fail
      go_ret
      exact ⟨by rw [HV.out, HZ.out]; rfl, rfl⟩
end Go.Proofs.Ytgnkeecjaffnaaa
