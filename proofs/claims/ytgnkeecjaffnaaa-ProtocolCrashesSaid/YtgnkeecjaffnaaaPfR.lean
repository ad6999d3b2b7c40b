/-
  Walks of layer 54: crash, power, alive, reaches, merge, Clean of the reference.
-/
import Derived.Test.YtgnkeecjaffnaaaProg
import Derived.Test.YtgnkeecjaffnaaaBase
import Derived.Test.YtgnkeecjaffnaaaRow
import Derived.Test.YtgnkeecjaffnaaaRowsOf
import Derived.Test.YtgnkeecjaffnaaaPc
import Derived.Test.YtgnkeecjaffnaaaPd
import Derived.Test.YtgnkeecjaffnaaaPrB
import Derived.Test.YtgnkeecjaffnaaaPfP
import Derived.Test.YtgnkeecjaffnaaaPfL
import Derived.Test.YtgnkeecjaffnaaaPfA
import Derived.Test.YtgnkeecjaffnaaaPfQ
namespace Go.Proofs.Ytgnkeecjaffnaaa
open Go.RowKit

def crQ (N r i : Nat) (y z : Int) : Bool := decide (y < 0) || decide ((r : Int) < y) || decide (z < 0) || decide (((2 ^ N : Nat) : Int) ≤ z) || z.toNat.testBit i || (y == 0 && z != 0)
theorem wrap64_self {z : Int} (h : 0 ≤ z ∧ z ≤ 16) : wrap64 z = z := by
  unfold wrap64; omega
set_option maxHeartbeats 2000000 in
set_option maxRecDepth 100000 in
theorem crash_any (N r i : Nat) (y z : Int) (w : World) (hN : N ≤ 4) (hi : i < N) (_hr : r ≤ 3) (hz : z ≤ 9223372036854775807) :
    Calls Try.prog 45 #[.int .i64 N, .int .i64 r, .int .i64 i, .agg #[.int .i64 y, .int .i64 z]] w fun e w' => e = .returned (.int .i64 (if crQ N r i y z then 2 else 0 : Nat)) ∧ Below w.heap.size w w' := by
  have HB := Lib.hid (below_alloc w (.cells #[.int .i64 y, .int .i64 z] 37))
  have hbk := Blk.new w #[.int .i64 y, .int .i64 z] 37
  have d0 : (w.alloc (.cells #[.int .i64 y, .int .i64 z] 37)).cell? ⟨w.heap.size, 0, none⟩ = some (.int .i64 y) := hbk.cell rfl
  have d1 : (w.alloc (.cells #[.int .i64 y, .int .i64 z] 37)).cell? ⟨w.heap.size, 1, none⟩ = some (.int .i64 z) := hbk.cell rfl
  clear hbk
  obtain ⟨E, eE⟩ : ∃ E : Nat, E = if crQ N r i y z then 2 else 0 := ⟨_, rfl⟩
  rw [← eE]
  have HE := Lib.hid eE
  clear eE
  by_cases a1 : y < 0
  case pos =>
    have e1 : decide (y < 0) = true := decide_eq_true a1
    clear a1
    have HC := Lib.hid (show crQ N r i y z = true by unfold crQ; simp [e1])
    go_enter Try.func45, Try.ntmps45
    go_upto_region 1 with (fail)
    generalize w.alloc (.cells #[.int .i64 y, .int .i64 z] 37) = W at HB d0 d1 ⊢
    go_wp2_with fail
    go_ret
    exact ⟨by rw [HE.out, HC.out]; rfl, HB.out⟩
  have e1 : decide (y < 0) = false := decide_eq_false a1
  by_cases a2 : (r : Int) < y
  case pos =>
    have e2 : decide ((r : Int) < y) = true := decide_eq_true a2
    clear a1 a2
    have HC := Lib.hid (show crQ N r i y z = true by unfold crQ; simp [e2])
    go_enter Try.func45, Try.ntmps45
    go_upto_region 1 with (fail)
    generalize w.alloc (.cells #[.int .i64 y, .int .i64 z] 37) = W at HB d0 d1 ⊢
    go_wp2_with fail
    go_ret
    exact ⟨by rw [HE.out, HC.out]; rfl, HB.out⟩
  have e2 : decide ((r : Int) < y) = false := decide_eq_false a2
  by_cases a3 : z < 0
  case pos =>
    have e3 : decide (z < 0) = true := decide_eq_true a3
    clear a1 a2 a3
    have HC := Lib.hid (show crQ N r i y z = true by unfold crQ; simp [e3])
    go_enter Try.func45, Try.ntmps45
    go_upto_region 1 with (fail)
    generalize w.alloc (.cells #[.int .i64 y, .int .i64 z] 37) = W at HB d0 d1 ⊢
    go_wp2_with fail
    go_ret
    exact ⟨by rw [HE.out, HC.out]; rfl, HB.out⟩
  have e3 : decide (z < 0) = false := decide_eq_false a3
  have hpw : ((2 ^ N : Nat) : Int) = (2 : Int) ^ N := by rw [Int.natCast_pow]; rfl
  have h16 : (2 : Nat) ^ N ≤ 16 := Nat.pow_le_pow_right (n := 2) (j := 4) (by decide) hN
  have h0 : (0 : Int) ≤ ((2 ^ N : Nat) : Int) ∧ ((2 ^ N : Nat) : Int) ≤ 16 := ⟨Int.natCast_nonneg _, Int.ofNat_le.2 h16⟩
  have hw := wrap64_self (z := (2 : Int) ^ N) (by rw [← hpw]; exact h0)
  clear h0
  by_cases a4 : (2 : Int) ^ N ≤ z
  case pos =>
    have e4 : decide ((2 : Int) ^ N ≤ z) = true := decide_eq_true a4
    have e4' : decide (((2 ^ N : Nat) : Int) ≤ z) = true := by rw [hpw]; exact e4
    clear a1 a2 a3 a4 hpw
    have HC := Lib.hid (show crQ N r i y z = true by unfold crQ; simp [e4])
    go_enter Try.func45, Try.ntmps45
    go_upto_region 1 with (fail)
    generalize w.alloc (.cells #[.int .i64 y, .int .i64 z] 37) = W at HB d0 d1 ⊢
    go_wp2_with fail
    go_ret
    exact ⟨by rw [HE.out, HC.out]; rfl, HB.out⟩
  have e4 : decide ((2 : Int) ^ N ≤ z) = false := decide_eq_false a4
  obtain ⟨Z, rfl⟩ : ∃ Z : Nat, z = Z := ⟨z.toNat, by omega⟩
  have hbit : ((Z : Int) / 2 ^ i % 2 == 1) = Z.testBit i := by
    have e : ((Z : Int) / 2 ^ i) = ((Z / 2 ^ i : Nat) : Int) := by rw [Int.natCast_ediv, Int.natCast_pow]; rfl
    rw [e, Nat.testBit_eq_decide_div_mod_eq]
    generalize Z / 2 ^ i = q
    rw [Bool.eq_iff_iff, beq_iff_eq, decide_eq_true_eq]
    omega
  have hbit2 : (((Z : Int) / 2 ^ i).tmod 2 == 1) = Z.testBit i := by
    have e : ((Z : Int) / 2 ^ i) = ((Z / 2 ^ i : Nat) : Int) := by rw [Int.natCast_ediv, Int.natCast_pow]; rfl
    rw [← hbit, e]; rfl
  have e4' : decide (((2 ^ N : Nat) : Int) ≤ (Z : Int)) = false := by rw [hpw]; exact e4
  obtain ⟨bt, ebt⟩ : ∃ b, Z.testBit i = b := ⟨_, rfl⟩
  rw [ebt] at hbit hbit2
  cases bt
  case true =>
    clear a1 a2 a3 a4 hpw
    have HC := Lib.hid (show crQ N r i y Z = true by unfold crQ; simp [e1, ebt])
    go_enter Try.func45, Try.ntmps45
    go_upto_region 1 with (fail)
    generalize w.alloc (.cells #[.int .i64 y, .int .i64 Z] 37) = W at HB d0 d1 ⊢
    go_wp2_with fail
    go_ret
    exact ⟨by rw [HE.out, HC.out]; rfl, HB.out⟩
  by_cases a6 : y = 0
  · have e6 : (y == 0) = true := by rw [beq_iff_eq]; exact a6
    by_cases a7 : (Z : Int) = 0
    · have e7 : ((Z : Int) != 0) = false := by rw [a7]; rfl
      clear a1 a2 a3 a4 a6 a7 hpw
      have HC := Lib.hid (show crQ N r i y Z = false by unfold crQ; rw [e1, e2, e3, e4', Int.toNat_natCast, ebt, e6, e7]; rfl)
      go_enter Try.func45, Try.ntmps45
      go_upto_region 1 with (fail)
      generalize w.alloc (.cells #[.int .i64 y, .int .i64 Z] 37) = W at HB d0 d1 ⊢
      go_wp2_with fail
      go_ret
      exact ⟨by rw [HE.out, HC.out]; rfl, HB.out⟩
    · have e7 : ((Z : Int) != 0) = true := by rw [bne_iff_ne]; exact a7
      clear a1 a2 a3 a4 a6 a7 hpw
      have HC := Lib.hid (show crQ N r i y Z = true by unfold crQ; simp [e1, e2, e3, e6, e7, ebt])
      go_enter Try.func45, Try.ntmps45
      go_upto_region 1 with (fail)
      generalize w.alloc (.cells #[.int .i64 y, .int .i64 Z] 37) = W at HB d0 d1 ⊢
      go_wp2_with fail
      go_ret
      exact ⟨by rw [HE.out, HC.out]; rfl, HB.out⟩
  · have e6 : (y == 0) = false := by rw [beq_eq_false_iff_ne]; exact a6
    clear a1 a2 a3 a4 a6 hpw
    have HC := Lib.hid (show crQ N r i y Z = false by unfold crQ; rw [e1, e2, e3, e4', Int.toNat_natCast, ebt, e6]; rfl)
    go_enter Try.func45, Try.ntmps45
    go_upto_region 1 with (fail)
    generalize w.alloc (.cells #[.int .i64 y, .int .i64 Z] 37) = W at HB d0 d1 ⊢
    go_wp2_with fail
    go_ret
    exact ⟨by rw [HE.out, HC.out]; rfl, HB.out⟩
end Go.Proofs.Ytgnkeecjaffnaaa
