/-
  Walks of layer 54: sizes. (Written by gen_prh.py.)
-/
import Derived.Test.YtgnkeecjaffnaaaProg
import Derived.Test.YtgnkeecjaffnaaaBase
namespace Go.Proofs.Ytgnkeecjaffnaaa
open Go.RowKit

/-- Whether the sizes of a flood are permitted. -/
def szB (n r : Int) : Bool := decide (2 ≤ n ∧ n ≤ 4 ∧ 0 ≤ r ∧ r ≤ 3)
set_option maxHeartbeats 1000000 in
theorem sizes_any (n r : Int) (w : World) :
    Calls Try.prog 43 #[.int .i64 n, .int .i64 r] w fun e w' => e = .returned (.bool (szB n r)) ∧ w = w' := by
  by_cases a1 : 2 ≤ n
  case neg =>
    have e1 : decide (2 ≤ n) = false := decide_eq_false a1
    have HE := Lib.hid (show szB n r = false from decide_eq_false (by omega))
    clear a1
    go_enter Try.func43, Try.ntmps43
    go_wp2_with fail
    go_ret
    exact ⟨by rw [HE.out]; rfl, rfl⟩
  have e1 : decide (2 ≤ n) = true := decide_eq_true a1
  by_cases a2 : n ≤ 4
  case neg =>
    have e2 : decide (n ≤ 4) = false := decide_eq_false a2
    have HE := Lib.hid (show szB n r = false from decide_eq_false (by omega))
    clear a1 a2
    go_enter Try.func43, Try.ntmps43
    go_wp2_with fail
    go_ret
    exact ⟨by rw [HE.out]; rfl, rfl⟩
  have e2 : decide (n ≤ 4) = true := decide_eq_true a2
  by_cases a3 : 0 ≤ r
  case neg =>
    have e3 : decide (0 ≤ r) = false := decide_eq_false a3
    have HE := Lib.hid (show szB n r = false from decide_eq_false (by omega))
    clear a1 a2 a3
    go_enter Try.func43, Try.ntmps43
    go_wp2_with fail
    go_ret
    exact ⟨by rw [HE.out]; rfl, rfl⟩
  have e3 : decide (0 ≤ r) = true := decide_eq_true a3
  by_cases a4 : r ≤ 3
  case neg =>
    have e4 : decide (r ≤ 3) = false := decide_eq_false a4
    have HE := Lib.hid (show szB n r = false from decide_eq_false (by omega))
    clear a1 a2 a3 a4
    go_enter Try.func43, Try.ntmps43
    go_wp2_with fail
    go_ret
    exact ⟨by rw [HE.out]; rfl, rfl⟩
  have e4 : decide (r ≤ 3) = true := decide_eq_true a4
  have HE := Lib.hid (show szB n r = true from decide_eq_true ⟨a1, a2, a3, a4⟩)
  clear a1 a2 a3 a4
  go_enter Try.func43, Try.ntmps43
  go_wp2_with fail
  go_ret
  exact ⟨by rw [HE.out]; rfl, rfl⟩
end Go.Proofs.Ytgnkeecjaffnaaa
