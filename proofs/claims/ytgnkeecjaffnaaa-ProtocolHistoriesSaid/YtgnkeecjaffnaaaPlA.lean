/-
  Walks: the law ProtocolHistories.
-/
import Derived.Test.YtgnkeecjaffnaaaProg
import Derived.Test.YtgnkeecjaffnaaaBase
import Derived.Test.YtgnkeecjaffnaaaRow
import Derived.Test.YtgnkeecjaffnaaaPrP
import Derived.Test.YtgnkeecjaffnaaaPrA
import Derived.Test.YtgnkeecjaffnaaaPrC
import Derived.Test.YtgnkeecjaffnaaaPkB
namespace Go.Proofs.Ytgnkeecjaffnaaa
open Go.RowKit

set_option maxHeartbeats 2000000 in
theorem histories_core (a b : Int) (w : World) (ha : -9223372036854775808 ≤ a ∧ a ≤ 9223372036854775807) :
    Calls Try.prog 3 #[.int .i64 a, .int .i64 b] w fun e w' => e = .returned (.bool true) ∧ Below w.heap.size w w' := by
  have e1 : (stV a b == stV a b) = true := by simp
  have e2 : (afV a b == afV a b) = true := by simp
  have e3 : (tmV b a == tmV b a) = true := by simp
  have e4 : (tmV 0 a == tmV 0 a) = true := by simp
  go_enter Try.func3, Try.ntmps3
  go_wp2_with (first | (go_at_call 11; refine (Start_any _ _ _).mono ?_; rintro e w' ⟨rfl, rfl⟩) | (go_at_call 12; refine (rStart_any _ _ _).mono ?_; rintro e w' ⟨rfl, rfl⟩) | (go_at_call 13; refine (After_any _ _ _ ha).mono ?_; rintro e w' ⟨rfl, rfl⟩) | (go_at_call 14; refine (rAfter_any _ _ _ ha).mono ?_; rintro e w' ⟨rfl, rfl⟩) | (go_at_call 15; refine (Time_any _ _ _ ha).mono ?_; rintro e w' ⟨rfl, rfl⟩) | (go_at_call 16; refine (rTime_any _ _ _ ha).mono ?_; rintro e w' ⟨rfl, rfl⟩) | (go_at_call 17; refine (awake_any _).mono ?_; rintro e w2 ⟨rfl, hst⟩; have HB := Lib.hid hst; clear hst))
  go_ret
  exact ⟨rfl, HB.out⟩
end Go.Proofs.Ytgnkeecjaffnaaa
