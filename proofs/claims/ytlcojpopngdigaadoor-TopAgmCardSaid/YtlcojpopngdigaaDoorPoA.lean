/-
  Walks: package postulates: sets, table, and the postulates of revision.
-/
import Derived.Test.YtlcojpopngdigaaDoorProg
import Derived.Test.YtlcojpopngdigaaDoorBase
import Derived.Test.YtlcojpopngdigaaDoorPoP
namespace Go.Proofs.YtlcojpopngdigaaDoor
open Go.RowKit

theorem sets_val {k S : Nat} (hk : k ≤ 3) (hS : S = 2 ^ 2 ^ k) : IntKind.i64.wrap (2 ^ min (IntKind.u64.wrap (2 ^ k)).toNat 64) = (S : Int) := by
  have h : k = 0 ∨ k = 1 ∨ k = 2 ∨ k = 3 := by omega
  rw [hS]
  rcases h with rfl | rfl | rfl | rfl <;> rfl
theorem sets_le {k S : Nat} (hk : k ≤ 3) (hS : S = 2 ^ 2 ^ k) : 2 ≤ S ∧ S ≤ 256 := by
  have h : k = 0 ∨ k = 1 ∨ k = 2 ∨ k = 3 := by omega
  rw [hS]
  rcases h with rfl | rfl | rfl | rfl <;> decide
theorem sets_any (k S : Nat) (w : World) (hk : k ≤ 3) (hS : S = 2 ^ 2 ^ k) :
    Calls Tryd.prog 21 #[.int .i64 k] w fun e w' => e = .returned (.int .i64 S) ∧ w = w' := by
  have hv := sets_val hk hS
  clear hS
  go_enter Tryd.func21, Tryd.ntmps21
  go_wp2
  go_ret
  exact ⟨rfl, rfl⟩
theorem table1_any (k S x bn : Nat) (w : World) (hk : k ≤ 3) (hS : S = 2 ^ 2 ^ k) (_hx : x < 18446744073709551616) (hc : w.cell? ⟨bn, 0, none⟩ = some (.int .i64 k)) :
    Calls Tryd.prog 29 #[.int .u64 x, .pointer (some ⟨bn, 0, none⟩)] w fun e w' => e = .returned (.bool (decide (S ≤ x))) ∧ w = w' := by
  have hS2 := sets_le hk hS
  have HS := Lib.hid hS
  clear hS
  go_enter Tryd.func29, Tryd.ntmps29
  go_wp2_with (go_at_call 21; refine (sets_any k S _ hk HS.out).mono ?_; rintro e w' ⟨rfl, rfl⟩)
  go_ret
  refine ⟨?_, rfl⟩
  simp
end Go.Proofs.YtlcojpopngdigaaDoor
