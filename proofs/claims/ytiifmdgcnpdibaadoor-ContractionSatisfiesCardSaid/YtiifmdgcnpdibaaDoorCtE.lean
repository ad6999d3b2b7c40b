/-
  Walks: package contraction: what the map of the postulates holds.
-/
import Derived.Test.YtiifmdgcnpdibaaDoorProg
import Derived.Test.YtiifmdgcnpdibaaDoorBase
import Derived.Test.YtiifmdgcnpdibaaDoorCtD
namespace Go.Proofs.YtiifmdgcnpdibaaDoor
open Go.RowKit

def poFn (p : Nat) : FuncId := if p = 1 then 114 else if p = 2 then 115 else if p = 3 then 116 else if p = 4 then 117 else if p = 5 then 118 else 119
/-- What the map of the postulates holds. -/
def LaidC (w : World) : Prop := ∃ bm, w.cell? ⟨0, 0, none⟩ = some (.map (some bm)) ∧ ∀ w', Below w.heap.size w w' →
  (∀ p : Nat, 1 ≤ p → p ≤ 6 → (Instr.lookup 70 (.map (some bm)) (.int .i64 p) true).run Tryd.prog w' = .ok (.tuple #[.agg #[.func (.func (poFn p)) #[] #[], .bool (decide (4 < p))], .bool true]) w') ∧
  (∀ p : Int, -9223372036854775808 ≤ p ∧ p ≤ 9223372036854775807 → ¬ (1 ≤ p ∧ p ≤ 6) → (Instr.lookup 70 (.map (some bm)) (.int .i64 p) true).run Tryd.prog w' = .ok (.tuple #[.agg #[.nilFunc, .bool false], .bool false]) w')
theorem LaidC.below {w w' : World} (h : LaidC w) (hb : Below w.heap.size w w') : LaidC w' := by
  obtain ⟨bm, g, r⟩ := h
  exact ⟨bm, cell_below hb g, fun w2 h2 => r w2 (hb.trans (h2.mono hb.size))⟩
end Go.Proofs.YtiifmdgcnpdibaaDoor
