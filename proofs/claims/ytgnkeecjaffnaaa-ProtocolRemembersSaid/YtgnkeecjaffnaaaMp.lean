/-
  Maps that a call makes, with their elements as they lie: a map's datum holds the values themselves.
-/
import Derived.Test.YtgnkeecjaffnaaaProg
import Derived.Test.YtgnkeecjaffnaaaBase
import Derived.Test.YtgnkeecjaffnaaaPc
import Derived.Test.YtgnkeecjaffnaaaPd
import Derived.Maps.OwnSet
import Derived.Maps.Views
namespace Go.Proofs.Ytgnkeecjaffnaaa
open Go.RowKit

/-- An element reads as itself. -/
def rawR (v : Value) : Option (DataW Value × List MemPlace) := some (.held v, [])
theorem rawR_at {v : Value} {D : DataW Value} {kl : Lit} {z : Value} {ps : List MemPlace} (h : rawR v = some (D.atKey kl (.held z), ps)) : D.atKey kl (.held z) = .held v := by
  unfold rawR at h
  injection h with h
  injection h with h _
  exact h.symm
/-- What is said of the map's elements: each key that is there has a value of which the statement holds. -/
def MapI (D : DataW Value) (z : Value) (Q : Lit → Value → Prop) : Prop := ∀ kl v, Maps.has D kl = true → D.atKey kl (.held z) = .held v → Q kl v
theorem MapI.nil (z : Value) (Q : Lit → Value → Prop) : MapI (.map []) z Q := fun kl v h _ => by simp [Maps.has] at h
theorem MapI.put {D : DataW Value} {z u : Value} {Q Q' : Lit → Value → Prop} {kl : Lit} (h : MapI D z Q) (hD : Maps.IsMap D) (hk : WideAt.IsKeyLit kl) (hQ : ∀ k v, k ≠ kl → Q k v → Q' k v) (hu : Q' kl u) : MapI (D.put kl (.held u)) z Q' := fun k v h1 h2 => by
  by_cases e : k = kl
  · subst e
    rw [Maps.atKey_put_same hD hk] at h2
    injection h2 with h2
    subst h2
    exact hu
  · rw [Maps.has_put_other e] at h1
    rw [Maps.atKey_put_other e] at h2
    exact hQ k v e (h k v h1 h2)
theorem MapI.imp {D : DataW Value} {z : Value} {Q Q' : Lit → Value → Prop} (h : MapI D z Q) (hQ : ∀ k v, Q k v → Q' k v) : MapI D z Q' := fun k v h1 h2 => hQ k v (h k v h1 h2)
/-- The blocks of cells are kept while a map is written. -/
theorem Keeps.map {P : Program} {k : TypeId} {R : Value → Option (DataW Value × List MemPlace)} {w w' : World} {b n : Nat} {D : DataW Value} (h : w.ownsMap P k R b n D) (hg : w.grownBy w' (some b)) (T : TypeId) : Keeps w w' T := fun b' cs hb => by
  refine hb.kept hg fun e => ?_
  injection e with e
  subst e
  obtain ⟨es, clock, hm, -⟩ := h
  have := (show w.heap[b]? = _ from hb).symm.trans hm
  simp at this
theorem ownsMap_below {P : Program} {k : TypeId} {R : Value → Option (DataW Value × List MemPlace)} {w w' : World} {b n : Nat} {D : DataW Value} (h : w.ownsMap P k R b n D) (hb : Below w.heap.size w w') : w'.ownsMap P k R b n D := h.kept (gr_below hb none) (by simp)
end Go.Proofs.Ytgnkeecjaffnaaa
