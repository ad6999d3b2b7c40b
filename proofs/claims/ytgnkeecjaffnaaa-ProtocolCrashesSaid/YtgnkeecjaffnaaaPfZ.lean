/-
  Plain facts for the walk of the reference's flood: the next rows of what is known, while the run grows.
-/
import Derived.Test.YtgnkeecjaffnaaaProg
import Derived.Test.YtgnkeecjaffnaaaBase
import Derived.Test.YtgnkeecjaffnaaaRow
import Derived.Test.YtgnkeecjaffnaaaRowsOf
import Derived.Test.YtgnkeecjaffnaaaPc
import Derived.Test.YtgnkeecjaffnaaaPd
import Derived.Test.YtgnkeecjaffnaaaPfA
import Derived.Test.YtgnkeecjaffnaaaPfV
import Derived.Test.YtgnkeecjaffnaaaPfX
namespace Go.Proofs.Ytgnkeecjaffnaaa
open Go.RowKit

/-- Rows of what is known whose outer slice is younger than B'. -/
def KnQ (w : World) (B' B : Nat) (v : Value) (x n m : Nat) (kb : Nat → Nat) : Prop :=
  ∃ rows, w.ownsRow B' 38 1 v m rows ∧ ∀ i, i < m → ∃ rv, rows[i]? = some rv ∧ w.ownsRow B 3 1 rv n (i64L (fun k => (kvN x (kb i) k : Int)) n)
section
variable {w w1 : World} {B' B : Nat} {v v' : Value} {x n m : Nat} {kb : Nat → Nat}
theorem KnQ.nil (w : World) (B' B x n : Nat) (kb : Nat → Nat) : KnQ w B' B (.slice none 0 0) x n 0 kb := ⟨[], World.ownsRow_nil _ _ _ _, fun _ h => absurd h (Nat.not_lt_zero _)⟩
theorem KnQ.below (h : KnQ w B' B v x n m kb) (hb : Below w.heap.size w w1) : KnQ w1 B' B v x n m kb := by
  obtain ⟨rows, ho, hr⟩ := h
  exact ⟨rows, own_below ho hb (Nat.le_refl _), fun i hi => let ⟨rv, e, h⟩ := hr i hi; ⟨rv, e, own_below h hb (Nat.le_refl _)⟩⟩
theorem KnQ.weak (h : KnQ w B' B v x n m kb) (hb : B ≤ B') : KnO w B v x n m kb := by
  obtain ⟨rows, ho, hr⟩ := h
  exact ⟨rows, own_mono' ho hb, hr⟩
theorem KnQ.push {rows : List Value} {rv : Value} {o : Obj} (ho : w.ownsRow B' 38 1 v m rows) (hr : ∀ i, i < m → ∃ rv, rows[i]? = some rv ∧ w.ownsRow B 3 1 rv n (i64L (fun k => (kvN x (kb i) k : Int)) n))
    (hrow : w.ownsRow B 3 1 rv n (i64L (fun k => (kvN x (kb m) k : Int)) n)) (hown : w1.ownsRow B' 38 1 v' (m + 1) (rows ++ [rv])) (hg : (w.alloc o).grownBy w1 v.ownBlock) :
    KnQ w1 B' B v' x n (m + 1) kb := by
  have K : Keeps w w1 3 := (Keeps.of_below (below_alloc w o) _).trans (Keeps.of_grown hg (own_alloc' ho o) (by decide))
  have hlen := ho.1
  refine ⟨rows ++ [rv], hown, fun i hi => ?_⟩
  rcases Nat.lt_succ_iff_lt_or_eq.1 hi with h1 | rfl
  · obtain ⟨u, hu, hu2⟩ := hr i h1
    exact ⟨u, by rw [List.getElem?_append_left (by omega)]; exact hu, own_keeps hu2 K⟩
  · exact ⟨rv, by rw [List.getElem?_append_right (by omega)]; simp [hlen], own_keeps hrow K⟩
/-- .. kept while the run gets a row of states. -/
theorem KnQ.local {vL u : Value} {b k : Nat} {o : Obj} (h : KnQ w B' B v x n m kb) (hg : (w.alloc o).grownBy w1 vL.ownBlock) (hlt : ∀ k, vL.ownBlock = some k → k < B') (hb : b < B') (hk : Keeps w (w1.setCell ⟨b, k, none⟩ u) 3) :
    KnQ (w1.setCell ⟨b, k, none⟩ u) B' B v x n m kb := by
  obtain ⟨rows, ho, hr⟩ := h
  exact ⟨rows, own_set_ge (own_grown_ge (own_alloc' ho o) hg hlt) hb u, fun i hi => let ⟨rv, e, h⟩ := hr i hi; ⟨rv, e, own_keeps h hk⟩⟩
theorem KnO.at {base b c i : Nat} (h : KnO w base (.slice (some ⟨b, 0, none⟩) m c) x n m kb) (hi : i < m) : ∃ rv, w.cell? ⟨b, i, none⟩ = some rv ∧ w.ownsRow base 3 1 rv n (i64L (fun k => (kvN x (kb i) k : Int)) n) := by
  obtain ⟨A, c', b', rv, e, e2, hc, ho⟩ := h.row hi
  subst e2
  cases e
  exact ⟨rv, hc, ho⟩
theorem CrS.at {b off N i : Nat} {rd tv : Nat → Int} (h : CrS w (some ⟨b, off, none⟩) N rd tv) (hi : i < N) : w.cell? ⟨b, off + i * 2, none⟩ = some (.int .i64 (rd i)) ∧ w.cell? ⟨b, off + i * 2 + 1, none⟩ = some (.int .i64 (tv i)) := by
  obtain ⟨b', o', e, c1, c2, -⟩ := h i hi
  cases e
  exact ⟨c1, c2⟩
end
end Go.Proofs.Ytgnkeecjaffnaaa
