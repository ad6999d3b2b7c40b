/-
  Plain facts for the walk of the reference's flood: what the walk holds.
-/
import Derived.Test.YtgnkeecjaffnaaaProg
import Derived.Test.YtgnkeecjaffnaaaBase
import Derived.Test.YtgnkeecjaffnaaaRow
import Derived.Test.YtgnkeecjaffnaaaRowsOf
import Derived.Test.YtgnkeecjaffnaaaPc
import Derived.Test.YtgnkeecjaffnaaaPd
import Derived.Test.YtgnkeecjaffnaaaPfQ
import Derived.Test.YtgnkeecjaffnaaaPfV
namespace Go.Proofs.Ytgnkeecjaffnaaa
open Go.RowKit

/-- What the walk of the reference's flood holds: the boxes of the result, the run; the rows of the states, the facts. -/
structure RfI (w0 w : World) (b8 br : Nat) (vL vF : Value) (rows : List Value) (n nL nF : Nat) (L : Nat → Nat → Int) (F : Nat → Nat) : Prop where
  below : Below w0.heap.size w0 w
  h8 : Blk w b8 30 #[.slice none 0 0, .slice none 0 0]
  hr : Blk w br 30 #[vL, vF]
  ne : b8 ≠ br
  ge : w0.heap.size ≤ b8 ∧ w0.heap.size ≤ br
  oL : w.ownsRow w0.heap.size 38 1 vL nL rows
  oR : ∀ i, i < nL → ∃ rv, rows[i]? = some rv ∧ w.ownsRow w0.heap.size 3 1 rv n (i64L (L i) n)
  oF : w.ownsRow w0.heap.size 64 1 vF nF (u64L F nF)
section
variable {w0 w w1 : World} {b8 br : Nat} {vL vF : Value} {rows : List Value} {n nL nF : Nat} {L : Nat → Nat → Int} {F : Nat → Nat}
theorem RfI.keep (h : RfI w0 w b8 br vL vF rows n nL nF L F) (hb : Below w.heap.size w w1) : RfI w0 w1 b8 br vL vF rows n nL nF L F :=
  ⟨h.below.trans (hb.mono h.below.size), h.h8.below hb, h.hr.below hb, h.ne, h.ge, own_below h.oL hb (Nat.le_refl _), fun i hi => let ⟨rv, h1, h2⟩ := h.oR i hi; ⟨rv, h1, own_below h2 hb (Nat.le_refl _)⟩, own_below h.oF hb (Nat.le_refl _)⟩
/-- The run gets a row of states. -/
theorem RfI.local (h : RfI w0 w b8 br vL vF rows n nL nF L F) {vL' rv : Value} {o : Obj} (hrow : w.ownsRow w0.heap.size 3 1 rv n (i64L (L nL) n))
    (hown : w1.ownsRow w0.heap.size 38 1 vL' (nL + 1) (rows ++ [rv])) (hgrow : (w.alloc o).grownBy w1 vL.ownBlock) :
    RfI w0 (w1.setCell ⟨br, 0, none⟩ vL') b8 br vL' vF (rows ++ [rv]) n (nL + 1) nF L F ∧ Keeps w (w1.setCell ⟨br, 0, none⟩ vL') 3 := by
  have hlt := h.oL.lt
  have hsz : (w.alloc o).heap.size = w.heap.size + 1 := by simp
  have hlen := h.oL.1
  have hr1 := (h.hr.alloc o).kept hgrow (h.hr.ne_row h.oL (by decide))
  have h81 := (h.h8.alloc o).kept hgrow (h.h8.ne_row h.oL (by decide))
  refine ⟨⟨((h.below.alloc h.below.size o).grown hgrow (by have := h.below.size; omega) (fun k hk => (hlt k hk).1)).setCell (p := ⟨br, 0, none⟩) h.ge.2 _, h81.set_ne h.ne _ _, hr1.set 0 vL',
    h.ne, h.ge, own_set hown hr1 (by decide) _, fun i hi => ?_, own_set ((h.oF.alloc o).kept hgrow (own_ne h.oF h.oL (by decide))) hr1 (by decide) _⟩, ((Keeps.of_below (below_alloc w o) _).trans (Keeps.of_grown hgrow (own_alloc' h.oL o) (by decide))).trans (.of_set hr1 (by decide) _ _)⟩
  rcases Nat.lt_succ_iff_lt_or_eq.1 hi with h1 | rfl
  · obtain ⟨u, hu, hu2⟩ := h.oR i h1
    exact ⟨u, by rw [List.getElem?_append_left (by omega)]; exact hu, own_set ((hu2.alloc o).kept hgrow (own_ne hu2 h.oL (by decide))) hr1 (by decide) _⟩
  · exact ⟨rv, by rw [List.getElem?_append_right (by omega)]; simp [hlen], own_set ((hrow.alloc o).kept hgrow (own_ne hrow h.oL (by decide))) hr1 (by decide) _⟩
/-- The run gets its facts at a time. -/
theorem RfI.facts (h : RfI w0 w b8 br vL vF rows n nL nF L F) {vF' : Value} {o : Obj} (hown : w1.ownsRow w0.heap.size 64 1 vF' (nF + 1) (u64L F nF ++ [.int .u64 (F nF : Nat)])) (hgrow : (w.alloc o).grownBy w1 vF.ownBlock) :
    RfI w0 (w1.setCell ⟨br, 1, none⟩ vF') b8 br vL vF' rows n nL (nF + 1) L F ∧ Keeps w (w1.setCell ⟨br, 1, none⟩ vF') 3 := by
  have hlt := h.oF.lt
  have hsz : (w.alloc o).heap.size = w.heap.size + 1 := by simp
  have hr1 := (h.hr.alloc o).kept hgrow (h.hr.ne_row h.oF (by decide))
  have h81 := (h.h8.alloc o).kept hgrow (h.h8.ne_row h.oF (by decide))
  rw [← u64L_succ] at hown
  refine ⟨⟨((h.below.alloc h.below.size o).grown hgrow (by have := h.below.size; omega) (fun k hk => (hlt k hk).1)).setCell (p := ⟨br, 1, none⟩) h.ge.2 _, h81.set_ne h.ne _ _, hr1.set 1 vF',
    h.ne, h.ge, own_set ((h.oL.alloc o).kept hgrow (own_ne h.oL h.oF (by decide))) hr1 (by decide) _, fun i hi => ?_, own_set hown hr1 (by decide) _⟩, ((Keeps.of_below (below_alloc w o) _).trans (Keeps.of_grown hgrow (own_alloc' h.oF o) (by decide))).trans (.of_set hr1 (by decide) _ _)⟩
  obtain ⟨u, hu, hu2⟩ := h.oR i hi
  exact ⟨u, hu, own_set ((hu2.alloc o).kept hgrow (own_ne hu2 h.oF (by decide))) hr1 (by decide) _⟩
/-- What is left at the end: the result's box is written; the run is owned. -/
theorem RfI.done {k : Nat} (h : RfI w0 w b8 br vL vF rows n k k L F) (u0 u1 : Value) :
    RunO ((w.setCell ⟨b8, 0, none⟩ u0).setCell ⟨b8, 1, none⟩ u1) w0.heap.size (.agg #[vL, vF]) k (fun _ => n) L k F ∧ Below w0.heap.size w0 ((w.setCell ⟨b8, 0, none⟩ u0).setCell ⟨b8, 1, none⟩ u1) := by
  have h81 := h.h8.set 0 u0
  have hB := (h.below.setCell (p := ⟨b8, 0, none⟩) h.ge.1 u0).setCell (p := ⟨b8, 1, none⟩) h.ge.1 u1
  refine ⟨⟨vL, vF, rows, rfl, own_set (k := 1) (own_set (k := 0) h.oL h.h8 (by decide) u0) h81 (by decide) u1, fun i hi => ?_, own_set (k := 1) (own_set (k := 0) h.oF h.h8 (by decide) u0) h81 (by decide) u1⟩, hB⟩
  obtain ⟨rv, h1, h2⟩ := h.oR i hi
  exact ⟨rv, h1, own_set (k := 1) (own_set (k := 0) h2 h.h8 (by decide) u0) h81 (by decide) u1⟩
end

/-- Rows made since B are kept by an append onto what is older. -/
theorem own_grown_ge {w w1 : World} {B e sz n : Nat} {v : Value} {xs : List Value} {row : Option Nat} (h : w.ownsRow B e sz v n xs) (hg : w.grownBy w1 row) (hlt : ∀ k, row = some k → k < B) : w1.ownsRow B e sz v n xs := by
  refine ⟨h.1, ?_⟩
  rcases h.2 with h' | ⟨g, cap, cur, hv, hge, hh, r⟩
  · exact .inl h'
  · exact .inr ⟨g, cap, cur, hv, hge, (hg.block g (Array.getElem?_eq_some_iff.1 hh).1 (fun e => by have := hlt g e.symm; omega)).trans hh, r⟩
theorem own_set_ge {w : World} {B e sz n b k : Nat} {v : Value} {xs : List Value} (h : w.ownsRow B e sz v n xs) (hb : b < B) (x : Value) : (w.setCell ⟨b, k, none⟩ x).ownsRow B e sz v n xs :=
  own_grown_ge h (gr_set w b k x) (fun j e => by cases e; exact hb)
/-- What is known is kept when the run grows. -/
theorem KnO.grown {w w1 : World} {B x n m b k : Nat} {v vL : Value} {kb : Nat → Nat} {o : Obj} (h : KnO w B v x n m kb) (hg : (w.alloc o).grownBy w1 vL.ownBlock) (hlt : ∀ k, vL.ownBlock = some k → k < B) (hb : b < B) (u : Value) : KnO (w1.setCell ⟨b, k, none⟩ u) B v x n m kb := by
  obtain ⟨rows, ho, hr⟩ := h
  exact ⟨rows, own_set_ge (own_grown_ge (own_alloc' ho o) hg hlt) hb u, fun i hi => let ⟨rv, e, h⟩ := hr i hi; ⟨rv, e, own_set_ge (own_grown_ge (own_alloc' h o) hg hlt) hb u⟩⟩
theorem KnO.mono {w : World} {B B' x n m : Nat} {v : Value} {kb : Nat → Nat} (h : KnO w B v x n m kb) (hb : B' ≤ B) : KnO w B' v x n m kb := by
  obtain ⟨rows, ho, hr⟩ := h
  exact ⟨rows, own_mono' ho hb, fun i hi => let ⟨rv, e, h⟩ := hr i hi; ⟨rv, e, own_mono' h hb⟩⟩
end Go.Proofs.Ytgnkeecjaffnaaa
