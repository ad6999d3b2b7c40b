/-
  Contract of slices.Sort at []int, in this seat's words.
-/
import Derived.Test.YtiifmdgcnpdibaaDoorProg
import Derived.Test.YtiifmdgcnpdibaaDoorBase
import Derived.Test.YtiifmdgcnpdibaaDoorRow
import Derived.Test.YtiifmdgcnpdibaaDoorRowsOf
import Derived.Test.YtiifmdgcnpdibaaDoorRkP
import Derived.Test.YtiifmdgcnpdibaaDoorShelf
import Derived.Sort.OwnSortedInts
import Derived.Lib.SlBuf
namespace Go.Proofs.YtiifmdgcnpdibaaDoor
open Go.RowKit

theorem I64s.head {w : World} {A : Option Addr} {n : Nat} {f : Nat → Int} (h : I64s w A n f) (hn : 0 < n) :
    ∃ b off, A = some ⟨b, off, none⟩ ∧ ∀ k, k < n → w.cell? ⟨b, off + k, none⟩ = some (.int .i64 (f k)) := by
  obtain ⟨b, off, rfl, _⟩ := h 0 hn
  refine ⟨b, off, rfl, fun k hk => ?_⟩
  obtain ⟨b', off', e, h1, h2⟩ := h k hk
  injection e with e; injection e with e1 e2; subst e1 e2
  exact h1
def intL (l : List Int) : List Value := l.map (Value.int .i64)
/-- The slice at g, of n ints, is the call's own. -/
def OwnZ (base : Nat) (w : World) (g cap : Nat) (l : List Int) : Prop := w.ownsRow base 3 1 (.slice (some ⟨g, 0, none⟩) l.length cap) l.length (intL l)
theorem OwnZ.parts {base g cap : Nat} {w : World} {l : List Int} (h : OwnZ base w g cap l) : ∃ cur, base ≤ g ∧ g < w.heap.size ∧ w.heap[g]? = some (.cells cur 3 (0, 0)) ∧ l.length ≤ cap ∧ cap ≤ maxLen ∧ cur.size = cap * 1 ∧ cur.toList.take l.length = intL l := by
  rcases h.2 with ⟨h0, _⟩ | ⟨g', cap', cur, hv, hg, hh, h1, h2, h3, h4⟩
  · cases h0
  · injection hv with hv1 _ hv3
    injection hv1 with hv1
    injection hv1 with hv1
    subst hv1 hv3
    exact ⟨cur, hg, (Array.getElem?_eq_some_iff.1 hh).1, hh, h1, h2, h3, by rw [Nat.mul_one] at h4; exact h4⟩
theorem OwnZ.cell {base g cap k : Nat} {w : World} {l : List Int} (h : OwnZ base w g cap l) (hk : k < l.length) : w.cell? ⟨g, k, none⟩ = some (.int .i64 (l.getD k 0)) ∧ w.frozen? ⟨g, k, none⟩ = false := by
  obtain ⟨cur, _, _, hh, _, _, _, h4⟩ := h.parts
  have := holds_of_blockI hh h4 k (by simpa using hk)
  rw [Nat.zero_add] at this
  refine ⟨by rw [this.1]; simp [hk], this.2⟩
theorem sort_any {w0 w : World} {g cap : Nat} {l : List Int} (hb : Below w0.heap.size w0 w) (h : OwnZ w0.heap.size w g cap l) (hl : l.length ≤ 65536) :
    Calls Tryd.prog 64 #[.slice (some ⟨g, 0, none⟩) l.length cap] w fun e w' => e = .returned (.tuple #[]) ∧ OwnZ w0.heap.size w' g cap (sortZ l) ∧ Below w0.heap.size w0 w' := by
  obtain ⟨cur, hg, hgs, hh, h1, h2, h3, h4⟩ := h.parts
  refine (Tryd.slices_Sort_int g 0 cap l w (holds_of_blockI hh h4) hgs (by omega)).mono ?_
  rintro e w' ⟨rfl, m, os, rfl⟩
  have hlen : (sortZ l).length = l.length := (sortZ_perm l).length_eq
  have ho := ownsRow_sortedI (n := m) (os := os) (ts := sortZ l) hlen hg hh h1 h2 h3
  have hgr := grownBy_sortedI (w := w) (g := g) (n := m) (os := os) (sortZ l).toArray
  refine ⟨rfl, ?_, hb.grown hgr hb.size (fun k hk => by injection hk with hk; subst hk; exact hg)⟩
  unfold OwnZ
  rw [hlen]
  exact ho
end Go.Proofs.YtiifmdgcnpdibaaDoor
