/-
  Contracts of slices.Clone, Sort, Compact, Index at []int, in this seat's words.
-/
import Derived.Test.YtlcojpopngdigaaDoorProg
import Derived.Test.YtlcojpopngdigaaDoorBase
import Derived.Test.YtlcojpopngdigaaDoorRow
import Derived.Test.YtlcojpopngdigaaDoorRowsOf
import Derived.Test.YtlcojpopngdigaaDoorRkP
import Derived.Test.YtlcojpopngdigaaDoorShelf
import Derived.Sort.OwnSortedInts
import Derived.Lib.SlBuf
namespace Go.Proofs.YtlcojpopngdigaaDoor
open Go.RowKit

theorem I64s.head {w : World} {A : Option Addr} {n : Nat} {f : Nat → Int} (h : I64s w A n f) (hn : 0 < n) :
    ∃ b off, A = some ⟨b, off, none⟩ ∧ ∀ k, k < n → w.cell? ⟨b, off + k, none⟩ = some (.int .i64 (f k)) := by
  obtain ⟨b, off, rfl, _⟩ := h 0 hn
  refine ⟨b, off, rfl, fun k hk => ?_⟩
  obtain ⟨b', off', e, h1, h2⟩ := h k hk
  injection e with e; injection e with e1 e2; subst e1 e2
  exact h1
def intL (l : List Int) : List Value := l.map (Value.int .i64)
/-- The slice at g, of n ints, is the call's own. -/
def OwnZ (base : Nat) (w : World) (g cap : Nat) (l : List Int) : Prop := w.ownsRow base 3 1 (.slice (some ⟨g, 0, none⟩) l.length cap) l.length (intL l)
theorem OwnZ.parts {base g cap : Nat} {w : World} {l : List Int} (h : OwnZ base w g cap l) : ∃ cur, base ≤ g ∧ g < w.heap.size ∧ w.heap[g]? = some (.cells cur 3 (0, 0)) ∧ l.length ≤ cap ∧ cap ≤ maxLen ∧ cur.size = cap * 1 ∧ cur.toList.take l.length = intL l := by
  rcases h.2 with ⟨h0, _⟩ | ⟨g', cap', cur, hv, hg, hh, h1, h2, h3, h4⟩
  · cases h0
  · injection hv with hv1 _ hv3
    injection hv1 with hv1
    injection hv1 with hv1
    subst hv1 hv3
    exact ⟨cur, hg, (Array.getElem?_eq_some_iff.1 hh).1, hh, h1, h2, h3, by rw [Nat.mul_one] at h4; exact h4⟩
theorem OwnZ.cell {base g cap k : Nat} {w : World} {l : List Int} (h : OwnZ base w g cap l) (hk : k < l.length) : w.cell? ⟨g, k, none⟩ = some (.int .i64 (l.getD k 0)) ∧ w.frozen? ⟨g, k, none⟩ = false := by
  obtain ⟨cur, _, _, hh, _, _, _, h4⟩ := h.parts
  have := holds_of_blockI hh h4 k (by simpa using hk)
  rw [Nat.zero_add] at this
  refine ⟨by rw [this.1]; simp [hk], this.2⟩
theorem clone_any (A : Option Addr) (n c : Nat) (f : Nat → Int) (w : World) (hx : I64s w A n f) (hn : 0 < n) (hn16 : n ≤ 65536) :
    Calls Tryd.prog 17 #[.slice A n c] w fun e w' => ∃ g cap, e = .returned (.slice (some ⟨g, 0, none⟩) n cap) ∧ OwnZ w.heap.size w' g cap (zsOf f n) ∧ Below w.heap.size w w' := by
  obtain ⟨b, off, rfl, hc⟩ := hx.head hn
  refine (Tryd.slices_Clone_int b off n c (zsOf f n) w (by rw [zsOf_length]; exact Nat.le_refl _) (by omega) (fun j hj => by rw [zsOf_length] at hj; rw [hc j hj, zsOf_getD hj])).mono ?_
  rintro e w' ⟨v', rfl, hown, hne, hbl⟩
  rw [show (zsOf f n).take n = zsOf f n by rw [List.take_of_length_le (by rw [zsOf_length]; exact Nat.le_refl _)]] at hown
  rcases hown.2 with ⟨h0, _⟩ | ⟨g, cap, cur, rfl, _⟩
  · exact absurd h0 hne
  · refine ⟨g, cap, rfl, ?_, hbl⟩
    unfold OwnZ
    rw [zsOf_length]
    exact hown
theorem sort_any {w0 w : World} {g cap : Nat} {l : List Int} (hb : Below w0.heap.size w0 w) (h : OwnZ w0.heap.size w g cap l) (hl : l.length ≤ 65536) :
    Calls Tryd.prog 18 #[.slice (some ⟨g, 0, none⟩) l.length cap] w fun e w' => e = .returned (.tuple #[]) ∧ OwnZ w0.heap.size w' g cap (sortZ l) ∧ Below w0.heap.size w0 w' := by
  obtain ⟨cur, hg, hgs, hh, h1, h2, h3, h4⟩ := h.parts
  refine (Tryd.slices_Sort_int g 0 cap l w (holds_of_blockI hh h4) hgs (by omega)).mono ?_
  rintro e w' ⟨rfl, m, os, rfl⟩
  have hlen : (sortZ l).length = l.length := (sortZ_perm l).length_eq
  have ho := ownsRow_sortedI (n := m) (os := os) (ts := sortZ l) hlen hg hh h1 h2 h3
  have hgr := grownBy_sortedI (w := w) (g := g) (n := m) (os := os) (sortZ l).toArray
  refine ⟨rfl, ?_, hb.grown hgr hb.size (fun k hk => by injection hk with hk; subst hk; exact hg)⟩
  unfold OwnZ
  rw [hlen]
  exact ho
theorem compact_any {w0 w : World} {g cap : Nat} {l : List Int} (hb : Below w0.heap.size w0 w) (h : OwnZ w0.heap.size w g cap l) (hl : l.length ≤ 65536) :
    Calls Tryd.prog 19 #[.slice (some ⟨g, 0, none⟩) l.length cap] w fun e w' => e = .returned (.slice (some ⟨g, 0, none⟩) (Lib.compact l).length cap) ∧ (∀ k, k < (Lib.compact l).length → w'.cell? ⟨g, 0 + k, none⟩ = some (.int .i64 ((Lib.compact l).getD k 0))) ∧ Below w0.heap.size w0 w' := by
  obtain ⟨cur, hg, hgs, hh, h1, h2, h3, h4⟩ := h.parts
  refine (Tryd.slices_Compact_int_cells g 0 l.length cap l w (Nat.le_refl _) (by omega) h1 (fun j hj => by rw [Nat.zero_add]; exact (h.cell hj).1) (fun j hj => by rw [Nat.zero_add]; exact (h.cell hj).2)).mono ?_
  rintro e w' ⟨rfl, q, rfl⟩
  rw [List.take_of_length_le (Nat.le_refl _)]
  have hle := Lib.compact_length_le l
  refine ⟨rfl, fun k hk => ?_, ?_⟩
  · rw [World.cell?_setCells_in _ _ _ _ (fun j hj => ?_) k (by simp; omega)]
    · simp [hk]
    · simp at hj
      have := (h.cell (k := j) (by omega)).1
      show (w.cell? ⟨g, 0 + j, none⟩).isSome = true
      rw [Nat.zero_add, this]; rfl
  · exact Lib.below_setCells _ hg _ _ (below_drewN hb q)
theorem index_z (b m c : Nat) (l : List Int) (x : Int) (w : World) (hm : m = l.length) (hl : l.length ≤ 65536) (hc : ∀ k, k < l.length → w.cell? ⟨b, 0 + k, none⟩ = some (.int .i64 (l.getD k 0))) :
    Calls Tryd.prog 20 #[.slice (some ⟨b, 0, none⟩) m c, .int .i64 x] w fun e w' => e = .returned (.int .i64 (Lib.idxOf l x)) ∧ w = w' := by
  subst hm
  refine (Tryd.slices_Index_int b 0 l.length c l x w (Nat.le_refl _) (by omega) hc).mono ?_
  rintro e w' ⟨rfl, rfl⟩
  rw [List.take_of_length_le (Nat.le_refl _)]
  exact ⟨rfl, rfl⟩
end Go.Proofs.YtlcojpopngdigaaDoor
