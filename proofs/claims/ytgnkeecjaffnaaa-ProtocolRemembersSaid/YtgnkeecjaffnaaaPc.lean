/-
  Plain facts for the walks: blocks of the call's own that are known whole (boxes); rows of ints; runs and systems, read.
-/
import Derived.Test.YtgnkeecjaffnaaaProg
import Derived.Test.YtgnkeecjaffnaaaBase
import Derived.Test.YtgnkeecjaffnaaaRow
import Derived.Test.YtgnkeecjaffnaaaRowsOf
import Derived.Deep.AppendLies
import Derived.Lib.BufferWrite
namespace Go.Proofs.Ytgnkeecjaffnaaa
open Go.RowKit

/-! ### boxes -/
/-- A block whose cells are known. -/
def Blk (w : World) (b : Nat) (T : TypeId) (xs : Array Value) : Prop := w.heap[b]? = some (.cells xs T (0, 0))
theorem Blk.new (w : World) (xs : Array Value) (T : TypeId) : Blk (w.alloc (.cells xs T)) w.heap.size T xs := heap_alloc_new w _
theorem Blk.lt {w : World} {b : Nat} {T : TypeId} {xs : Array Value} (h : Blk w b T xs) : b < w.heap.size := (Array.getElem?_eq_some_iff.1 h).1
theorem Blk.kept {w w1 : World} {b : Nat} {T : TypeId} {xs : Array Value} {row : Option Nat} (h : Blk w b T xs) (hg : w.grownBy w1 row) (hne : row ≠ some b) : Blk w1 b T xs :=
  (hg.block b h.lt (fun e => hne e.symm)).trans h
theorem Blk.below {w w1 : World} {b : Nat} {T : TypeId} {xs : Array Value} (h : Blk w b T xs) (hb : Below w.heap.size w w1) : Blk w1 b T xs := (hb.block b h.lt).trans h
theorem Blk.alloc {w : World} {b : Nat} {T : TypeId} {xs : Array Value} (h : Blk w b T xs) (o : Obj) : Blk (w.alloc o) b T xs := h.below (below_alloc w o)
theorem Blk.cell {w : World} {b k : Nat} {T : TypeId} {xs : Array Value} {v : Value} (h : Blk w b T xs) (hk : xs[k]? = some v) : w.cell? ⟨b, k, none⟩ = some v := by
  rw [cell_of_row w b k xs T (0, 0) h]; exact hk
theorem Blk.frozen {w : World} {b k : Nat} {T : TypeId} {xs : Array Value} (h : Blk w b T xs) : w.frozen? ⟨b, k, none⟩ = false := by
  simp [World.frozen?, show w.heap[b]? = _ from h]
theorem Blk.set {w : World} {b : Nat} {T : TypeId} {xs : Array Value} (h : Blk w b T xs) (k : Nat) (v : Value) : Blk (w.setCell ⟨b, k, none⟩ v) b T (xs.setIfInBounds k v) := Lib.heap_setCell_same h v
theorem Blk.ne_row {w : World} {b base e n : Nat} {T : TypeId} {xs : Array Value} {v : Value} {ys : List Value} (h : Blk w b T xs) (hr : w.ownsRow base e 1 v n ys) (hT : T ≠ e) : v.ownBlock ≠ some b := by
  rcases hr.2 with ⟨rfl, _⟩ | ⟨g, cap, cur, rfl, _, hgb, _⟩
  · simp [Value.ownBlock]
  · intro e'
    obtain rfl : g = b := by simpa [Value.ownBlock] using e'
    have := (show w.heap[g]? = _ from h).symm.trans hgb
    simp at this
    exact hT this.2
theorem Blk.ne {w : World} {b b' : Nat} {T T' : TypeId} {xs xs' : Array Value} (h : Blk w b T xs) (h' : Blk w b' T' xs') (hT : T ≠ T') : b ≠ b' := by
  intro e; subst e
  have := (show w.heap[b]? = _ from h).symm.trans h'
  simp at this
  exact hT this.2
theorem gr_below {w w1 : World} (hb : Below w.heap.size w w1) (row : Option Nat) : w.grownBy w1 row := ⟨hb.os, hb.tape, hb.output, hb.size, fun k hk _ => hb.block k hk⟩
theorem gr_set (w : World) (b k : Nat) (v : Value) : w.grownBy (w.setCell ⟨b, k, none⟩ v) (some b) := Lib.grownBy_setCell w b k v
theorem own_set {w : World} {base e n b k : Nat} {v : Value} {xs : List Value} {T : TypeId} {cs : Array Value} (h : w.ownsRow base e 1 v n xs) (hb : Blk w b T cs) (hT : T ≠ e) (x : Value) : (w.setCell ⟨b, k, none⟩ x).ownsRow base e 1 v n xs :=
  h.kept (gr_set w b k x) (.inr (hb.ne_row h hT))
theorem Blk.set_ne {w : World} {b b' : Nat} {T : TypeId} {xs : Array Value} (h : Blk w b T xs) (hne : b ≠ b') (k : Nat) (v : Value) : Blk (w.setCell ⟨b', k, none⟩ v) b T xs :=
  h.kept (gr_set w b' k v) (fun e => hne (by injection e with e; exact e.symm))
/-- A slice of the call's own with one element, laid by a composite. -/
theorem own_one {w : World} {base e b : Nat} {x : Value} (h : Blk w b e #[x]) (hb : base ≤ b) : w.ownsRow base e 1 (.slice (some ⟨b, 0, none⟩) 1 1) 1 [x] :=
  ⟨rfl, .inr ⟨b, 1, #[x], rfl, hb, h, Nat.le_refl _, by decide, rfl, rfl⟩⟩

/-! ### ints that a call owns -/
def i64L (f : Nat → Int) (n : Nat) : List Value := (List.range n).map fun u => .int .i64 (f u)
theorem i64L_succ (f : Nat → Int) (n : Nat) : i64L f (n + 1) = i64L f n ++ [.int .i64 (f n)] := by
  unfold i64L; rw [List.range_succ, List.map_append]; rfl
theorem i64L_get {f : Nat → Int} {n k : Nat} (h : k < n) : (i64L f n)[k]? = some (.int .i64 (f k)) := by
  unfold i64L; simp [h]
theorem i64L_congr {f g : Nat → Int} {n : Nat} (h : ∀ k, k < n → f k = g k) : i64L f n = i64L g n := by
  unfold i64L
  refine List.map_congr_left fun k hk => ?_
  rw [h k (List.mem_range.1 hk)]
theorem own_i64s {w : World} {base e n : Nat} {v : Value} {f : Nat → Int} (h : w.ownsRow base e 1 v n (i64L f n)) (hf : ∀ u, u < n → -9223372036854775808 ≤ f u ∧ f u ≤ 9223372036854775807) :
    ∃ A c, v = .slice A n c ∧ I64s w A n f := by
  obtain ⟨A, c, rfl, hA⟩ := own_form h
  refine ⟨A, c, rfl, fun k hk => ?_⟩
  obtain ⟨b, rfl, _, _, hc⟩ := hA k hk
  exact ⟨b, 0, rfl, by rw [hc, i64L_get hk], hf k hk⟩

/-! ### rows of ints, runs, systems -/
/-- A slice of slices of ints, read. -/
def MatI (w : World) (A : Option Addr) (n : Nat) (R : Nat → Option Addr) (m c : Nat → Nat) (F : Nat → Nat → Int) : Prop :=
  ∀ i, i < n → ∃ b off, A = some ⟨b, off, none⟩ ∧ w.cell? ⟨b, off + i, none⟩ = some (.slice (R i) (m i) (c i)) ∧ m i ≤ 9223372036854775807 ∧ I64s w (R i) (m i) (F i)
theorem MatI.below {w w' : World} {A : Option Addr} {n : Nat} {R : Nat → Option Addr} {m c : Nat → Nat} {F : Nat → Nat → Int} (h : MatI w A n R m c F) (hb : Below w.heap.size w w') : MatI w' A n R m c F := fun k hk =>
  let ⟨b, off, e, hc, hm, hr⟩ := h k hk; ⟨b, off, e, cell_below hb hc, hm, hr.below hb⟩
/-- A run, read: n times, m agents (for a run in which all times have so many), the states and the facts. -/
def RunR (w : World) (v : Value) (n : Nat) (m : Nat → Nat) (L : Nat → Nat → Int) (k : Nat) (F : Nat → Nat) : Prop :=
  ∃ A c B d R cc, v = .agg #[.slice A n c, .slice B k d] ∧ MatI w A n R m cc L ∧ U64s w B k F
theorem RunR.below {w w' : World} {v : Value} {n k : Nat} {m : Nat → Nat} {L : Nat → Nat → Int} {F : Nat → Nat} (h : RunR w v n m L k F) (hb : Below w.heap.size w w') : RunR w' v n m L k F := by
  obtain ⟨A, c, B, d, R, cc, e, h1, h2⟩ := h
  exact ⟨A, c, B, d, R, cc, e, h1.below hb, h2.below hb⟩
end Go.Proofs.Ytgnkeecjaffnaaa
