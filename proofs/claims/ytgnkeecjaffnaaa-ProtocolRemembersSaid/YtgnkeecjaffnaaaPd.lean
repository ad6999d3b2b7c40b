/-
  Plain facts for the walks: what a call owns, whatever an element's size; runs and lists of runs that a call has made.
-/
import Derived.Test.YtgnkeecjaffnaaaProg
import Derived.Test.YtgnkeecjaffnaaaBase
import Derived.Test.YtgnkeecjaffnaaaRow
import Derived.Test.YtgnkeecjaffnaaaRowsOf
import Derived.Test.YtgnkeecjaffnaaaPc
namespace Go.Proofs.Ytgnkeecjaffnaaa
open Go.RowKit

section
variable {w w1 : World} {base base' e e' sz sz' n n' : Nat} {v v' : Value} {xs xs' : List Value} {T : TypeId} {b : Nat} {cs : Array Value}
theorem own_ne' (h : w.ownsRow base e sz v n xs) (h' : w.ownsRow base' e' sz' v' n' xs') (hne : e ≠ e') : v.ownBlock = none ∨ v.ownBlock ≠ v'.ownBlock := by
  rcases h.2 with ⟨rfl, _⟩ | ⟨g, cap, cur, rfl, _, hh, _⟩
  · exact .inl rfl
  · refine .inr ?_
    rcases h'.2 with ⟨rfl, _⟩ | ⟨g', cap', cur', rfl, _, hh', _⟩
    · simp [Value.ownBlock]
    · intro he
      have : g = g' := by simpa [Value.ownBlock] using he
      subst this
      rw [hh] at hh'
      injection hh' with hh'
      injection hh' with _ ht
      exact hne ht
theorem own_below' {B : Nat} (h : w.ownsRow base e sz v n xs) (hb : Below B w w1) (hB : w.heap.size ≤ B) : w1.ownsRow base e sz v n xs := by
  refine ⟨h.1, ?_⟩
  rcases h.2 with h' | ⟨g, cap, cur, hv, hg, hh, r⟩
  · exact .inl h'
  · exact .inr ⟨g, cap, cur, hv, hg, (hb.block g (by have := (Array.getElem?_eq_some_iff.1 hh).1; omega)).trans hh, r⟩
theorem own_mono' (h : w.ownsRow base e sz v n xs) (hb : base' ≤ base) : w.ownsRow base' e sz v n xs := by
  refine ⟨h.1, ?_⟩
  rcases h.2 with h' | ⟨g, cap, cur, hv, hg, r⟩
  · exact .inl h'
  · exact .inr ⟨g, cap, cur, hv, Nat.le_trans hb hg, r⟩
theorem Blk.ne_row' (h : Blk w b T cs) (hr : w.ownsRow base e sz v n xs) (hT : T ≠ e) : v.ownBlock ≠ some b := by
  rcases hr.2 with ⟨rfl, _⟩ | ⟨g, cap, cur, rfl, _, hgb, _⟩
  · simp [Value.ownBlock]
  · intro e'
    obtain rfl : g = b := by simpa [Value.ownBlock] using e'
    have := (show w.heap[g]? = _ from h).symm.trans hgb
    simp at this
    exact hT this.2
theorem own_set' (h : w.ownsRow base e sz v n xs) (hb : Blk w b T cs) (hT : T ≠ e) (k : Nat) (x : Value) : (w.setCell ⟨b, k, none⟩ x).ownsRow base e sz v n xs :=
  h.kept (gr_set w b k x) (.inr (hb.ne_row' h hT))
theorem own_alloc' (h : w.ownsRow base e sz v n xs) (o : Obj) : (w.alloc o).ownsRow base e sz v n xs := own_below' h (below_alloc w o) (Nat.le_refl _)
theorem own_form' (h : w.ownsRow base e sz v n xs) : ∃ A c, v = .slice A n c ∧ ∀ k, k < n * sz → ∃ b, A = some ⟨b, 0, none⟩ ∧ base ≤ b ∧ b < w.heap.size ∧ w.cell? ⟨b, k, none⟩ = xs[k]? := by
  rcases h.2 with ⟨rfl, rfl⟩ | ⟨g, cap, cur, rfl, hg, hh, _, _, _, htake⟩
  · exact ⟨none, 0, rfl, fun k hk => by omega⟩
  · refine ⟨some ⟨g, 0, none⟩, cap, rfl, fun k hk => ⟨g, rfl, hg, (Array.getElem?_eq_some_iff.1 hh).1, ?_⟩⟩
    rw [cell_of_row w g k cur e (0, 0) hh, ← htake, List.getElem?_take, if_pos hk]
    simp
/-- The blocks of a type are as they were. -/
def Keeps (w w1 : World) (T : TypeId) : Prop := ∀ b cs, Blk w b T cs → Blk w1 b T cs
theorem Keeps.refl (w : World) (T : TypeId) : Keeps w w T := fun _ _ h => h
theorem Keeps.trans {w2 : World} (h : Keeps w w1 T) (h' : Keeps w1 w2 T) : Keeps w w2 T := fun b cs hb => h' b cs (h b cs hb)
theorem Keeps.of_below (hb : Below w.heap.size w w1) (T : TypeId) : Keeps w w1 T := fun _ _ h => h.below hb
theorem Keeps.of_set {T' : TypeId} {cs' : Array Value} (hb : Blk w b T' cs') (hT : T ≠ T') (k : Nat) (x : Value) : Keeps w (w.setCell ⟨b, k, none⟩ x) T := fun _ _ h => h.set_ne (h.ne hb hT) k x
theorem Keeps.of_grown (hg : w.grownBy w1 v.ownBlock) (hr : w.ownsRow base e sz v n xs) (hT : T ≠ e) : Keeps w w1 T := fun _ _ h => h.kept hg (h.ne_row' hr hT)
theorem own_keeps (h : w.ownsRow base e sz v n xs) (hk : Keeps w w1 e) : w1.ownsRow base e sz v n xs := by
  refine ⟨h.1, ?_⟩
  rcases h.2 with h' | ⟨g, cap, cur, hv, hg, hh, r⟩
  · exact .inl h'
  · exact .inr ⟨g, cap, cur, hv, hg, hk g cur hh, r⟩
end

theorem below_drew {B : Nat} {a w : World} (h : Below B a w) : Below B a w.drew := ⟨h.os, h.tape, h.output, h.size, h.block⟩
theorem below_trans {w x y : World} (h : Below w.heap.size w x) (h2 : Below x.heap.size x y) : Below w.heap.size w y := h.trans (h2.mono h.size)
theorem below_more {w x : World} (h : Below w.heap.size w x) (o : Obj) : Below w.heap.size w (x.alloc o) := h.alloc h.size o
theorem below_grow {w x y : World} {e sz n : Nat} {v : Value} {xs : List Value} (h : Below w.heap.size w x) (hown : x.ownsRow w.heap.size e sz v n xs) (hg : x.grownBy y v.ownBlock) : Below w.heap.size w y := h.grown hg h.size (fun k hk => (hown.lt k hk).1)
theorem own_from {w x y : World} {e sz n : Nat} {v : Value} {xs : List Value} (h : Below w.heap.size w x) (hown : y.ownsRow x.heap.size e sz v n xs) : y.ownsRow w.heap.size e sz v n xs := own_mono' hown h.size
theorem Blk.new' (w : World) (xs : Array Value) (T : TypeId) (b : Nat) (h : b = w.heap.size) : Blk (w.alloc (.cells xs T)) b T xs := by subst h; exact Blk.new w xs T
theorem Blk.kept_row {w w1 : World} {b : Nat} {T : TypeId} {cs : Array Value} {base e sz n : Nat} {v : Value} {xs : List Value} (h : Blk w b T cs) (hr : w.ownsRow base e sz v n xs) (hT : T ≠ e) (hg : w.grownBy w1 v.ownBlock) : Blk w1 b T cs := h.kept hg (h.ne_row' hr hT)
theorem below_put2 {w x : World} {b : Nat} (h : Below w.heap.size w x) (hb : w.heap.size ≤ b) (u v : Value) : Below w.heap.size w ((x.setCell ⟨b, 0, none⟩ u).setCell ⟨b, 1, none⟩ v) :=
  (h.setCell (p := ⟨b, 0, none⟩) hb u).setCell (p := ⟨b, 1, none⟩) hb v
/-- An append onto what was made since w. -/
theorem below_append {w w1 w2 : World} {B e sz n : Nat} {v : Value} {xs : List Value} {o : Obj} (hb : Below B w w1) (hB : w.heap.size = B) (hown : w1.ownsRow B e sz v n xs) (hg : (w1.alloc o).grownBy w2 v.ownBlock) : Below B w w2 :=
  (hb.alloc (by have := hb.size; omega) o).grown hg (by have := hb.size; simp; omega) (fun k hk => (hown.lt k hk).1)

/-- A box of four cells is written whole. -/
theorem Blk.put4 {w : World} {b : Nat} {T : TypeId} {x0 x1 x2 x3 : Value} (h : Blk w b T #[x0, x1, x2, x3]) (y0 y1 y2 y3 : Value) :
    (w.cell? ⟨b, 0, none⟩ = some x0 ∧ w.frozen? ⟨b, 0, none⟩ = false ∧
    (w.setCell ⟨b, 0, none⟩ y0).cell? ⟨b, 1, none⟩ = some x1 ∧ (w.setCell ⟨b, 0, none⟩ y0).frozen? ⟨b, 1, none⟩ = false ∧
    ((w.setCell ⟨b, 0, none⟩ y0).setCell ⟨b, 1, none⟩ y1).cell? ⟨b, 2, none⟩ = some x2 ∧ ((w.setCell ⟨b, 0, none⟩ y0).setCell ⟨b, 1, none⟩ y1).frozen? ⟨b, 2, none⟩ = false ∧
    (((w.setCell ⟨b, 0, none⟩ y0).setCell ⟨b, 1, none⟩ y1).setCell ⟨b, 2, none⟩ y2).cell? ⟨b, 3, none⟩ = some x3 ∧ (((w.setCell ⟨b, 0, none⟩ y0).setCell ⟨b, 1, none⟩ y1).setCell ⟨b, 2, none⟩ y2).frozen? ⟨b, 3, none⟩ = false) ∧
    Blk ((((w.setCell ⟨b, 0, none⟩ y0).setCell ⟨b, 1, none⟩ y1).setCell ⟨b, 2, none⟩ y2).setCell ⟨b, 3, none⟩ y3) b T #[y0, y1, y2, y3] := by
  have h1 : Blk (w.setCell ⟨b, 0, none⟩ y0) b T #[y0, x1, x2, x3] := h.set 0 y0
  have h2 : Blk ((w.setCell ⟨b, 0, none⟩ y0).setCell ⟨b, 1, none⟩ y1) b T #[y0, y1, x2, x3] := h1.set 1 y1
  have h3 : Blk (((w.setCell ⟨b, 0, none⟩ y0).setCell ⟨b, 1, none⟩ y1).setCell ⟨b, 2, none⟩ y2) b T #[y0, y1, y2, x3] := h2.set 2 y2
  exact ⟨⟨h.cell rfl, h.frozen, h1.cell rfl, h1.frozen, h2.cell rfl, h2.frozen, h3.cell rfl, h3.frozen⟩, h3.set 3 y3⟩
theorem below_put4 {w x : World} {b : Nat} (h : Below w.heap.size w x) (hb : w.heap.size ≤ b) (y0 y1 y2 y3 : Value) : Below w.heap.size w ((((x.setCell ⟨b, 0, none⟩ y0).setCell ⟨b, 1, none⟩ y1).setCell ⟨b, 2, none⟩ y2).setCell ⟨b, 3, none⟩ y3) :=
  (((h.setCell (p := ⟨b, 0, none⟩) hb _).setCell (p := ⟨b, 1, none⟩) hb _).setCell (p := ⟨b, 2, none⟩) hb _).setCell (p := ⟨b, 3, none⟩) hb _
theorem Keeps.put4 {w : World} {b : Nat} {T T' : TypeId} {x0 x1 x2 x3 : Value} (h : Blk w b T #[x0, x1, x2, x3]) (hT : T' ≠ T) (y0 y1 y2 y3 : Value) : Keeps w ((((w.setCell ⟨b, 0, none⟩ y0).setCell ⟨b, 1, none⟩ y1).setCell ⟨b, 2, none⟩ y2).setCell ⟨b, 3, none⟩ y3) T' := by
  have h1 : Blk (w.setCell ⟨b, 0, none⟩ y0) b T #[y0, x1, x2, x3] := h.set 0 y0
  have h2 : Blk ((w.setCell ⟨b, 0, none⟩ y0).setCell ⟨b, 1, none⟩ y1) b T #[y0, y1, x2, x3] := h1.set 1 y1
  have h3 : Blk (((w.setCell ⟨b, 0, none⟩ y0).setCell ⟨b, 1, none⟩ y1).setCell ⟨b, 2, none⟩ y2) b T #[y0, y1, y2, x3] := h2.set 2 y2
  exact (((Keeps.of_set h hT 0 y0).trans (.of_set h1 hT 1 y1)).trans (.of_set h2 hT 2 y2)).trans (.of_set h3 hT 3 y3)

/-! ### runs -/
/-- A run, owned. -/
def RunO (w : World) (base : Nat) (v : Value) (n : Nat) (m : Nat → Nat) (L : Nat → Nat → Int) (k : Nat) (F : Nat → Nat) : Prop :=
  ∃ vL vF rows, v = .agg #[vL, vF] ∧ w.ownsRow base 38 1 vL n rows ∧ (∀ i, i < n → ∃ rv, rows[i]? = some rv ∧ w.ownsRow base 3 1 rv (m i) (i64L (L i) (m i))) ∧ w.ownsRow base 64 1 vF k (u64L F k)
section
variable {w w1 : World} {base : Nat} {v : Value} {n k : Nat} {m : Nat → Nat} {L : Nat → Nat → Int} {F : Nat → Nat}
theorem RunO.keeps (h : RunO w base v n m L k F) (h1 : Keeps w w1 38) (h2 : Keeps w w1 3) (h3 : Keeps w w1 64) : RunO w1 base v n m L k F := by
  obtain ⟨vL, vF, rows, rfl, oL, oR, oF⟩ := h
  exact ⟨vL, vF, rows, rfl, own_keeps oL h1, fun i hi => let ⟨rv, e, h⟩ := oR i hi; ⟨rv, e, own_keeps h h2⟩, own_keeps oF h3⟩
theorem RunO.below (h : RunO w base v n m L k F) (hb : Below w.heap.size w w1) : RunO w1 base v n m L k F := h.keeps (.of_below hb _) (.of_below hb _) (.of_below hb _)
theorem RunO.mono {base' : Nat} (h : RunO w base v n m L k F) (hb : base' ≤ base) : RunO w base' v n m L k F := by
  obtain ⟨vL, vF, rows, rfl, oL, oR, oF⟩ := h
  exact ⟨vL, vF, rows, rfl, own_mono' oL hb, fun i hi => let ⟨rv, e, h⟩ := oR i hi; ⟨rv, e, own_mono' h hb⟩, own_mono' oF hb⟩
theorem RunO.shape (h : RunO w base v n m L k F) : ∃ AL cL AF cF, v = .agg #[.slice AL n cL, .slice AF k cF] := by
  obtain ⟨vL, vF, rows, rfl, oL, _, oF⟩ := h
  obtain ⟨A, c, rfl, _⟩ := own_form oL
  obtain ⟨B, d, rfl, _⟩ := own_form oF
  exact ⟨A, c, B, d, rfl⟩
theorem RunO.read (h : RunO w base v n m L k F) (hm : ∀ i, i < n → m i ≤ 9223372036854775807) (hL : ∀ i j, i < n → j < m i → -9223372036854775808 ≤ L i j ∧ L i j ≤ 9223372036854775807) (hF : ∀ u, u < k → F u < 18446744073709551616) : RunR w v n m L k F := by
  obtain ⟨vL, vF, rows, rfl, oL, oR, oF⟩ := h
  have hch : ∀ i, ∃ q : Option Addr × Nat, i < n → rows[i]? = some (.slice q.1 (m i) q.2) ∧ I64s w q.1 (m i) (L i) := fun i => by
    by_cases hi : i < n
    · obtain ⟨rv, h1, h2⟩ := oR i hi
      obtain ⟨A', c', rfl, hu⟩ := own_i64s h2 (fun u hu => hL i u hi hu)
      exact ⟨(A', c'), fun _ => ⟨h1, hu⟩⟩
    · exact ⟨(none, 0), fun h => absurd h hi⟩
  obtain ⟨f, hf⟩ := Classical.axiomOfChoice hch
  obtain ⟨A, c, rfl, hA⟩ := own_form oL
  obtain ⟨B, d, rfl, hU, _⟩ := own_u64s oF hF
  refine ⟨A, c, B, d, fun i => (f i).1, fun i => (f i).2, rfl, fun i hi => ?_, hU⟩
  obtain ⟨b, rfl, _, _, hc⟩ := hA i hi
  exact ⟨b, 0, rfl, by rw [hc]; exact (hf i hi).1, hm i hi, (hf i hi).2⟩
end
/-- What a run is. -/
structure RunD where
  n : Nat
  m : Nat → Nat
  L : Nat → Nat → Int
  k : Nat
  F : Nat → Nat
def RunD.owned (d : RunD) (w : World) (base : Nat) (v : Value) : Prop := RunO w base v d.n d.m d.L d.k d.F
/-- A slice of runs, owned. -/
def RunsO (w : World) (base : Nat) (v : Value) (ps : List RunD) : Prop :=
  ∃ rows, w.ownsRow base 30 2 v ps.length rows ∧ ∀ i d, ps[i]? = some d → ∃ x y, rows[i * 2]? = some x ∧ rows[i * 2 + 1]? = some y ∧ d.owned w base (.agg #[x, y])
theorem RunsO.nil (w : World) (base : Nat) : RunsO w base (.slice none 0 0) [] := ⟨[], World.ownsRow_nil _ _ _ _, fun i d h => by simp at h⟩
theorem RunsO.keeps {w w1 : World} {base : Nat} {v : Value} {ps : List RunD} (h : RunsO w base v ps) (h0 : Keeps w w1 30) (h1 : Keeps w w1 38) (h2 : Keeps w w1 3) (h3 : Keeps w w1 64) : RunsO w1 base v ps := by
  obtain ⟨rows, ho, hr⟩ := h
  exact ⟨rows, own_keeps ho h0, fun i d hi => let ⟨x, y, e1, e2, h⟩ := hr i d hi; ⟨x, y, e1, e2, RunO.keeps h h1 h2 h3⟩⟩
theorem RunsO.below {w w1 : World} {base : Nat} {v : Value} {ps : List RunD} (h : RunsO w base v ps) (hb : Below w.heap.size w w1) : RunsO w1 base v ps := h.keeps (.of_below hb _) (.of_below hb _) (.of_below hb _) (.of_below hb _)
/-- A run is appended. -/
theorem RunsO.push {w w1 : World} {base : Nat} {v v' x y : Value} {ps : List RunD} {d : RunD} {o : Obj} {rows : List Value} (ho : w.ownsRow base 30 2 v ps.length rows)
    (hr : ∀ i d, ps[i]? = some d → ∃ x y, rows[i * 2]? = some x ∧ rows[i * 2 + 1]? = some y ∧ d.owned w base (.agg #[x, y])) (hd : d.owned w base (.agg #[x, y]))
    (hown : w1.ownsRow base 30 2 v' (ps.length + 1) (rows ++ [x, y])) (hg : (w.alloc o).grownBy w1 v.ownBlock) : RunsO w1 base v' (ps ++ [d]) := by
  have hb := below_alloc w o
  have K : ∀ T : TypeId, T ≠ 30 → Keeps w w1 T := fun T hT => (Keeps.of_below hb T).trans (Keeps.of_grown hg (own_alloc' ho o) hT)
  have hlen := ho.1
  refine ⟨rows ++ [x, y], by rw [List.length_append]; exact hown, fun i d' hi => ?_⟩
  by_cases h1 : i < ps.length
  · rw [List.getElem?_append_left h1] at hi
    obtain ⟨x', y', e1, e2, h⟩ := hr i d' hi
    exact ⟨x', y', by rw [List.getElem?_append_left (by omega)]; exact e1, by rw [List.getElem?_append_left (by omega)]; exact e2, RunO.keeps h (K _ (by decide)) (K _ (by decide)) (K _ (by decide))⟩
  · rw [List.getElem?_append_right (by omega)] at hi
    have h2 : i = ps.length := by
      have := (List.getElem?_eq_some_iff.1 hi).1
      simp at this
      omega
    subst h2
    simp at hi
    subst hi
    exact ⟨x, y, by rw [List.getElem?_append_right (by omega)]; simp [hlen], by rw [List.getElem?_append_right (by omega)]; simp [hlen], RunO.keeps hd (K _ (by decide)) (K _ (by decide)) (K _ (by decide))⟩
end Go.Proofs.Ytgnkeecjaffnaaa
