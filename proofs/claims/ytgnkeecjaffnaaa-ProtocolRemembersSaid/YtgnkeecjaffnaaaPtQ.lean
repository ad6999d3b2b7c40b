/-
  Plain facts for the walk of Patterns: patterns that a call owns; slices.Clone of a slice of crashes.
-/
import Derived.Test.YtgnkeecjaffnaaaProg
import Derived.Test.YtgnkeecjaffnaaaBase
import Derived.Test.YtgnkeecjaffnaaaRow
import Derived.Test.YtgnkeecjaffnaaaRowsOf
import Derived.Test.YtgnkeecjaffnaaaPc
import Derived.Test.YtgnkeecjaffnaaaPd
import Derived.Test.YtgnkeecjaffnaaaPtP
import Derived.Test.YtgnkeecjaffnaaaShelf
namespace Go.Proofs.Ytgnkeecjaffnaaa
open Go.RowKit

theorem Try.infoCrash : (Try.prog.info? 37).map (fun i => (i.zero, i.size, i.bytes)) = some (some (.agg #[.int .i64 0, .int .i64 0]), 2, 16) := by kernel_rfl
theorem Try.infoCrashes : (Try.prog.info? 26).map (fun i => (i.zero, i.size, i.bytes)) = some (some (.slice none 0 0), 1, 24) := by kernel_rfl
def Try.layC_ren : Go.Shelf.Ren := ⟨fun | 41 => 58 | n => n, fun | 22 => 26 | 23 => 37 | 4 => 4 | n => n, fun | n => n⟩
theorem Try.layC : Go.Proofs.SlLaysE0.n41 Try.prog Try.layC_ren := {
  mixed := by kernel_rfl
  f41 := ⟨Try.f58.name, by decide, Try.func58.trans (congrArg some (by kernel_rfl))⟩
  t4 := Try.underlying4
  a4 := Try.isAgg4
  z4 := Try.sizeOf4
  v4 := Try.zeroValue4
  t22 := Try.underlying26
  a22 := Try.isAgg26
  z22 := Try.sizeOf26
  v22 := Try.zeroValue26 }
/-- The cells of a pattern. -/
def crL (l : List (Nat × Nat)) : List Value := l.flatMap fun c => [.int .i64 (c.1 : Nat), .int .i64 (c.2 : Nat)]
theorem crL_len (l : List (Nat × Nat)) : (crL l).length = l.length * 2 := by
  induction l with
  | nil => rfl
  | cons c l ih => unfold crL at ih ⊢; rw [List.flatMap_cons, List.length_append, ih, List.length_cons]; simp; omega
theorem crL_snoc (l : List (Nat × Nat)) (c : Nat × Nat) : crL (l ++ [c]) = crL l ++ [.int .i64 (c.1 : Nat), .int .i64 (c.2 : Nat)] := by
  unfold crL; rw [List.flatMap_append]; simp
theorem crL_get : ∀ (l : List (Nat × Nat)) (k : Nat) (c : Nat × Nat), l[k]? = some c → (crL l)[k * 2]? = some (.int .i64 (c.1 : Nat)) ∧ (crL l)[k * 2 + 1]? = some (.int .i64 (c.2 : Nat))
  | [], k, c, h => by simp at h
  | d :: l, 0, c, h => by
    have : d = c := by simpa using h
    subst this
    exact ⟨rfl, rfl⟩
  | d :: l, k + 1, c, h => by
    have ih := crL_get l k c (by simpa using h)
    have e : crL (d :: l) = .int .i64 (d.1 : Nat) :: .int .i64 (d.2 : Nat) :: crL l := rfl
    rw [e, show (k + 1) * 2 = k * 2 + 1 + 1 from by omega]
    exact ih
theorem crL_one (l : List (Nat × Nat)) : ∀ u ∈ crL l, u.oneCell' = true := by
  intro u hu
  unfold crL at hu
  rw [List.mem_flatMap] at hu
  obtain ⟨c, _, h⟩ := hu
  simp only [List.mem_cons, List.not_mem_nil, or_false] at h
  rcases h with rfl | rfl <;> rfl
/-- A pattern, owned. -/
def CrO (w : World) (base : Nat) (v : Value) (l : List (Nat × Nat)) : Prop := w.ownsRow base 37 2 v l.length (crL l)
theorem cloneC (v : Value) (l : List (Nat × Nat)) (base : Nat) (w : World) (h : w.ownsRow base 37 2 v l.length (crL l)) (hn : l.length ≤ 65536) :
    Calls Try.prog 58 #[v] w fun e w' => ∃ v', e = .returned v' ∧ w'.ownsRow w.heap.size 37 2 v' l.length (crL l) ∧ Below w.heap.size w w' := by
  rcases h.2 with ⟨rfl, h0⟩ | ⟨g, cap, cur, rfl, hg, hh, _, _, _, htake⟩
  · refine (AnyE.slices_Clone_nil Try.layC 0 0 w).mono ?_
    rintro e w' ⟨rfl, rfl⟩
    have hl : l = [] := List.eq_nil_of_length_eq_zero h0
    subst hl
    exact ⟨_, rfl, World.ownsRow_nil _ _ _ _, Below.refl _ _⟩
  · obtain ⟨i0, hi, hz0, hz1, hz2⟩ := info_parts Try.infoCrash
    refine (AnyE.slices_Clone Try.layC i0 _ 2 16 hi hz0 hz1 hz2 rfl (by decide) (fun w => Try.sizeOf37 w) g 0 l.length cap (crL l) w (crL_len l) (by unfold maxLen; omega) (by omega) (fun j u hj => ?_) (crL_one l)).mono ?_
    · rw [Nat.zero_add, cell_of_row w g j cur _ (0, 0) hh]
      have hjl : j < l.length * 2 := by have := (List.getElem?_eq_some_iff.1 hj).1; rw [crL_len] at this; exact this
      rw [← htake, List.getElem?_take, if_pos hjl] at hj
      simpa using hj
    · rintro e w' ⟨v', rfl, hown, _, hbl⟩
      exact ⟨v', rfl, hown, hbl⟩
/-- A slice of patterns, owned. -/
def PatsO (w : World) (base : Nat) (v : Value) (ps : List (List (Nat × Nat))) : Prop :=
  ∃ rows, w.ownsRow base 26 1 v ps.length rows ∧ ∀ (i : Nat) (l : List (Nat × Nat)), ps[i]? = some l → ∃ rv, rows[i]? = some rv ∧ CrO w base rv l
theorem PatsO.nil (w : World) (base : Nat) : PatsO w base (.slice none 0 0) [] := ⟨[], World.ownsRow_nil _ _ _ _, fun i d h => by simp at h⟩
theorem PatsO.keeps {w w1 : World} {base : Nat} {v : Value} {ps : List (List (Nat × Nat))} (h : PatsO w base v ps) (h0 : Keeps w w1 26) (h1 : Keeps w w1 37) : PatsO w1 base v ps := by
  obtain ⟨rows, ho, hr⟩ := h
  exact ⟨rows, own_keeps ho h0, fun i d hi => let ⟨x, e1, h⟩ := hr i d hi; ⟨x, e1, own_keeps h h1⟩⟩
theorem PatsO.below {w w1 : World} {base : Nat} {v : Value} {ps : List (List (Nat × Nat))} (h : PatsO w base v ps) (hb : Below w.heap.size w w1) : PatsO w1 base v ps := h.keeps (.of_below hb _) (.of_below hb _)
theorem PatsO.mono {w : World} {base base' : Nat} {v : Value} {ps : List (List (Nat × Nat))} (h : PatsO w base v ps) (hb : base' ≤ base) : PatsO w base' v ps := by
  obtain ⟨rows, ho, hr⟩ := h
  exact ⟨rows, own_mono' ho hb, fun i d hi => let ⟨x, e1, h⟩ := hr i d hi; ⟨x, e1, own_mono' h hb⟩⟩
/-- A pattern is appended. -/
theorem PatsO.push {w w1 : World} {base : Nat} {v v' x : Value} {ps : List (List (Nat × Nat))} {d : List (Nat × Nat)} {o : Obj} {rows : List Value} (ho : w.ownsRow base 26 1 v ps.length rows)
    (hr : ∀ (i : Nat) (l : List (Nat × Nat)), ps[i]? = some l → ∃ rv, rows[i]? = some rv ∧ CrO w base rv l) (hd : CrO w base x d)
    (hown : w1.ownsRow base 26 1 v' (ps.length + 1) (rows ++ [x])) (hg : (w.alloc o).grownBy w1 v.ownBlock) : PatsO w1 base v' (ps ++ [d]) := by
  have hb := below_alloc w o
  have K : Keeps w w1 37 := (Keeps.of_below hb _).trans (Keeps.of_grown hg (own_alloc' ho o) (by decide))
  have hlen := ho.1
  refine ⟨rows ++ [x], by rw [List.length_append]; exact hown, fun i d' hi => ?_⟩
  by_cases h1 : i < ps.length
  · rw [List.getElem?_append_left h1] at hi
    obtain ⟨x', e1, h⟩ := hr i d' hi
    exact ⟨x', by rw [List.getElem?_append_left (by omega)]; exact e1, own_keeps h K⟩
  · rw [List.getElem?_append_right (by omega)] at hi
    have h2 : i = ps.length := by
      have := (List.getElem?_eq_some_iff.1 hi).1
      simp at this
      omega
    subst h2
    simp at hi
    subst hi
    exact ⟨x, by rw [List.getElem?_append_right (by omega)]; simp [hlen], own_keeps hd K⟩
/-- What the walk of the closure holds: the boxes of the patterns, the number of processes, the closure, the rounds; the patterns. -/
structure PatI (w0 w : World) (bO bN bF bR n R : Nat) (fv vO : Value) (ps : List (List (Nat × Nat))) : Prop where
  below : Below w0.heap.size w0 w
  hO : Blk w bO 55 #[vO]
  hN : Blk w bN 3 #[.int .i64 n]
  hR : Blk w bR 3 #[.int .i64 R]
  hF : Blk w bF 81 #[fv]
  ge : w0.heap.size ≤ bO
  pats : PatsO w w0.heap.size vO ps
section
variable {w0 w w1 : World} {bO bN bF bR n R : Nat} {fv vO : Value} {ps : List (List (Nat × Nat))}
theorem PatI.keep (h : PatI w0 w bO bN bF bR n R fv vO ps) (hb : Below w.heap.size w w1) : PatI w0 w1 bO bN bF bR n R fv vO ps :=
  ⟨h.below.trans (hb.mono h.below.size), h.hO.below hb, h.hN.below hb, h.hR.below hb, h.hF.below hb, h.ge, h.pats.below hb⟩
theorem PatI.box (h : PatI w0 w bO bN bF bR n R fv vO ps) {rows : List Value} {N : Nat} {o : Obj} (ho : w.ownsRow w0.heap.size 26 1 vO N rows) (hg : (w.alloc o).grownBy w1 vO.ownBlock) :
    w1.cell? ⟨bO, 0, none⟩ = some vO ∧ w1.frozen? ⟨bO, 0, none⟩ = false := by
  have hb := below_alloc w o
  have hS1 := (h.hO.below hb).kept hg ((h.hO.below hb).ne_row' (own_alloc' ho o) (by decide))
  exact ⟨hS1.cell rfl, hS1.frozen⟩
theorem PatI.grow (h : PatI w0 w bO bN bF bR n R fv vO ps) {rows : List Value} {x v' : Value} {d : List (Nat × Nat)} {o : Obj} (ho : w.ownsRow w0.heap.size 26 1 vO ps.length rows)
    (hr : ∀ (i : Nat) (l : List (Nat × Nat)), ps[i]? = some l → ∃ rv, rows[i]? = some rv ∧ CrO w w0.heap.size rv l) (hd : CrO w w0.heap.size x d)
    (hown : w1.ownsRow w0.heap.size 26 1 v' (ps.length + 1) (rows ++ [x])) (hg : (w.alloc o).grownBy w1 vO.ownBlock) :
    PatI w0 (w1.setCell ⟨bO, 0, none⟩ v') bO bN bF bR n R fv v' (ps ++ [d]) ∧ Keeps w (w1.setCell ⟨bO, 0, none⟩ v') 37 := by
  have hb := below_alloc w o
  have ho1 := own_alloc' ho o
  have hlt := ho1.lt
  have hsz : (w.alloc o).heap.size = w.heap.size + 1 := by simp
  have hO1 := (h.hO.below hb).kept hg ((h.hO.below hb).ne_row' ho1 (by decide))
  have hN1 := (h.hN.below hb).kept hg ((h.hN.below hb).ne_row' ho1 (by decide))
  have hR1 := (h.hR.below hb).kept hg ((h.hR.below hb).ne_row' ho1 (by decide))
  have hF1 := (h.hF.below hb).kept hg ((h.hF.below hb).ne_row' ho1 (by decide))
  have hP1 := PatsO.push ho hr hd hown hg
  refine ⟨⟨((h.below.alloc h.below.size o).grown hg (by have := h.below.size; omega) (fun k hk => (hlt k hk).1)).setCell (p := ⟨bO, 0, none⟩) h.ge _, hO1.set 0 v', hN1.set_ne (hN1.ne hO1 (by decide)) _ _, hR1.set_ne (hR1.ne hO1 (by decide)) _ _, hF1.set_ne (hF1.ne hO1 (by decide)) _ _, h.ge,
    hP1.keeps (.of_set hO1 (by decide) _ _) (.of_set hO1 (by decide) _ _)⟩, ((Keeps.of_below hb _).trans (Keeps.of_grown hg ho1 (by decide))).trans (.of_set hO1 (by decide) _ _)⟩
end
/-- What the closure leaves. -/
def PatPost (w0 w : World) (bO bN bF bR n R : Nat) (fv : Value) (ps : List (List (Nat × Nat))) (e : Ending) (w' : World) : Prop :=
  e = .returned (.tuple #[]) ∧ (∃ vO, PatI w0 w' bO bN bF bR n R fv vO ps) ∧ Keeps w w' 37
end Go.Proofs.Ytgnkeecjaffnaaa
