/-
  Plain lemmas: slices that a call makes by append, and how they read.
-/
import Derived.Test.YtgnkeecjaffnaaaBase
import Derived.Maps.AppendAt
import Derived.OwnWalk
namespace Go.Proofs.Ytgnkeecjaffnaaa
open Go.RowKit

theorem own_ne {w : World} {base base' e e' n n' : Nat} {v v' : Value} {xs xs' : List Value} (h : w.ownsRow base e 1 v n xs) (h' : w.ownsRow base' e' 1 v' n' xs') (hne : e ≠ e') :
    v.ownBlock = none ∨ v.ownBlock ≠ v'.ownBlock := by
  rcases h.2 with ⟨rfl, _⟩ | ⟨g, cap, cur, rfl, _, hh, _⟩
  · exact .inl rfl
  · refine .inr ?_
    rcases h'.2 with ⟨rfl, _⟩ | ⟨g', cap', cur', rfl, _, hh', _⟩
    · simp [Value.ownBlock]
    · intro he
      have : g = g' := by simpa [Value.ownBlock] using he
      subst this
      rw [hh] at hh'
      injection hh' with hh'
      injection hh' with _ ht
      exact hne ht
theorem own_mono {w : World} {base base' e n : Nat} {v : Value} {xs : List Value} (h : w.ownsRow base e 1 v n xs) (hb : base' ≤ base) : w.ownsRow base' e 1 v n xs := by
  refine ⟨h.1, ?_⟩
  rcases h.2 with h' | ⟨g, cap, cur, hv, hg, r⟩
  · exact .inl h'
  · exact .inr ⟨g, cap, cur, hv, Nat.le_trans hb hg, r⟩
theorem own_below {w w' : World} {B base e n : Nat} {v : Value} {xs : List Value} (h : w.ownsRow base e 1 v n xs) (hb : Below B w w') (hB : w.heap.size ≤ B) : w'.ownsRow base e 1 v n xs := by
  refine ⟨h.1, ?_⟩
  rcases h.2 with h' | ⟨g, cap, cur, hv, hg, hh, r⟩
  · exact .inl h'
  · exact .inr ⟨g, cap, cur, hv, hg, (hb.block g (by have := (Array.getElem?_eq_some_iff.1 hh).1; omega)).trans hh, r⟩
/-- Its shape: an address or none; the cells. -/
theorem own_form {w : World} {base e n : Nat} {v : Value} {xs : List Value} (h : w.ownsRow base e 1 v n xs) :
    ∃ A c, v = .slice A n c ∧ ∀ k, k < n → ∃ b, A = some ⟨b, 0, none⟩ ∧ base ≤ b ∧ b < w.heap.size ∧ w.cell? ⟨b, 0 + k, none⟩ = xs[k]? := by
  rcases h.2 with ⟨rfl, rfl⟩ | ⟨g, cap, cur, rfl, hg, hh, _, _, _, htake⟩
  · exact ⟨none, 0, rfl, fun k hk => absurd hk (Nat.not_lt_zero _)⟩
  · refine ⟨some ⟨g, 0, none⟩, cap, rfl, fun k hk => ⟨g, rfl, hg, (Array.getElem?_eq_some_iff.1 hh).1, ?_⟩⟩
    rw [Nat.zero_add, cell_of_row w g k cur e (0, 0) hh, ← htake, List.getElem?_take, if_pos (by omega)]
    simp
theorem own_succ {w : World} {base e n : Nat} {v : Value} {xs : List Value} (h : w.ownsRow base e 1 v (n + 1) xs) : ∃ g cap, v = .slice (some ⟨g, 0, none⟩) (n + 1) cap := by
  rcases h.2 with ⟨_, h0⟩ | ⟨g, cap, _, rfl, _⟩
  · omega
  · exact ⟨g, cap, rfl⟩
/-- The values of n uint64 numbers. -/
def u64L (f : Nat → Nat) (n : Nat) : List Value := (List.range n).map fun u => .int .u64 (f u : Nat)
theorem u64L_succ (f : Nat → Nat) (n : Nat) : u64L f (n + 1) = u64L f n ++ [.int .u64 (f n : Nat)] := by
  unfold u64L; rw [List.range_succ, List.map_append]; rfl
theorem u64L_get {f : Nat → Nat} {n k : Nat} (h : k < n) : (u64L f n)[k]? = some (.int .u64 (f k : Nat)) := by
  unfold u64L; simp [h]
/-- The blocks of a matrix lie at B or beyond. -/
def FreshM (B : Nat) (A : Option Addr) (n : Nat) (R : Nat → Option Addr) (m : Nat → Nat) : Prop :=
  (∀ i, i < n → ∃ b, A = some ⟨b, 0, none⟩ ∧ B ≤ b) ∧ ∀ i, i < n → ∀ j, j < m i → ∃ b, R i = some ⟨b, 0, none⟩ ∧ B ≤ b
theorem Mat.setCell {w : World} {A : Option Addr} {n B : Nat} {R : Nat → Option Addr} {m c : Nat → Nat} {F : Nat → Nat → Nat} (h : Mat w A n R m c F) (hf : FreshM B A n R m) {p : Addr} (hp : p.block < B) (x : Value) :
    Mat (w.setCell p x) A n R m c F := fun i hi => by
  obtain ⟨b, off, e, hc, hm, hr⟩ := h i hi
  obtain ⟨b', e', hb⟩ := hf.1 i hi
  have e2 := e.symm.trans e'
  injection e2 with e2
  injection e2 with e21 e22 e23
  subst e21
  refine ⟨b, off, e, ?_, hm, fun k hk => ?_⟩
  · rw [World.cell?_setCell_other _ _ _ _ (fun e => by subst e; simp at hp; omega)]; exact hc
  · obtain ⟨b2, off2, f, hc2, hf2⟩ := hr k hk
    obtain ⟨b3, f', hb3⟩ := hf.2 i hi k hk
    have f2 := f.symm.trans f'
    injection f2 with f2
    injection f2 with f21 f22 f23
    subst f21
    exact ⟨b2, off2, f, by rw [World.cell?_setCell_other _ _ _ _ (fun e => by subst e; simp at hp; omega)]; exact hc2, hf2⟩
theorem FreshM.mono {B B' : Nat} {A : Option Addr} {n : Nat} {R : Nat → Option Addr} {m : Nat → Nat} (h : FreshM B A n R m) (hb : B' ≤ B) : FreshM B' A n R m :=
  ⟨fun i hi => let ⟨b, e, h⟩ := h.1 i hi; ⟨b, e, by omega⟩, fun i hi j hj => let ⟨b, e, h⟩ := h.2 i hi j hj; ⟨b, e, by omega⟩⟩
theorem own_u64s {w : World} {base e n : Nat} {v : Value} {f : Nat → Nat} (h : w.ownsRow base e 1 v n (u64L f n)) (hf : ∀ u, u < n → f u < 18446744073709551616) :
    ∃ A c, v = .slice A n c ∧ U64s w A n f ∧ ∀ k, k < n → ∃ b, A = some ⟨b, 0, none⟩ ∧ base ≤ b := by
  obtain ⟨A, c, rfl, hA⟩ := own_form h
  refine ⟨A, c, rfl, fun k hk => ?_, fun k hk => let ⟨b, e, hb, _⟩ := hA k hk; ⟨b, e, hb⟩⟩
  obtain ⟨b, rfl, _, _, hc⟩ := hA k hk
  exact ⟨b, 0, rfl, by rw [hc, u64L_get hk], hf k hk⟩
theorem one_oneCell {x : Value} (h : x.oneCell' = true) : ∀ u ∈ [x], u.oneCell' = true := by simpa using h
end Go.Proofs.Ytgnkeecjaffnaaa
