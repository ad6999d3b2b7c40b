/-
  Plain facts for the walks: a slice of rows of uint64s that a call makes by append.
-/
import Derived.Test.YtgnkeecjaffnaaaProg
import Derived.Test.YtgnkeecjaffnaaaBase
import Derived.Test.YtgnkeecjaffnaaaRow
import Derived.Test.YtgnkeecjaffnaaaRowsOf
namespace Go.Proofs.Ytgnkeecjaffnaaa
open Go.RowKit

theorem Try.infoU64s : (Try.prog.info? 28).map (fun i => (i.zero, i.size, i.bytes)) = some (some (.slice none 0 0), 1, 24) := by kernel_rfl
/-- v rows of n numbers are made: row i reads as G i. -/
def RowsParts (B n : Nat) (G : Nat → Nat → Nat) (v : Nat) (wr : World) (A : Option Addr) (c : Nat) (rows : List Value) : Prop :=
  wr.ownsRow B 28 1 (.slice A v c) v rows ∧ ∀ i, i < v → ∃ rv, rows[i]? = some rv ∧ wr.ownsRow B 64 1 rv n (u64L (G i) n)
def RowsInv (w : World) (n : Nat) (G : Nat → Nat → Nat) (v : Nat) (ov : Value) (wr : World) : Prop := ∃ A c rows, ov = .slice A v c ∧ RowsParts w.heap.size n G v wr A c rows ∧ Below w.heap.size w wr
theorem RowsInv.start (w : World) (n : Nat) (G : Nat → Nat → Nat) : RowsInv w n G 0 (.slice none 0 0) w :=
  ⟨none, 0, [], rfl, ⟨World.ownsRow_nil _ _ _ _, fun _ hi => absurd hi (Nat.not_lt_zero _)⟩, Below.refl _ _⟩
theorem RowsInv.below {w wo wr : World} {n v : Nat} {G : Nat → Nat → Nat} {ov : Value} (h : RowsInv w n G v ov wo) (hb : Below wo.heap.size wo wr) : RowsInv w n G v ov wr := by
  obtain ⟨A, c, rows, e, ⟨ho, hr⟩, hw⟩ := h
  exact ⟨A, c, rows, e, ⟨own_below ho hb (Nat.le_refl _), fun i hi => let ⟨rv, h1, h2⟩ := hr i hi; ⟨rv, h1, own_below h2 hb (Nat.le_refl _)⟩⟩, hw.trans (hb.mono hw.size)⟩
theorem RowsInv.step {w wr w1 : World} {n v c g cap : Nat} {G : Nat → Nat → Nat} {A : Option Addr} {rows : List Value} {rv : Value} {T : TypeId} (h : RowsParts w.heap.size n G v wr A c rows) (hw : Below w.heap.size w wr)
    (hrow : wr.ownsRow w.heap.size 64 1 rv n (u64L (G v) n))
    (hown : w1.ownsRow w.heap.size 28 1 (.slice (some ⟨g, 0, none⟩) (v + 1) cap) (v + 1) (rows ++ [rv]))
    (hgrow : (wr.alloc (.cells #[rv] T)).grownBy w1 (Value.slice A v c).ownBlock) :
    RowsInv w n G (v + 1) (.slice (some ⟨g, 0, none⟩) (v + 1) cap) w1 := by
  obtain ⟨ho, hr⟩ := h
  have hlt := ho.lt
  have hsz : wr.heap.size < (wr.alloc (.cells #[rv] T)).heap.size := by simp
  have row1 : ∀ {u xs}, wr.ownsRow w.heap.size 64 1 u n xs → w1.ownsRow w.heap.size 64 1 u n xs := fun {u xs} h =>
    (h.alloc _).kept hgrow (own_ne h ho (by decide))
  refine ⟨some ⟨g, 0, none⟩, cap, rows ++ [rv], rfl, ⟨hown, fun i hi => ?_⟩, ?_⟩
  · rcases Nat.lt_succ_iff_lt_or_eq.1 hi with h1 | rfl
    · obtain ⟨u, hu, hu2⟩ := hr i h1
      exact ⟨u, by rw [List.getElem?_append_left (by have := ho.1; omega)]; exact hu, row1 hu2⟩
    · exact ⟨rv, by have h1 := ho.1; rw [List.getElem?_append_right (by omega)]; simp [h1], row1 hrow⟩
  · exact (hw.alloc hw.size _).grown hgrow (by have := hw.size; omega) (fun k hk => (hlt k hk).1)
theorem RowsInv.mat {w wr : World} {n v : Nat} {G : Nat → Nat → Nat} {ov : Value} (h : RowsInv w n G v ov wr) (hn : n ≤ 9223372036854775807) (hG : ∀ i, i < v → ∀ u, u < n → G i u < 18446744073709551616) :
    ∃ A c R cc, ov = .slice A v c ∧ Mat wr A v R (fun _ => n) cc G ∧ Below w.heap.size w wr := by
  obtain ⟨A, c, rows, rfl, ⟨ho, hr⟩, hw⟩ := h
  have hch : ∀ i, ∃ p : Option Addr × Nat, i < v → rows[i]? = some (.slice p.1 n p.2) ∧ U64s wr p.1 n (G i) := fun i => by
    by_cases hi : i < v
    · obtain ⟨rv, h1, h2⟩ := hr i hi
      obtain ⟨A', c', rfl, hu, _⟩ := own_u64s h2 (fun u hu => hG i hi u hu)
      exact ⟨(A', c'), fun _ => ⟨h1, hu⟩⟩
    · exact ⟨(none, 0), fun h => absurd h hi⟩
  obtain ⟨f, hf⟩ := Classical.axiomOfChoice hch
  obtain ⟨A', c', he, hA⟩ := own_form ho
  injection he with he1 he2 he3
  subst he1
  refine ⟨A, c, fun i => (f i).1, fun i => (f i).2, rfl, fun i hi => ?_, hw⟩
  obtain ⟨b, rfl, _, _, hc⟩ := hA i hi
  exact ⟨b, 0, rfl, by rw [hc]; exact (hf i hi).1, by show n ≤ _; omega, (hf i hi).2⟩
end Go.Proofs.Ytgnkeecjaffnaaa
