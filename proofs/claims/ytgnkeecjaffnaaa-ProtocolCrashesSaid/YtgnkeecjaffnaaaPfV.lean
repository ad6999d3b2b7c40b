/-
  Plain facts for the walk of the reference's flood: rows of what is known, owned.
-/
import Derived.Test.YtgnkeecjaffnaaaProg
import Derived.Test.YtgnkeecjaffnaaaBase
import Derived.Test.YtgnkeecjaffnaaaRow
import Derived.Test.YtgnkeecjaffnaaaRowsOf
import Derived.Test.YtgnkeecjaffnaaaPc
import Derived.Test.YtgnkeecjaffnaaaPd
import Derived.Test.YtgnkeecjaffnaaaPfP
import Derived.Test.YtgnkeecjaffnaaaPfT
namespace Go.Proofs.Ytgnkeecjaffnaaa
open Go.RowKit

/-- m rows of n values each, owned: row i is what the set kb i says. -/
def KnO (w : World) (base : Nat) (v : Value) (x n m : Nat) (kb : Nat → Nat) : Prop :=
  ∃ rows, w.ownsRow base 38 1 v m rows ∧ ∀ i, i < m → ∃ rv, rows[i]? = some rv ∧ w.ownsRow base 3 1 rv n (i64L (fun k => (kvN x (kb i) k : Int)) n)
section
variable {w w1 : World} {base : Nat} {v v' : Value} {x n m : Nat} {kb : Nat → Nat}
theorem KnO.nil (w : World) (base x n : Nat) (kb : Nat → Nat) : KnO w base (.slice none 0 0) x n 0 kb := ⟨[], World.ownsRow_nil _ _ _ _, fun _ h => absurd h (Nat.not_lt_zero _)⟩
theorem KnO.keeps (h : KnO w base v x n m kb) (h0 : Keeps w w1 38) (h1 : Keeps w w1 3) : KnO w1 base v x n m kb := by
  obtain ⟨rows, ho, hr⟩ := h
  exact ⟨rows, own_keeps ho h0, fun i hi => let ⟨rv, e, h⟩ := hr i hi; ⟨rv, e, own_keeps h h1⟩⟩
theorem KnO.below (h : KnO w base v x n m kb) (hb : Below w.heap.size w w1) : KnO w1 base v x n m kb := h.keeps (.of_below hb _) (.of_below hb _)
theorem KnO.congr {kb' : Nat → Nat} (h : KnO w base v x n m kb) (e : ∀ i, i < m → kb i = kb' i) : KnO w base v x n m kb' := by
  obtain ⟨rows, ho, hr⟩ := h
  exact ⟨rows, ho, fun i hi => by rw [← e i hi]; exact hr i hi⟩
/-- .. read. -/
theorem KnO.mat (h : KnO w base v x n m kb) (hn : n ≤ 65536) : ∃ A c R cc, v = .slice A m c ∧ MatI w A m R (fun _ => n) cc (fun i k => (kvN x (kb i) k : Int)) := by
  obtain ⟨rows, ho, hr⟩ := h
  have hch : ∀ i, ∃ q : Option Addr × Nat, i < m → rows[i]? = some (.slice q.1 n q.2) ∧ I64s w q.1 n (fun k => (kvN x (kb i) k : Int)) := fun i => by
    by_cases hi : i < m
    · obtain ⟨rv, h1, h2⟩ := hr i hi
      obtain ⟨A', c', rfl, hu⟩ := own_i64s h2 (fun k _ => by have := kvN_le x (kb i) k; omega)
      exact ⟨(A', c'), fun _ => ⟨h1, hu⟩⟩
    · exact ⟨(none, 0), fun h => absurd h hi⟩
  obtain ⟨f, hf⟩ := Classical.axiomOfChoice hch
  obtain ⟨A, c, rfl, hA⟩ := own_form ho
  refine ⟨A, c, fun i => (f i).1, fun i => (f i).2, rfl, fun i hi => ?_⟩
  obtain ⟨b, rfl, _, _, hc⟩ := hA i hi
  exact ⟨b, 0, rfl, by rw [hc]; exact (hf i hi).1, by show n ≤ _; omega, (hf i hi).2⟩
/-- A row, its value and its reading. -/
theorem KnO.row (h : KnO w base v x n m kb) {i : Nat} (hi : i < m) : ∃ A c b rv, v = .slice A m c ∧ A = some ⟨b, 0, none⟩ ∧ w.cell? ⟨b, i, none⟩ = some rv ∧ w.ownsRow base 3 1 rv n (i64L (fun k => (kvN x (kb i) k : Int)) n) := by
  obtain ⟨rows, ho, hr⟩ := h
  obtain ⟨rv, h1, h2⟩ := hr i hi
  obtain ⟨A, c, rfl, hA⟩ := own_form ho
  obtain ⟨b, rfl, _, _, hc⟩ := hA i hi
  rw [Nat.zero_add] at hc
  exact ⟨_, c, b, rv, rfl, rfl, hc.trans h1, h2⟩
/-- A row is appended. -/
theorem KnO.push {rows : List Value} {rv : Value} {o : Obj} (ho : w.ownsRow base 38 1 v m rows) (hr : ∀ i, i < m → ∃ rv, rows[i]? = some rv ∧ w.ownsRow base 3 1 rv n (i64L (fun k => (kvN x (kb i) k : Int)) n))
    (hrow : w.ownsRow base 3 1 rv n (i64L (fun k => (kvN x (kb m) k : Int)) n)) (hown : w1.ownsRow base 38 1 v' (m + 1) (rows ++ [rv])) (hg : (w.alloc o).grownBy w1 v.ownBlock) :
    KnO w1 base v' x n (m + 1) kb ∧ Keeps w w1 3 := by
  have K : Keeps w w1 3 := (Keeps.of_below (below_alloc w o) _).trans (Keeps.of_grown hg (own_alloc' ho o) (by decide))
  have hlen := ho.1
  refine ⟨⟨rows ++ [rv], hown, fun i hi => ?_⟩, K⟩
  rcases Nat.lt_succ_iff_lt_or_eq.1 hi with h1 | rfl
  · obtain ⟨u, hu, hu2⟩ := hr i h1
    exact ⟨u, by rw [List.getElem?_append_left (by omega)]; exact hu, own_keeps hu2 K⟩
  · exact ⟨rv, by rw [List.getElem?_append_right (by omega)]; simp [hlen], own_keeps hrow K⟩
end
/-- What the reference says of a message is what the program says. -/
theorem mv_ref (rd tv : Nat → Int) (t j i Z : Nat) (hZ : tv j = (Z : Int)) : mvB rd tv t j i = ((j : Int) != (i : Int) && ((rd j == 0 || decide ((t : Int) < rd j)) || (rd j == (t : Int) && Z.testBit i)) && (rd i == 0 || decide ((t : Int) < rd i))) := by
  have h1 : ∀ k, (rd k == 0 || decide ((t : Int) < rd k)) = !goB rd k t := fun k => by
    unfold goB
    rw [Bool.eq_iff_iff]
    simp only [Bool.or_eq_true, beq_iff_eq, decide_eq_true_eq, Bool.not_eq_true', Bool.and_eq_false_iff, bne_eq_false_iff_eq, decide_eq_false_iff_not]
    omega
  rw [h1, h1]
  unfold mvB reB
  rw [hZ, Int.toNat_natCast]
  congr 2
  rw [Bool.eq_iff_iff, bne_iff_ne, bne_iff_ne]
  omega
end Go.Proofs.Ytgnkeecjaffnaaa
