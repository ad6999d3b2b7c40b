/-
  Plain facts for the walk of the reference's flood: the first rows of what is known, laid into a slice that is made.
-/
import Derived.Test.YtgnkeecjaffnaaaProg
import Derived.Test.YtgnkeecjaffnaaaBase
import Derived.Test.YtgnkeecjaffnaaaRow
import Derived.Test.YtgnkeecjaffnaaaRowsOf
import Derived.Test.YtgnkeecjaffnaaaPc
import Derived.Test.YtgnkeecjaffnaaaPd
import Derived.Test.YtgnkeecjaffnaaaPfQ
import Derived.Test.YtgnkeecjaffnaaaPfV
import Derived.Laws.OwnMore
namespace Go.Proofs.Ytgnkeecjaffnaaa
open Go.RowKit

/-- i rows are laid: row a says that a's own value is known. -/
def KnP (w : World) (B bk x n i : Nat) : Prop :=
  ∃ cs : Array Value, Blk w bk 38 cs ∧ cs.size = n ∧ ∀ a, a < i → ∃ rv, cs[a]? = some rv ∧ w.ownsRow B 3 1 rv n (i64L (fun k => (kvN x (2 ^ a) k : Int)) n)
theorem KnP.made (w : World) (B x n : Nat) : KnP (w.alloc (.cells (madeCells #[.slice none 0 0] n) 38)) B w.heap.size x n 0 :=
  ⟨_, Blk.new w _ _, size_madeCells _ _, fun _ h => absurd h (Nat.not_lt_zero _)⟩
theorem KnP.done {w : World} {B bk x n : Nat} (h : KnP w B bk x n n) (hb : B ≤ bk) (hn : n ≤ 65536) : KnO w B (.slice (some ⟨bk, 0, none⟩) n n) x n n (fun a => 2 ^ a) := by
  obtain ⟨cs, hB, hs, hr⟩ := h
  refine ⟨cs.toList, ⟨by simp [hs], .inr ⟨bk, n, cs, rfl, hb, hB, Nat.le_refl _, by unfold maxLen; omega, by omega, ?_⟩⟩, fun i hi => ?_⟩
  · rw [Nat.mul_one, ← hs, ← Array.length_toList, List.take_length]
  · obtain ⟨rv, h1, h2⟩ := hr i hi
    exact ⟨rv, by rw [Array.getElem?_toList]; exact h1, h2⟩
/-- A row is made, laid, and its own place is set. -/
theorem KnP.step {w : World} {B bk x n i : Nat} (h : KnP w B bk x n i) (hi : i < n) (hB : B ≤ w.heap.size) (hn : n ≤ 65536) {u : Int} (hu : u = ((1 + (if x.testBit i then 1 else 0) : Nat) : Int)) :
    KnP (((w.alloc (.cells (madeCells #[.int .i64 0] n) 3)).setCell ⟨bk, i, none⟩ (.slice (some ⟨w.heap.size, 0, none⟩) n n)).setCell ⟨w.heap.size, i, none⟩ (.int .i64 u)) B bk x n (i + 1) := by
  subst hu
  obtain ⟨cs, hb, hs, hr⟩ := h
  have hlt := hb.lt
  have hb1 := hb.alloc (.cells (madeCells #[.int .i64 0] n) 3)
  have hn1 := Blk.new w (madeCells #[.int .i64 0] n) 3
  have hb2 := hb1.set i (.slice (some ⟨w.heap.size, 0, none⟩) n n)
  have hn2 := hn1.set_ne (b' := bk) (by omega) i (.slice (some ⟨w.heap.size, 0, none⟩) n n)
  have hb3 := hb2.set_ne (b' := w.heap.size) (by omega) i (.int .i64 ((1 + (if x.testBit i then 1 else 0) : Nat) : Int))
  have hn3 := hn2.set i (.int .i64 ((1 + (if x.testBit i then 1 else 0) : Nat) : Int))
  refine ⟨_, hb3, by simp [hs], fun a ha => ?_⟩
  rcases Nat.lt_succ_iff_lt_or_eq.1 ha with h1 | rfl
  · obtain ⟨rv, e, ho⟩ := hr a h1
    refine ⟨rv, by rw [Array.getElem?_setIfInBounds_ne (by omega)]; exact e, ?_⟩
    have o1 := own_alloc' ho (.cells (madeCells #[.int .i64 0] n) 3)
    have o2 := own_set' o1 hb1 (by decide) i (.slice (some ⟨w.heap.size, 0, none⟩) n n)
    refine ⟨o2.1, ?_⟩
    rcases o2.2 with h' | ⟨g, cap, cur, hv, hg, hh, r⟩
    · exact .inl h'
    · have hgl : g < w.heap.size := by
        rcases ho.2 with ⟨hv', _⟩ | ⟨g', cap', cur', hv', _, hh', _⟩
        · rw [hv] at hv'; cases hv'
        · rw [hv] at hv'
          injection hv' with e1 _ _
          injection e1 with e1
          injection e1 with e1
          rw [e1]; exact (Array.getElem?_eq_some_iff.1 hh').1
      exact .inr ⟨g, cap, cur, hv, hg, (show Blk _ g 3 cur from hh).set_ne (by omega) i _, r⟩
  · refine ⟨_, by rw [Array.getElem?_setIfInBounds_self_of_lt (by omega)], ⟨by simp [i64L], .inr ⟨w.heap.size, n, _, rfl, hB, hn3, Nat.le_refl _, by unfold maxLen; omega, by simp [size_madeCells], ?_⟩⟩⟩
    rw [Nat.mul_one, List.take_of_length_le (by simp [size_madeCells])]
    apply List.ext_getElem?
    intro k
    rw [Array.getElem?_toList]
    by_cases hk : k < n
    · have hR : (i64L (fun k => (kvN x (2 ^ a) k : Int)) n)[k]? = some (.int .i64 (kvN x (2 ^ a) k : Nat)) := by simp [i64L, hk]
      rw [hR]
      have ht : (2 ^ a).testBit k = decide (a = k) := Nat.testBit_two_pow
      by_cases hka : a = k
      · subst hka
        rw [Array.getElem?_setIfInBounds_self_of_lt (by rw [size_madeCells]; omega)]
        unfold kvN; rw [ht]; simp
      · rw [Array.getElem?_setIfInBounds_ne hka]
        have h0 : (madeCells #[.int .i64 0] n)[k]? = some (.int .i64 0) := by
          rw [← Array.getElem?_toList, toList_madeCells_one, List.getElem?_replicate, if_pos hk]
        rw [h0]
        unfold kvN; rw [ht]; simp [hka]
    · rw [Array.getElem?_eq_none (by simp [size_madeCells]; omega), List.getElem?_eq_none (by simp [i64L]; omega)]
end Go.Proofs.Ytgnkeecjaffnaaa
