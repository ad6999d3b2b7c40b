/-
  Plain facts: ranks without gaps: counting, sorting.
-/
import Derived.Test.YtgnkeecjaffnaaaBase
import Derived.Test.YtgnkeecjaffnaaaLeast
import Derived.Lib.Slices
import Derived.Lib.SlicesCompact
import Derived.Lib.RowBridge
namespace Go.Proofs.Ytgnkeecjaffnaaa
open Go.RowKit

/-- How many of 0 .. n - 1. -/
def cntB : Nat → (Nat → Bool) → Nat
  | 0, _ => 0
  | k + 1, p => if p k = true then cntB k p + 1 else cntB k p
theorem cntB_le (n : Nat) (p : Nat → Bool) : cntB n p ≤ n := by
  induction n with
  | zero => exact Nat.le_refl _
  | succ k ih => unfold cntB; split <;> omega
theorem cntB_mono {n : Nat} {p q : Nat → Bool} (h : ∀ u, u < n → p u = true → q u = true) : cntB n p ≤ cntB n q := by
  induction n with
  | zero => exact Nat.le_refl _
  | succ k ih =>
    have := ih fun u hu => h u (by omega)
    unfold cntB
    by_cases hp : p k = true
    · rw [if_pos hp, if_pos (h k (by omega) hp)]; omega
    · rw [if_neg hp]; split <;> omega
theorem cntB_lt {n : Nat} {p q : Nat → Bool} (h : ∀ u, u < n → p u = true → q u = true) {x : Nat} (hx : x < n) (h1 : p x = false) (h2 : q x = true) : cntB n p < cntB n q := by
  induction n with
  | zero => omega
  | succ k ih =>
    unfold cntB
    rcases Nat.lt_succ_iff_lt_or_eq.1 hx with h3 | rfl
    · have := ih (fun u hu => h u (by omega)) h3
      by_cases hp : p k = true
      · rw [if_pos hp, if_pos (h k (by omega) hp)]; omega
      · rw [if_neg hp]; split <;> omega
    · have := cntB_mono (n := x) (p := p) (q := q) fun u hu => h u (by omega)
      rw [if_neg (by rw [h1]; exact fun h => by cases h), if_pos h2]; omega
theorem cntB_congr {n : Nat} {p q : Nat → Bool} (h : ∀ u, u < n → p u = q u) : cntB n p = cntB n q := by
  induction n with
  | zero => rfl
  | succ k ih => unfold cntB; rw [h k (by omega), ih fun u hu => h u (by omega)]
theorem cntB_all (n : Nat) : cntB n (fun _ => true) = n := by
  induction n with
  | zero => rfl
  | succ k ih => unfold cntB; rw [if_pos rfl, ih]
theorem cntB_filter (n : Nat) (p : Nat → Bool) : cntB n p = ((List.range n).filter p).length := by
  induction n with
  | zero => rfl
  | succ k ih =>
    unfold cntB
    rw [List.range_succ, List.filter_append, List.length_append, ih]
    by_cases hp : p k = true
    · rw [if_pos hp]; simp [hp]
    · rw [if_neg hp]; simp [hp]
theorem allB_congr {n : Nat} {p q : Nat → Bool} (h : ∀ u, u < n → p u = q u) : allB n p = allB n q := by
  rw [Bool.eq_iff_iff, allB_iff, allB_iff]
  exact ⟨fun a u hu => by rw [← h u hu]; exact a u hu, fun a u hu => by rw [h u hu]; exact a u hu⟩

/-- u comes first with its value, which is less than that of v. -/
def canB (f : Nat → Int) (v u : Nat) : Bool := decide (f u < f v) && allB u (fun x => f x != f u)
/-- The rank of v without gaps. -/
def canF (n : Nat) (f : Nat → Int) (v : Nat) : Nat := cntB n (canB f v)
theorem canB_iff {f : Nat → Int} {v u : Nat} : canB f v u = true ↔ f u < f v ∧ allB u (fun x => f x != f u) = true := by unfold canB; simp
theorem canF_lt {n v : Nat} {f : Nat → Int} (hv : v < n) : canF n f v < n := by
  have := cntB_lt (n := n) (p := canB f v) (q := fun _ => true) (fun _ _ _ => rfl) hv (by unfold canB; simp) rfl
  rw [cntB_all] at this; exact this
theorem first_of (f : Nat → Int) (u : Nat) : ∃ x, x ≤ u ∧ f x = f u ∧ allB x (fun y => f y != f x) = true := by
  induction u using Nat.strongRecOn with
  | _ u ih =>
    cases h : allB u (fun y => f y != f u)
    · obtain ⟨y, hy, he⟩ := not_allB h
      have he : f y = f u := by simpa using he
      obtain ⟨x, h1, h2, h3⟩ := ih y hy
      exact ⟨x, by omega, h2.trans he, h3⟩
    · exact ⟨u, Nat.le_refl _, rfl, h⟩
theorem canF_mono {n u v : Nat} {f : Nat → Int} (hu : u < n) (h : f u < f v) : canF n f u < canF n f v := by
  obtain ⟨x, h1, h2, h3⟩ := first_of f u
  refine cntB_lt (x := x) (fun y _ hy => ?_) (by omega) ?_ (canB_iff.2 ⟨by omega, h3⟩)
  · have := canB_iff.1 hy; exact canB_iff.2 ⟨by omega, this.2⟩
  · cases hc : canB f u x
    · rfl
    · have := canB_iff.1 hc; omega
theorem canF_eq {n u v : Nat} {f : Nat → Int} (h : f u = f v) : canF n f u = canF n f v := by
  unfold canF; refine cntB_congr fun x _ => ?_
  unfold canB; rw [h]
theorem canF_iff {n u v : Nat} {f : Nat → Int} (hu : u < n) (hv : v < n) : canF n f u < canF n f v ↔ f u < f v := by
  constructor
  · intro h
    rcases Int.lt_trichotomy (f u) (f v) with h1 | h1 | h1
    · exact h1
    · rw [canF_eq h1] at h; omega
    · have := canF_mono (n := n) hv h1; omega
  · exact canF_mono hu
theorem canF_le_iff {n u v : Nat} {f : Nat → Int} (hu : u < n) (hv : v < n) : canF n f u ≤ canF n f v ↔ f u ≤ f v := by
  have := canF_iff (f := f) hv hu; omega
theorem canF_congr {n v : Nat} {f g : Nat → Int} (hv : v < n) (h : ∀ x y, x < n → y < n → (f x < f y ↔ g x < g y)) : canF n f v = canF n g v := by
  refine cntB_congr fun u hu => ?_
  have e1 : decide (f u < f v) = decide (g u < g v) := by rw [decide_eq_decide]; exact h u v hu hv
  have e2 : allB u (fun x => f x != f u) = allB u (fun x => g x != g u) := allB_congr fun x hx => by
    have h1 := h x u (by omega) hu
    have h2 := h u x hu (by omega)
    rw [Bool.eq_iff_iff, bne_iff_ne, bne_iff_ne]; omega
  unfold canB; rw [e1, e2]
theorem canF_idem {n v : Nat} {f : Nat → Int} (hv : v < n) : canF n (fun u => (canF n f u : Int)) v = canF n f v :=
  canF_congr hv fun x y hx hy => by rw [← canF_iff (f := f) hx hy]; omega
/-- The least elements depend on the order alone. -/
theorem least_congr {s n : Nat} {f g : Nat → Int} (h : ∀ x y, x < n → y < n → (f x ≤ f y ↔ g x ≤ g y)) : (leastP s f n).1 = (leastP s g n).1 := by
  apply Nat.eq_of_testBit_eq
  intro i
  rw [Bool.eq_iff_iff, least_bit, least_bit]
  constructor
  · rintro ⟨a, b, c⟩; exact ⟨a, b, fun w hw hs => (h i w a hw).1 (c w hw hs)⟩
  · rintro ⟨a, b, c⟩; exact ⟨a, b, fun w hw hs => (h i w a hw).2 (c w hw hs)⟩
theorem least_can {s n : Nat} {f : Nat → Int} : (leastP s (fun u => (canF n f u : Int)) n).1 = (leastP s f n).1 :=
  least_congr fun x y hx hy => by rw [← canF_le_iff (f := f) hx hy]; omega

/-! ### the place in the sorted list -/
theorem upTo_spec (d : Array Int) (hs : ∀ i j, i ≤ j → j < d.size → d[i]! ≤ d[j]!) (m : Nat) (hm : m ≤ d.size) :
    (Lib.compactUpTo d m).Pairwise (· < ·) ∧ (∀ x, x ∈ Lib.compactUpTo d m ↔ ∃ j, j < m ∧ d[j]! = x) := by
  induction m with
  | zero => exact ⟨by simp [Lib.compactUpTo], fun x => by simp [Lib.compactUpTo]⟩
  | succ m ih =>
    obtain ⟨i1, i2⟩ := ih (by omega)
    rw [Lib.compactUpTo_succ]
    by_cases hk : Lib.keeps d m = true
    · rw [if_pos hk]
      have hk' : m = 0 ∨ d[m]! ≠ d[m - 1]! := by simpa [Lib.keeps] using hk
      constructor
      · rw [List.pairwise_append]
        refine ⟨i1, by simp, fun x hx y hy => ?_⟩
        obtain rfl : y = d[m]! := by simpa using hy
        obtain ⟨j, hj, rfl⟩ := (i2 x).1 hx
        have h1 := hs j (m - 1) (by omega) (by omega)
        have h2 := hs (m - 1) m (by omega) (by omega)
        rcases hk' with h | h <;> omega
      · intro x
        rw [List.mem_append, i2]
        constructor
        · rintro (⟨j, hj, rfl⟩ | h)
          · exact ⟨j, by omega, rfl⟩
          · exact ⟨m, by omega, (by simpa using h : x = d[m]!).symm⟩
        · rintro ⟨j, hj, rfl⟩
          rcases Nat.lt_succ_iff_lt_or_eq.1 hj with h | rfl
          · exact .inl ⟨j, h, rfl⟩
          · exact .inr (by simp)
    · rw [if_neg hk, List.append_nil]
      have hk' : ¬ (m = 0 ∨ d[m]! ≠ d[m - 1]!) := by simpa [Lib.keeps] using hk
      have h0 : m ≠ 0 := fun h => hk' (.inl h)
      have h1 : d[m]! = d[m - 1]! := Classical.byContradiction fun h => hk' (.inr h)
      refine ⟨i1, fun x => ?_⟩
      rw [i2]
      constructor
      · rintro ⟨j, hj, rfl⟩; exact ⟨j, by omega, rfl⟩
      · rintro ⟨j, hj, rfl⟩
        rcases Nat.lt_succ_iff_lt_or_eq.1 hj with h | rfl
        · exact ⟨j, h, rfl⟩
        · exact ⟨j - 1, by omega, h1.symm⟩
theorem idxFrom_sorted : ∀ (l : List Int) (x : Int) (i : Nat), l.Pairwise (· < ·) → x ∈ l → Lib.idxFrom l x i = ((i + (l.filter (fun y => decide (y < x))).length : Nat) : Int)
  | [], x, i, _, h => by cases h
  | z :: zs, x, i, hp, h => by
    rw [List.pairwise_cons] at hp
    unfold Lib.idxFrom
    by_cases hz : z = x
    · subst hz
      rw [if_pos rfl]
      have : (z :: zs).filter (fun y => decide (y < z)) = [] := by
        rw [List.filter_eq_nil_iff]
        intro y hy
        rcases List.mem_cons.1 hy with rfl | hy
        · simp
        · have := hp.1 y hy; simp; omega
      rw [this]; simp
    · rw [if_neg hz]
      have hx : x ∈ zs := by
        rcases List.mem_cons.1 h with h | h
        · exact absurd h.symm hz
        · exact h
      rw [idxFrom_sorted zs x (i + 1) hp.2 hx]
      have hlt := hp.1 x hx
      rw [List.filter_cons, if_pos (by simpa using hlt), List.length_cons]
      congr 1; omega
/-- The values of the ranks, in order. -/
def zsOf (f : Nat → Int) (n : Nat) : List Int := (List.range n).map f
theorem zsOf_length (f : Nat → Int) (n : Nat) : (zsOf f n).length = n := by simp [zsOf]
theorem zsOf_mem {f : Nat → Int} {n : Nat} {x : Int} : x ∈ zsOf f n ↔ ∃ u, u < n ∧ f u = x := by simp [zsOf]
theorem zsOf_getD {f : Nat → Int} {n u : Nat} (h : u < n) : (zsOf f n).getD u 0 = f u := by simp [zsOf, h]
def sortZ (l : List Int) : List Int := l.mergeSort fun x y => decide (x ≤ y)
theorem sortZ_perm (l : List Int) : (sortZ l).Perm l := List.mergeSort_perm _ _
theorem sortZ_le (l : List Int) : (sortZ l).Pairwise (· ≤ ·) := by
  have := List.pairwise_mergeSort (le := fun x y : Int => decide (x ≤ y)) (fun a b c h1 h2 => by simp only [decide_eq_true_eq] at h1 h2 ⊢; omega) (fun a b => by simp only [Bool.or_eq_true, decide_eq_true_eq]; omega) l
  exact this.imp (fun h => by simpa using h)
theorem compact_sorted (l : List Int) : (Lib.compact (sortZ l)).Pairwise (· < ·) ∧ ∀ x, x ∈ Lib.compact (sortZ l) ↔ x ∈ l := by
  have hs : ∀ i j, i ≤ j → j < (sortZ l).toArray.size → (sortZ l).toArray[i]! ≤ (sortZ l).toArray[j]! := by
    intro i j hij hj
    have hj' : j < (sortZ l).length := by simpa using hj
    rcases Nat.lt_or_ge i j with h | h
    · have := List.pairwise_iff_getElem.1 (sortZ_le l) i j (by omega) hj' h
      simpa [hj', show i < (sortZ l).length by omega] using this
    · obtain rfl : i = j := by omega
      exact Int.le_refl _
  obtain ⟨h1, h2⟩ := upTo_spec (sortZ l).toArray hs (sortZ l).length (by simp)
  refine ⟨h1, fun x => ?_⟩
  rw [← (sortZ_perm l).mem_iff]
  refine (h2 x).trans ?_
  rw [List.mem_iff_getElem]
  constructor
  · rintro ⟨j, hj, he⟩
    exact ⟨j, hj, by simpa [hj] using he⟩
  · rintro ⟨j, hj, he⟩
    exact ⟨j, hj, by simpa [hj] using he⟩
/-- The place of a value among the sorted ones. -/
theorem idx_can {f : Nat → Int} {n v : Nat} (hv : v < n) : Lib.idxOf (Lib.compact (sortZ (zsOf f n))) (f v) = (canF n f v : Nat) := by
  obtain ⟨h1, h2⟩ := compact_sorted (zsOf f n)
  unfold Lib.idxOf
  rw [idxFrom_sorted _ _ _ h1 ((h2 _).2 (zsOf_mem.2 ⟨v, hv, rfl⟩)), Nat.zero_add]
  congr 1
  unfold canF
  rw [cntB_filter, ← List.length_map (as := (List.range n).filter (canB f v)) f]
  refine List.Perm.length_eq ((List.perm_ext_iff_of_nodup ?_ ?_).2 fun x => ?_)
  · exact (h1.filter _).imp fun h => Int.ne_of_lt h
  · rw [List.nodup_iff_pairwise_ne, List.pairwise_map, List.pairwise_filter]
    refine List.pairwise_lt_range.imp fun {a b} hab _ hb => ?_
    have := allB_iff.1 (canB_iff.1 hb).2 a hab
    simpa using this
  · rw [List.mem_filter, h2, zsOf_mem, List.mem_map]
    constructor
    · rintro ⟨⟨u, hu, rfl⟩, hlt⟩
      obtain ⟨y, y1, y2, y3⟩ := first_of f u
      refine ⟨y, ?_, y2⟩
      rw [List.mem_filter, List.mem_range]
      exact ⟨by omega, canB_iff.2 ⟨by have : f u < f v := by simpa using hlt
                                      omega, y3⟩⟩
    · rintro ⟨u, hu, rfl⟩
      rw [List.mem_filter, List.mem_range] at hu
      exact ⟨⟨u, hu.1, rfl⟩, by simpa using (canB_iff.1 hu.2).1⟩
end Go.Proofs.Ytgnkeecjaffnaaa
