/-
  Plain facts: iterated radical revision.
-/
import Derived.Test.YtnilfpcipclagaaBase
import Derived.Test.YtnilfpcipclagaaLeast
import Derived.Test.YtnilfpcipclagaaRkP
import Derived.Test.YtnilfpcipclagaaRkQ
namespace Go.Proofs.Ytnilfpcipclagaa
open Go.RowKit

theorem iter_twice {n s v : Nat} {f : Nat → Int} (hv : v < n) : iterF n s (iterI n s f) v = iterF n s f v := by
  have h1 : iterF n s (iterI n s f) v = canF n (iterI n s f) v := canF_congr hv fun x y hx hy => by
    rw [shift_lt (n := n) (fun u hu => by have := canF_lt (f := iterI n s f) hu; omega) hx hy]
    have h2 := iter_order (s := s) (f := f) hx hy
    have h3 : iterI n s f x < iterI n s f y ↔ iterF n s f x < iterF n s f y := by unfold iterI; omega
    by_cases e : s.testBit x = s.testBit y
    · rw [if_pos e, ← canF_iff (f := iterI n s f) hx hy]; omega
    · rw [if_neg e] at h2
      rw [if_neg e, h3, h2]
  rw [h1]
  exact canF_idem hv
theorem bit_of_and {x y i : Nat} (h : (x &&& y).testBit i = true) : x.testBit i = true ∧ y.testBit i = true := by
  rw [Nat.testBit_and, Bool.and_eq_true] at h; exact h
theorem and_ne {x y : Nat} (h : x &&& y ≠ 0) : ∃ i, x.testBit i = true ∧ y.testBit i = true := by
  obtain ⟨i, hi⟩ := Nat.exists_testBit_of_ne_zero h
  exact ⟨i, bit_of_and hi⟩
theorem ne_of_bit {x i : Nat} (h : x.testBit i = true) : x ≠ 0 := fun h0 => by rw [h0, Nat.zero_testBit] at h; cases h
theorem and_self_of {a x : Nat} (h : ∀ i, a.testBit i = true → x.testBit i = true) : a &&& x = a := by
  apply Nat.eq_of_testBit_eq
  intro i
  rw [Nat.testBit_and]
  cases ha : a.testBit i
  · rfl
  · rw [h i ha]; rfl
/-- Two radical revisions with inputs that are consistent with each other. -/
theorem recal {n x y : Nat} {f : Nat → Int} (hy : y < 2 ^ n) (h0 : x &&& y ≠ 0) : lst n (iterI n y (iterI n x f)) (2 ^ n - 1) = lst n f (x &&& y) := by
  obtain ⟨i, hx, hyi⟩ := and_ne h0
  have hi := bit_lt' hy hyi
  have hy0 := ne_of_bit hyi
  rw [iter_bel hy hy0]
  have h1 := and_self_of (a := lst n (iterI n x f) y) (x := x) fun v hv => iter_meet hi hyi hx hv
  have h2 : lst n (iterI n x f) y ≠ 0 := lst_ne hy hy0
  have h3 := lst_inter (n := n) (t := y) (y := x) (f := iterI n x f) (by rw [h1]; exact h2)
  rw [h1] at h3
  rw [← h3, iter_inside (.inl fun j hj => (bit_of_and hj).2), Nat.and_comm]
/-- The postulates of Darwiche and Pearl. -/
theorem pearl1 {n x y : Nat} {f : Nat → Int} (hx : x < 18446744073709551616) (hy : y < 18446744073709551616) (h : andNot y x = 0 ∨ y &&& x = 0) : lst n f y = lst n (iterI n x f) y := by
  rw [iter_inside]
  rcases h with h | h
  · exact .inl fun i hi => (andNot_eq_zero hy hx).1 h i hi
  · refine .inr fun i hi => ?_
    cases hxi : x.testBit i
    · rfl
    · have : (y &&& x).testBit i = true := by rw [Nat.testBit_and, hi, hxi]; rfl
      rw [h, Nat.zero_testBit] at this; cases this
theorem lst_lt64' {n : Nat} (hn : n ≤ 63) (f : Nat → Int) (s : Nat) : lst n f s < 18446744073709551616 := Nat.lt_trans (lst_lt n f s) (pow_lt64 (by omega))
theorem pearl2 {n x y : Nat} {f : Nat → Int} (hn : n ≤ 63) (hx : x < 18446744073709551616) (hy : y < 2 ^ n) (h : andNot (lst n f y) x = 0) : andNot (lst n (iterI n x f) y) x = 0 := by
  rw [andNot_eq_zero (lst_lt64' hn _ _) hx] at h ⊢
  intro v hv
  by_cases h0 : y = 0
  · rw [h0, lst_zero, Nat.zero_testBit] at hv; cases hv
  · obtain ⟨i, hi⟩ := Nat.exists_testBit_of_ne_zero (lst_ne (f := f) hy h0)
    have h1 := (lst_bit n f y i).1 hi
    exact iter_meet h1.1 h1.2.1 (h i hi) hv
theorem pearl3 {n x y : Nat} {f : Nat → Int} (hy : y < 2 ^ n) (h : lst n f y &&& x ≠ 0) : lst n (iterI n x f) y &&& x ≠ 0 := by
  obtain ⟨i, h1, h2⟩ := and_ne h
  have h3 := (lst_bit n f y i).1 h1
  have h0 := ne_of_bit h3.2.1
  rw [and_self_of fun v hv => iter_meet h3.1 h3.2.1 h2 hv]
  exact lst_ne hy h0
end Go.Proofs.Ytnilfpcipclagaa
