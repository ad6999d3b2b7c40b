/-
  Plain facts: revision by ranks: what the laws ask.
-/
import Derived.Test.YtiifmdgcnpdibaaDoorBase
import Derived.Test.YtiifmdgcnpdibaaDoorLeast
import Derived.Test.YtiifmdgcnpdibaaDoorRkP
namespace Go.Proofs.YtiifmdgcnpdibaaDoor
open Go.RowKit

/-- The least elements of a set. -/
def lst (n : Nat) (f : Nat → Int) (s : Nat) : Nat := (leastP s f n).1
theorem lst_bit (n : Nat) (f : Nat → Int) (s v : Nat) : (lst n f s).testBit v = true ↔ v < n ∧ s.testBit v = true ∧ ∀ w, w < n → s.testBit w = true → f v ≤ f w := least_bit s f n v
theorem lst_lt (n : Nat) (f : Nat → Int) (s : Nat) : lst n f s < 2 ^ n := leastP_lt s f n
theorem lst_sub {n s v : Nat} {f : Nat → Int} (h : (lst n f s).testBit v = true) : s.testBit v = true := ((lst_bit n f s v).1 h).2.1
theorem lst_ne {n s : Nat} {f : Nat → Int} (hs : s < 2 ^ n) (h0 : s ≠ 0) : lst n f s ≠ 0 := by
  obtain ⟨i, hi, hb⟩ := has_bit hs h0
  exact ((leastP_inv s f n).2 i hi hb).2
theorem lst_zero (n : Nat) (f : Nat → Int) : lst n f 0 = 0 := by
  apply Nat.eq_of_testBit_eq
  intro i
  rw [Nat.zero_testBit]
  cases h : (lst n f 0).testBit i
  · rfl
  · have := lst_sub h; rw [Nat.zero_testBit] at this; cases this
/-- Where some least elements of t are in y, these are the least elements of both. -/
theorem lst_inter {n t y : Nat} {f : Nat → Int} (h : lst n f t &&& y ≠ 0) : lst n f (t &&& y) = lst n f t &&& y := by
  obtain ⟨i, hi⟩ := Nat.exists_testBit_of_ne_zero h
  rw [Nat.testBit_and, Bool.and_eq_true] at hi
  obtain ⟨h1, h2, h3⟩ := (lst_bit n f t i).1 hi.1
  apply Nat.eq_of_testBit_eq
  intro v
  rw [Bool.eq_iff_iff, lst_bit, Nat.testBit_and, Bool.and_eq_true, Nat.testBit_and, Bool.and_eq_true, lst_bit]
  constructor
  · rintro ⟨a, ⟨b, c⟩, d⟩
    refine ⟨⟨a, b, fun w hw ht => ?_⟩, c⟩
    have e1 := d i h1 (by rw [Nat.testBit_and, h2, hi.2]; rfl)
    have e2 := h3 w hw ht
    omega
  · rintro ⟨⟨a, b, d⟩, c⟩
    refine ⟨a, ⟨b, c⟩, fun w hw ht => ?_⟩
    rw [Nat.testBit_and, Bool.and_eq_true] at ht
    exact d w hw ht.1
theorem full_and {n x : Nat} (hx : x < 2 ^ n) : (2 ^ n - 1) &&& x = x := by
  rw [Nat.and_comm, Nat.and_two_pow_sub_one_eq_mod, Nat.mod_eq_of_lt hx]
theorem lst_full {n x : Nat} {f : Nat → Int} (hx : x < 2 ^ n) (h : lst n f (2 ^ n - 1) &&& x ≠ 0) : lst n f x = lst n f (2 ^ n - 1) &&& x := by
  have := lst_inter h
  rwa [full_and hx] at this
theorem lst_bel_ne (n : Nat) (f : Nat → Int) (hn : 0 < n) : lst n f (2 ^ n - 1) ≠ 0 := by
  have : 2 ^ 1 ≤ 2 ^ n := Nat.pow_le_pow_right (by decide) hn
  exact lst_ne (by omega) (by omega)
theorem testBit_pair (u v i : Nat) : (2 ^ u ||| 2 ^ v).testBit i = (decide (u = i) || decide (v = i)) := by
  rw [Nat.testBit_or, Nat.testBit_two_pow, Nat.testBit_two_pow]
theorem lst_pair {n u v : Nat} {f : Nat → Int} (hu : u < n) (hv : v < n) : (lst n f (2 ^ u ||| 2 ^ v)).testBit u = decide (f u ≤ f v) ∧ (lst n f (2 ^ u ||| 2 ^ v)).testBit v = decide (f v ≤ f u) := by
  constructor
  · rw [Bool.eq_iff_iff, lst_bit, decide_eq_true_eq]
    constructor
    · rintro ⟨_, _, c⟩; exact c v hv (by rw [testBit_pair]; simp)
    · intro h
      refine ⟨hu, by rw [testBit_pair]; simp, fun w hw hb => ?_⟩
      rw [testBit_pair, Bool.or_eq_true, decide_eq_true_eq, decide_eq_true_eq] at hb
      rcases hb with rfl | rfl
      · exact Int.le_refl _
      · exact h
  · rw [Bool.eq_iff_iff, lst_bit, decide_eq_true_eq]
    constructor
    · rintro ⟨_, _, c⟩; exact c u hu (by rw [testBit_pair]; simp)
    · intro h
      refine ⟨hv, by rw [testBit_pair]; simp, fun w hw hb => ?_⟩
      rw [testBit_pair, Bool.or_eq_true, decide_eq_true_eq, decide_eq_true_eq] at hb
      rcases hb with rfl | rfl
      · exact h
      · exact Int.le_refl _

/-! ### radical revision -/
/-- What is outside the input comes K further. -/
def shiftF (s : Nat) (K : Int) (f : Nat → Int) (u : Nat) : Int := if s.testBit u = true then f u else f u + K
theorem shift_lt {n s x y : Nat} {K : Int} {f : Nat → Int} (h : ∀ u, u < n → 0 ≤ f u ∧ f u < K) (hx : x < n) (hy : y < n) :
    shiftF s K f x < shiftF s K f y ↔ if s.testBit x = s.testBit y then f x < f y else s.testBit x = true := by
  have h1 := h x hx
  have h2 := h y hy
  unfold shiftF
  cases s.testBit x <;> cases s.testBit y <;> simp <;> omega
/-- The ranks after a radical revision. -/
def iterF (n s : Nat) (f : Nat → Int) (v : Nat) : Nat := canF n (shiftF s n (fun u => (canF n f u : Int))) v
theorem iter_ref {n s v : Nat} {f : Nat → Int} (h : ∀ u, u < n → 0 ≤ f u ∧ f u < 2000) (hv : v < n) : canF n (shiftF s 2000 f) v = iterF n s f v :=
  canF_congr hv fun x y hx hy => by
    rw [shift_lt h hx hy, shift_lt (n := n) (fun u hu => by have := canF_lt (f := f) hu; omega) hx hy]
    by_cases e : s.testBit x = s.testBit y
    · rw [if_pos e, if_pos e, ← canF_iff (f := f) hx hy]; omega
    · rw [if_neg e, if_neg e]
theorem iter_lt {n s v : Nat} {f : Nat → Int} (hv : v < n) : iterF n s f v < n := canF_lt hv
theorem iter_order {n s x y : Nat} {f : Nat → Int} (hx : x < n) (hy : y < n) : iterF n s f x < iterF n s f y ↔ if s.testBit x = s.testBit y then f x < f y else s.testBit x = true := by
  unfold iterF
  rw [canF_iff hx hy, shift_lt (n := n) (fun u hu => by have := canF_lt (f := f) hu; omega) hx hy]
  by_cases e : s.testBit x = s.testBit y
  · rw [if_pos e, if_pos e, ← canF_iff (f := f) hx hy]; omega
  · rw [if_neg e, if_neg e]
theorem iter_same {n s x y : Nat} {f : Nat → Int} (hx : x < n) (hy : y < n) (e : s.testBit x = s.testBit y) : iterF n s f x ≤ iterF n s f y ↔ f x ≤ f y := by
  have := iter_order (s := s) (f := f) hy hx
  rw [if_pos e.symm] at this; omega
theorem iter_above {n s x y : Nat} {f : Nat → Int} (hx : x < n) (hy : y < n) (h1 : s.testBit x = true) (h2 : s.testBit y = false) : iterF n s f x < iterF n s f y := by
  rw [iter_order hx hy, if_neg (by rw [h1, h2]; exact fun h => by cases h)]; exact h1
def iterI (n s : Nat) (f : Nat → Int) (v : Nat) : Int := (iterF n s f v : Nat)
theorem iterI_le {n s x y : Nat} {f : Nat → Int} (hx : x < n) (hy : y < n) : iterI n s f x ≤ iterI n s f y ↔ if s.testBit x = s.testBit y then f x ≤ f y else s.testBit x = true := by
  have := iter_order (s := s) (f := f) hy hx
  unfold iterI
  by_cases e : s.testBit x = s.testBit y
  · rw [if_pos e.symm] at this; rw [if_pos e]; omega
  · rw [if_neg (fun h => e h.symm)] at this
    rw [if_neg e]
    cases hx : s.testBit x <;> cases hy : s.testBit y <;> rw [hx, hy] at e <;> simp_all <;> omega
/-- The belief after a radical revision. -/
theorem iter_bel {n s : Nat} {f : Nat → Int} (hs : s < 2 ^ n) (h0 : s ≠ 0) : lst n (iterI n s f) (2 ^ n - 1) = lst n f s := by
  obtain ⟨i, hi, hb⟩ := has_bit hs h0
  apply Nat.eq_of_testBit_eq
  intro v
  have hfull : ∀ w, w < n → (2 ^ n - 1).testBit w = true := fun w hw => by rw [Nat.testBit_two_pow_sub_one]; simpa using hw
  rw [Bool.eq_iff_iff, lst_bit, lst_bit]
  constructor
  · rintro ⟨a, _, c⟩
    have hv : s.testBit v = true := by
      cases hv : s.testBit v
      · have := (iterI_le a hi).1 (c i hi (hfull i hi))
        rw [hv, hb, if_neg (fun h => by cases h)] at this; cases this
      · rfl
    refine ⟨a, hv, fun w hw hw2 => ?_⟩
    have := (iterI_le a hw).1 (c w hw (hfull w hw))
    rwa [if_pos (by rw [hv, hw2])] at this
  · rintro ⟨a, b, c⟩
    refine ⟨a, hfull v a, fun w hw _ => (iterI_le a hw).2 ?_⟩
    cases hw2 : s.testBit w
    · rw [b, if_neg (fun h => by cases h)]
    · rw [b, if_pos rfl]; exact c w hw hw2
/-- Darwiche and Pearl: a later input inside the first one, or outside of it. -/
theorem iter_inside {n s t : Nat} {f : Nat → Int} (h : (∀ i, t.testBit i = true → s.testBit i = true) ∨ ∀ i, t.testBit i = true → s.testBit i = false) : lst n (iterI n s f) t = lst n f t := by
  have key : ∀ x y, x < n → y < n → t.testBit x = true → t.testBit y = true → (iterI n s f x ≤ iterI n s f y ↔ f x ≤ f y) := fun x y hx hy h1 h2 => by
    rw [iterI_le hx hy, if_pos]
    rcases h with h | h
    · rw [h x h1, h y h2]
    · rw [h x h1, h y h2]
  apply Nat.eq_of_testBit_eq
  intro v
  rw [Bool.eq_iff_iff, lst_bit, lst_bit]
  constructor
  · rintro ⟨a, b, c⟩; exact ⟨a, b, fun w hw h2 => (key v w a hw b h2).1 (c w hw h2)⟩
  · rintro ⟨a, b, c⟩; exact ⟨a, b, fun w hw h2 => (key v w a hw b h2).2 (c w hw h2)⟩
/-- .. a later input that is consistent with the first one: its least elements are in the first one. -/
theorem iter_meet {n s t v : Nat} {f : Nat → Int} {i : Nat} (hi : i < n) (h1 : t.testBit i = true) (h2 : s.testBit i = true) (h : (lst n (iterI n s f) t).testBit v = true) : s.testBit v = true := by
  obtain ⟨a, _, c⟩ := (lst_bit _ _ _ _).1 h
  cases hv : s.testBit v
  · have := (iterI_le a hi).1 (c i hi h1)
    rw [hv, h2, if_neg (fun h => by cases h)] at this; cases this
  · rfl
end Go.Proofs.YtiifmdgcnpdibaaDoor
