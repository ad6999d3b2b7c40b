/-
  Plain facts: the elements of a set with the least value.
-/
import Derived.Test.YtgnkeecjaffnaaaBase
namespace Go.Proofs.Ytgnkeecjaffnaaa
open Go.RowKit

theorem bit_lt' {s n i : Nat} (hs : s < 2 ^ n) (hi : s.testBit i = true) : i < n := by
  rcases Nat.lt_or_ge i n with h | h
  · exact h
  · rw [Nat.testBit_lt_two_pow (Nat.lt_of_lt_of_le hs (Nat.pow_le_pow_right (by decide) h))] at hi; cases hi
theorem has_bit {s n : Nat} (hs : s < 2 ^ n) (h : s ≠ 0) : ∃ i, i < n ∧ s.testBit i = true := by
  obtain ⟨i, hi⟩ := Nat.exists_testBit_of_ne_zero h
  exact ⟨i, bit_lt' hs hi, hi⟩
/-- What 'least' has after n elements. -/
def leastP (s : Nat) (f : Nat → Int) : Nat → Nat × Int
  | 0 => (0, 0)
  | v + 1 => if s.testBit v = false then leastP s f v
    else if (leastP s f v).1 = 0 ∨ f v < (leastP s f v).2 then (2 ^ v, f v)
    else if f v = (leastP s f v).2 then ((leastP s f v).1 ||| 2 ^ v, (leastP s f v).2)
    else leastP s f v
theorem leastP_lt (s : Nat) (f : Nat → Int) (n : Nat) : (leastP s f n).1 < 2 ^ n := by
  induction n with
  | zero => exact Nat.one_pos
  | succ v ih =>
    have h1 : 2 ^ v < 2 ^ (v + 1) := Nat.pow_lt_pow_right (by decide) (by omega)
    unfold leastP
    split
    · omega
    · split
      · exact h1
      · split
        · exact Nat.or_lt_two_pow (by omega) h1
        · omega

theorem leastP_inv (s : Nat) (f : Nat → Int) (n : Nat) :
    (∀ v, (leastP s f n).1.testBit v = true ↔ v < n ∧ s.testBit v = true ∧ f v = (leastP s f n).2) ∧ (∀ w, w < n → s.testBit w = true → (leastP s f n).2 ≤ f w ∧ (leastP s f n).1 ≠ 0) := by
  induction n with
  | zero => exact ⟨fun v => ⟨fun h => (by rw [show (leastP s f 0).1 = 0 from rfl, Nat.zero_testBit] at h; cases h), fun h => absurd h.1 (Nat.not_lt_zero _)⟩, fun w h => absurd h (Nat.not_lt_zero _)⟩
  | succ n ih =>
    obtain ⟨ih1, ih2⟩ := ih
    have hS : leastP s f (n + 1) = if s.testBit n = false then leastP s f n
      else if (leastP s f n).1 = 0 ∨ f n < (leastP s f n).2 then (2 ^ n, f n)
      else if f n = (leastP s f n).2 then ((leastP s f n).1 ||| 2 ^ n, (leastP s f n).2)
      else leastP s f n := rfl
    have hnz : ∀ m : Nat, (m ||| 2 ^ n) ≠ 0 := fun m h => by
      have := congrArg (fun x => Nat.testBit x n) h
      simp [Nat.testBit_or, Nat.testBit_two_pow_self] at this
    cases hb : s.testBit n
    · rw [hS, if_pos hb]
      refine ⟨fun v => ⟨fun h => ?_, fun h => ?_⟩, fun w hw hsw => ?_⟩
      · have := (ih1 v).1 h; exact ⟨by omega, this.2⟩
      · refine (ih1 v).2 ⟨?_, h.2⟩
        rcases Nat.lt_succ_iff_lt_or_eq.1 h.1 with h1 | rfl
        · exact h1
        · rw [hb] at h; cases h.2.1
      · rcases Nat.lt_succ_iff_lt_or_eq.1 hw with h1 | rfl
        · exact ih2 w h1 hsw
        · rw [hb] at hsw; cases hsw
    · rw [hS, if_neg (by rw [hb]; exact fun h => by cases h)]
      by_cases h1 : (leastP s f n).1 = 0 ∨ f n < (leastP s f n).2
      · rw [if_pos h1]
        have hno : ∀ w, w < n → s.testBit w = true → f n < f w := fun w hw hsw => by
          obtain ⟨h2, h3⟩ := ih2 w hw hsw
          rcases h1 with h1 | h1
          · exact absurd h1 h3
          · omega
        refine ⟨fun v => ⟨fun h => ?_, fun h => ?_⟩, fun w hw hsw => ⟨?_, ?_⟩⟩
        · have : n = v := by simpa [Nat.testBit_two_pow] using h
          subst this; exact ⟨by omega, hb, rfl⟩
        · rcases Nat.lt_succ_iff_lt_or_eq.1 h.1 with h2 | rfl
          · have := hno v h2 h.2.1; have := h.2.2; omega
          · exact Nat.testBit_two_pow_self
        · rcases Nat.lt_succ_iff_lt_or_eq.1 hw with h2 | rfl
          · exact Int.le_of_lt (hno w h2 hsw)
          · exact Int.le_refl _
        · have := Nat.two_pow_pos n; show 2 ^ n ≠ 0; omega
      · rw [if_neg h1]
        by_cases h2 : f n = (leastP s f n).2
        · rw [if_pos h2]
          refine ⟨fun v => ⟨fun h => ?_, fun h => ?_⟩, fun w hw hsw => ⟨?_, hnz _⟩⟩
          · have h' : (leastP s f n).1.testBit v = true ∨ n = v := by simpa [Nat.testBit_or, Nat.testBit_two_pow] using h
            rcases h' with h' | rfl
            · have := (ih1 v).1 h'; exact ⟨by omega, this.2⟩
            · exact ⟨by omega, hb, h2⟩
          · show ((leastP s f n).1 ||| 2 ^ n).testBit v = true
            rw [Nat.testBit_or]
            rcases Nat.lt_succ_iff_lt_or_eq.1 h.1 with h3 | rfl
            · rw [(ih1 v).2 ⟨h3, h.2⟩]; rfl
            · simp [Nat.testBit_two_pow_self]
          · rcases Nat.lt_succ_iff_lt_or_eq.1 hw with h3 | rfl
            · exact (ih2 w h3 hsw).1
            · show (leastP s f w).2 ≤ f w; omega
        · rw [if_neg h2]
          refine ⟨fun v => ⟨fun h => ?_, fun h => ?_⟩, fun w hw hsw => ?_⟩
          · have := (ih1 v).1 h; exact ⟨by omega, this.2⟩
          · refine (ih1 v).2 ⟨?_, h.2⟩
            rcases Nat.lt_succ_iff_lt_or_eq.1 h.1 with h3 | rfl
            · exact h3
            · exact absurd h.2.2 h2
          · rcases Nat.lt_succ_iff_lt_or_eq.1 hw with h3 | rfl
            · exact ih2 w h3 hsw
            · refine ⟨?_, fun h => h1 (.inl h)⟩
              have : ¬ f w < (leastP s f w).2 := fun h => h1 (.inr h)
              omega
/-- The set that 'least' returns: the elements with the least value. -/
theorem least_bit (s : Nat) (f : Nat → Int) (n v : Nat) : (leastP s f n).1.testBit v = true ↔ v < n ∧ s.testBit v = true ∧ ∀ w, w < n → s.testBit w = true → f v ≤ f w := by
  obtain ⟨h1, h2⟩ := leastP_inv s f n
  rw [h1]
  constructor
  · rintro ⟨a, b, c⟩
    exact ⟨a, b, fun w hw hsw => by rw [c]; exact (h2 w hw hsw).1⟩
  · rintro ⟨a, b, c⟩
    refine ⟨a, b, ?_⟩
    have h3 := h2 v a b
    obtain ⟨i, hi, hib⟩ := has_bit (leastP_lt s f n) h3.2
    obtain ⟨a', b', c'⟩ := (h1 i).1 hib
    have := c i a' b'
    omega

end Go.Proofs.Ytgnkeecjaffnaaa
