/-
  Plain facts: the tables that satisfy all postulates of revision, and their ranks.
-/
import Derived.Test.YtlcojpopngdigaaDoorProg
import Derived.Test.YtlcojpopngdigaaDoorBase
import Derived.Test.YtlcojpopngdigaaDoorPoP
import Derived.Test.YtlcojpopngdigaaDoorLeast
namespace Go.Proofs.YtlcojpopngdigaaDoor
open Go.RowKit

/-- The postulates R1 to R6 for the belief kb and the table T of the sets of N valuations (S of them). -/
structure RvOk (S kb : Nat) (T : Nat → Nat) : Prop where
  lt : ∀ x, x < S → T x < S
  r1 : ∀ x, x < S → ∀ i, (T x).testBit i = true → x.testBit i = true
  r2 : ∀ x, x < S → kb &&& x ≠ 0 → T x = kb &&& x
  r3 : ∀ x, x < S → x ≠ 0 → T x ≠ 0
  r5 : ∀ x, x < S → ∀ y, y < S → ∀ i, (T x).testBit i = true → y.testBit i = true → (T (x &&& y)).testBit i = true
  r6 : ∀ x, x < S → ∀ y, y < S → T x &&& y ≠ 0 → ∀ i, (T (x &&& y)).testBit i = true → (T x).testBit i = true ∧ y.testBit i = true
theorem mask_all {S k : Nat} {T : Nat → Nat} (h : rvMask S k T 6 = 63) (i : Nat) (hi : i < 6) : rvBad S k T i = false := by
  have h1 : (rvMask S k T 6).testBit i = (decide (i < 6) && rvGood S k T i) := testBit_mkSet _ _ _
  rw [h] at h1
  have h2 : (63 : Nat).testBit i = true := by
    have : ∀ i : Nat, i < 6 → (63 : Nat).testBit i = true := by decide
    exact this i hi
  rw [h2, decide_eq_true hi, Bool.true_and] at h1
  unfold rvGood at h1
  cases hb : rvBad S k T i
  · rfl
  · rw [hb] at h1; cases h1
theorem mask_of {S k : Nat} {T : Nat → Nat} (h : ∀ i, i < 6 → rvBad S k T i = false) : rvMask S k T 6 = 63 := by
  have : rvMask S k T 6 = mkSet 6 (fun _ => true) := mkSet_congr fun i hi => by unfold rvGood; rw [h i hi]; rfl
  rw [this]; rfl
theorem rvOk_of {S k : Nat} {T : Nat → Nat} (hS : 2 ≤ S) (hS2 : S ≤ 256) (hl : ∀ x, x < S → T x < S) (h : rvMask S k T 6 = 63) : RvOk S k T := by
  have hm := mask_all h
  have a64 : ∀ x, x < S → x < 18446744073709551616 := fun x hx => by omega
  refine ⟨hl, ?_, ?_, ?_, ?_, ?_⟩
  · intro x hx i hi
    have h1 : rvFit 0 k T x 0 = true := fail_ok (hm 0 (by omega)) hx (by show 0 < 1; omega)
    have h2 : andNot (T x) x = 0 := by simpa [rvFit] using h1
    exact (andNot_eq_zero (a64 _ (hl x hx)) (a64 x hx)).1 h2 i hi
  · intro x hx hne
    have h1 : rvFit 1 k T x 0 = true := fail_ok (hm 1 (by omega)) hx (by show 0 < 1; omega)
    have h2 : k &&& x = 0 ∨ T x = k &&& x := by simpa [rvFit] using h1
    exact h2.resolve_left hne
  · intro x hx hne
    have h1 : rvFit 2 k T x 0 = true := fail_ok (hm 2 (by omega)) hx (by show 0 < 1; omega)
    have h2 : x = 0 ∨ ¬ T x = 0 := by simpa [rvFit] using h1
    exact h2.resolve_left hne
  · intro x hx y hy i hi hiy
    have h1 : rvFit 4 k T x y = true := fail_ok (hm 4 (by omega)) hx hy
    have h2 : andNot (T x &&& y) (T (x &&& y)) = 0 := by simpa [rvFit] using h1
    have hz : x &&& y < S := Nat.lt_of_le_of_lt Nat.and_le_left hx
    exact (andNot_eq_zero (Nat.lt_of_le_of_lt Nat.and_le_left (a64 _ (hl x hx))) (a64 _ (hl _ hz))).1 h2 i (by rw [Nat.testBit_and, hi, hiy]; rfl)
  · intro x hx y hy hne i hi
    have h1 : rvFit 5 k T x y = true := fail_ok (hm 5 (by omega)) hx hy
    have h2 : T x &&& y = 0 ∨ andNot (T (x &&& y)) (T x &&& y) = 0 := by simpa [rvFit] using h1
    have hz : x &&& y < S := Nat.lt_of_le_of_lt Nat.and_le_left hx
    have h3 := (andNot_eq_zero (a64 _ (hl _ hz)) (Nat.lt_of_le_of_lt Nat.and_le_left (a64 _ (hl x hx)))).1 (h2.resolve_left hne) i hi
    rw [Nat.testBit_and, Bool.and_eq_true] at h3
    exact h3
theorem tab_lt {S : Nat} {T : Nat → Nat} (h : tabErr S S T = 0) : ∀ x, x < S → T x < S := by
  unfold tabErr at h
  rw [if_pos rfl] at h
  cases ha : allB S (fun v => decide (T v < S))
  · rw [ha] at h; cases h
  · intro x hx; exact of_decide_eq_true (allB_iff.1 ha x hx)

/-! ### the ranks -/
/-- v is low among 'left'. -/
def lowB (N : Nat) (T : Nat → Nat) (left v : Nat) : Bool := left.testBit v && allB N (fun w => !left.testBit w || (T (2 ^ v ||| 2 ^ w)).testBit v)
/-- What is left after j rounds. -/
def leftN (S : Nat) (T : Nat → Nat) : Nat → Nat
  | 0 => S - 1
  | j + 1 => andNot (leftN S T j) (T (leftN S T j))
/-- The ranks after j rounds. -/
def rankN (S : Nat) (T : Nat → Nat) : Nat → Nat → Nat
  | 0, _ => 0
  | j + 1, v => if (T (leftN S T j)).testBit v then j else rankN S T j v
theorem pair_lt {N v w : Nat} (hv : v < N) (hw : w < N) : 2 ^ v ||| 2 ^ w < 2 ^ N := Nat.or_lt_two_pow (Nat.pow_lt_pow_right (by decide) hv) (Nat.pow_lt_pow_right (by decide) hw)
theorem pair_bit {v w i : Nat} : (2 ^ v ||| 2 ^ w).testBit i = true ↔ i = v ∨ i = w := by
  rw [Nat.testBit_or, Nat.testBit_two_pow, Nat.testBit_two_pow]
  simp only [Bool.or_eq_true, decide_eq_true_eq]
  constructor
  · rintro (h | h)
    · exact .inl h.symm
    · exact .inr h.symm
  · rintro (h | h)
    · exact .inl h.symm
    · exact .inr h.symm
theorem low_eq {N S kb left : Nat} {T : Nat → Nat} (hS : S = 2 ^ N) (H : RvOk S kb T) (hl : left < S) (h0 : left ≠ 0) : mkSet N (lowB N T left) = T left := by
  apply Nat.eq_of_testBit_eq
  intro v
  rw [testBit_mkSet, Bool.eq_iff_iff]
  constructor
  · intro h
    rw [Bool.and_eq_true, decide_eq_true_eq] at h
    obtain ⟨hv, hb⟩ := h
    unfold lowB at hb
    rw [Bool.and_eq_true, allB_iff] at hb
    obtain ⟨h1, h2⟩ := hb
    obtain ⟨w, hw, hwb⟩ := has_bit (n := N) (by rw [← hS]; exact H.lt left hl) (H.r3 left hl h0)
    have hwl := H.r1 left hl w hwb
    have h3 := h2 w hw
    rw [hwl] at h3
    have h4 : (T (2 ^ v ||| 2 ^ w)).testBit v = true := by simpa using h3
    have hp : 2 ^ v ||| 2 ^ w < S := by rw [hS]; exact pair_lt hv hw
    have hand : left &&& (2 ^ v ||| 2 ^ w) = 2 ^ v ||| 2 ^ w := by
      apply Nat.eq_of_testBit_eq
      intro i
      rw [Nat.testBit_and]
      cases hi : (2 ^ v ||| 2 ^ w).testBit i
      · rw [Bool.and_false]
      · rcases pair_bit.1 hi with rfl | rfl
        · rw [h1]; rfl
        · rw [hwl]; rfl
    have hne : T left &&& (2 ^ v ||| 2 ^ w) ≠ 0 := by
      intro h
      have := congrArg (fun x => Nat.testBit x w) h
      simp only [Nat.testBit_and, Nat.zero_testBit, hwb, Bool.true_and] at this
      rw [pair_bit.2 (.inr rfl)] at this; cases this
    have h6 := H.r6 left hl _ hp hne v (by rw [hand]; exact h4)
    exact h6.1
  · intro h
    have h1 := H.r1 left hl v h
    have hv := bit_lt' (n := N) (by rw [← hS]; exact hl) h1
    rw [decide_eq_true hv, Bool.true_and]
    unfold lowB
    rw [Bool.and_eq_true, allB_iff]
    refine ⟨h1, fun w hw => ?_⟩
    cases hwl : left.testBit w
    · rfl
    · have hp : 2 ^ v ||| 2 ^ w < S := by rw [hS]; exact pair_lt hv hw
      have hand : left &&& (2 ^ v ||| 2 ^ w) = 2 ^ v ||| 2 ^ w := by
        apply Nat.eq_of_testBit_eq
        intro i
        rw [Nat.testBit_and]
        cases hi : (2 ^ v ||| 2 ^ w).testBit i
        · rw [Bool.and_false]
        · rcases pair_bit.1 hi with rfl | rfl
          · rw [h1]; rfl
          · rw [hwl]; rfl
      have h5 := H.r5 left hl _ hp v h (pair_bit.2 (.inl rfl))
      rw [hand] at h5
      rw [h5]; rfl
theorem left_lt {S kb : Nat} {T : Nat → Nat} (hS : 2 ≤ S) (_H : RvOk S kb T) (j : Nat) : leftN S T j < S := by
  induction j with
  | zero => show S - 1 < S; omega
  | succ j ih => exact Nat.lt_of_le_of_lt Nat.and_le_left ih
theorem add_or_of_and {a b : Nat} (ha : a < 256) (hb : b < 256) (h : a &&& b = 0) : a + b = a ||| b := by
  have key : ∀ a : Nat, a < 256 → ∀ b : Nat, b < 256 → a &&& b = 0 → a + b = a ||| b := by decide +kernel
  exact key a ha b hb h
theorem andNot_sub {a b : Nat} (ha : a < 256) (hb : b < 256) (h : ∀ i, b.testBit i = true → a.testBit i = true) : andNot a b = a - b := by
  have e : a = andNot a b ||| b := by
    apply Nat.eq_of_testBit_eq
    intro i
    rw [Nat.testBit_or, testBit_andNot a b i (by omega) (by omega)]
    cases hbi : b.testBit i
    · simp
    · rw [h i hbi]; rfl
  have e2 : andNot a b + b = andNot a b ||| b := by
    have hd : andNot a b &&& b = 0 := by
      apply Nat.eq_of_testBit_eq
      intro i
      rw [Nat.testBit_and, testBit_andNot a b i (by omega) (by omega), Nat.zero_testBit]
      cases b.testBit i <;> simp
    exact add_or_of_and (Nat.lt_of_le_of_lt Nat.and_le_left ha) hb hd
  omega
theorem left_next {S kb j : Nat} {T : Nat → Nat} (hS : 2 ≤ S) (hS2 : S ≤ 256) (H : RvOk S kb T) : leftN S T (j + 1) = leftN S T j - T (leftN S T j) := by
  have hl := left_lt hS H j
  have := H.lt _ hl
  exact andNot_sub (by omega) (by omega) (H.r1 _ hl)
theorem left_le {S kb j : Nat} {T : Nat → Nat} (hS : 2 ≤ S) (hS2 : S ≤ 256) (H : RvOk S kb T) (h0 : leftN S T j ≠ 0) : leftN S T (j + 1) < leftN S T j := by
  rw [left_next hS hS2 H]
  have := H.r3 _ (left_lt hS H j) h0
  omega
theorem left_zero {S kb j : Nat} {T : Nat → Nat} (hS : 2 ≤ S) (H : RvOk S kb T) (h0 : leftN S T j = 0) : T (leftN S T j) = 0 := by
  rw [h0]
  have h := H.r1 0 (by omega)
  apply Nat.eq_of_testBit_eq
  intro i
  cases hi : (T 0).testBit i
  · rw [Nat.zero_testBit]
  · have := h i hi; rw [Nat.zero_testBit] at this; cases this
theorem rank_stop {S kb j : Nat} {T : Nat → Nat} (hS : 2 ≤ S) (H : RvOk S kb T) (h0 : leftN S T j = 0) (d : Nat) : leftN S T (j + d) = 0 ∧ rankN S T (j + d) = rankN S T j := by
  induction d with
  | zero => exact ⟨h0, rfl⟩
  | succ d ih =>
    obtain ⟨i1, i2⟩ := ih
    have hz := left_zero hS H i1
    refine ⟨?_, ?_⟩
    · show andNot (leftN S T (j + d)) (T (leftN S T (j + d))) = 0
      rw [i1]; exact Nat.zero_and _
    · funext v
      show (if (T (leftN S T (j + d))).testBit v then j + d else rankN S T (j + d) v) = _
      rw [hz, Nat.zero_testBit, i2]; rfl
/-- After S rounds nothing is left, and from the first round on at which nothing is left the ranks stay. -/
theorem rank_end {S kb j : Nat} {T : Nat → Nat} (hS : 2 ≤ S) (H : RvOk S kb T) (h0 : leftN S T j = 0) (hj : j ≤ S) : rankN S T S = rankN S T j := by
  have := (rank_stop hS H h0 (S - j)).2
  rwa [show j + (S - j) = S by omega] at this
theorem left_bound {S kb : Nat} {T : Nat → Nat} (hS : 2 ≤ S) (hS2 : S ≤ 256) (H : RvOk S kb T) (j : Nat) (h0 : leftN S T j ≠ 0) : j + leftN S T j ≤ S - 1 := by
  induction j with
  | zero => show 0 + (S - 1) ≤ S - 1; omega
  | succ j ih =>
    have h1 : leftN S T j ≠ 0 := fun h => h0 (by have := (rank_stop hS H h 1).1; exact this)
    have := ih h1
    have := left_le hS hS2 H h1
    omega
theorem rank_le {S : Nat} {T : Nat → Nat} (j v : Nat) : rankN S T j v ≤ j := by
  induction j with
  | zero => exact Nat.le_refl _
  | succ j ih => unfold rankN; split <;> omega
end Go.Proofs.YtlcojpopngdigaaDoor
