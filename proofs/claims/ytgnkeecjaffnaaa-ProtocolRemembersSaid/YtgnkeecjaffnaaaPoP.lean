/-
  Plain facts: the first failure of a test; the postulates of revision.
-/
import Derived.Test.YtgnkeecjaffnaaaProg
import Derived.Test.YtgnkeecjaffnaaaBase
namespace Go.Proofs.Ytgnkeecjaffnaaa
open Go.RowKit

/-- The first i below n with p i false; n if there is none. -/
def firstNo : Nat → (Nat → Bool) → Nat
  | 0, _ => 0
  | n + 1, p => if firstNo n p < n then firstNo n p else if p n then n + 1 else n
theorem firstNo_spec (n : Nat) (p : Nat → Bool) : firstNo n p ≤ n ∧ (∀ i, i < firstNo n p → p i = true) ∧ (firstNo n p < n → p (firstNo n p) = false) := by
  induction n with
  | zero => exact ⟨Nat.le_refl _, fun i h => absurd h (Nat.not_lt_zero _), fun h => absurd h (Nat.not_lt_zero _)⟩
  | succ n ih =>
    obtain ⟨i1, i2, i3⟩ := ih
    unfold firstNo
    by_cases h : firstNo n p < n
    · rw [if_pos h]; exact ⟨by omega, i2, fun _ => i3 h⟩
    · rw [if_neg h]
      have e : firstNo n p = n := by omega
      rw [e] at i2
      cases hp : p n
      · rw [if_neg (by simp)]; exact ⟨by omega, i2, fun _ => hp⟩
      · rw [if_pos rfl]
        refine ⟨Nat.le_refl _, fun i hi => ?_, fun h => absurd h (Nat.lt_irrefl _)⟩
        rcases Nat.lt_succ_iff_lt_or_eq.1 hi with h1 | rfl
        · exact i2 i h1
        · exact hp
theorem firstNo_hit {n k : Nat} {p : Nat → Bool} (hk : k < n) (h : ∀ i, i < k → p i = true) (hn : p k = false) : firstNo n p = k := by
  obtain ⟨i1, i2, i3⟩ := firstNo_spec n p
  rcases Nat.lt_trichotomy (firstNo n p) k with h1 | h1 | h1
  · have := i3 (by omega); rw [h _ h1] at this; cases this
  · exact h1
  · have := i2 k h1; rw [hn] at this; cases this
theorem firstNo_all {n : Nat} {p : Nat → Bool} (h : ∀ i, i < n → p i = true) : firstNo n p = n := by
  obtain ⟨i1, i2, i3⟩ := firstNo_spec n p
  rcases Nat.lt_or_ge (firstNo n p) n with h1 | h1
  · have := i3 h1; rw [h _ h1] at this; cases this
  · omega

/-! ### where a test of two sets fails first -/
def failB (S last : Nat) (fit : Nat → Nat → Bool) : Bool := !allB S (fun x => allB last (fit x))
def failX (S last : Nat) (fit : Nat → Nat → Bool) : Nat := if failB S last fit then firstNo S (fun x => allB last (fit x)) else 0
def failY (S last : Nat) (fit : Nat → Nat → Bool) : Nat := if failB S last fit then firstNo last (fit (failX S last fit)) else 0
theorem fail_hit {S last x y : Nat} {fit : Nat → Nat → Bool} (hx : x < S) (hy : y < last) (h1 : ∀ x', x' < x → allB last (fit x') = true) (h2 : ∀ y', y' < y → fit x y' = true) (h3 : fit x y = false) :
    failB S last fit = true ∧ failX S last fit = x ∧ failY S last fit = y := by
  have e0 : allB last (fit x) = false := not_all hy h3
  have e1 : failB S last fit = true := by unfold failB; rw [not_all (p := fun x => allB last (fit x)) hx e0]; rfl
  have e2 : failX S last fit = x := by unfold failX; rw [if_pos e1]; exact firstNo_hit hx h1 e0
  refine ⟨e1, e2, ?_⟩
  unfold failY; rw [if_pos e1, e2]; exact firstNo_hit hy h2 h3
theorem fail_none {S last : Nat} {fit : Nat → Nat → Bool} (h : ∀ x, x < S → allB last (fit x) = true) : failB S last fit = false ∧ failX S last fit = 0 ∧ failY S last fit = 0 := by
  have e1 : failB S last fit = false := by unfold failB; rw [allB_iff.2 h]; rfl
  exact ⟨e1, by unfold failX; rw [e1]; rfl, by unfold failY; rw [e1]; rfl⟩
theorem fail_at {S last : Nat} {fit : Nat → Nat → Bool} (h : failB S last fit = true) : failX S last fit < S ∧ failY S last fit < last ∧ fit (failX S last fit) (failY S last fit) = false := by
  have h0 : allB S (fun x => allB last (fit x)) = false := by unfold failB at h; simpa using h
  obtain ⟨u, hu, hf⟩ := not_allB h0
  obtain ⟨a1, a2, a3⟩ := firstNo_spec S (fun x => allB last (fit x))
  have hx : failX S last fit = firstNo S (fun x => allB last (fit x)) := by unfold failX; rw [if_pos h]
  have hlt : firstNo S (fun x => allB last (fit x)) < S := by
    rcases Nat.lt_or_ge (firstNo S (fun x => allB last (fit x))) S with h1 | h1
    · exact h1
    · have := a2 u (by omega); rw [hf] at this; cases this
  have hxf := a3 hlt
  rw [← hx] at hlt hxf
  obtain ⟨y, hy, hyf⟩ := not_allB hxf
  obtain ⟨b1, b2, b3⟩ := firstNo_spec last (fit (failX S last fit))
  have hyv : failY S last fit = firstNo last (fit (failX S last fit)) := by unfold failY; rw [if_pos h]
  have hyl : firstNo last (fit (failX S last fit)) < last := by
    rcases Nat.lt_or_ge (firstNo last (fit (failX S last fit))) last with h1 | h1
    · exact h1
    · have := b2 y (by omega); rw [hyf] at this; cases this
  exact ⟨hlt, by rw [hyv]; exact hyl, by rw [hyv]; exact b3 hyl⟩
theorem fail_ok {S last : Nat} {fit : Nat → Nat → Bool} (h : failB S last fit = false) {x y : Nat} (hx : x < S) (hy : y < last) : fit x y = true := by
  have h0 : allB S (fun x => allB last (fit x)) = true := by unfold failB at h; simpa using h
  exact allB_iff.1 (allB_iff.1 h0 x hx) y hy

/-! ### the postulates of revision -/
/-- Postulate i (0 to 5) of the table T holds for the belief k at x and y. -/
def rvFit (i k : Nat) (T : Nat → Nat) (x y : Nat) : Bool := match i with
  | 0 => andNot (T x) x == 0
  | 1 => k &&& x == 0 || T x == k &&& x
  | 2 => x == 0 || T x != 0
  | 3 => true
  | 4 => andNot (T x &&& y) (T (x &&& y)) == 0
  | _ => T x &&& y == 0 || andNot (T (x &&& y)) (T x &&& y) == 0
def rvLast (S i : Nat) : Nat := if i < 4 then 1 else S
/-- The error of a table of S entries. -/
def tabErr (S n : Nat) (f : Nat → Nat) : Nat := if n = S then (if allB n (fun v => decide (f v < S)) then 0 else 2) else 3
/-- Postulate i fails somewhere. -/
def rvBad (S k : Nat) (T : Nat → Nat) (i : Nat) : Bool := failB S (rvLast S i) (rvFit i k T)
def rvGood (S k : Nat) (T : Nat → Nat) (i : Nat) : Bool := !rvBad S k T i
/-- The first postulate that fails, of the first i. -/
def rvLow (S k : Nat) (T : Nat → Nat) (i : Nat) : Nat := firstNo i (rvGood S k T)
def rvX (S k : Nat) (T : Nat → Nat) (i : Nat) : Nat := if rvLow S k T i < i then failX S (rvLast S (rvLow S k T i)) (rvFit (rvLow S k T i) k T) else 0
def rvY (S k : Nat) (T : Nat → Nat) (i : Nat) : Nat := if rvLow S k T i < i then failY S (rvLast S (rvLow S k T i)) (rvFit (rvLow S k T i) k T) else 0
theorem rvLow_succ (S k : Nat) (T : Nat → Nat) (i : Nat) : rvLow S k T (i + 1) = if rvLow S k T i < i then rvLow S k T i else if rvGood S k T i then i + 1 else i := rfl
/-- No postulate has failed yet. -/
def rvNone (S k : Nat) (T : Nat → Nat) (i : Nat) : Bool := decide (¬ rvLow S k T i < i)
def rvMask (S k : Nat) (T : Nat → Nat) (i : Nat) : Nat := mkSet i (rvGood S k T)
theorem rv_good {S k : Nat} {T : Nat → Nat} {i : Nat} (h : rvBad S k T i = false) : rvX S k T (i + 1) = rvX S k T i ∧ rvY S k T (i + 1) = rvY S k T i ∧ rvNone S k T (i + 1) = rvNone S k T i ∧ rvMask S k T (i + 1) = rvMask S k T i ||| 2 ^ i := by
  have hg : rvGood S k T i = true := by unfold rvGood; rw [h]; rfl
  have hle := (firstNo_spec i (rvGood S k T)).1
  refine ⟨?_, ?_, ?_, mkSet_succ_yes hg⟩
  all_goals
    by_cases hlt : rvLow S k T i < i
    · have e : rvLow S k T (i + 1) = rvLow S k T i := if_pos hlt
      first
        | (unfold rvX; rw [e, if_pos hlt, if_pos (by omega)])
        | (unfold rvY; rw [e, if_pos hlt, if_pos (by omega)])
        | (unfold rvNone; rw [e, decide_eq_false (by omega), decide_eq_false (by omega)])
    · have e : rvLow S k T (i + 1) = i + 1 := by
        rw [rvLow_succ, if_neg hlt, if_pos hg]
      first
        | (unfold rvX; rw [e, if_neg hlt, if_neg (by omega)])
        | (unfold rvY; rw [e, if_neg hlt, if_neg (by omega)])
        | (unfold rvNone; rw [e, decide_eq_true hlt, decide_eq_true (by omega)])
theorem rv_bad_first {S k : Nat} {T : Nat → Nat} {i : Nat} (h : rvBad S k T i = true) (hn : rvNone S k T i = true) : rvX S k T (i + 1) = failX S (rvLast S i) (rvFit i k T) ∧ rvY S k T (i + 1) = failY S (rvLast S i) (rvFit i k T) ∧ rvNone S k T (i + 1) = false ∧ rvMask S k T (i + 1) = rvMask S k T i := by
  have hg : rvGood S k T i = false := by unfold rvGood; rw [h]; rfl
  have hlt : ¬ rvLow S k T i < i := of_decide_eq_true hn
  have e : rvLow S k T (i + 1) = i := by
    rw [rvLow_succ, if_neg hlt, hg]; rfl
  refine ⟨?_, ?_, ?_, mkSet_succ_no hg⟩
  · unfold rvX; rw [e, if_pos (by omega)]
  · unfold rvY; rw [e, if_pos (by omega)]
  · unfold rvNone; rw [e]; exact decide_eq_false (by omega)
theorem rv_bad_later {S k : Nat} {T : Nat → Nat} {i : Nat} (h : rvBad S k T i = true) (hn : rvNone S k T i = false) : rvX S k T (i + 1) = rvX S k T i ∧ rvY S k T (i + 1) = rvY S k T i ∧ rvNone S k T (i + 1) = false ∧ rvMask S k T (i + 1) = rvMask S k T i := by
  have hg : rvGood S k T i = false := by unfold rvGood; rw [h]; rfl
  have hlt : rvLow S k T i < i := by have := of_decide_eq_false hn; omega
  have e : rvLow S k T (i + 1) = rvLow S k T i := if_pos hlt
  refine ⟨?_, ?_, ?_, mkSet_succ_no hg⟩
  · unfold rvX; rw [e, if_pos hlt, if_pos (by omega)]
  · unfold rvY; rw [e, if_pos hlt, if_pos (by omega)]
  · unfold rvNone; rw [e]; exact decide_eq_false (by omega)
end Go.Proofs.Ytgnkeecjaffnaaa
