/-
  Plain facts of layer 54: floods: who has crashed, who is reached, what is known, the states, the facts.
-/
import Derived.Test.YtgnkeecjaffnaaaBase
import Derived.Test.YtgnkeecjaffnaaaRow
namespace Go.Proofs.Ytgnkeecjaffnaaa
open Go.RowKit

/-- Whether a process has crashed. -/
def goB (rd : Nat → Int) (i t : Nat) : Bool := rd i != 0 && decide (rd i ≤ (t : Int))
/-- Whether a process sends to another one in a round. -/
def reB (rd tv : Nat → Int) (i k t : Nat) : Bool := !goB rd i t || (rd i == (t : Int) && (tv i).toNat.testBit k)
def mvB (rd tv : Nat → Int) (t i k : Nat) : Bool := i != k && reB rd tv i k t && !goB rd k t
/-- What a process knows after the messages of the first i. -/
def orU (rd tv : Nat → Int) (t : Nat) (f : Nat → Nat) (k : Nat) : Nat → Nat
  | 0 => f k
  | i + 1 => if mvB rd tv t i k then orU rd tv t f k i ||| f i else orU rd tv t f k i
theorem orU_yes {rd tv : Nat → Int} {t i k : Nat} {f : Nat → Nat} (h : mvB rd tv t i k = true) : orU rd tv t f k (i + 1) = orU rd tv t f k i ||| f i := if_pos h
theorem orU_no {rd tv : Nat → Int} {t i k : Nat} {f : Nat → Nat} (h : mvB rd tv t i k = false) : orU rd tv t f k (i + 1) = orU rd tv t f k i := if_neg (by rw [h]; decide)
/-- What a process knows at a time. -/
def kn (rd tv : Nat → Int) (n : Nat) : Nat → Nat → Nat
  | 0, k => 2 ^ k
  | t + 1, k => orU rd tv (t + 1) (kn rd tv n t) k n
/-- .. while the rows are gone through: i rows, and k columns of the next one. -/
def orR (rd tv : Nat → Int) (t : Nat) (f : Nat → Nat) (i j : Nat) : Nat → Nat := fun k => if k < j then orU rd tv t f k (i + 1) else orU rd tv t f k i
theorem orU_lt {rd tv : Nat → Int} {t n : Nat} {f : Nat → Nat} (hf : ∀ k, k < n → f k < 2 ^ n) {k : Nat} (hk : k < n) : ∀ i, i ≤ n → orU rd tv t f k i < 2 ^ n
  | 0, _ => hf k hk
  | i + 1, hi => by
    have h1 := orU_lt (rd := rd) (tv := tv) (t := t) hf hk i (by omega)
    have h2 := hf i (by omega)
    unfold orU
    by_cases h : mvB rd tv t i k = true
    · rw [if_pos h]; exact Nat.or_lt_two_pow h1 h2
    · rw [if_neg h]; exact h1
theorem kn_lt (rd tv : Nat → Int) (n : Nat) : ∀ t k, k < n → kn rd tv n t k < 2 ^ n
  | 0, k, hk => Nat.pow_lt_pow_right (by decide) hk
  | t + 1, k, hk => orU_lt (fun k hk => kn_lt rd tv n t k hk) hk n (Nat.le_refl _)
theorem orR_set {rd tv : Nat → Int} {t i k : Nat} {f : Nat → Nat} (u : Nat) : orR rd tv t f i (k + 1) u = if u = k then orU rd tv t f k (i + 1) else orR rd tv t f i k u := by
  unfold orR
  by_cases h : u = k
  · subst h; rw [if_pos (by omega), if_pos rfl]
  · rw [if_neg h]
    by_cases h2 : u < k
    · rw [if_pos (by omega), if_pos h2]
    · rw [if_neg (by omega), if_neg h2]
theorem orR_zero {rd tv : Nat → Int} {t i : Nat} {f : Nat → Nat} (u : Nat) : orR rd tv t f i 0 u = orU rd tv t f u i := if_neg (Nat.not_lt_zero _)
theorem orR_end {rd tv : Nat → Int} {t i n : Nat} {f : Nat → Nat} {u : Nat} (h : u < n) : orR rd tv t f i n u = orU rd tv t f u (i + 1) := if_pos h
/-- The digits of a state. -/
def dgS (x kb : Nat) : Nat → Nat
  | 0 => 0
  | k + 1 => dgS x kb k + (if kb.testBit k then 3 ^ k * (1 + (if x.testBit k then 1 else 0)) else 0)
theorem dgS_lt (x kb : Nat) : ∀ k, dgS x kb k < 3 ^ k
  | 0 => Nat.zero_lt_one
  | k + 1 => by
    have h := dgS_lt x kb k
    have e : 3 ^ (k + 1) = 3 ^ k * 3 := Nat.pow_succ 3 k
    unfold dgS
    by_cases h1 : kb.testBit k = true
    · rw [if_pos h1]
      by_cases h2 : x.testBit k = true
      · rw [if_pos h2]; omega
      · rw [if_neg h2]; omega
    · rw [if_neg h1]; omega
def stN (rd tv : Nat → Int) (n x t i : Nat) : Nat := if goB rd i t then 0 else 1 + t * 3 ^ n + dgS x (kn rd tv n t i) n
def fcN (rd : Nat → Int) (n x t : Nat) : Nat → Nat
  | 0 => x
  | i + 1 => if goB rd i t then fcN rd n x t i else fcN rd n x t i ||| 2 ^ (n + i)
theorem fcN_lt {rd : Nat → Int} {n x t : Nat} (hx : x < 2 ^ (n + n)) : ∀ i, i ≤ n → fcN rd n x t i < 2 ^ (n + n)
  | 0, _ => hx
  | i + 1, hi => by
    have h := fcN_lt (rd := rd) (t := t) hx i (by omega)
    unfold fcN
    by_cases h1 : goB rd i t = true
    · rw [if_pos h1]; exact h
    · rw [if_neg h1]; exact Nat.or_lt_two_pow h (Nat.pow_lt_pow_right (by decide) (by omega))
theorem three_le {n : Nat} (hn : n ≤ 4) : 3 ^ n ≤ 81 := Nat.pow_le_pow_right (n := 3) (j := 4) (by decide) hn
theorem stN_le {rd tv : Nat → Int} {n x t i : Nat} (hn : n ≤ 4) (ht : t ≤ 3) : stN rd tv n x t i ≤ 400 := by
  unfold stN
  have h := dgS_lt x (kn rd tv n t i) n
  have h3 := three_le hn
  by_cases h1 : goB rd i t = true
  · rw [if_pos h1]; omega
  · rw [if_neg h1]
    have : t * 3 ^ n ≤ 3 * 81 := Nat.mul_le_mul ht h3
    omega
/-- Whether an element of the crashes is refused. -/
def crR (n R : Nat) (rd tv : Nat → Int) (i : Nat) : Bool :=
  decide (rd i < 0) || decide ((R : Int) < rd i) || decide (tv i < 0) || decide (((2 ^ n : Nat) : Int) ≤ tv i) || (tv i).toNat.testBit i || (rd i == 0 && tv i != 0)
/-- The error of a flood. -/
def flE (n R x : Int) (m : Nat) (rd tv : Nat → Int) : Nat :=
  if (2 ≤ n ∧ n ≤ 4 ∧ 0 ≤ R ∧ R ≤ 3) ∧ 0 ≤ x ∧ x < ((2 ^ n.toNat : Nat) : Int) then (if (m : Int) = n then (if allB m (fun i => !crR n.toNat R.toNat rd tv i) then 0 else 2) else 3) else 2
theorem flE_ok {n R x : Int} {m : Nat} {rd tv : Nat → Int} (h : flE n R x m rd tv = 0) : ∃ N r X : Nat, n = N ∧ R = r ∧ x = X ∧ m = N ∧ 2 ≤ N ∧ N ≤ 4 ∧ r ≤ 3 ∧ X < 2 ^ N ∧ ∀ i, i < N → crR N r rd tv i = false := by
  unfold flE at h
  by_cases h1 : (2 ≤ n ∧ n ≤ 4 ∧ 0 ≤ R ∧ R ≤ 3) ∧ 0 ≤ x ∧ x < ((2 ^ n.toNat : Nat) : Int)
  · rw [if_pos h1] at h
    by_cases h2 : (m : Int) = n
    · rw [if_pos h2] at h
      by_cases h3 : allB m (fun i => !crR n.toNat R.toNat rd tv i) = true
      · refine ⟨n.toNat, R.toNat, x.toNat, by omega, by omega, by omega, by omega, by omega, by omega, by omega, by omega, fun i hi => ?_⟩
        have := allB_iff.1 h3 i (by omega)
        simpa using this
      · rw [if_neg h3] at h; cases h
    · rw [if_neg h2] at h; cases h
  · rw [if_neg h1] at h; cases h
end Go.Proofs.Ytgnkeecjaffnaaa
