/-
  Plain facts of layer 54: clean rounds, and what all know behind one.
-/
import Derived.Test.YtgnkeecjaffnaaaBase
import Derived.Test.YtgnkeecjaffnaaaRow
import Derived.Test.YtgnkeecjaffnaaaRkP
import Derived.Test.YtgnkeecjaffnaaaPfP
namespace Go.Proofs.Ytgnkeecjaffnaaa
open Go.RowKit

/-- The first clean round, or 0. -/
def clN (rd : Nat → Int) (n : Nat) : Nat → Nat
  | 0 => 0
  | R + 1 => if clN rd n R ≠ 0 then clN rd n R else if allB n (fun i => rd i != ((R + 1 : Nat) : Int)) then R + 1 else 0
def clV (R : Int) (rd : Nat → Int) (n : Nat) : Nat := if 1 ≤ R ∧ R ≤ 3 then clN rd n R.toNat else 0
theorem clN_le (rd : Nat → Int) (n : Nat) : ∀ R, clN rd n R ≤ R
  | 0 => Nat.le_refl _
  | R + 1 => by
    have := clN_le rd n R
    unfold clN
    split
    · omega
    · split <;> omega
theorem clN_keep {rd : Nat → Int} {n R : Nat} (h : clN rd n R ≠ 0) : ∀ d, clN rd n (R + d) = clN rd n R
  | 0 => rfl
  | d + 1 => by
    have ih := clN_keep h d
    show (if clN rd n (R + d) ≠ 0 then clN rd n (R + d) else if allB n (fun i => rd i != ((R + d + 1 : Nat) : Int)) then R + d + 1 else 0) = _
    rw [ih, if_pos h]
theorem clN_hit {rd : Nat → Int} {n R : Nat} (h0 : clN rd n R = 0) (h : allB n (fun i => rd i != ((R + 1 : Nat) : Int)) = true) : clN rd n (R + 1) = R + 1 := by
  unfold clN; rw [if_neg (by rw [h0]; exact fun h => h rfl), if_pos h]
theorem clN_miss {rd : Nat → Int} {n R : Nat} (h0 : clN rd n R = 0) (h : allB n (fun i => rd i != ((R + 1 : Nat) : Int)) = false) : clN rd n (R + 1) = 0 := by
  unfold clN; rw [if_neg (by rw [h0]; exact fun h => h rfl), if_neg (by rw [h]; decide)]
theorem clN_clean {rd : Nat → Int} {n : Nat} : ∀ {R}, clN rd n R ≠ 0 → ∀ i, i < n → rd i ≠ ((clN rd n R : Nat) : Int)
  | 0, h => absurd rfl h
  | R + 1, h => by
    by_cases h1 : clN rd n R = 0
    · cases h2 : allB n (fun i => rd i != ((R + 1 : Nat) : Int))
      · exact absurd (clN_miss h1 h2) h
      · rw [clN_hit h1 h2]
        intro i hi
        have := allB_iff.1 h2 i hi
        simpa using this
    · have e : clN rd n (R + 1) = clN rd n R := clN_keep h1 1
      rw [e]
      exact clN_clean h1
/-- With more rounds than crashes there is a clean one. -/
theorem clN_pigeon {rd : Nat → Int} {n : Nat} : ∀ {R}, clN rd n R = 0 → R ≤ cntB n (fun i => decide (1 ≤ rd i ∧ rd i ≤ (R : Int)))
  | 0, _ => Nat.zero_le _
  | R + 1, h => by
    have h1 : clN rd n R = 0 := by
      apply Classical.byContradiction
      intro h1
      have e : clN rd n (R + 1) = clN rd n R := clN_keep h1 1
      rw [e] at h; exact h1 h
    have h2 : allB n (fun i => rd i != ((R + 1 : Nat) : Int)) = false := by
      cases h2 : allB n (fun i => rd i != ((R + 1 : Nat) : Int))
      · rfl
      · rw [clN_hit h1 h2] at h; omega
    obtain ⟨i, hi, he⟩ : ∃ i, i < n ∧ rd i = ((R + 1 : Nat) : Int) := by
      apply Classical.byContradiction
      intro hn
      have : allB n (fun i => rd i != ((R + 1 : Nat) : Int)) = true := allB_iff.2 fun i hi => by
        rw [bne_iff_ne]; exact fun e => hn ⟨i, hi, e⟩
      rw [h2] at this; cases this
    have ih := clN_pigeon h1
    have := cntB_lt (n := n) (p := fun i => decide (1 ≤ rd i ∧ rd i ≤ (R : Int))) (q := fun i => decide (1 ≤ rd i ∧ rd i ≤ ((R + 1 : Nat) : Int))) (fun u _ hu => by
      simp only [decide_eq_true_eq] at hu ⊢; omega) hi (by simp only [decide_eq_false_iff_not]; omega) (by simp only [decide_eq_true_eq]; omega)
    omega
theorem clN_crashed {rd : Nat → Int} {n R : Nat} (h : clN rd n R = 0) : R ≤ cntB n (fun i => decide (0 < rd i)) := by
  have h1 := clN_pigeon h
  have h2 := cntB_mono (n := n) (p := fun i => decide (1 ≤ rd i ∧ rd i ≤ (R : Int))) (q := fun i => decide (0 < rd i)) (fun u _ hu => by
    simp only [decide_eq_true_eq] at hu ⊢; omega)
  omega
/-! ### what all know -/
theorem goB_step {rd : Nat → Int} {i t : Nat} (h : goB rd i (t + 1) = false) : goB rd i t = false := by
  unfold goB at h ⊢
  rw [Bool.and_eq_false_iff] at h ⊢
  rcases h with h | h
  · exact .inl h
  · rw [decide_eq_false_iff_not] at h
    exact .inr (decide_eq_false (by omega))
/-- The union of what the processes of a kind know. -/
def uni (p : Nat → Bool) (f : Nat → Nat) : Nat → Nat
  | 0 => 0
  | i + 1 => if p i then uni p f i ||| f i else uni p f i
theorem uni_has {p : Nat → Bool} {f : Nat → Nat} {k : Nat} (hp : p k = true) : ∀ n, k < n → uni p f n ||| f k = uni p f n
  | 0, h => absurd h (Nat.not_lt_zero _)
  | n + 1, h => by
    unfold uni
    rcases Nat.lt_succ_iff_lt_or_eq.1 h with h1 | rfl
    · have ih := uni_has (f := f) hp n h1
      by_cases hn : p n = true
      · rw [if_pos hn, Nat.or_assoc, Nat.or_comm (f n), ← Nat.or_assoc, ih]
      · rw [if_neg hn, ih]
    · rw [if_pos hp, Nat.or_assoc, Nat.or_self]
theorem orU_uni {rd tv : Nat → Int} {s n k : Nat} {f : Nat → Nat} (hc : ∀ i, i < n → rd i ≠ ((s + 1 : Nat) : Int)) (hk : k < n) (ha : goB rd k (s + 1) = false) :
    ∀ i, i ≤ n → orU rd tv (s + 1) f k i = uni (fun i => !goB rd i (s + 1)) f i ||| f k
  | 0, _ => by show f k = 0 ||| f k; rw [Nat.zero_or]
  | i + 1, hi => by
    have ih := orU_uni (tv := tv) (f := f) hc hk ha i (by omega)
    have hm : mvB rd tv (s + 1) i k = (i != k && !goB rd i (s + 1)) := by
      have hr : reB rd tv i k (s + 1) = !goB rd i (s + 1) := by
        unfold reB
        have : (rd i == ((s + 1 : Nat) : Int)) = false := beq_eq_false_iff_ne.2 (hc i (by omega))
        rw [this, Bool.false_and, Bool.or_false]
      unfold mvB; rw [hr, ha]; simp
    unfold orU uni
    rw [hm]
    cases hg : goB rd i (s + 1)
    · rw [if_pos (show (!false) = true from rfl)]
      by_cases hik : i = k
      · subst hik
        rw [if_neg (by simp), ih, Nat.or_assoc, Nat.or_self]
      · rw [if_pos (by simp [hik]), ih, Nat.or_assoc, Nat.or_assoc, Nat.or_comm (f k)]
    · rw [if_neg (by simp), if_neg (by simp), ih]
/-- After a clean round all that have not crashed know the same. -/
theorem clean_same {rd tv : Nat → Int} {n s : Nat} (hc : ∀ i, i < n → rd i ≠ ((s + 1 : Nat) : Int)) : ∀ d, ∃ K, ∀ k, k < n → goB rd k (s + 1 + d) = false → kn rd tv n (s + 1 + d) k = K
  | 0 => ⟨uni (fun i => !goB rd i (s + 1)) (kn rd tv n s) n, fun k hk ha => by
      show orU rd tv (s + 1) (kn rd tv n s) k n = _
      rw [orU_uni hc hk ha n (Nat.le_refl _)]
      exact uni_has (by simpa using ha) n hk⟩
  | d + 1 => by
    obtain ⟨K, hK⟩ := clean_same (tv := tv) hc d
    obtain ⟨t, ht⟩ : ∃ t, t = s + 1 + d := ⟨_, rfl⟩
    rw [← ht] at hK
    refine ⟨K, fun k hk ha => ?_⟩
    rw [show s + 1 + (d + 1) = t + 1 by omega] at ha ⊢
    show orU rd tv (t + 1) (kn rd tv n t) k n = K
    have h0 := hK k hk (goB_step ha)
    have key : ∀ i, i ≤ n → orU rd tv (t + 1) (kn rd tv n t) k i = K := fun i => by
      induction i with
      | zero => exact fun _ => h0
      | succ i ih =>
        intro hi
        have ih := ih (by omega)
        unfold orU
        by_cases hm : mvB rd tv (t + 1) i k = true
        · rw [if_pos hm, ih]
          have hg : goB rd i t = false := by
            unfold mvB reB at hm
            rw [Bool.and_eq_true, Bool.and_eq_true, Bool.or_eq_true, Bool.and_eq_true] at hm
            rcases hm.1.2 with h | h
            · exact goB_step (by simpa using h)
            · have : rd i = ((t + 1 : Nat) : Int) := by simpa using h.1
              unfold goB
              rw [this, Bool.and_eq_false_iff]
              exact .inr (decide_eq_false (by omega))
          rw [hK i (by omega) hg, Nat.or_self]
        · rw [if_neg hm]; exact ih
    exact key n (Nat.le_refl _)
theorem st_same {rd tv : Nat → Int} {n s : Nat} (hc : ∀ i, i < n → rd i ≠ ((s + 1 : Nat) : Int)) (x d : Nat) : ∃ V, V ≠ 0 ∧ ∀ k, k < n → stN rd tv n x (s + 1 + d) k = if goB rd k (s + 1 + d) then 0 else V := by
  obtain ⟨K, hK⟩ := clean_same (tv := tv) hc d
  refine ⟨1 + (s + 1 + d) * 3 ^ n + dgS x K n, by omega, fun k hk => ?_⟩
  unfold stN
  cases hg : goB rd k (s + 1 + d)
  · rw [hK k hk hg]
  · rfl
end Go.Proofs.Ytgnkeecjaffnaaa
