/-
  Plain facts: ranks without gaps are their own canonical form; the recovered ranks are the canonical ones.
-/
import Derived.Test.YtlcojpopngdigaaDoorBase
import Derived.Test.YtlcojpopngdigaaDoorLeast
import Derived.Test.YtlcojpopngdigaaDoorPoP
import Derived.Test.YtlcojpopngdigaaDoorPoQ
import Derived.Test.YtlcojpopngdigaaDoorPoM
import Derived.Test.YtlcojpopngdigaaDoorRkP
import Derived.Test.YtlcojpopngdigaaDoorRkQ
namespace Go.Proofs.YtlcojpopngdigaaDoor
open Go.RowKit

theorem cntB_none {n : Nat} {p : Nat → Bool} (h : ∀ u, u < n → p u = false) : cntB n p = 0 := by
  induction n with
  | zero => rfl
  | succ k ih =>
    unfold cntB
    rw [if_neg (by rw [h k (by omega)]; exact fun h => by cases h)]
    exact ih fun u hu => h u (by omega)
theorem cntB_one {n : Nat} {p : Nat → Bool} (h : ∀ u v, u < n → v < n → p u = true → p v = true → u = v) : cntB n p ≤ 1 := by
  induction n with
  | zero => exact Nat.zero_le _
  | succ k ih =>
    unfold cntB
    by_cases hk : p k = true
    · rw [if_pos hk, cntB_none fun u hu => by
        cases hp : p u
        · rfl
        · have := h u k (by omega) (by omega) hp hk; omega]
      exact Nat.le_refl _
    · rw [if_neg hk]; exact ih fun u v hu hv => h u v (by omega) (by omega)
theorem cntB_split (n : Nat) (p q : Nat → Bool) : cntB n p ≤ cntB n (fun u => p u && !q u) + cntB n (fun u => p u && q u) := by
  induction n with
  | zero => exact Nat.zero_le _
  | succ k ih =>
    rw [show cntB (k + 1) p = if p k = true then cntB k p + 1 else cntB k p from rfl,
      show cntB (k + 1) (fun u => p u && !q u) = if (p k && !q k) = true then cntB k (fun u => p u && !q u) + 1 else cntB k (fun u => p u && !q u) from rfl,
      show cntB (k + 1) (fun u => p u && q u) = if (p k && q k) = true then cntB k (fun u => p u && q u) + 1 else cntB k (fun u => p u && q u) from rfl]
    cases p k <;> cases q k <;> simp <;> omega
theorem cntB_inj (m : Nat) : ∀ {n : Nat} {p : Nat → Bool} (h : Nat → Nat), (∀ u, u < n → p u = true → h u < m) → (∀ u v, u < n → v < n → p u = true → p v = true → h u = h v → u = v) → cntB n p ≤ m := by
  induction m with
  | zero =>
    intro n p h hlt _
    rw [cntB_none fun u hu => by
      cases hp : p u
      · rfl
      · have := hlt u hu hp; omega]
    exact Nat.le_refl _
  | succ m ih =>
    intro n p h hlt hinj
    have h1 := cntB_split n p (fun u => h u == m)
    have h2 : cntB n (fun u => p u && !(h u == m)) ≤ m := ih h (fun u hu hp => by
      simp only [Bool.and_eq_true, Bool.not_eq_true', beq_eq_false_iff_ne] at hp
      have := hlt u hu hp.1; omega) (fun u v hu hv hp hq => by
      simp only [Bool.and_eq_true] at hp hq
      exact hinj u v hu hv hp.1 hq.1)
    have h3 : cntB n (fun u => p u && (h u == m)) ≤ 1 := cntB_one fun u v hu hv hp hq => by
      simp only [Bool.and_eq_true, beq_iff_eq] at hp hq
      exact hinj u v hu hv hp.1 hq.1 (by rw [hp.2, hq.2])
    omega
/-- Ranks without gaps are canonical. -/
theorem gap_can {n : Nat} {g : Nat → Nat} (hgap : ∀ v, v < n → ∀ j, j < g v → ∃ u, u < n ∧ g u = j) {v : Nat} (hv : v < n) : canF n (fun u => (g u : Int)) v = g v := by
  apply Nat.le_antisymm
  · refine cntB_inj (g v) g (fun u _ hp => ?_) (fun u w hu hw hp hq e => ?_)
    · have := (canB_iff.1 hp).1; omega
    · rcases Nat.lt_trichotomy u w with h | h | h
      · have := allB_iff.1 (canB_iff.1 hq).2 u h
        simp only [bne_iff_ne] at this
        exact absurd (by omega) this
      · exact h
      · have := allB_iff.1 (canB_iff.1 hp).2 w h
        simp only [bne_iff_ne] at this
        exact absurd (by omega) this
  · have key : ∀ m : Nat, ∀ v, v < n → g v = m → m ≤ canF n (fun u => (g u : Int)) v := by
      intro m
      induction m with
      | zero => intro v _ _; exact Nat.zero_le _
      | succ m ih =>
        intro v hv he
        obtain ⟨u, hu, hgu⟩ := hgap v hv m (by omega)
        have h1 := ih u hu hgu
        have h2 := canF_mono (n := n) (f := fun u => (g u : Int)) (u := u) (v := v) hu (by omega)
        omega
    exact key (g v) v hv rfl
/-- The recovered ranks are the canonical ones. -/
theorem rank_can {S N : Nat} (hS : S = 2 ^ N) (hS2 : 2 ≤ S) (hS3 : S ≤ 256) (f : Nat → Int) {v : Nat} (hv : v < N) : rankN S (tabF f N) S v = canF N f v := by
  have H := tab_ok hS f
  have h1 : canF N (fun u => (rankN S (tabF f N) S u : Int)) v = rankN S (tabF f N) S v := gap_can (fun w hw j hj => by
    have h2 := (left_rank hS hS2 hS3 H (j := j) hw).2 (by omega)
    have h3 := left_lt hS2 H j
    have h4 : leftN S (tabF f N) j ≠ 0 := fun h => by rw [h, Nat.zero_testBit] at h2; cases h2
    obtain ⟨u, hu⟩ := Nat.exists_testBit_of_ne_zero (H.r3 _ h3 h4)
    have huN := (tabF_bit.1 hu).1
    refine ⟨u, huN, rank_of hS hS2 hS3 H hu S ?_⟩
    have := rank_le (S := S) (T := tabF f N) S w
    omega) hv
  rw [← h1]
  exact canF_congr hv fun x y hx hy => by
    have := rank_same hS hS2 hS3 f hy hx
    omega
end Go.Proofs.YtlcojpopngdigaaDoor
