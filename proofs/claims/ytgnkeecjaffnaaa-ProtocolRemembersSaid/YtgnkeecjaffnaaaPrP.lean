/-
  Plain facts of layer 54: histories.
-/
import Derived.Test.YtgnkeecjaffnaaaBase
namespace Go.Proofs.Ytgnkeecjaffnaaa
open Go.RowKit

/-- t rounds: what is left of the history are its first two digits. -/
def tmOk (a : Int) (h t : Nat) : Bool := decide (h / 4 ^ t = 4 ∨ a = 0 ∧ h / 4 ^ t = 5)
/-- The number of rounds of a history, or -1. -/
def tmN (a : Int) (h : Nat) : Int :=
  if tmOk a h 0 then 0 else if tmOk a h 1 then 1 else if tmOk a h 2 then 2 else if tmOk a h 3 then 3 else if tmOk a h 4 then 4 else if tmOk a h 5 then 5 else -1
def tmV (a h : Int) : Int := if a < 0 ∨ 1 < a ∨ h < 4 then -1 else tmN a h.toNat
theorem tmN_none {a : Int} {h : Nat} (hn : ∀ t, t ≤ 5 → tmOk a h t = false) : tmN a h = -1 := by
  unfold tmN
  rw [hn 0 (by decide), hn 1 (by decide), hn 2 (by decide), hn 3 (by decide), hn 4 (by decide), hn 5 (by decide)]; rfl
theorem tmN_some {a : Int} {h t : Nat} (ht : t ≤ 5) (hy : tmOk a h t = true) (hn : ∀ s, s < t → tmOk a h s = false) : tmN a h = t := by
  have h6 : t = 0 ∨ t = 1 ∨ t = 2 ∨ t = 3 ∨ t = 4 ∨ t = 5 := by omega
  unfold tmN
  rcases h6 with rfl | rfl | rfl | rfl | rfl | rfl
  · rw [hy]; rfl
  · rw [hn 0 (by decide), hy]; rfl
  · rw [hn 0 (by decide), hn 1 (by decide), hy]; rfl
  · rw [hn 0 (by decide), hn 1 (by decide), hn 2 (by decide), hy]; rfl
  · rw [hn 0 (by decide), hn 1 (by decide), hn 2 (by decide), hn 3 (by decide), hy]; rfl
  · rw [hn 0 (by decide), hn 1 (by decide), hn 2 (by decide), hn 3 (by decide), hn 4 (by decide), hy]; rfl
theorem tmOk_big {a : Int} {h t : Nat} (hb : 6 ≤ h / 4 ^ t) : tmOk a h t = false := by
  unfold tmOk; rw [decide_eq_false_iff_not]
  generalize h / 4 ^ t = x at hb ⊢
  omega
theorem div_pow_succ (h t : Nat) : h / 4 ^ (t + 1) = h / 4 ^ t / 4 := by rw [Nat.pow_succ, Nat.div_div_eq_div_mul]
theorem div_pow_le (h t d : Nat) : h / 4 ^ (t + d) ≤ h / 4 ^ t := by
  induction d with
  | zero => exact Nat.le_refl _
  | succ d ih => rw [← Nat.add_assoc, div_pow_succ]; exact Nat.le_trans (Nat.div_le_self _ _) ih
theorem tmOk_after {a : Int} {h t s : Nat} (hc : h / 4 ^ t < 16) (hs : t < s) : tmOk a h s = false := by
  obtain ⟨d, rfl⟩ : ∃ d, s = t + 1 + d := ⟨s - t - 1, by omega⟩
  have h1 := div_pow_le h (t + 1) d
  have h2 := div_pow_succ h t
  unfold tmOk; rw [decide_eq_false_iff_not]
  generalize h / 4 ^ (t + 1 + d) = x at h1 ⊢
  generalize h / 4 ^ (t + 1) = y at h1 h2
  generalize h / 4 ^ t = z at h2 hc
  omega
theorem tm_end {a : Int} {h t cur : Nat} (he : h / 4 ^ t = cur) (hc : cur < 16) (hb : ∀ s, s < t → 6 ≤ h / 4 ^ s) : tmN a h = if (cur = 4 ∨ a = 0 ∧ cur = 5) ∧ t ≤ 5 then (t : Int) else -1 := by
  by_cases h1 : (cur = 4 ∨ a = 0 ∧ cur = 5) ∧ t ≤ 5
  · rw [if_pos h1]
    exact tmN_some h1.2 (by unfold tmOk; rw [he, decide_eq_true_eq]; exact h1.1) fun s hs => tmOk_big (hb s hs)
  · rw [if_neg h1]
    refine tmN_none fun s hs => ?_
    rcases Nat.lt_trichotomy s t with h2 | rfl | h2
    · exact tmOk_big (hb s h2)
    · unfold tmOk; rw [he, decide_eq_false_iff_not]; exact fun h3 => h1 ⟨h3, hs⟩
    · exact tmOk_after (by rw [he]; exact hc) h2
theorem tm_great {a : Int} {h : Nat} (hb : 16384 ≤ h) : tmN a h = -1 := by
  refine tmN_none fun s hs => tmOk_big ?_
  have h6 : s = 0 ∨ s = 1 ∨ s = 2 ∨ s = 3 ∨ s = 4 ∨ s = 5 := by omega
  rcases h6 with rfl | rfl | rfl | rfl | rfl | rfl <;> simp <;> omega
theorem tmV_range (a h : Int) : -1 ≤ tmV a h ∧ tmV a h ≤ 5 := by
  unfold tmV tmN
  repeat' split
  all_goals omega
theorem tmN_le0 (h : Nat) : tmN 1 h ≤ tmN 0 h := by
  have key : ∀ t, t ≤ 5 → tmOk 1 h t = true → h / 4 ^ t = 4 := fun t _ hy => by
    unfold tmOk at hy; rw [decide_eq_true_eq] at hy; omega
  by_cases he : ∃ t, t ≤ 5 ∧ h / 4 ^ t = 4
  · obtain ⟨t, ht, h4⟩ := he
    have hb : ∀ s, s < t → 6 ≤ h / 4 ^ s := fun s hs => by
      obtain ⟨d, rfl⟩ : ∃ d, t = s + 1 + d := ⟨t - s - 1, by omega⟩
      have h1 := div_pow_le h (s + 1) d
      have h2 := div_pow_succ h s
      generalize h / 4 ^ (s + 1 + d) = x at h1 h4
      generalize h / 4 ^ (s + 1) = y at h1 h2
      generalize h / 4 ^ s = z at h2 ⊢
      omega
    rw [tm_end (a := 1) h4 (by decide) hb, tm_end (a := 0) h4 (by decide) hb]
    simp
  · rw [tmN_none (a := 1) fun t ht => by
      cases hy : tmOk 1 h t
      · rfl
      · exact absurd ⟨t, ht, key t ht hy⟩ he]
    have := (tmV_range 0 (h : Int)).1
    unfold tmN
    repeat' split
    all_goals omega
theorem tm_max (h : Int) : max (tmV 0 h) (tmV 1 h) = tmV 0 h := by
  have h1 : tmV 1 h ≤ tmV 0 h := by
    unfold tmV
    by_cases hc : h < 4
    · rw [if_pos (.inr (.inr hc)), if_pos (.inr (.inr hc))]; exact Int.le_refl _
    · rw [if_neg (by omega), if_neg (by omega)]; exact tmN_le0 _
  omega
/-- A history after a round, or -1. -/
def afV (h m : Int) : Int := if 0 ≤ tmV 0 h ∧ tmV 0 h ≤ 4 ∧ 0 ≤ m ∧ m ≤ 3 then 4 * h + m else -1
/-- The history at the beginning, or -1. -/
def stV (a b : Int) : Int := if 0 ≤ a ∧ a ≤ 1 ∧ 0 ≤ b ∧ b ≤ 1 then (if a = 1 then 4 else 4 + b) else -1
theorem tmV_hist {h : Int} (h0 : 0 ≤ tmV 0 h) (h4 : tmV 0 h ≤ 4) : 4 ≤ h ∧ h < 6144 := by
  unfold tmV at h0 h4
  by_cases hc : (0 : Int) < 0 ∨ (1 : Int) < 0 ∨ h < 4
  · rw [if_pos hc] at h0; omega
  · rw [if_neg hc] at h0 h4
    have hh : 4 ≤ h := by omega
    refine ⟨hh, ?_⟩
    obtain ⟨H, rfl⟩ : ∃ H : Nat, h = H := ⟨h.toNat, by omega⟩
    rw [Int.toNat_natCast] at h0 h4
    have key : ∃ t, t ≤ 4 ∧ tmOk 0 H t = true := by
      apply Classical.byContradiction
      intro hn
      have hf : ∀ t, t ≤ 4 → tmOk 0 H t = false := fun t ht => by
        cases hy : tmOk 0 H t
        · rfl
        · exact absurd ⟨t, ht, hy⟩ hn
      unfold tmN at h0 h4
      rw [hf 0 (by decide), hf 1 (by decide), hf 2 (by decide), hf 3 (by decide), hf 4 (by decide)] at h0 h4
      simp only [Bool.false_eq_true, if_false] at h0 h4
      split at h0 <;> split at h4 <;> omega
    obtain ⟨t, ht, hy⟩ := key
    unfold tmOk at hy
    rw [decide_eq_true_eq] at hy
    have h5 : t = 0 ∨ t = 1 ∨ t = 2 ∨ t = 3 ∨ t = 4 := by omega
    rcases h5 with rfl | rfl | rfl | rfl | rfl <;> simp at hy <;> omega
end Go.Proofs.Ytgnkeecjaffnaaa
