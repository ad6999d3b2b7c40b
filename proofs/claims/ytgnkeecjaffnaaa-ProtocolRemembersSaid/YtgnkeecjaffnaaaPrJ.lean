/-
  Plain facts of layer 54: the reference's run is the program's, for messages in range.
-/
import Derived.Test.YtgnkeecjaffnaaaBase
import Derived.Test.YtgnkeecjaffnaaaPrP
import Derived.Test.YtgnkeecjaffnaaaPrE
namespace Go.Proofs.Ytgnkeecjaffnaaa
open Go.RowKit

theorem tm_at {h k : Nat} (hk : k ≤ 5) (h45 : h / 4 ^ k = 4 ∨ h / 4 ^ k = 5) : tmV 0 (h : Int) = k := by
  have hle : h / 4 ^ k ≤ h := Nat.div_le_self _ _
  have h0 : tmV 0 (h : Int) = tmN 0 h := by
    have : ¬ ((0 : Int) < 0 ∨ (1 : Int) < 0 ∨ (h : Int) < 4) := by omega
    unfold tmV; rw [if_neg this]; rfl
  have hb : ∀ s, s < k → 6 ≤ h / 4 ^ s := fun s hs => by
    obtain ⟨d, rfl⟩ : ∃ d, k = s + 1 + d := ⟨k - s - 1, by omega⟩
    have h1 := div_pow_le h (s + 1) d
    have h2 := div_pow_succ h s
    generalize h / 4 ^ (s + 1 + d) = x at h1 h45
    generalize h / 4 ^ (s + 1) = y at h1 h2
    generalize h / 4 ^ s = z at h2 ⊢
    omega
  rw [h0, tm_end rfl (by omega) hb, if_pos ⟨by rcases h45 with e | e <;> simp [e], hk⟩]
theorem div_step {h m k : Nat} (hm : m ≤ 3) : (4 * h + m) / 4 ^ (k + 1) = h / 4 ^ k := by
  rw [Nat.pow_succ, Nat.mul_comm (4 ^ k) 4, ← Nat.div_div_eq_div_mul]
  congr 1
  omega
/-- The states of a run, by the reference. -/
def rrS (snd : Int → Int → Int) (bit : Int) (lost : Nat → Int) : Nat → Int × Int
  | 0 => (4 + bit, 4)
  | k + 1 => (4 * (rrS snd bit lost k).1 + (if lost k / 2 = 1 then 0 else snd 1 (rrS snd bit lost k).2), 4 * (rrS snd bit lost k).2 + (if lost k % 2 = 1 then 0 else snd 0 (rrS snd bit lost k).1))
theorem losB_one {l : Int} (h : 0 ≤ l ∧ l ≤ 3) : (losB l 1 = true ↔ l / 2 = 1) ∧ (losB l 0 = true ↔ l % 2 = 1) := by
  have h4 : l = 0 ∨ l = 1 ∨ l = 2 ∨ l = 3 := by omega
  rcases h4 with rfl | rfl | rfl | rfl <;> decide
theorem afV_at {h k : Nat} {m : Int} (hk : k ≤ 4) (h45 : h / 4 ^ k = 4 ∨ h / 4 ^ k = 5) (hm : 0 ≤ m ∧ m ≤ 3) : afV h m = 4 * h + m := by
  have ht := tm_at (by omega) h45
  unfold afV
  rw [ht, if_pos (by omega)]
theorem run_same {snd : Int → Int → Int} {bit : Int} {lost : Nat → Int} {T : Nat} (hs : ∀ a h, 0 ≤ snd a h ∧ snd a h ≤ 3) (hb : 0 ≤ bit ∧ bit ≤ 1) (hl : ∀ k, k < T → 0 ≤ lost k ∧ lost k ≤ 3) :
    ∀ k, k ≤ T → k ≤ 5 → runS snd bit lost k = rrS snd bit lost k ∧ ∃ x y : Nat, (rrS snd bit lost k).1 = x ∧ (rrS snd bit lost k).2 = y ∧ (x / 4 ^ k = 4 ∨ x / 4 ^ k = 5) ∧ (y / 4 ^ k = 4 ∨ y / 4 ^ k = 5) := by
  intro k
  induction k with
  | zero =>
    intro _ _
    refine ⟨?_, (4 + bit).toNat, 4, ?_, rfl, ?_, .inl (by simp)⟩
    · show (stV 0 bit, stV 1 bit) = (4 + bit, 4)
      have h0 : stV 0 bit = 4 + bit := by
        have hp : (0 : Int) ≤ 0 ∧ (0 : Int) ≤ 1 ∧ 0 ≤ bit ∧ bit ≤ 1 := by omega
        unfold stV; rw [if_pos hp]; rfl
      have h1 : stV 1 bit = 4 := by
        have hp : (0 : Int) ≤ 1 ∧ (1 : Int) ≤ 1 ∧ 0 ≤ bit ∧ bit ≤ 1 := by omega
        unfold stV; rw [if_pos hp]; rfl
      rw [h0, h1]
    · show 4 + bit = _
      omega
    · rw [Nat.pow_zero, Nat.div_one]; omega
  | succ k ih =>
    intro hT h5
    obtain ⟨he, x, y, hx, hy, hx4, hy4⟩ := ih (by omega) (by omega)
    obtain ⟨l1, l0⟩ := losB_one (hl k (by omega))
    have hp := hs 0 x
    have hq := hs 1 y
    have e1 : (if losB (lost k) 1 then 0 else snd 1 y) = (if lost k / 2 = 1 then 0 else snd 1 y) := by
      by_cases h : losB (lost k) 1 = true
      · rw [if_pos h, if_pos (l1.1 h)]
      · rw [if_neg h, if_neg (fun e => h (l1.2 e))]
    have e0 : (if losB (lost k) 0 then 0 else snd 0 x) = (if lost k % 2 = 1 then 0 else snd 0 x) := by
      by_cases h : losB (lost k) 0 = true
      · rw [if_pos h, if_pos (l0.1 h)]
      · rw [if_neg h, if_neg (fun e => h (l0.2 e))]
    obtain ⟨u, hu⟩ : ∃ u, u = (if lost k / 2 = 1 then 0 else snd 1 y) := ⟨_, rfl⟩
    obtain ⟨v, hv⟩ : ∃ v, v = (if lost k % 2 = 1 then 0 else snd 0 x) := ⟨_, rfl⟩
    have hu3 : 0 ≤ u ∧ u ≤ 3 := by rw [hu]; by_cases h : lost k / 2 = 1 <;> simp only [if_pos, if_neg, h, not_false_eq_true] <;> omega
    have hv3 : 0 ≤ v ∧ v ≤ 3 := by rw [hv]; by_cases h : lost k % 2 = 1 <;> simp only [if_pos, if_neg, h, not_false_eq_true] <;> omega
    have hr : rrS snd bit lost (k + 1) = (4 * (x : Int) + u, 4 * (y : Int) + v) := by
      show (4 * (rrS snd bit lost k).1 + (if lost k / 2 = 1 then 0 else snd 1 (rrS snd bit lost k).2), 4 * (rrS snd bit lost k).2 + (if lost k % 2 = 1 then 0 else snd 0 (rrS snd bit lost k).1)) = _
      rw [hx, hy, ← hu, ← hv]
    have hrun : runS snd bit lost (k + 1) = (afV x u, afV y v) := by
      show (afV (runS snd bit lost k).1 (if losB (lost k) 1 then 0 else snd 1 (runS snd bit lost k).2), afV (runS snd bit lost k).2 (if losB (lost k) 0 then 0 else snd 0 (runS snd bit lost k).1)) = _
      rw [he, hx, hy, e1, e0, ← hu, ← hv]
    refine ⟨by rw [hr, hrun, afV_at (by omega) hx4 hu3, afV_at (by omega) hy4 hv3], 4 * x + u.toNat, 4 * y + v.toNat, by rw [hr]; simp only []; omega, by rw [hr]; simp only []; omega, ?_, ?_⟩
    · rw [div_step (by omega)]; exact hx4
    · rw [div_step (by omega)]; exact hy4
end Go.Proofs.Ytgnkeecjaffnaaa
