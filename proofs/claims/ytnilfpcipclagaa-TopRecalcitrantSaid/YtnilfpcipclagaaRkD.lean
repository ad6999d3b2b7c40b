/-
  Plain facts: distances of valuations; Dalal's revision.
-/
import Derived.Test.YtnilfpcipclagaaProg
import Derived.Test.YtnilfpcipclagaaBase
import Derived.Test.YtnilfpcipclagaaLeast
import Derived.Test.YtnilfpcipclagaaRkP
import Derived.Test.YtnilfpcipclagaaRkQ
import Derived.Test.YtnilfpcipclagaaRkA
namespace Go.Proofs.Ytnilfpcipclagaa
open Go.RowKit

/-- Dalal's revision. -/
def dalS (N b s : Nat) : Nat := lst N (fun k => (distF N b k : Int)) s
/-! ### distances -/
theorem dq_spec (b v : Nat) (u : Nat) : (∀ w, w < u → b.testBit w = true → dq b v u ≠ 0 ∧ dq b v u ≤ popc (w ^^^ v) + 1) ∧ (dq b v u ≠ 0 → ∃ w, w < u ∧ b.testBit w = true ∧ dq b v u = popc (w ^^^ v) + 1) := by
  induction u with
  | zero => exact ⟨fun w h => absurd h (Nat.not_lt_zero _), fun h => absurd rfl h⟩
  | succ u ih =>
    obtain ⟨i1, i2⟩ := ih
    by_cases h : b.testBit u = true ∧ (dq b v u = 0 ∨ popc (u ^^^ v) + 1 < dq b v u)
    · rw [dq_yes _ _ _ h]
      refine ⟨fun w hw hbw => ⟨by omega, ?_⟩, fun _ => ⟨u, by omega, h.1, rfl⟩⟩
      rcases Nat.lt_succ_iff_lt_or_eq.1 hw with h1 | rfl
      · have := i1 w h1 hbw; omega
      · omega
    · rw [dq_no _ _ _ h]
      refine ⟨fun w hw hbw => ?_, fun h0 => ?_⟩
      · rcases Nat.lt_succ_iff_lt_or_eq.1 hw with h1 | rfl
        · exact i1 w h1 hbw
        · constructor
          · intro h0; exact h ⟨hbw, .inl h0⟩
          · have : ¬ popc (w ^^^ v) + 1 < dq b v w := fun h0 => h ⟨hbw, .inr h0⟩
            omega
      · obtain ⟨w, h1, h2⟩ := i2 h0
        exact ⟨w, by omega, h2⟩
theorem dist_le {N b v w : Nat} (hw : w < N) (hb : b.testBit w = true) : distF N b v ≤ popc (w ^^^ v) := by
  have := (dq_spec b v N).1 w hw hb
  unfold distF; omega
theorem dist_ex {N b v : Nat} (hb : b < 2 ^ N) (h0 : b ≠ 0) : ∃ w, w < N ∧ b.testBit w = true ∧ distF N b v = popc (w ^^^ v) := by
  obtain ⟨i, hi, hib⟩ := has_bit hb h0
  obtain ⟨w, h1, h2, h3⟩ := (dq_spec b v N).2 ((dq_spec b v N).1 i hi hib).1
  exact ⟨w, h1, h2, by unfold distF; omega⟩
theorem dist_empty (N v : Nat) : distF N 0 v = 0 := by
  have h : dq 0 v N = 0 := by
    cases h : dq 0 v N with
    | zero => rfl
    | succ n =>
      obtain ⟨w, _, h2, _⟩ := (dq_spec 0 v N).2 (by omega)
      rw [Nat.zero_testBit] at h2; cases h2
  unfold distF; rw [h]
theorem dal_bit (N b s v : Nat) : (dalS N b s).testBit v = true ↔ v < N ∧ s.testBit v = true ∧ ∀ w, w < N → s.testBit w = true → distF N b v ≤ distF N b w := by
  unfold dalS
  rw [lst_bit]
  constructor
  · rintro ⟨a, b', c⟩; exact ⟨a, b', fun w hw hs => by have := c w hw hs; omega⟩
  · rintro ⟨a, b', c⟩; exact ⟨a, b', fun w hw hs => by have := c w hw hs; omega⟩
theorem dalS_lt (N b s : Nat) : dalS N b s < 2 ^ N := lst_lt _ _ _
theorem dal_empty {N s : Nat} (hs : s < 2 ^ N) : dalS N 0 s = s := by
  apply Nat.eq_of_testBit_eq
  intro i
  rw [Bool.eq_iff_iff, dal_bit]
  constructor
  · exact fun h => h.2.1
  · exact fun h => ⟨bit_lt' hs h, h, fun w _ _ => by rw [dist_empty, dist_empty]; exact Nat.le_refl _⟩
theorem dist_point {N v u : Nat} (hv : v < N) : distF N (2 ^ v) u = popc (v ^^^ u) := by
  have h1 := dist_le (N := N) (b := 2 ^ v) (v := u) (w := v) hv Nat.testBit_two_pow_self
  obtain ⟨w, _, h3, h4⟩ := dist_ex (N := N) (b := 2 ^ v) (v := u) (Nat.pow_lt_pow_right (by decide) hv) (by have := Nat.two_pow_pos v; omega)
  have : v = w := by simpa [Nat.testBit_two_pow] using h3
  subst this; exact h4

/-! ### the distance between sets -/
/-- What 'nearest' has after n valuations. -/
def nearN (k b v : Nat) : Nat → Nat
  | 0 => k
  | u + 1 => if b.testBit u = true then min (nearN k b v u) (popc (u ^^^ v)) else nearN k b v u
/-- What 'Between' has after n valuations. -/
def betwN (k N a b : Nat) : Nat → Nat
  | 0 => k
  | v + 1 => if a.testBit v = true then min (betwN k N a b v) (nearN k b v N) else betwN k N a b v
theorem near_spec (k b v u : Nat) : nearN k b v u ≤ k ∧ (∀ w, w < u → b.testBit w = true → nearN k b v u ≤ popc (w ^^^ v)) ∧ (nearN k b v u = k ∨ ∃ w, w < u ∧ b.testBit w = true ∧ nearN k b v u = popc (w ^^^ v)) := by
  induction u with
  | zero => exact ⟨Nat.le_refl _, fun w h => absurd h (Nat.not_lt_zero _), .inl rfl⟩
  | succ u ih =>
    obtain ⟨i0, i1, i2⟩ := ih
    unfold nearN
    by_cases hb : b.testBit u = true
    · rw [if_pos hb]
      refine ⟨by omega, fun w hw hbw => ?_, ?_⟩
      · rcases Nat.lt_succ_iff_lt_or_eq.1 hw with h1 | rfl
        · have := i1 w h1 hbw; omega
        · omega
      · by_cases h : nearN k b v u ≤ popc (u ^^^ v)
        · rw [Nat.min_eq_left h]
          rcases i2 with i2 | ⟨w, h1, h2⟩
          · exact .inl i2
          · exact .inr ⟨w, by omega, h2⟩
        · rw [Nat.min_eq_right (by omega)]
          exact .inr ⟨u, by omega, hb, rfl⟩
    · rw [if_neg hb]
      refine ⟨i0, fun w hw hbw => ?_, ?_⟩
      · rcases Nat.lt_succ_iff_lt_or_eq.1 hw with h1 | rfl
        · exact i1 w h1 hbw
        · exact absurd hbw hb
      · rcases i2 with i2 | ⟨w, h1, h2⟩
        · exact .inl i2
        · exact .inr ⟨w, by omega, h2⟩
theorem betw_spec (k N a b u : Nat) : betwN k N a b u ≤ k ∧ (∀ w, w < u → a.testBit w = true → betwN k N a b u ≤ nearN k b w N) ∧ (betwN k N a b u = k ∨ ∃ w, w < u ∧ a.testBit w = true ∧ betwN k N a b u = nearN k b w N) := by
  induction u with
  | zero => exact ⟨Nat.le_refl _, fun w h => absurd h (Nat.not_lt_zero _), .inl rfl⟩
  | succ u ih =>
    obtain ⟨i0, i1, i2⟩ := ih
    unfold betwN
    by_cases hb : a.testBit u = true
    · rw [if_pos hb]
      refine ⟨by omega, fun w hw hbw => ?_, ?_⟩
      · rcases Nat.lt_succ_iff_lt_or_eq.1 hw with h1 | rfl
        · have := i1 w h1 hbw; omega
        · omega
      · by_cases h : betwN k N a b u ≤ nearN k b u N
        · rw [Nat.min_eq_left h]
          rcases i2 with i2 | ⟨w, h1, h2⟩
          · exact .inl i2
          · exact .inr ⟨w, by omega, h2⟩
        · rw [Nat.min_eq_right (by omega)]
          exact .inr ⟨u, by omega, hb, rfl⟩
    · rw [if_neg hb]
      refine ⟨i0, fun w hw hbw => ?_, ?_⟩
      · rcases Nat.lt_succ_iff_lt_or_eq.1 hw with h1 | rfl
        · exact i1 w h1 hbw
        · exact absurd hbw hb
      · rcases i2 with i2 | ⟨w, h1, h2⟩
        · exact .inl i2
        · exact .inr ⟨w, by omega, h2⟩
theorem popc_small {k u v : Nat} (hk : k ≤ 4) (hu : u < 2 ^ k) (hv : v < 2 ^ k) : popc (u ^^^ v) ≤ k := by
  have key : ∀ k : Nat, k < 5 → ∀ u : Nat, u < 2 ^ k → ∀ v : Nat, v < 2 ^ k → popc (u ^^^ v) ≤ k := by decide +kernel
  exact key k (by omega) u hu v hv
theorem near_dist {k N b v : Nat} (hk : k ≤ 4) (hN : N = 2 ^ k) (hv : v < N) (hb : b < 2 ^ N) (h0 : b ≠ 0) : nearN k b v N = distF N b v := by
  obtain ⟨n0, n1, n2⟩ := near_spec k b v N
  obtain ⟨w, h1, h2, h3⟩ := dist_ex (v := v) hb h0
  have h4 := n1 w h1 h2
  rcases n2 with n2 | ⟨x, x1, x2, x3⟩
  · have := popc_small hk (u := w) (v := v) (by omega) (by omega); omega
  · have := dist_le (v := v) x1 x2; omega
/-- The least distance between two sets that are not empty. -/
theorem betw_le {k N a b v : Nat} (hk : k ≤ 4) (hN : N = 2 ^ k) (hv : v < N) (ha : a.testBit v = true) (hb : b < 2 ^ N) (h0 : b ≠ 0) : betwN k N a b N ≤ distF N b v := by
  have := (betw_spec k N a b N).2.1 v hv ha
  rwa [near_dist hk hN hv hb h0] at this
theorem betw_ex {k N a b : Nat} (hk : k ≤ 4) (hN : N = 2 ^ k) (ha : a < 2 ^ N) (ha0 : a ≠ 0) (hb : b < 2 ^ N) (h0 : b ≠ 0) : ∃ v, v < N ∧ a.testBit v = true ∧ betwN k N a b N = distF N b v := by
  obtain ⟨i, hi, hib⟩ := has_bit ha ha0
  have h1 := betw_le hk hN hi hib hb h0
  obtain ⟨b0, b1, b2⟩ := betw_spec k N a b N
  rcases b2 with b2 | ⟨x, x1, x2, x3⟩
  · have h2 := (near_spec k b i N).1
    rw [near_dist hk hN hi hb h0] at h2
    exact ⟨i, hi, hib, by omega⟩
  · exact ⟨x, x1, x2, by rw [x3, near_dist hk hN x1 hb h0]⟩
/-- What Closest returns. -/
def closS (k N s b : Nat) : Nat := mkSet N (fun v => s.testBit v && decide (nearN k b v N = betwN k N s b N))
theorem dal_closest {k N s b : Nat} (hk : k ≤ 4) (hN : N = 2 ^ k) (hb : b < 2 ^ N) (h0 : b ≠ 0) : closS k N s b = dalS N b s := by
  apply Nat.eq_of_testBit_eq
  intro i
  rw [Bool.eq_iff_iff, dal_bit, closS, testBit_mkSet]
  by_cases hi : i < N
  · rw [decide_eq_true hi, Bool.true_and, Bool.and_eq_true, decide_eq_true_eq, near_dist hk hN hi hb h0]
    constructor
    · rintro ⟨a, c⟩
      exact ⟨hi, a, fun w hw hs => by rw [c]; exact betw_le hk hN hw hs hb h0⟩
    · rintro ⟨_, a, c⟩
      refine ⟨a, ?_⟩
      have h1 := betw_le hk hN hi a hb h0
      obtain ⟨b0, b1, b2⟩ := betw_spec k N s b N
      rcases b2 with b2 | ⟨x, x1, x2, x3⟩
      · have h2 := (near_spec k b i N).1
        rw [near_dist hk hN hi hb h0] at h2
        omega
      · rw [near_dist hk hN x1 hb h0] at x3
        have := c x x1 x2
        omega
  · rw [decide_eq_false hi, Bool.false_and]
    exact ⟨(fun h => by cases h), fun h => absurd h.1 hi⟩

/-! ### what the law of nearness asks -/
theorem popc_zero {x : Nat} (hx : x < 16) : popc x = 0 ↔ x = 0 := by
  have key : ∀ x : Nat, x < 16 → (popc x = 0 ↔ x = 0) := by decide +kernel
  exact key x hx
theorem distF_le (N b v : Nat) : distF N b v ≤ 4 := by have := dq_le b v N; unfold distF; omega
theorem xor_eq_zero {a b : Nat} (h : a ^^^ b = 0) : a = b := by
  apply Nat.eq_of_testBit_eq
  intro i
  have := congrArg (fun x => Nat.testBit x i) h
  simp only [Nat.testBit_xor, Nat.zero_testBit] at this
  cases ha : a.testBit i <;> cases hb : b.testBit i <;> rw [ha, hb] at this <;> first | rfl | cases this
theorem dist_zero {k N b v : Nat} (hk : k ≤ 4) (hN : N = 2 ^ k) (hb : b < 2 ^ N) (h0 : b ≠ 0) (hv : v < N) : distF N b v = 0 ↔ b.testBit v = true := by
  have hN16 : N ≤ 16 := by rw [hN]; exact Nat.le_trans (Nat.pow_le_pow_right (by decide) hk) (by decide)
  constructor
  · intro h
    obtain ⟨w, h1, h2, h3⟩ := dist_ex (v := v) hb h0
    rw [h] at h3
    have hx : w ^^^ v < 16 := Nat.xor_lt_two_pow (n := 4) (by omega) (by omega)
    have := xor_eq_zero ((popc_zero hx).1 h3.symm)
    subst this; exact h2
  · intro h
    have := dist_le (N := N) (v := v) hv h
    rw [Nat.xor_self] at this
    have h1 : popc 0 = 0 := rfl
    omega
theorem popc_step : ∀ x : Nat, x < 16 → ∀ i : Nat, i < 4 → popc (x ^^^ 2 ^ i) ≤ popc x + 1 := by decide +kernel
theorem dist_step {b u v i : Nat} (hb : b < 2 ^ 16) (hv : v < 16) (hi : i < 4) (hu : u = v ^^^ 2 ^ i) : distF 16 b u ≤ distF 16 b v + 1 := by
  by_cases h0 : b = 0
  · rw [h0, dist_empty, dist_empty]; omega
  · obtain ⟨w, h1, h2, h3⟩ := dist_ex (v := v) hb h0
    have h4 := dist_le (v := u) h1 h2
    have h5 := popc_step (w ^^^ v) (Nat.xor_lt_two_pow (n := 4) (by omega) (by omega)) i hi
    rw [hu, ← Nat.xor_assoc] at h4
    rw [hu]
    omega
theorem dal_both {N b s : Nat} (hb : b < 2 ^ N) (h : b &&& s ≠ 0) (hk : ∃ k, k ≤ 4 ∧ N = 2 ^ k) : dalS N b s = b &&& s := by
  obtain ⟨k, hk, hN⟩ := hk
  have h0 : b ≠ 0 := fun e => h (by rw [e, Nat.zero_and])
  obtain ⟨i, hi⟩ := Nat.exists_testBit_of_ne_zero h
  rw [Nat.testBit_and, Bool.and_eq_true] at hi
  have hiN := bit_lt' hb hi.1
  apply Nat.eq_of_testBit_eq
  intro v
  rw [Bool.eq_iff_iff, dal_bit, Nat.testBit_and, Bool.and_eq_true]
  constructor
  · rintro ⟨a, b', c⟩
    have := c i hiN hi.2
    rw [(dist_zero hk hN hb h0 hiN).2 hi.1] at this
    exact ⟨(dist_zero hk hN hb h0 a).1 (by omega), b'⟩
  · rintro ⟨a, b'⟩
    have hv := bit_lt' hb a
    exact ⟨hv, b', fun w _ _ => by rw [(dist_zero hk hN hb h0 hv).2 a]; omega⟩
end Go.Proofs.Ytnilfpcipclagaa
