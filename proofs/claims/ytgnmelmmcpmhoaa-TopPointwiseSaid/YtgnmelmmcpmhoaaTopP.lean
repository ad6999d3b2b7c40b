/-
  Plain facts: Dalal's revision, the distance between sets, and the update by the number of changed facts.
-/
import Derived.Test.YtgnmelmmcpmhoaaProg
import Derived.Test.YtgnmelmmcpmhoaaBase
import Derived.Test.YtgnmelmmcpmhoaaPlain
import Derived.Test.YtgnmelmmcpmhoaaLawE
import Derived.Test.YtgnmelmmcpmhoaaRevC
namespace Go.Proofs.Ytgnmelmmcpmhoaa
open Go.RowKit

theorem leastP_inv (s : Nat) (f : Nat → Int) (n : Nat) :
    (∀ v, (leastP s f n).1.testBit v = true ↔ v < n ∧ s.testBit v = true ∧ f v = (leastP s f n).2) ∧ (∀ w, w < n → s.testBit w = true → (leastP s f n).2 ≤ f w ∧ (leastP s f n).1 ≠ 0) := by
  induction n with
  | zero => exact ⟨fun v => ⟨fun h => (by rw [show (leastP s f 0).1 = 0 from rfl, Nat.zero_testBit] at h; cases h), fun h => absurd h.1 (Nat.not_lt_zero _)⟩, fun w h => absurd h (Nat.not_lt_zero _)⟩
  | succ n ih =>
    obtain ⟨ih1, ih2⟩ := ih
    have hS : leastP s f (n + 1) = if s.testBit n = false then leastP s f n
      else if (leastP s f n).1 = 0 ∨ f n < (leastP s f n).2 then (2 ^ n, f n)
      else if f n = (leastP s f n).2 then ((leastP s f n).1 ||| 2 ^ n, (leastP s f n).2)
      else leastP s f n := rfl
    have hnz : ∀ m : Nat, (m ||| 2 ^ n) ≠ 0 := fun m h => by
      have := congrArg (fun x => Nat.testBit x n) h
      simp [Nat.testBit_or, Nat.testBit_two_pow_self] at this
    cases hb : s.testBit n
    · rw [hS, if_pos hb]
      refine ⟨fun v => ⟨fun h => ?_, fun h => ?_⟩, fun w hw hsw => ?_⟩
      · have := (ih1 v).1 h; exact ⟨by omega, this.2⟩
      · refine (ih1 v).2 ⟨?_, h.2⟩
        rcases Nat.lt_succ_iff_lt_or_eq.1 h.1 with h1 | rfl
        · exact h1
        · rw [hb] at h; cases h.2.1
      · rcases Nat.lt_succ_iff_lt_or_eq.1 hw with h1 | rfl
        · exact ih2 w h1 hsw
        · rw [hb] at hsw; cases hsw
    · rw [hS, if_neg (by rw [hb]; exact fun h => by cases h)]
      by_cases h1 : (leastP s f n).1 = 0 ∨ f n < (leastP s f n).2
      · rw [if_pos h1]
        have hno : ∀ w, w < n → s.testBit w = true → f n < f w := fun w hw hsw => by
          obtain ⟨h2, h3⟩ := ih2 w hw hsw
          rcases h1 with h1 | h1
          · exact absurd h1 h3
          · omega
        refine ⟨fun v => ⟨fun h => ?_, fun h => ?_⟩, fun w hw hsw => ⟨?_, ?_⟩⟩
        · have : n = v := by simpa [Nat.testBit_two_pow] using h
          subst this; exact ⟨by omega, hb, rfl⟩
        · rcases Nat.lt_succ_iff_lt_or_eq.1 h.1 with h2 | rfl
          · have := hno v h2 h.2.1; have := h.2.2; omega
          · exact Nat.testBit_two_pow_self
        · rcases Nat.lt_succ_iff_lt_or_eq.1 hw with h2 | rfl
          · exact Int.le_of_lt (hno w h2 hsw)
          · exact Int.le_refl _
        · have := Nat.two_pow_pos n; show 2 ^ n ≠ 0; omega
      · rw [if_neg h1]
        by_cases h2 : f n = (leastP s f n).2
        · rw [if_pos h2]
          refine ⟨fun v => ⟨fun h => ?_, fun h => ?_⟩, fun w hw hsw => ⟨?_, hnz _⟩⟩
          · have h' : (leastP s f n).1.testBit v = true ∨ n = v := by simpa [Nat.testBit_or, Nat.testBit_two_pow] using h
            rcases h' with h' | rfl
            · have := (ih1 v).1 h'; exact ⟨by omega, this.2⟩
            · exact ⟨by omega, hb, h2⟩
          · show ((leastP s f n).1 ||| 2 ^ n).testBit v = true
            rw [Nat.testBit_or]
            rcases Nat.lt_succ_iff_lt_or_eq.1 h.1 with h3 | rfl
            · rw [(ih1 v).2 ⟨h3, h.2⟩]; rfl
            · simp [Nat.testBit_two_pow_self]
          · rcases Nat.lt_succ_iff_lt_or_eq.1 hw with h3 | rfl
            · exact (ih2 w h3 hsw).1
            · show (leastP s f w).2 ≤ f w; omega
        · rw [if_neg h2]
          refine ⟨fun v => ⟨fun h => ?_, fun h => ?_⟩, fun w hw hsw => ?_⟩
          · have := (ih1 v).1 h; exact ⟨by omega, this.2⟩
          · refine (ih1 v).2 ⟨?_, h.2⟩
            rcases Nat.lt_succ_iff_lt_or_eq.1 h.1 with h3 | rfl
            · exact h3
            · exact absurd h.2.2 h2
          · rcases Nat.lt_succ_iff_lt_or_eq.1 hw with h3 | rfl
            · exact ih2 w h3 hsw
            · refine ⟨?_, fun h => h1 (.inl h)⟩
              have : ¬ f w < (leastP s f w).2 := fun h => h1 (.inr h)
              omega
/-- The set that 'least' returns: the elements with the least value. -/
theorem least_bit (s : Nat) (f : Nat → Int) (n v : Nat) : (leastP s f n).1.testBit v = true ↔ v < n ∧ s.testBit v = true ∧ ∀ w, w < n → s.testBit w = true → f v ≤ f w := by
  obtain ⟨h1, h2⟩ := leastP_inv s f n
  rw [h1]
  constructor
  · rintro ⟨a, b, c⟩
    exact ⟨a, b, fun w hw hsw => by rw [c]; exact (h2 w hw hsw).1⟩
  · rintro ⟨a, b, c⟩
    refine ⟨a, b, ?_⟩
    have h3 := h2 v a b
    obtain ⟨i, hi, hib⟩ := ne_zero_bit (leastP_lt s f n) h3.2
    obtain ⟨a', b', c'⟩ := (h1 i).1 hib
    have := c i a' b'
    omega

/-! ### distances -/
theorem dq_spec (b v : Nat) (u : Nat) : (∀ w, w < u → b.testBit w = true → dq b v u ≠ 0 ∧ dq b v u ≤ popc (w ^^^ v) + 1) ∧ (dq b v u ≠ 0 → ∃ w, w < u ∧ b.testBit w = true ∧ dq b v u = popc (w ^^^ v) + 1) := by
  induction u with
  | zero => exact ⟨fun w h => absurd h (Nat.not_lt_zero _), fun h => absurd rfl h⟩
  | succ u ih =>
    obtain ⟨i1, i2⟩ := ih
    by_cases h : b.testBit u = true ∧ (dq b v u = 0 ∨ popc (u ^^^ v) + 1 < dq b v u)
    · rw [dq_yes _ _ _ h]
      refine ⟨fun w hw hbw => ⟨by omega, ?_⟩, fun _ => ⟨u, by omega, h.1, rfl⟩⟩
      rcases Nat.lt_succ_iff_lt_or_eq.1 hw with h1 | rfl
      · have := i1 w h1 hbw; omega
      · omega
    · rw [dq_no _ _ _ h]
      refine ⟨fun w hw hbw => ?_, fun h0 => ?_⟩
      · rcases Nat.lt_succ_iff_lt_or_eq.1 hw with h1 | rfl
        · exact i1 w h1 hbw
        · constructor
          · intro h0; exact h ⟨hbw, .inl h0⟩
          · have : ¬ popc (w ^^^ v) + 1 < dq b v w := fun h0 => h ⟨hbw, .inr h0⟩
            omega
      · obtain ⟨w, h1, h2⟩ := i2 h0
        exact ⟨w, by omega, h2⟩
theorem dist_le {N b v w : Nat} (hw : w < N) (hb : b.testBit w = true) : distF N b v ≤ popc (w ^^^ v) := by
  have := (dq_spec b v N).1 w hw hb
  unfold distF; omega
theorem dist_ex {N b v : Nat} (hb : b < 2 ^ N) (h0 : b ≠ 0) : ∃ w, w < N ∧ b.testBit w = true ∧ distF N b v = popc (w ^^^ v) := by
  obtain ⟨i, hi, hib⟩ := ne_zero_bit hb h0
  obtain ⟨w, h1, h2, h3⟩ := (dq_spec b v N).2 ((dq_spec b v N).1 i hi hib).1
  exact ⟨w, h1, h2, by unfold distF; omega⟩
theorem dist_empty (N v : Nat) : distF N 0 v = 0 := by
  have h : dq 0 v N = 0 := by
    cases h : dq 0 v N with
    | zero => rfl
    | succ n =>
      obtain ⟨w, _, h2, _⟩ := (dq_spec 0 v N).2 (by omega)
      rw [Nat.zero_testBit] at h2; cases h2
  unfold distF; rw [h]
theorem dal_bit (N b s v : Nat) : (dalS N b s).testBit v = true ↔ v < N ∧ s.testBit v = true ∧ ∀ w, w < N → s.testBit w = true → distF N b v ≤ distF N b w := by
  unfold dalS
  rw [least_bit]
  constructor
  · rintro ⟨a, b', c⟩; exact ⟨a, b', fun w hw hs => by have := c w hw hs; omega⟩
  · rintro ⟨a, b', c⟩; exact ⟨a, b', fun w hw hs => by have := c w hw hs; omega⟩
theorem dalS_lt (N b s : Nat) : dalS N b s < 2 ^ N := leastP_lt _ _ _
theorem dal_empty {N s : Nat} (hs : s < 2 ^ N) : dalS N 0 s = s := by
  apply Nat.eq_of_testBit_eq
  intro i
  rw [Bool.eq_iff_iff, dal_bit]
  constructor
  · exact fun h => h.2.1
  · exact fun h => ⟨bit_lt hs h, h, fun w _ _ => by rw [dist_empty, dist_empty]; exact Nat.le_refl _⟩
theorem dist_point {N v u : Nat} (hv : v < N) : distF N (2 ^ v) u = popc (v ^^^ u) := by
  have h1 := dist_le (N := N) (b := 2 ^ v) (v := u) (w := v) hv Nat.testBit_two_pow_self
  obtain ⟨w, _, h3, h4⟩ := dist_ex (N := N) (b := 2 ^ v) (v := u) (Nat.pow_lt_pow_right (by decide) hv) (by have := Nat.two_pow_pos v; omega)
  have : v = w := by simpa [Nat.testBit_two_pow] using h3
  subst this; exact h4

/-! ### updates by the number of changed facts -/
theorem strB_cnt {N v x u : Nat} (hx : x < N) (hu : u < N) : strB (famF N cntB v) x u = false ↔ popc (u ^^^ v) ≤ popc (x ^^^ v) := by
  unfold strB famF
  rw [testBit_mkSet, testBit_mkSet]
  unfold famIn cntB
  rw [decide_eq_true hx, decide_eq_true hu, Bool.true_and, Bool.true_and]
  by_cases h : popc (u ^^^ v) ≤ popc (x ^^^ v)
  · simp [h]
  · simp [h]; omega
theorem min_cnt {N v s u : Nat} : (minS N (famF N cntB v) s).testBit u = true ↔ u < N ∧ s.testBit u = true ∧ ∀ x, x < N → s.testBit x = true → popc (u ^^^ v) ≤ popc (x ^^^ v) := by
  rw [minS_bit]
  constructor
  · rintro ⟨a, b, c⟩; exact ⟨a, b, fun x hx hs => (strB_cnt hx a).1 (c x hx hs)⟩
  · rintro ⟨a, b, c⟩; exact ⟨a, b, fun x hx hs => (strB_cnt hx a).2 (c x hx hs)⟩
theorem dal_point {N v s : Nat} (hv : v < N) : dalS N (2 ^ v) s = minS N (famF N cntB v) s := by
  apply Nat.eq_of_testBit_eq
  intro i
  rw [Bool.eq_iff_iff, dal_bit, min_cnt]
  constructor
  · rintro ⟨a, b, c⟩; exact ⟨a, b, fun x hx hs => by have := c x hx hs; rw [dist_point hv, dist_point hv, Nat.xor_comm v, Nat.xor_comm v] at this; exact this⟩
  · rintro ⟨a, b, c⟩; exact ⟨a, b, fun x hx hs => by have := c x hx hs; rw [dist_point hv, dist_point hv, Nat.xor_comm v, Nat.xor_comm v]; exact this⟩
theorem upd_dal (N b s : Nat) : updS N (famF N cntB) b s = unionS b (fun v => dalS N (2 ^ v) s) N := by
  unfold updS
  apply Nat.eq_of_testBit_eq
  intro i
  rw [Bool.eq_iff_iff, testBit_unionS, testBit_unionS]
  constructor
  · rintro ⟨v, a, b', c⟩; exact ⟨v, a, b', by rw [dal_point a]; exact c⟩
  · rintro ⟨v, a, b', c⟩; exact ⟨v, a, b', by rw [dal_point a] at c; exact c⟩
theorem upd_cnt {N b s u : Nat} : (updS N (famF N cntB) b s).testBit u = true ↔ ∃ v, v < N ∧ b.testBit v = true ∧ u < N ∧ s.testBit u = true ∧ ∀ x, x < N → s.testBit x = true → popc (u ^^^ v) ≤ popc (x ^^^ v) := by
  rw [updS_bit]
  constructor
  · rintro ⟨v, a, b', c⟩; exact ⟨v, a, b', min_cnt.1 c⟩
  · rintro ⟨v, a, b', c⟩; exact ⟨v, a, b', min_cnt.2 c⟩

/-! ### the distance between sets -/
/-- What 'nearest' has after n valuations. -/
def nearN (k b v : Nat) : Nat → Nat
  | 0 => k
  | u + 1 => if b.testBit u = true then min (nearN k b v u) (popc (u ^^^ v)) else nearN k b v u
/-- What 'Between' has after n valuations. -/
def betwN (k N a b : Nat) : Nat → Nat
  | 0 => k
  | v + 1 => if a.testBit v = true then min (betwN k N a b v) (nearN k b v N) else betwN k N a b v
theorem near_spec (k b v u : Nat) : nearN k b v u ≤ k ∧ (∀ w, w < u → b.testBit w = true → nearN k b v u ≤ popc (w ^^^ v)) ∧ (nearN k b v u = k ∨ ∃ w, w < u ∧ b.testBit w = true ∧ nearN k b v u = popc (w ^^^ v)) := by
  induction u with
  | zero => exact ⟨Nat.le_refl _, fun w h => absurd h (Nat.not_lt_zero _), .inl rfl⟩
  | succ u ih =>
    obtain ⟨i0, i1, i2⟩ := ih
    unfold nearN
    by_cases hb : b.testBit u = true
    · rw [if_pos hb]
      refine ⟨by omega, fun w hw hbw => ?_, ?_⟩
      · rcases Nat.lt_succ_iff_lt_or_eq.1 hw with h1 | rfl
        · have := i1 w h1 hbw; omega
        · omega
      · by_cases h : nearN k b v u ≤ popc (u ^^^ v)
        · rw [Nat.min_eq_left h]
          rcases i2 with i2 | ⟨w, h1, h2⟩
          · exact .inl i2
          · exact .inr ⟨w, by omega, h2⟩
        · rw [Nat.min_eq_right (by omega)]
          exact .inr ⟨u, by omega, hb, rfl⟩
    · rw [if_neg hb]
      refine ⟨i0, fun w hw hbw => ?_, ?_⟩
      · rcases Nat.lt_succ_iff_lt_or_eq.1 hw with h1 | rfl
        · exact i1 w h1 hbw
        · exact absurd hbw hb
      · rcases i2 with i2 | ⟨w, h1, h2⟩
        · exact .inl i2
        · exact .inr ⟨w, by omega, h2⟩
theorem betw_spec (k N a b u : Nat) : betwN k N a b u ≤ k ∧ (∀ w, w < u → a.testBit w = true → betwN k N a b u ≤ nearN k b w N) ∧ (betwN k N a b u = k ∨ ∃ w, w < u ∧ a.testBit w = true ∧ betwN k N a b u = nearN k b w N) := by
  induction u with
  | zero => exact ⟨Nat.le_refl _, fun w h => absurd h (Nat.not_lt_zero _), .inl rfl⟩
  | succ u ih =>
    obtain ⟨i0, i1, i2⟩ := ih
    unfold betwN
    by_cases hb : a.testBit u = true
    · rw [if_pos hb]
      refine ⟨by omega, fun w hw hbw => ?_, ?_⟩
      · rcases Nat.lt_succ_iff_lt_or_eq.1 hw with h1 | rfl
        · have := i1 w h1 hbw; omega
        · omega
      · by_cases h : betwN k N a b u ≤ nearN k b u N
        · rw [Nat.min_eq_left h]
          rcases i2 with i2 | ⟨w, h1, h2⟩
          · exact .inl i2
          · exact .inr ⟨w, by omega, h2⟩
        · rw [Nat.min_eq_right (by omega)]
          exact .inr ⟨u, by omega, hb, rfl⟩
    · rw [if_neg hb]
      refine ⟨i0, fun w hw hbw => ?_, ?_⟩
      · rcases Nat.lt_succ_iff_lt_or_eq.1 hw with h1 | rfl
        · exact i1 w h1 hbw
        · exact absurd hbw hb
      · rcases i2 with i2 | ⟨w, h1, h2⟩
        · exact .inl i2
        · exact .inr ⟨w, by omega, h2⟩
theorem popc_small {k u v : Nat} (hk : k ≤ 3) (hu : u < 2 ^ k) (hv : v < 2 ^ k) : popc (u ^^^ v) ≤ k := by
  have key : ∀ k : Nat, k < 4 → ∀ u : Nat, u < 2 ^ k → ∀ v : Nat, v < 2 ^ k → popc (u ^^^ v) ≤ k := by decide +kernel
  exact key k (by omega) u hu v hv
theorem near_dist {k N b v : Nat} (hk : k ≤ 3) (hN : N = 2 ^ k) (hv : v < N) (hb : b < 2 ^ N) (h0 : b ≠ 0) : nearN k b v N = distF N b v := by
  obtain ⟨n0, n1, n2⟩ := near_spec k b v N
  obtain ⟨w, h1, h2, h3⟩ := dist_ex (v := v) hb h0
  have h4 := n1 w h1 h2
  rcases n2 with n2 | ⟨x, x1, x2, x3⟩
  · have := popc_small hk (u := w) (v := v) (by omega) (by omega); omega
  · have := dist_le (v := v) x1 x2; omega
/-- The least distance between two sets that are not empty. -/
theorem betw_le {k N a b v : Nat} (hk : k ≤ 3) (hN : N = 2 ^ k) (hv : v < N) (ha : a.testBit v = true) (hb : b < 2 ^ N) (h0 : b ≠ 0) : betwN k N a b N ≤ distF N b v := by
  have := (betw_spec k N a b N).2.1 v hv ha
  rwa [near_dist hk hN hv hb h0] at this
theorem betw_ex {k N a b : Nat} (hk : k ≤ 3) (hN : N = 2 ^ k) (ha : a < 2 ^ N) (ha0 : a ≠ 0) (hb : b < 2 ^ N) (h0 : b ≠ 0) : ∃ v, v < N ∧ a.testBit v = true ∧ betwN k N a b N = distF N b v := by
  obtain ⟨i, hi, hib⟩ := ne_zero_bit ha ha0
  have h1 := betw_le hk hN hi hib hb h0
  obtain ⟨b0, b1, b2⟩ := betw_spec k N a b N
  rcases b2 with b2 | ⟨x, x1, x2, x3⟩
  · have h2 := (near_spec k b i N).1
    rw [near_dist hk hN hi hb h0] at h2
    exact ⟨i, hi, hib, by omega⟩
  · exact ⟨x, x1, x2, by rw [x3, near_dist hk hN x1 hb h0]⟩
/-- What Closest returns. -/
def closS (k N s b : Nat) : Nat := mkSet N (fun v => s.testBit v && decide (nearN k b v N = betwN k N s b N))
theorem dal_closest {k N s b : Nat} (hk : k ≤ 3) (hN : N = 2 ^ k) (hb : b < 2 ^ N) (h0 : b ≠ 0) : closS k N s b = dalS N b s := by
  apply Nat.eq_of_testBit_eq
  intro i
  rw [Bool.eq_iff_iff, dal_bit, closS, testBit_mkSet]
  by_cases hi : i < N
  · rw [decide_eq_true hi, Bool.true_and, Bool.and_eq_true, decide_eq_true_eq, near_dist hk hN hi hb h0]
    constructor
    · rintro ⟨a, c⟩
      exact ⟨hi, a, fun w hw hs => by rw [c]; exact betw_le hk hN hw hs hb h0⟩
    · rintro ⟨_, a, c⟩
      refine ⟨a, ?_⟩
      have h1 := betw_le hk hN hi a hb h0
      obtain ⟨b0, b1, b2⟩ := betw_spec k N s b N
      rcases b2 with b2 | ⟨x, x1, x2, x3⟩
      · have h2 := (near_spec k b i N).1
        rw [near_dist hk hN hi hb h0] at h2
        omega
      · rw [near_dist hk hN x1 hb h0] at x3
        have := c x x1 x2
        omega
  · rw [decide_eq_false hi, Bool.false_and]
    exact ⟨(fun h => by cases h), fun h => absurd h.1 hi⟩
theorem dal_inside {N b s u : Nat} (hb : b < 2 ^ N) (h0 : b ≠ 0) (h : (dalS N b s).testBit u = true) : (updS N (famF N cntB) b s).testBit u = true := by
  obtain ⟨h1, h2, h3⟩ := (dal_bit N b s u).1 h
  obtain ⟨w, w1, w2, w3⟩ := dist_ex (v := u) hb h0
  refine upd_cnt.2 ⟨w, w1, w2, h1, h2, fun x hx hs => ?_⟩
  have h4 := h3 x hx hs
  have h5 := dist_le (v := x) w1 w2
  rw [Nat.xor_comm u, Nat.xor_comm x]
  omega
/-- If all valuations of the belief have the same distance from the input, update and revision agree. -/
theorem upd_is_dal {k N b s : Nat} (hk : k ≤ 3) (hN : N = 2 ^ k) (hb : b < 2 ^ N) (h0 : b ≠ 0) (hs : s < 2 ^ N) (hs0 : s ≠ 0) (h : ∀ v, v < N → b.testBit v = true → betwN k N (2 ^ v) s N = betwN k N b s N) : updS N (famF N cntB) b s = dalS N b s := by
  apply Nat.eq_of_testBit_eq
  intro u
  rw [Bool.eq_iff_iff]
  refine ⟨fun hu => ?_, dal_inside hb h0⟩
  obtain ⟨v, v1, v2, u1, u2, u3⟩ := upd_cnt.1 hu
  refine (dal_bit N b s u).2 ⟨u1, u2, fun w hw hsw => ?_⟩
  obtain ⟨z, z1, z2, z3⟩ := dist_ex (v := w) hb h0
  have e1 := h v v1 v2
  obtain ⟨p, p1, p2, p3⟩ := betw_ex (a := 2 ^ v) hk hN (Nat.pow_lt_pow_right (by decide) v1) (by have := Nat.two_pow_pos v; omega) hs hs0
  have : v = p := by simpa [Nat.testBit_two_pow] using p2
  subst this
  have e2 := betw_le (a := b) hk hN z1 z2 hs hs0
  have e3 := dist_le (v := z) hw hsw
  obtain ⟨q, q1, q2, q3⟩ := dist_ex (v := v) hs hs0
  have e4 := u3 q q1 q2
  have e5 := dist_le (v := u) v1 v2
  rw [Nat.xor_comm u] at e4
  rw [Nat.xor_comm w] at e3
  omega
theorem upd_none (N s : Nat) : updS N (famF N cntB) 0 s = 0 := by
  apply Nat.eq_of_testBit_eq
  intro u
  rw [Bool.eq_iff_iff, upd_cnt, Nat.zero_testBit]
  exact ⟨(fun ⟨v, _, h, _⟩ => by rw [Nat.zero_testBit] at h; cases h), (fun h => by cases h)⟩
theorem dal_none (N b : Nat) : dalS N b 0 = 0 := by
  apply Nat.eq_of_testBit_eq
  intro u
  rw [Bool.eq_iff_iff, dal_bit, Nat.zero_testBit]
  exact ⟨(fun h => by have := h.2.1; cases this), (fun h => by cases h)⟩
theorem upd_no (N b : Nat) : updS N (famF N cntB) b 0 = 0 := by
  apply Nat.eq_of_testBit_eq
  intro u
  rw [Bool.eq_iff_iff, upd_cnt, Nat.zero_testBit]
  exact ⟨(fun ⟨v, _, _, _, h, _⟩ => by cases h), (fun h => by cases h)⟩
end Go.Proofs.Ytgnmelmmcpmhoaa
