/-
  Plain laws of updates by a family of preorders (chapter 41): no program in sight.
-/
import Derived.Test.YtgnmelmmcpmhoaaBase
import Derived.Test.YtgnmelmmcpmhoaaUpdD
import Derived.Test.YtgnmelmmcpmhoaaRefB
namespace Go.Proofs.Ytgnmelmmcpmhoaa

/-- What a valid family gives for one valuation v: f u is the set of the x that u is not behind. -/
structure Pre (n : Nat) (f : Nat → Nat) : Prop where
  n63 : n ≤ 63
  lt : ∀ j, j < n → f j < 2 ^ n
  refl : ∀ u, u < n → (f u).testBit u = true
  trans : ∀ u x y, u < n → x < n → y < n → (f u).testBit x = true → (f x).testBit y = true → (f u).testBit y = true
theorem strB_iff {f : Nat → Nat} {u x : Nat} : strB f u x = true ↔ (f u).testBit x = true ∧ (f x).testBit u = false := by
  unfold strB; simp
theorem Pre.str_trans {n : Nat} {f : Nat → Nat} (h : Pre n f) {u x y : Nat} (hu : u < n) (hx : x < n) (hy : y < n) (h1 : strB f u x = true) (h2 : strB f x y = true) : strB f u y = true := by
  rw [strB_iff] at *
  refine ⟨h.trans u x y hu hx hy h1.1 h2.1, ?_⟩
  cases hyu : (f y).testBit u
  · rfl
  · have := h.trans x y u hx hy hu h2.1 hyu
    rw [h1.2] at this; cases this
theorem str_irrefl {f : Nat → Nat} {u : Nat} : strB f u u = false := by unfold strB; cases (f u).testBit u <;> rfl
theorem Pre.has_min {n : Nat} {f : Nat → Nat} (h : Pre n f) (s : Nat) : ∀ k, k ≤ n → (∃ u, u < k ∧ s.testBit u = true) → ∃ u, u < k ∧ s.testBit u = true ∧ ∀ x, x < k → s.testBit x = true → strB f x u = false := by
  intro k
  induction k with
  | zero => rintro _ ⟨u, hu, _⟩; omega
  | succ k ih =>
    intro hk hex
    by_cases hbelow : ∃ u, u < k ∧ s.testBit u = true
    · obtain ⟨u0, hu0, hs0, hmin⟩ := ih (by omega) hbelow
      by_cases hks : s.testBit k = true ∧ strB f k u0 = true
      · refine ⟨k, by omega, hks.1, fun x hx hxs => ?_⟩
        rcases Nat.lt_succ_iff_lt_or_eq.1 hx with h1 | rfl
        · cases hxk : strB f x k
          · rfl
          · have := h.str_trans (by omega) (by omega) (by omega) hxk hks.2
            rw [hmin x h1 hxs] at this; cases this
        · exact str_irrefl
      · refine ⟨u0, by omega, hs0, fun x hx hxs => ?_⟩
        rcases Nat.lt_succ_iff_lt_or_eq.1 hx with h1 | rfl
        · exact hmin x h1 hxs
        · cases hxu : strB f x u0
          · rfl
          · exact absurd ⟨hxs, hxu⟩ hks
    · obtain ⟨u, hu, hus⟩ := hex
      have : u = k := by
        rcases Nat.lt_succ_iff_lt_or_eq.1 hu with h1 | h1
        · exact absurd ⟨u, h1, hus⟩ hbelow
        · exact h1
      subst this
      refine ⟨u, hu, hus, fun x hx hxs => ?_⟩
      rcases Nat.lt_succ_iff_lt_or_eq.1 hx with h1 | rfl
      · exact absurd ⟨x, h1, hxs⟩ hbelow
      · exact str_irrefl
theorem minS_bit {n : Nat} {f : Nat → Nat} {s u : Nat} : (minS n f s).testBit u = true ↔ u < n ∧ s.testBit u = true ∧ ∀ x, x < n → s.testBit x = true → strB f x u = false := by
  unfold minS
  rw [testBit_mkSet]
  unfold minB bestAt
  simp only [Bool.and_eq_true, decide_eq_true_eq, allB_iff]
  constructor
  · rintro ⟨h1, h2, h3⟩
    refine ⟨h1, h2, fun x hx hxs => ?_⟩
    have := h3 x hx
    unfold notBefore at this
    rw [hxs] at this
    simpa using this
  · rintro ⟨h1, h2, h3⟩
    refine ⟨h1, h2, fun x hx => ?_⟩
    unfold notBefore
    cases hxs : s.testBit x
    · rfl
    · rw [h3 x hx hxs]; rfl
/-- Below or equal to each element there is a minimal one. -/
theorem Pre.below_min {n : Nat} {f : Nat → Nat} (h : Pre n f) {s u : Nat} (hu : u < n) (hs : s.testBit u = true) : ∃ y, (minS n f s).testBit y = true ∧ (y = u ∨ strB f y u = true) := by
  -- the minimal elements of those that are u or strictly before it
  obtain ⟨y, hy, hys, hmin⟩ := h.has_min (mkSet n fun x => s.testBit x && (x == u || strB f x u)) n (Nat.le_refl _) ⟨u, hu, by rw [testBit_mkSet]; simp [hu, hs]⟩
  rw [testBit_mkSet] at hys
  simp only [Bool.and_eq_true, decide_eq_true_eq, Bool.or_eq_true, beq_iff_eq] at hys
  refine ⟨y, minS_bit.2 ⟨hy, hys.2.1, fun x hx hxs => ?_⟩, hys.2.2⟩
  cases hxy : strB f x y
  · rfl
  · have hxu : strB f x u = true := by
      rcases hys.2.2 with rfl | h2
      · exact hxy
      · exact h.str_trans hx hy hu hxy h2
    have := hmin x hx (by rw [testBit_mkSet]; simp [hx, hxs, hxu])
    rw [hxy] at this; cases this

theorem bit_lt {s n i : Nat} (hs : s < 2 ^ n) (hi : s.testBit i = true) : i < n := by
  rcases Nat.lt_or_ge i n with h | h
  · exact h
  · rw [Nat.testBit_lt_two_pow (Nat.lt_of_lt_of_le hs (Nat.pow_le_pow_right (by decide) h))] at hi; cases hi
theorem ne_zero_bit {s n : Nat} (hs : s < 2 ^ n) (h : s ≠ 0) : ∃ i, i < n ∧ s.testBit i = true := by
  obtain ⟨i, hi⟩ := Nat.exists_testBit_of_ne_zero h
  exact ⟨i, bit_lt hs hi, hi⟩
theorem updS_bit {n b s u : Nat} {F : Nat → Nat → Nat} : (updS n F b s).testBit u = true ↔ ∃ v, v < n ∧ b.testBit v = true ∧ (minS n (F v) s).testBit u = true := testBit_unionS _ _ _ _

/-- A valid family. -/
structure FamOk (n : Nat) (F : Nat → Nat → Nat) : Prop where
  pre : ∀ v, v < n → Pre n (F v)
  first : ∀ v x, v < n → x < n → x ≠ v → strB (F v) v x = true
theorem famOk_of {k : Int} {n : Nat} {m : Nat → Nat} {F : Nat → Nat → Nat} (h : checkZ k n m F = 0) : FamOk n F := by
  obtain ⟨kk, rfl, hk, hn, hmv, hF, hp⟩ := checkZ_ok h
  have h8 := pow_le8 hn hk
  refine ⟨fun v hv => ?_, fun v x hv hx hne => ?_⟩
  · have h1 := (preB_iff (fun j hj => hF v j hv hj) (by omega)).1 (hp v hv).1
    exact ⟨by omega, fun j hj => hF v j hv hj, fun u hu => (h1 u hu).1, fun u x y hu hx hy => (h1 u hu).2 x y hx hy⟩
  · have h1 := allB_iff.1 (hp v hv).2 x hx
    simpa [hne] using h1

section
variable {n : Nat} {F : Nat → Nat → Nat} (H : FamOk n F) {b s t : Nat}
theorem u1 {u : Nat} (h : (updS n F b s).testBit u = true) : s.testBit u = true := by
  obtain ⟨v, _, _, h⟩ := updS_bit.1 h
  exact (minS_bit.1 h).2.1
include H
theorem min_self {v : Nat} (hv : v < n) (hs : s.testBit v = true) {u : Nat} : (minS n (F v) s).testBit u = true ↔ u = v := by
  rw [minS_bit]
  constructor
  · rintro ⟨h1, h2, h3⟩
    apply Classical.byContradiction
    intro hne
    have := h3 v hv hs
    rw [H.first v u hv h1 hne] at this; cases this
  · rintro rfl
    refine ⟨hv, hs, fun x hx hxs => ?_⟩
    by_cases hxv : x = u
    · subst hxv; exact str_irrefl
    · have h1 := strB_iff.1 (H.first u x hv hx hxv)
      unfold strB; rw [h1.2]; rfl
theorem u2 (hb : b < 2 ^ n) (h : ∀ i, b.testBit i = true → s.testBit i = true) : updS n F b s = b := by
  apply Nat.eq_of_testBit_eq
  intro i
  rw [Bool.eq_iff_iff, updS_bit]
  constructor
  · rintro ⟨v, hv, hbv, hm⟩
    rw [min_self H hv (h v hbv)] at hm
    subst hm; exact hbv
  · intro hi
    exact ⟨i, bit_lt hb hi, hi, (min_self H (bit_lt hb hi) (h i hi)).2 rfl⟩
theorem u3 (hb : b < 2 ^ n) (hs : s < 2 ^ n) (hb0 : b ≠ 0) (hs0 : s ≠ 0) : updS n F b s ≠ 0 := by
  obtain ⟨v, hv, hbv⟩ := ne_zero_bit hb hb0
  obtain ⟨u, hu, hus⟩ := ne_zero_bit hs hs0
  obtain ⟨y, hy, _⟩ := (H.pre v hv).below_min hu hus
  intro h0
  have : (updS n F b s).testBit y = true := updS_bit.2 ⟨v, hv, hbv, hy⟩
  rw [h0, Nat.zero_testBit] at this; cases this
omit H in
theorem min_inter {v u : Nat} (h : (minS n (F v) s).testBit u = true) (ht : t.testBit u = true) : (minS n (F v) (s &&& t)).testBit u = true := by
  rw [minS_bit] at *
  refine ⟨h.1, by rw [Nat.testBit_and, h.2.1, ht]; rfl, fun x hx hxs => h.2.2 x hx ?_⟩
  rw [Nat.testBit_and, Bool.and_eq_true] at hxs
  exact hxs.1
omit H in
theorem u5 {u : Nat} (h : (updS n F b s).testBit u = true) (ht : t.testBit u = true) : (updS n F b (s &&& t)).testBit u = true := by
  obtain ⟨v, hv, hbv, hm⟩ := updS_bit.1 h
  exact updS_bit.2 ⟨v, hv, hbv, min_inter hm ht⟩
theorem min_back {v u : Nat} (hv : v < n) (hsub : ∀ i, (minS n (F v) s).testBit i = true → t.testBit i = true) (h : (minS n (F v) (s &&& t)).testBit u = true) : (minS n (F v) s).testBit u = true := by
  rw [minS_bit] at h ⊢
  obtain ⟨h1, h2, h3⟩ := h
  rw [Nat.testBit_and, Bool.and_eq_true] at h2
  refine ⟨h1, h2.1, fun x hx hxs => ?_⟩
  cases hxu : strB (F v) x u
  · rfl
  · obtain ⟨y, hy, hyx⟩ := (H.pre v hv).below_min hx hxs
    have hyb := minS_bit.1 hy
    have hyu : strB (F v) y u = true := by
      rcases hyx with rfl | h4
      · exact hxu
      · exact (H.pre v hv).str_trans hyb.1 hx h1 h4 hxu
    have := h3 y hyb.1 (by rw [Nat.testBit_and, hyb.2.1, hsub y hy]; rfl)
    rw [hyu] at this; cases this
theorem u6 (h1 : ∀ i, (updS n F b s).testBit i = true → t.testBit i = true) (h2 : ∀ i, (updS n F b t).testBit i = true → s.testBit i = true) : updS n F b s = updS n F b t := by
  have key : ∀ {s t u : Nat}, (∀ i, (updS n F b s).testBit i = true → t.testBit i = true) → (∀ i, (updS n F b t).testBit i = true → s.testBit i = true) → (updS n F b s).testBit u = true → (updS n F b t).testBit u = true := fun {s t u} h1 h2 h => by
    obtain ⟨v, hv, hbv, hm⟩ := updS_bit.1 h
    have ht := h1 u h
    have h3 := min_inter (t := t) hm ht
    rw [Nat.and_comm] at h3
    exact updS_bit.2 ⟨v, hv, hbv, min_back H hv (fun i hi => h2 i (updS_bit.2 ⟨v, hv, hbv, hi⟩)) h3⟩
  apply Nat.eq_of_testBit_eq
  intro i
  rw [Bool.eq_iff_iff]
  exact ⟨key h1 h2, key h2 h1⟩
end

/-! ### erasure -/
theorem complS_bit {n s i : Nat} (hn : n ≤ 63) (hs : s < 18446744073709551616) : (complS n s).testBit i = (decide (i < n) && !s.testBit i) := by
  have h3 : 2 ^ n ≤ 2 ^ 64 := Nat.pow_le_pow_right (by decide) (by omega)
  unfold complS
  rw [testBit_andNot _ _ _ (by omega) hs, Nat.testBit_two_pow_sub_one]
theorem erase_keeps (x b : Nat) (hx : x ||| b < 18446744073709551616) (hb : b < 18446744073709551616) : andNot b (x ||| b) = 0 :=
  (andNot_eq_zero hb hx).2 fun i hi => by rw [Nat.testBit_or, hi, Bool.or_true]
theorem erase_gives_up {n : Nat} {F : Nat → Nat → Nat} (H : FamOk n F) (hn : n ≤ 63) {b s : Nat} (hb : b < 2 ^ n) (hs : s < 2 ^ n) (hb0 : b ≠ 0) (hs1 : s ≠ 2 ^ n - 1) : andNot (updS n F b (complS n s) ||| b) s ≠ 0 := by
  have h3 : 2 ^ n ≤ 2 ^ 63 := Nat.pow_le_pow_right (by decide) hn
  have h64 : s < 18446744073709551616 := by omega
  have hc0 : complS n s ≠ 0 := by
    intro h0
    apply hs1
    apply Nat.eq_of_testBit_eq
    intro i
    rw [Nat.testBit_two_pow_sub_one]
    have := complS_bit (i := i) hn h64
    rw [h0, Nat.zero_testBit] at this
    by_cases hi : i < n
    · simp [hi] at this ⊢; exact this
    · rw [Nat.testBit_lt_two_pow (Nat.lt_of_lt_of_le hs (Nat.pow_le_pow_right (by decide) (by omega)))]; simp [hi]
  obtain ⟨u, hu, hub⟩ := ne_zero_bit (updS_lt n F b (complS n s)) (u3 H hb complS_lt hb0 hc0)
  intro h0
  have hx : updS n F b (complS n s) ||| b < 18446744073709551616 := Nat.lt_trans (Nat.or_lt_two_pow (updS_lt n F b _) hb) (pow_lt64 (by omega))
  have := (andNot_eq_zero hx h64).1 h0 u (by rw [Nat.testBit_or, hub]; rfl)
  have h4 := u1 hub
  rw [complS_bit hn h64, this] at h4
  simp at h4
theorem erase_idle {n : Nat} {F : Nat → Nat → Nat} (H : FamOk n F) (hn : n ≤ 63) {b s : Nat} (hb : b < 2 ^ n) (hs : s < 18446744073709551616) (h : b &&& s = 0) : updS n F b (complS n s) ||| b = b := by
  rw [u2 H hb fun i hi => ?_]
  · exact Nat.or_self b
  · rw [complS_bit hn hs]
    have : (b &&& s).testBit i = false := by rw [h, Nat.zero_testBit]
    rw [Nat.testBit_and, hi, Bool.true_and] at this
    rw [this]; simp [bit_lt hb hi]
end Go.Proofs.Ytgnmelmmcpmhoaa
