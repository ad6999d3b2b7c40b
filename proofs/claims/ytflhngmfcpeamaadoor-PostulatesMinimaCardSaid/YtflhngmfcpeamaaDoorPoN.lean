/-
  Plain facts: the families of tables that satisfy all postulates of update, and their preorders (two facts).
-/
import Derived.Test.YtflhngmfcpeamaaDoorProg
import Derived.Test.YtflhngmfcpeamaaDoorBase
import Derived.Test.YtflhngmfcpeamaaDoorRow
import Derived.Test.YtflhngmfcpeamaaDoorLeast
import Derived.Test.YtflhngmfcpeamaaDoorPoP
import Derived.Test.YtflhngmfcpeamaaDoorPoQ
import Derived.Test.YtflhngmfcpeamaaDoorPoU
import Derived.Test.YtflhngmfcpeamaaDoorPoV
import Derived.Test.YtflhngmfcpeamaaDoorPoX
import Derived.Test.YtflhngmfcpeamaaDoorPoF
namespace Go.Proofs.YtflhngmfcpeamaaDoor
open Go.RowKit

theorem up_at {S i k x z : Nat} {F : Nat → Nat → Nat} (h : upAll S i F = true) (hk : k < S) (hx : x < S) (hz : z < S) : upIn i F k x z = true :=
  allB_iff.1 (allB_iff.1 (allB_iff.1 h k hk) x hx) z hz
/-- All postulates of update, for two facts. -/
structure UpOk (F : Nat → Nat → Nat) : Prop where
  lt : ∀ k, k < 16 → ∀ x, x < 16 → F k x < 16
  u1 : ∀ k, k < 16 → ∀ x, x < 16 → ∀ i, (F k x).testBit i = true → x.testBit i = true
  u2 : ∀ k, k < 16 → ∀ x, x < 16 → (∀ i, k.testBit i = true → x.testBit i = true) → F k x = k
  u3 : ∀ k, k < 16 → ∀ x, x < 16 → k ≠ 0 → x ≠ 0 → F k x ≠ 0
  u5 : ∀ k, k < 16 → ∀ x, x < 16 → ∀ y, y < 16 → ∀ i, (F k x).testBit i = true → y.testBit i = true → (F k (x &&& y)).testBit i = true
  u6 : ∀ k, k < 16 → ∀ x, x < 16 → ∀ y, y < 16 → (∀ i, (F k x).testBit i = true → y.testBit i = true) → (∀ i, (F k y).testBit i = true → x.testBit i = true) → F k x = F k y
  u7 : ∀ a, a < 4 → ∀ x, x < 16 → ∀ y, y < 16 → ∀ i, (F (2 ^ a) x).testBit i = true → (F (2 ^ a) y).testBit i = true → (F (2 ^ a) (x ||| y)).testBit i = true
  u8 : ∀ k, k < 16 → ∀ l, l < 16 → ∀ x, x < 16 → F (k ||| l) x = F k x ||| F l x
theorem upOk_of {F : Nat → Nat → Nat} (hl : ∀ k, k < 16 → ∀ x, x < 16 → F k x < 16) (h : ∀ i, i < 8 → upAll 16 i F = true) : UpOk F := by
  have b16 : ∀ a b : Nat, a < 16 → a &&& b < 18446744073709551616 := fun a b ha => Nat.lt_of_le_of_lt Nat.and_le_left (by omega)
  refine ⟨hl, ?_, ?_, ?_, ?_, ?_, ?_, ?_⟩
  · intro k hk x hx i hi
    have h1 := up_at (h 0 (by omega)) hk hx (show 0 < 16 by omega)
    have h2 : andNot (F k x) x = 0 := by simpa [upIn, upFit] using h1
    have := hl k hk x hx
    exact (andNot_eq_zero (by omega) (by omega)).1 h2 i hi
  · intro k hk x hx hs
    have h1 := up_at (h 1 (by omega)) hk hx (show 0 < 16 by omega)
    have h2 : ¬ andNot k x = 0 ∨ F k x = k := by simpa [upIn, upFit] using h1
    exact h2.resolve_left (fun hn => hn ((andNot_eq_zero (by omega) (by omega)).2 hs))
  · intro k hk x hx hk0 hx0
    have h1 := up_at (h 2 (by omega)) hk hx (show 0 < 16 by omega)
    have h2 : (k = 0 ∨ x = 0) ∨ ¬ F k x = 0 := by simpa [upIn, upFit] using h1
    exact h2.resolve_left (fun h => h.elim hk0 hx0)
  · intro k hk x hx y hy i hi hiy
    have h1 := up_at (h 4 (by omega)) hk hx hy
    have h2 : andNot (F k x &&& y) (F k (x &&& y)) = 0 := by simpa [upIn, upFit] using h1
    have hz : x &&& y < 16 := Nat.lt_of_le_of_lt Nat.and_le_left hx
    have := hl k hk _ hz
    exact (andNot_eq_zero (b16 _ _ (hl k hk x hx)) (by omega)).1 h2 i (by rw [Nat.testBit_and, hi, hiy]; rfl)
  · intro k hk x hx y hy hs1 hs2
    have h1 := up_at (h 5 (by omega)) hk hx hy
    have h2 : (¬ andNot (F k x) y = 0 ∨ ¬ andNot (F k y) x = 0) ∨ F k x = F k y := by simpa [upIn, upFit] using h1
    have l1 := hl k hk x hx
    have l2 := hl k hk y hy
    exact h2.resolve_left (fun h => h.elim (fun hn => hn ((andNot_eq_zero (by omega) (by omega)).2 hs1)) (fun hn => hn ((andNot_eq_zero (by omega) (by omega)).2 hs2)))
  · intro a ha x hx y hy i hi1 hi2
    have hP : 2 ^ a < 16 := Nat.pow_lt_pow_right (n := 4) (by decide) ha
    have hp : popc (2 ^ a) = 1 := by
      have : ∀ a : Nat, a < 4 → popc (2 ^ a) = 1 := by decide
      exact this a ha
    have h1 := up_at (h 6 (by omega)) hP hx hy
    have h2 : ¬ popc (2 ^ a) = 1 ∨ andNot (F (2 ^ a) x &&& F (2 ^ a) y) (F (2 ^ a) (x ||| y)) = 0 := by simpa [upIn, upFit] using h1
    have h3 := h2.resolve_left (fun hn => hn hp)
    have hz : x ||| y < 16 := Nat.or_lt_two_pow (n := 4) hx hy
    have := hl _ hP _ hz
    exact (andNot_eq_zero (b16 _ _ (hl _ hP x hx)) (by omega)).1 h3 i (by rw [Nat.testBit_and, hi1, hi2]; rfl)
  · intro k hk l hl' x hx
    have h1 := up_at (h 7 (by omega)) hk hx hl'
    simpa [upIn, upFit] using h1

section
variable {F : Nat → Nat → Nat}
theorem p16 {a : Nat} (h : a < 4) : 2 ^ a < 16 := Nat.pow_lt_pow_right (n := 4) (by decide) h
theorem pr16 {v u : Nat} (hv : v < 4) (hu : u < 4) : 2 ^ v ||| 2 ^ u < 16 := Nat.or_lt_two_pow (n := 4) (p16 hv) (p16 hu)
/-- A set that is not empty and within {v}. -/
theorem only {s v : Nat} (h0 : s ≠ 0) (h : ∀ i, s.testBit i = true → i = v) : s = 2 ^ v := by
  obtain ⟨j, hj⟩ := Nat.exists_testBit_of_ne_zero h0
  apply Nat.eq_of_testBit_eq
  intro i
  rw [Nat.testBit_two_pow, Bool.eq_iff_iff, decide_eq_true_eq]
  constructor
  · exact fun hi => (h i hi).symm
  · intro e; subst e; have := h j hj; subst this; exact hj
theorem ne_or {v u : Nat} : 2 ^ v ||| 2 ^ u ≠ 0 := fun h => by
  have := congrArg (fun x => Nat.testBit x v) h
  simp [Nat.testBit_or, Nat.testBit_two_pow_self] at this
theorem pow_ne {a : Nat} : (2 : Nat) ^ a ≠ 0 := by have := Nat.two_pow_pos a; omega
theorem bef_iff {a v u : Nat} (hu : u < 4) : (famG 4 F a v).testBit u = true ↔ F (2 ^ a) (2 ^ v ||| 2 ^ u) = 2 ^ v := by
  unfold famG
  rw [testBit_mkSet, decide_eq_true hu, Bool.true_and]
  unfold famIn
  exact beq_iff_eq
theorem bef_self (H : UpOk F) {a v : Nat} (ha : a < 4) (hv : v < 4) : (famG 4 F a v).testBit v = true := by
  rw [bef_iff hv]
  refine only (H.u3 _ (p16 ha) _ (pr16 hv hv) pow_ne ne_or) fun i hi => ?_
  have := H.u1 _ (p16 ha) _ (pr16 hv hv) i hi
  rcases pair_bit.1 this with h | h <;> exact h
theorem bef_own (H : UpOk F) {a v : Nat} (ha : a < 4) (hv : v < 4) : (famG 4 F a a).testBit v = true := by
  rw [bef_iff hv]
  refine H.u2 _ (p16 ha) _ (pr16 ha hv) fun i hi => ?_
  have : a = i := by simpa [Nat.testBit_two_pow] using hi
  exact pair_bit.2 (.inl this.symm)
theorem bef_not (H : UpOk F) {a v : Nat} (ha : a < 4) (hv : v < 4) (hne : v ≠ a) : (famG 4 F a v).testBit a = false := by
  cases h : (famG 4 F a v).testBit a
  · rfl
  · rw [bef_iff ha] at h
    have h2 : F (2 ^ a) (2 ^ v ||| 2 ^ a) = 2 ^ a := H.u2 _ (p16 ha) _ (pr16 hv ha) fun i hi => by
      have : a = i := by simpa [Nat.testBit_two_pow] using hi
      exact pair_bit.2 (.inr this.symm)
    rw [h2] at h
    have := congrArg (fun x => Nat.testBit x a) h
    simp [Nat.testBit_two_pow_self, Nat.testBit_two_pow] at this
    exact absurd this hne
theorem and_sup {x y : Nat} (h : ∀ i, y.testBit i = true → x.testBit i = true) : x &&& y = y := by
  apply Nat.eq_of_testBit_eq
  intro i
  rw [Nat.testBit_and]
  cases hi : y.testBit i
  · rw [Bool.and_false]
  · rw [h i hi]; rfl
theorem bef_trans (H : UpOk F) {a v u x : Nat} (ha : a < 4) (hv : v < 4) (hu : u < 4) (hx : x < 4) (h1 : (famG 4 F a v).testBit u = true) (h2 : (famG 4 F a u).testBit x = true) : (famG 4 F a v).testBit x = true := by
  rw [bef_iff hu] at h1
  rw [bef_iff hx] at h2 ⊢
  have hY : (2 ^ v ||| 2 ^ u) ||| 2 ^ x < 16 := Nat.or_lt_two_pow (n := 4) (pr16 hv hu) (p16 hx)
  have hYb : ∀ i, ((2 ^ v ||| 2 ^ u) ||| 2 ^ x).testBit i = true ↔ i = v ∨ i = u ∨ i = x := fun i => by
    rw [Nat.testBit_or, Bool.or_eq_true, pair_bit, Nat.testBit_two_pow, decide_eq_true_eq]
    constructor
    · rintro ((h | h) | h)
      · exact .inl h
      · exact .inr (.inl h)
      · exact .inr (.inr h.symm)
    · rintro (h | h | h)
      · exact .inl (.inl h)
      · exact .inl (.inr h)
      · exact .inr h.symm
  have hC : F (2 ^ a) ((2 ^ v ||| 2 ^ u) ||| 2 ^ x) = 2 ^ v := by
    refine only (H.u3 _ (p16 ha) _ hY pow_ne (fun h => ?_)) fun i hi => ?_
    · have := congrArg (fun z => Nat.testBit z v) h
      rw [Nat.zero_testBit] at this
      have h3 := (hYb v).2 (.inl rfl)
      rw [this] at h3; cases h3
    · have hvu : ∀ i, (F (2 ^ a) ((2 ^ v ||| 2 ^ u) ||| 2 ^ x)).testBit i = true → (i = v ∨ i = u) → i = v := fun i hi hor => by
        have h5 := H.u5 _ (p16 ha) _ hY _ (pr16 hv hu) i hi (pair_bit.2 hor)
        rw [and_sup (fun j hj => (hYb j).2 (by rcases pair_bit.1 hj with h | h; exact .inl h; exact .inr (.inl h))), h1] at h5
        have : v = i := by simpa [Nat.testBit_two_pow] using h5
        exact this.symm
      have hux : ∀ i, (F (2 ^ a) ((2 ^ v ||| 2 ^ u) ||| 2 ^ x)).testBit i = true → (i = u ∨ i = x) → i = u := fun i hi hor => by
        have h5 := H.u5 _ (p16 ha) _ hY _ (pr16 hu hx) i hi (pair_bit.2 hor)
        rw [and_sup (fun j hj => (hYb j).2 (by rcases pair_bit.1 hj with h | h; exact .inr (.inl h); exact .inr (.inr h))), h2] at h5
        have : u = i := by simpa [Nat.testBit_two_pow] using h5
        exact this.symm
      rcases (hYb i).1 (H.u1 _ (p16 ha) _ hY i hi) with h | h | h
      · exact h
      · exact hvu i hi (.inr h)
      · exact hvu i hi (.inr (hux i hi (.inr h)))
  have h6 := H.u6 _ (p16 ha) _ hY _ (pr16 hv hx) (fun i hi => by
    rw [hC] at hi
    have : v = i := by simpa [Nat.testBit_two_pow] using hi
    exact pair_bit.2 (.inl this.symm)) (fun i hi => (hYb i).2 (by rcases pair_bit.1 (H.u1 _ (p16 ha) _ (pr16 hv hx) i hi) with h | h; exact .inl h; exact .inr (.inr h)))
  rw [← h6, hC]

/-! ### the minima -/
def firstIn (F : Nat → Nat → Nat) (a x v u : Nat) : Bool := !x.testBit u || !(famG 4 F a u).testBit v || (famG 4 F a v).testBit u
def firstB (F : Nat → Nat → Nat) (a x v : Nat) : Bool := allB 4 (firstIn F a x v)
def condB (F : Nat → Nat → Nat) (k x a v : Nat) : Bool := k.testBit a && x.testBit v && firstB F a x v
def wantV (p : Nat → Bool) (acc : Nat) : Nat → Nat
  | 0 => acc
  | v + 1 => if p v then wantV p acc v ||| 2 ^ v else wantV p acc v
def wantW (F : Nat → Nat → Nat) (k x : Nat) : Nat → Nat
  | 0 => 0
  | a + 1 => wantV (condB F k x a) (wantW F k x a) 4
theorem wantV_bit (p : Nat → Bool) (acc n i : Nat) : (wantV p acc n).testBit i = true ↔ acc.testBit i = true ∨ (i < n ∧ p i = true) := by
  induction n with
  | zero => exact ⟨fun h => .inl h, fun h => h.elim id fun h => absurd h.1 (Nat.not_lt_zero _)⟩
  | succ n ih =>
    unfold wantV
    by_cases hp : p n = true
    · rw [if_pos hp, Nat.testBit_or, Bool.or_eq_true, ih, Nat.testBit_two_pow, decide_eq_true_eq]
      constructor
      · rintro ((h | h) | h)
        · exact .inl h
        · exact .inr ⟨by omega, h.2⟩
        · subst h; exact .inr ⟨by omega, hp⟩
      · rintro (h | ⟨h, h2⟩)
        · exact .inl (.inl h)
        · rcases Nat.lt_succ_iff_lt_or_eq.1 h with h3 | rfl
          · exact .inl (.inr ⟨h3, h2⟩)
          · exact .inr rfl
    · rw [if_neg hp, ih]
      constructor
      · rintro (h | h)
        · exact .inl h
        · exact .inr ⟨by omega, h.2⟩
      · rintro (h | ⟨h, h2⟩)
        · exact .inl h
        · rcases Nat.lt_succ_iff_lt_or_eq.1 h with h3 | rfl
          · exact .inr ⟨h3, h2⟩
          · exact absurd h2 hp
theorem wantW_bit (k x n i : Nat) : (wantW F k x n).testBit i = true ↔ ∃ a, a < n ∧ i < 4 ∧ condB F k x a i = true := by
  induction n with
  | zero =>
    rw [show wantW F k x 0 = 0 from rfl, Nat.zero_testBit]
    exact ⟨(fun h => by cases h), fun ⟨a, h, _⟩ => absurd h (Nat.not_lt_zero _)⟩
  | succ n ih =>
    rw [show wantW F k x (n + 1) = wantV (condB F k x n) (wantW F k x n) 4 from rfl, wantV_bit, ih]
    constructor
    · rintro (⟨a, h1, h2⟩ | h)
      · exact ⟨a, by omega, h2⟩
      · exact ⟨n, by omega, h⟩
    · rintro ⟨a, h1, h2⟩
      rcases Nat.lt_succ_iff_lt_or_eq.1 h1 with h3 | rfl
      · exact .inl ⟨a, h3, h2⟩
      · exact .inr h2
theorem wantV_lt (p : Nat → Bool) {acc n : Nat} (h : acc < 16) (hn : n ≤ 4) : wantV p acc n < 16 := by
  induction n with
  | zero => exact h
  | succ n ih =>
    have := ih (by omega)
    unfold wantV
    split
    · exact Nat.or_lt_two_pow (n := 4) this (p16 (by omega))
    · exact this
theorem wantW_lt (k x n : Nat) : wantW F k x n < 16 := by
  induction n with
  | zero => exact (by decide : (0 : Nat) < 16)
  | succ n ih => exact wantV_lt _ ih (Nat.le_refl _)
/-- i is chosen out of x by a exactly if it is first in x. -/
theorem chosen (H : UpOk F) {a x i : Nat} (ha : a < 4) (hx : x < 16) : (F (2 ^ a) x).testBit i = true ↔ i < 4 ∧ x.testBit i = true ∧ firstB F a x i = true := by
  have pair : ∀ u, u < 4 → i < 4 → ((F (2 ^ a) (2 ^ i ||| 2 ^ u)).testBit i = true ↔ (!(famG 4 F a u).testBit i || (famG 4 F a i).testBit u) = true) := fun u hu hi => by
    have hcom : 2 ^ i ||| 2 ^ u = 2 ^ u ||| 2 ^ i := Nat.or_comm _ _
    constructor
    · intro h
      cases hb : (famG 4 F a u).testBit i
      · rfl
      · rw [bef_iff hi, ← hcom] at hb
        rw [hb] at h
        have : u = i := by simpa [Nat.testBit_two_pow] using h
        subst this
        rw [bef_self H ha hu]; rfl
    · intro h
      cases hc : (F (2 ^ a) (2 ^ i ||| 2 ^ u)).testBit i
      · exfalso
        have hF : F (2 ^ a) (2 ^ i ||| 2 ^ u) = 2 ^ u := by
          refine only (H.u3 _ (p16 ha) _ (pr16 hi hu) pow_ne ne_or) fun j hj => ?_
          rcases pair_bit.1 (H.u1 _ (p16 ha) _ (pr16 hi hu) j hj) with e | e
          · subst e; rw [hc] at hj; cases hj
          · exact e
        have h1 : (famG 4 F a u).testBit i = true := by rw [bef_iff hi, ← hcom]; exact hF
        rw [h1] at h
        have h2 : (famG 4 F a i).testBit u = true := by simpa using h
        rw [bef_iff hu, hF] at h2
        rw [hF, h2, Nat.testBit_two_pow_self] at hc
        cases hc
      · rfl
  constructor
  · intro h
    have hix := H.u1 _ (p16 ha) _ hx i h
    have hi := bit_lt' (n := 4) hx hix
    refine ⟨hi, hix, allB_iff.2 fun u hu => ?_⟩
    unfold firstIn
    cases hux : x.testBit u
    · rfl
    · have h5 := H.u5 _ (p16 ha) _ hx _ (pr16 hi hu) i h (pair_bit.2 (.inl rfl))
      rw [and_sup (fun j hj => by rcases pair_bit.1 hj with e | e <;> subst e <;> assumption)] at h5
      have := (pair u hu hi).1 h5
      rw [Bool.not_true, Bool.false_or]; exact this
  · rintro ⟨hi, hix, hf⟩
    have key : ∀ n, n ≤ 4 → (F (2 ^ a) (2 ^ i ||| mkSet n x.testBit)).testBit i = true := fun n => by
      induction n with
      | zero =>
        intro _
        rw [show mkSet 0 x.testBit = 0 from rfl, Nat.or_zero]
        have h1 : F (2 ^ a) (2 ^ i) = 2 ^ i := only (H.u3 _ (p16 ha) _ (p16 hi) pow_ne pow_ne) fun j hj => by
          have := H.u1 _ (p16 ha) _ (p16 hi) j hj
          have h2 : i = j := by simpa [Nat.testBit_two_pow] using this
          exact h2.symm
        rw [h1]; exact Nat.testBit_two_pow_self
      | succ n ih =>
        intro hn
        have h0 := ih (by omega)
        have hM : mkSet n x.testBit < 16 := Nat.lt_of_lt_of_le (mkSet_lt _ _) (Nat.pow_le_pow_right (n := 2) (i := n) (j := 4) (by decide) (by omega))
        have hS1 : 2 ^ i ||| mkSet n x.testBit < 16 := Nat.or_lt_two_pow (n := 4) (p16 hi) hM
        cases hb : x.testBit n
        · rw [mkSet_succ_no hb]; exact h0
        · rw [mkSet_succ_yes hb]
          have hfn := allB_iff.1 hf n (by omega)
          unfold firstIn at hfn
          rw [hb, Bool.not_true, Bool.false_or] at hfn
          have h1 := (pair n (by omega) hi).2 hfn
          have h2 := H.u7 a ha _ hS1 _ (pr16 hi (by omega)) i h0 h1
          rwa [show (2 ^ i ||| mkSet n x.testBit) ||| (2 ^ i ||| 2 ^ n) = 2 ^ i ||| (mkSet n x.testBit ||| 2 ^ n) by
            apply Nat.eq_of_testBit_eq
            intro j
            simp only [Nat.testBit_or]
            cases (2 ^ i).testBit j <;> simp] at h2
    have h4 := key 4 (Nat.le_refl _)
    rw [mkSet_testBit (n := 4) hx] at h4
    have hor : 2 ^ i ||| x = x := by
      apply Nat.eq_of_testBit_eq
      intro j
      rw [Nat.testBit_or, Nat.testBit_two_pow]
      by_cases e : i = j
      · subst e; rw [hix]; simp
      · rw [decide_eq_false e, Bool.false_or]
    rwa [hor] at h4
theorem union_points (H : UpOk F) {k x i : Nat} (hk : k < 16) (hx : x < 16) : (F k x).testBit i = true ↔ ∃ a, a < 4 ∧ k.testBit a = true ∧ (F (2 ^ a) x).testBit i = true := by
  have key : ∀ n, n ≤ 4 → ((F (mkSet n k.testBit) x).testBit i = true ↔ ∃ a, a < n ∧ k.testBit a = true ∧ (F (2 ^ a) x).testBit i = true) := fun n => by
    induction n with
    | zero =>
      intro _
      have h0 : F (mkSet 0 k.testBit) x = 0 := H.u2 0 (by omega) x hx fun j hj => by rw [Nat.zero_testBit] at hj; cases hj
      rw [h0, Nat.zero_testBit]
      exact ⟨(fun h => by cases h), fun ⟨a, h, _⟩ => absurd h (Nat.not_lt_zero _)⟩
    | succ n ih =>
      intro hn
      have h0 := ih (by omega)
      have hM : mkSet n k.testBit < 16 := Nat.lt_of_lt_of_le (mkSet_lt _ _) (Nat.pow_le_pow_right (n := 2) (i := n) (j := 4) (by decide) (by omega))
      cases hb : k.testBit n
      · rw [mkSet_succ_no hb, h0]
        constructor
        · rintro ⟨a, h1, h2⟩; exact ⟨a, by omega, h2⟩
        · rintro ⟨a, h1, h2⟩
          rcases Nat.lt_succ_iff_lt_or_eq.1 h1 with h3 | rfl
          · exact ⟨a, h3, h2⟩
          · rw [hb] at h2; cases h2.1
      · rw [mkSet_succ_yes hb, H.u8 _ hM _ (p16 (by omega)) x hx, Nat.testBit_or, Bool.or_eq_true, h0]
        constructor
        · rintro (⟨a, h1, h2⟩ | h)
          · exact ⟨a, by omega, h2⟩
          · exact ⟨n, by omega, hb, h⟩
        · rintro ⟨a, h1, h2⟩
          rcases Nat.lt_succ_iff_lt_or_eq.1 h1 with h3 | rfl
          · exact .inl ⟨a, h3, h2⟩
          · exact .inr h2.2
  have h4 := key 4 (Nat.le_refl _)
  rwa [mkSet_testBit (n := 4) hk] at h4
theorem minima (H : UpOk F) {k x : Nat} (hk : k < 16) (hx : x < 16) : F k x = wantW F k x 4 := by
  apply Nat.eq_of_testBit_eq
  intro i
  rw [Bool.eq_iff_iff, union_points H hk hx, wantW_bit]
  constructor
  · rintro ⟨a, h1, h2, h3⟩
    obtain ⟨c1, c2, c3⟩ := (chosen H h1 hx).1 h3
    exact ⟨a, h1, c1, by unfold condB; rw [h2, c2, c3]; rfl⟩
  · rintro ⟨a, h1, h2, h3⟩
    unfold condB at h3
    rw [Bool.and_eq_true, Bool.and_eq_true] at h3
    exact ⟨a, h1, h3.1.1, (chosen H h1 hx).2 ⟨h2, h3.1.2, h3.2⟩⟩
end
end Go.Proofs.YtflhngmfcpeamaaDoor
