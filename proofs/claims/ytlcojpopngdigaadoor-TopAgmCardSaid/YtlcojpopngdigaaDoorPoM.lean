/-
  Plain facts: the ranks that represent a table; the table of ranks.
-/
import Derived.Test.YtlcojpopngdigaaDoorProg
import Derived.Test.YtlcojpopngdigaaDoorBase
import Derived.Test.YtlcojpopngdigaaDoorLeast
import Derived.Test.YtlcojpopngdigaaDoorPoP
import Derived.Test.YtlcojpopngdigaaDoorPoQ
namespace Go.Proofs.YtlcojpopngdigaaDoor
open Go.RowKit

section
variable {S N kb : Nat} {T : Nat → Nat}
theorem left_bit (hS : S = 2 ^ N) (hS2 : 2 ≤ S) (hS3 : S ≤ 256) (H : RvOk S kb T) (j v : Nat) :
    (leftN S T j).testBit v = true ↔ v < N ∧ ∀ i, i < j → (T (leftN S T i)).testBit v = false := by
  induction j with
  | zero =>
    show (S - 1).testBit v = true ↔ _
    rw [hS, Nat.testBit_two_pow_sub_one, decide_eq_true_eq]
    exact ⟨fun h => ⟨h, fun i hi => absurd hi (Nat.not_lt_zero _)⟩, fun h => h.1⟩
  | succ j ih =>
    have hl := left_lt hS2 H j
    have ht := H.lt _ hl
    show (andNot (leftN S T j) (T (leftN S T j))).testBit v = true ↔ _
    rw [testBit_andNot _ _ _ (by omega) (by omega), Bool.and_eq_true, ih]
    constructor
    · rintro ⟨⟨h1, h2⟩, h3⟩
      refine ⟨h1, fun i hi => ?_⟩
      rcases Nat.lt_succ_iff_lt_or_eq.1 hi with h4 | rfl
      · exact h2 i h4
      · simpa using h3
    · rintro ⟨h1, h2⟩
      exact ⟨⟨h1, fun i hi => h2 i (by omega)⟩, by rw [h2 j (by omega)]; rfl⟩
theorem left_all_gone (hS2 : 2 ≤ S) (hS3 : S ≤ 256) (H : RvOk S kb T) : leftN S T S = 0 := by
  cases h : leftN S T S with
  | zero => rfl
  | succ n =>
    have := left_bound hS2 hS3 H S (by omega)
    omega
theorem taken_once (hS : S = 2 ^ N) (hS2 : 2 ≤ S) (hS3 : S ≤ 256) (H : RvOk S kb T) {i j v : Nat} (hi : (T (leftN S T i)).testBit v = true) (hj : (T (leftN S T j)).testBit v = true) : i = j := by
  have h1 := ((left_bit hS hS2 hS3 H i v).1 (H.r1 _ (left_lt hS2 H i) v hi)).2
  have h2 := ((left_bit hS hS2 hS3 H j v).1 (H.r1 _ (left_lt hS2 H j) v hj)).2
  rcases Nat.lt_trichotomy i j with h | h | h
  · have := h2 i h; rw [hi] at this; cases this
  · exact h
  · have := h1 j h; rw [hj] at this; cases this
theorem rank_of (hS : S = 2 ^ N) (hS2 : 2 ≤ S) (hS3 : S ≤ 256) (H : RvOk S kb T) {j v : Nat} (hj : (T (leftN S T j)).testBit v = true) (M : Nat) (hM : j < M) : rankN S T M v = j := by
  induction M with
  | zero => omega
  | succ M ih =>
    show (if (T (leftN S T M)).testBit v then M else rankN S T M v) = j
    by_cases h : (T (leftN S T M)).testBit v = true
    · rw [if_pos h]; exact taken_once hS hS2 hS3 H h hj
    · rw [if_neg h]
      refine ih ?_
      rcases Nat.lt_succ_iff_lt_or_eq.1 hM with h1 | rfl
      · exact h1
      · exact absurd hj h
theorem rank_taken (hS : S = 2 ^ N) (hS2 : 2 ≤ S) (hS3 : S ≤ 256) (H : RvOk S kb T) {v : Nat} (hv : v < N) : (T (leftN S T (rankN S T S v))).testBit v = true := by
  have h0 : ¬ (leftN S T S).testBit v = true := by rw [left_all_gone hS2 hS3 H, Nat.zero_testBit]; exact fun h => by cases h
  rw [left_bit hS hS2 hS3 H] at h0
  have : ∃ i, i < S ∧ (T (leftN S T i)).testBit v = true := by
    apply Classical.byContradiction
    intro hn
    apply h0
    refine ⟨hv, fun i hi => ?_⟩
    cases hb : (T (leftN S T i)).testBit v
    · rfl
    · exact absurd ⟨i, hi, hb⟩ hn
  obtain ⟨i, hi, hb⟩ := this
  rw [rank_of hS hS2 hS3 H hb S hi]; exact hb
theorem left_rank (hS : S = 2 ^ N) (hS2 : 2 ≤ S) (hS3 : S ≤ 256) (H : RvOk S kb T) {j v : Nat} (hv : v < N) : (leftN S T j).testBit v = true ↔ j ≤ rankN S T S v := by
  rw [left_bit hS hS2 hS3 H]
  have ht := rank_taken hS hS2 hS3 H hv
  constructor
  · rintro ⟨_, h⟩
    rcases Nat.lt_or_ge (rankN S T S v) j with h1 | h1
    · have := h _ h1; rw [ht] at this; cases this
    · exact h1
  · intro h
    refine ⟨hv, fun i hi => ?_⟩
    cases hb : (T (leftN S T i)).testBit v
    · rfl
    · have := taken_once hS hS2 hS3 H hb ht; omega
/-- The table of these ranks is the table. -/
theorem rank_tab (hS : S = 2 ^ N) (hS2 : 2 ≤ S) (hS3 : S ≤ 256) (H : RvOk S kb T) {x : Nat} (hx : x < S) : (leastP x (fun v => (rankN S T S v : Int)) N).1 = T x := by
  by_cases h0 : x = 0
  · subst h0
    have h1 : T 0 = 0 := by
      apply Nat.eq_of_testBit_eq
      intro i
      cases hi : (T 0).testBit i
      · rw [Nat.zero_testBit]
      · have := H.r1 0 hx i hi; rw [Nat.zero_testBit] at this; cases this
    rw [h1]
    apply Nat.eq_of_testBit_eq
    intro i
    cases hi : (leastP 0 (fun v => (rankN S T S v : Int)) N).1.testBit i
    · rw [Nat.zero_testBit]
    · have := ((least_bit _ _ _ _).1 hi).2.1; rw [Nat.zero_testBit] at this; cases this
  · -- an element with the least rank
    obtain ⟨u, hu, hub⟩ := has_bit (n := N) (by rw [← hS]; exact hx) h0
    have hne := ((leastP_inv x (fun v => (rankN S T S v : Int)) N).2 u hu hub).2
    obtain ⟨m, hm, hmb⟩ := has_bit (leastP_lt x (fun v => (rankN S T S v : Int)) N) hne
    obtain ⟨-, hmx, hmin⟩ := (least_bit _ _ _ _).1 hmb
    have hL := left_lt hS2 H (rankN S T S m)
    have hand : leftN S T (rankN S T S m) &&& x = x := by
      apply Nat.eq_of_testBit_eq
      intro i
      rw [Nat.testBit_and]
      cases hi : x.testBit i
      · rw [Bool.and_false]
      · have hiN := bit_lt' (n := N) (by rw [← hS]; exact hx) hi
        have hle := hmin i hiN hi
        rw [(left_rank hS hS2 hS3 H hiN).2 (by omega)]; rfl
    have hne2 : T (leftN S T (rankN S T S m)) &&& x ≠ 0 := by
      intro h
      have := congrArg (fun y => Nat.testBit y m) h
      simp only [Nat.testBit_and, Nat.zero_testBit, hmx, Bool.and_true] at this
      rw [rank_taken hS hS2 hS3 H hm] at this; cases this
    apply Nat.eq_of_testBit_eq
    intro v
    rw [Bool.eq_iff_iff, least_bit]
    constructor
    · rintro ⟨hv, hvx, hvm⟩
      have h1 := hvm m hm hmx
      have h2 := hmin v hv hvx
      have e : rankN S T S v = rankN S T S m := by omega
      have h3 := rank_taken hS hS2 hS3 H hv
      rw [e] at h3
      have h5 := H.r5 _ hL x hx v h3 hvx
      rwa [hand] at h5
    · intro hv
      have h6 := H.r6 _ hL x hx hne2 v (by rw [hand]; exact hv)
      have hvN := bit_lt' (n := N) (by rw [← hS]; exact hx) h6.2
      have e : rankN S T S v = rankN S T S m := rank_of hS hS2 hS3 H h6.1 S (by
        have h7 := rank_taken hS hS2 hS3 H hm
        rcases Nat.lt_or_ge (rankN S T S m) S with h8 | h8
        · exact h8
        · have h9 := (rank_stop hS2 H (left_all_gone hS2 hS3 H) (rankN S T S m - S)).1
          rw [show S + (rankN S T S m - S) = rankN S T S m by omega] at h9
          have := left_zero hS2 H h9
          rw [this, Nat.zero_testBit] at h7; cases h7)
      refine ⟨hvN, h6.2, fun w hw hwx => ?_⟩
      have := hmin w hw hwx
      omega
end

/-! ### the table of ranks -/
def tabF (f : Nat → Int) (N x : Nat) : Nat := (leastP x f N).1
theorem tabF_bit {f : Nat → Int} {N x v : Nat} : (tabF f N x).testBit v = true ↔ v < N ∧ x.testBit v = true ∧ ∀ w, w < N → x.testBit w = true → f v ≤ f w := least_bit _ _ _ _
theorem tabF_lt (f : Nat → Int) (N x : Nat) : tabF f N x < 2 ^ N := leastP_lt _ _ _
theorem tab_ok {S N : Nat} (hS : S = 2 ^ N) (f : Nat → Int) : RvOk S (tabF f N (S - 1)) (tabF f N) := by
  have hall : ∀ v, v < N → (S - 1).testBit v = true := fun v hv => by rw [hS, Nat.testBit_two_pow_sub_one]; exact decide_eq_true hv
  refine ⟨fun x _ => by rw [hS]; exact tabF_lt _ _ _, fun x _ i hi => (tabF_bit.1 hi).2.1, fun x hx hne => ?_, fun x hx h0 => ?_, fun x hx y hy i hi hiy => ?_, fun x hx y hy hne i hi => ?_⟩
  · obtain ⟨u, hu⟩ := Nat.exists_testBit_of_ne_zero hne
    rw [Nat.testBit_and, Bool.and_eq_true] at hu
    obtain ⟨huN, -, hum⟩ := tabF_bit.1 hu.1
    apply Nat.eq_of_testBit_eq
    intro v
    rw [Nat.testBit_and, Bool.eq_iff_iff, Bool.and_eq_true, tabF_bit, tabF_bit]
    constructor
    · rintro ⟨hv, hvx, hvm⟩
      exact ⟨⟨hv, hall v hv, fun w hw hws => Int.le_trans (hvm u huN hu.2) (hum w hw hws)⟩, hvx⟩
    · rintro ⟨⟨hv, -, hvm⟩, hvx⟩
      exact ⟨hv, hvx, fun w hw _ => hvm w hw (hall w hw)⟩
  · obtain ⟨u, hu, hub⟩ := has_bit (n := N) (by rw [← hS]; exact hx) h0
    exact ((leastP_inv x f N).2 u hu hub).2
  · obtain ⟨h1, h2, h3⟩ := tabF_bit.1 hi
    exact tabF_bit.2 ⟨h1, by rw [Nat.testBit_and, h2, hiy]; rfl, fun w hw hwx => h3 w hw (by rw [Nat.testBit_and, Bool.and_eq_true] at hwx; exact hwx.1)⟩
  · obtain ⟨u, hu⟩ := Nat.exists_testBit_of_ne_zero hne
    rw [Nat.testBit_and, Bool.and_eq_true] at hu
    obtain ⟨huN, hux, hum⟩ := tabF_bit.1 hu.1
    obtain ⟨h1, h2, h3⟩ := tabF_bit.1 hi
    rw [Nat.testBit_and, Bool.and_eq_true] at h2
    refine ⟨tabF_bit.2 ⟨h1, h2.1, fun w hw hwx => ?_⟩, h2.2⟩
    exact Int.le_trans (h3 u huN (by rw [Nat.testBit_and, hux, hu.2]; rfl)) (hum w hw hwx)
theorem ok_mask {S kb : Nat} {T : Nat → Nat} (hS2 : S ≤ 256) (H : RvOk S kb T) : rvMask S kb T 6 = 63 := by
  have a64 : ∀ x, x < S → x < 18446744073709551616 := fun x hx => by omega
  have hno : ∀ i, (∀ x, x < S → ∀ y, y < rvLast S i → rvFit i kb T x y = true) → rvBad S kb T i = false := fun i h => by
    unfold rvBad failB
    rw [allB_iff.2 fun x hx => allB_iff.2 fun y hy => h x hx y hy]; rfl
  apply mask_of
  intro i hi
  apply hno
  intro x hx y hy
  have hTx := H.lt x hx
  have h6 : i = 0 ∨ i = 1 ∨ i = 2 ∨ i = 3 ∨ i = 4 ∨ i = 5 := by omega
  rcases h6 with rfl | rfl | rfl | rfl | rfl | rfl
  · show (andNot (T x) x == 0) = true
    rw [beq_iff_eq]; exact (andNot_eq_zero (a64 _ hTx) (a64 _ hx)).2 (H.r1 x hx)
  · show (kb &&& x == 0 || T x == kb &&& x) = true
    by_cases h : kb &&& x = 0
    · rw [h]; rfl
    · rw [H.r2 x hx h]; simp
  · show (x == 0 || T x != 0) = true
    by_cases h : x = 0
    · rw [h]; rfl
    · have := H.r3 x hx h; simp [this]
  · rfl
  · have hy' : y < S := hy
    have hz : x &&& y < S := Nat.lt_of_le_of_lt Nat.and_le_left hx
    show (andNot (T x &&& y) (T (x &&& y)) == 0) = true
    rw [beq_iff_eq]
    exact (andNot_eq_zero (Nat.lt_of_le_of_lt Nat.and_le_left (a64 _ hTx)) (a64 _ (H.lt _ hz))).2 fun i hi => by
      rw [Nat.testBit_and, Bool.and_eq_true] at hi; exact H.r5 x hx y hy' i hi.1 hi.2
  · have hy' : y < S := hy
    have hz : x &&& y < S := Nat.lt_of_le_of_lt Nat.and_le_left hx
    show (T x &&& y == 0 || andNot (T (x &&& y)) (T x &&& y) == 0) = true
    by_cases h : T x &&& y = 0
    · rw [h]; rfl
    · have : andNot (T (x &&& y)) (T x &&& y) = 0 := (andNot_eq_zero (a64 _ (H.lt _ hz)) (Nat.lt_of_le_of_lt Nat.and_le_left (a64 _ hTx))).2 fun i hi => by
        obtain ⟨h1, h2⟩ := H.r6 x hx y hy' h i hi
        rw [Nat.testBit_and, h1, h2]; rfl
      rw [this]; simp
/-- The recovered ranks order the valuations as the given ones do. -/
theorem rank_same {S N : Nat} (hS : S = 2 ^ N) (hS2 : 2 ≤ S) (hS3 : S ≤ 256) (f : Nat → Int) {v w : Nat} (hv : v < N) (hw : w < N) : (rankN S (tabF f N) S v ≤ rankN S (tabF f N) S w) ↔ f v ≤ f w := by
  have H := tab_ok hS f
  have hp : 2 ^ v ||| 2 ^ w < S := by rw [hS]; exact pair_lt hv hw
  have h1 := rank_tab hS hS2 hS3 H hp
  have h2 : (leastP (2 ^ v ||| 2 ^ w) (fun v => (rankN S (tabF f N) S v : Int)) N).1.testBit v = true ↔ (tabF f N (2 ^ v ||| 2 ^ w)).testBit v = true := by rw [h1]
  rw [least_bit, tabF_bit] at h2
  have hvb : (2 ^ v ||| 2 ^ w).testBit v = true := pair_bit.2 (.inl rfl)
  have hwb : (2 ^ v ||| 2 ^ w).testBit w = true := pair_bit.2 (.inr rfl)
  constructor
  · intro h
    exact (h2.1 ⟨hv, hvb, fun x hx hxb => by rcases pair_bit.1 hxb with rfl | rfl <;> omega⟩).2.2 w hw hwb
  · intro h
    have := (h2.2 ⟨hv, hvb, fun x hx hxb => by rcases pair_bit.1 hxb with rfl | rfl <;> omega⟩).2.2 w hw hwb
    omega
end Go.Proofs.YtlcojpopngdigaaDoor
