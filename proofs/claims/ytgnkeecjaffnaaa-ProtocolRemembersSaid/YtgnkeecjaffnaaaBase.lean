/-
  Plain lemmas for the walks: bits of uint64 and int values, readings of slices in memory, loops that look for a failure.
-/
import Derived.WalkKit
import Derived.WalkSpells
import Derived.WalkLawsBesides
import Derived.Lib.Hide
import Derived.Deep.Draws
import Derived.Deep.RegionHeld3
import Derived.Deep.QuietTactic
import Derived.BigQuiet
import Derived.KernelRfl
import Derived.Deep.DeepCutAuto
namespace Go.Proofs.Ytgnkeecjaffnaaa
open Go.RowKit

/-! ### bits -/
theorem natCast_shr (s v : Nat) : ((s : Int) / 2 ^ v) = ((s / 2 ^ v : Nat) : Int) := by
  rw [Int.natCast_ediv, Int.natCast_pow]; rfl
theorem shr_and_one (s v : Nat) (hs : s < 18446744073709551616) : bits .and .u64 ((s : Int) / 2 ^ min v 64) 1 = ((if s.testBit v then 1 else 0 : Nat) : Int) := by
  have hlt : s / 2 ^ min v 64 < 18446744073709551616 := Nat.lt_of_le_of_lt (Nat.div_le_self _ _) hs
  rw [natCast_shr, show (1 : Int) = ((1 : Nat) : Int) from rfl, u64_and_nat _ _ hlt (by decide), Nat.and_one_is_mod]
  congr 1
  by_cases hv : v ≤ 64
  · rw [Nat.min_eq_left hv, Nat.testBit_eq_decide_div_mod_eq]
    by_cases h : s / 2 ^ v % 2 = 1
    · simp [h]
    · simp [h]; omega
  · rw [Nat.min_eq_right (by omega)]
    have h0 : s / 2 ^ 64 = 0 := Nat.div_eq_of_lt hs
    have h1 : s.testBit v = false := Nat.testBit_lt_two_pow (Nat.lt_of_lt_of_le hs (Nat.pow_le_pow_right (n := 2) (i := 64) (by decide) (by omega)))
    rw [h0, h1]; rfl
theorem bits_has (s v : Nat) (hs : s < 18446744073709551616) : (bits .and .u64 ((s : Int) / 2 ^ min v 64) 1 == 1) = s.testBit v := by
  rw [shr_and_one s v hs]; cases s.testBit v <;> rfl
theorem bits_hasnt (s v : Nat) (hs : s < 18446744073709551616) : (bits .and .u64 ((s : Int) / 2 ^ min v 64) 1 == 0) = !s.testBit v := by
  rw [shr_and_one s v hs]; cases s.testBit v <;> rfl

/-- Go's '&^' on uint64, over the naturals. -/
def andNot (a b : Nat) : Nat := a &&& (18446744073709551615 - b)
theorem bits_andNot (a b : Nat) (ha : a < 18446744073709551616) (hb : b < 18446744073709551616) : bits .andNot .u64 (a : Int) (b : Int) = (andNot a b : Int) := u64_andNot_nat a b ha hb
theorem andNot_lt (a b : Nat) (ha : a < 18446744073709551616) : andNot a b < 18446744073709551616 := Nat.lt_of_le_of_lt Nat.and_le_left ha
theorem testBit_andNot (a b i : Nat) (ha : a < 18446744073709551616) (hb : b < 18446744073709551616) : (andNot a b).testBit i = (a.testBit i && !b.testBit i) := by
  unfold andNot
  rw [Nat.testBit_and]
  have hc : 18446744073709551615 - b = 2 ^ 64 - (b + 1) := by omega
  rw [hc, Nat.testBit_two_pow_sub_succ (x := b) (n := 64) (by omega) i]
  by_cases hi : i < 64
  · simp [hi]
  · have : a.testBit i = false := Nat.testBit_lt_two_pow (Nat.lt_of_lt_of_le ha (Nat.pow_le_pow_right (n := 2) (i := 64) (by decide) (by omega)))
    simp [this]
theorem andNot_eq_zero {a b : Nat} (ha : a < 18446744073709551616) (hb : b < 18446744073709551616) : andNot a b = 0 ↔ ∀ i, a.testBit i = true → b.testBit i = true := by
  constructor
  · intro h i hi
    have := testBit_andNot a b i ha hb
    rw [h, Nat.zero_testBit, hi] at this
    cases hb' : b.testBit i
    · rw [hb'] at this; cases this
    · rfl
  · intro h
    apply Nat.eq_of_testBit_eq
    intro i
    rw [testBit_andNot a b i ha hb, Nat.zero_testBit]
    cases ha' : a.testBit i
    · rfl
    · rw [h i ha']; rfl
theorem pow_lt64 {k : Nat} (h : k < 64) : 2 ^ k < 18446744073709551616 := Nat.pow_lt_pow_right (a := 2) (n := 64) (by decide) h
theorem andNot_mask {a n : Nat} (ha : a < 18446744073709551616) (hn : n ≤ 64) : andNot a (2 ^ n - 1) = 0 ↔ a < 2 ^ n := by
  have hp : 2 ^ n ≤ 2 ^ 64 := Nat.pow_le_pow_right (by decide) hn
  have h0 : 0 < 2 ^ n := Nat.two_pow_pos n
  rw [andNot_eq_zero ha (by omega)]
  constructor
  · intro h
    rcases Nat.lt_or_ge a (2 ^ n) with hlt | hge
    · exact hlt
    · obtain ⟨i, hi, hb⟩ := Nat.exists_ge_and_testBit_of_ge_two_pow hge
      have := h i hb
      rw [Nat.testBit_two_pow_sub_one] at this
      simp at this
      omega
  · intro h i hi
    rw [Nat.testBit_two_pow_sub_one]
    rcases Nat.lt_or_ge i n with hlt | hge
    · simpa using hlt
    · rw [Nat.testBit_lt_two_pow (Nat.lt_of_lt_of_le h (Nat.pow_le_pow_right (by decide) hge))] at hi
      cases hi
theorem or_lt64 {a b : Nat} (ha : a < 18446744073709551616) (hb : b < 18446744073709551616) : a ||| b < 18446744073709551616 := Nat.or_lt_two_pow (n := 64) (by omega) (by omega)
theorem and_lt64 {a b : Nat} (ha : a < 18446744073709551616) : a &&& b < 18446744073709551616 := Nat.lt_of_le_of_lt Nat.and_le_left ha

/-! ### sets as masks -/
/-- The set of all i < n with p i. -/
def mkSet (n : Nat) (p : Nat → Bool) : Nat := match n with
  | 0 => 0
  | k + 1 => if p k then mkSet k p ||| 2 ^ k else mkSet k p
theorem mkSet_lt (n : Nat) (p : Nat → Bool) : mkSet n p < 2 ^ n := by
  induction n with
  | zero => simp [mkSet]
  | succ k ih =>
    unfold mkSet
    have h1 : 2 ^ k < 2 ^ (k + 1) := Nat.pow_lt_pow_right (by decide) (by omega)
    split
    · exact Nat.or_lt_two_pow (by omega) h1
    · omega
theorem testBit_mkSet (n : Nat) (p : Nat → Bool) (i : Nat) : (mkSet n p).testBit i = (decide (i < n) && p i) := by
  induction n with
  | zero => simp [mkSet]
  | succ k ih =>
    unfold mkSet
    by_cases hk : i = k
    · subst hk
      have h0 : (mkSet i p).testBit i = false := Nat.testBit_lt_two_pow (mkSet_lt i p)
      split
      · rename_i h; simp [Nat.testBit_or, Nat.testBit_two_pow_self, h]
      · rename_i h; simp [h0, h]
    · have e : decide (i < k + 1) = decide (i < k) := by
        by_cases h : i < k
        · simp [h]; omega
        · simp [h]; omega
      rw [e]
      split
      · rw [Nat.testBit_or, Nat.testBit_two_pow, ih]; simp [show ¬ k = i from fun e => hk e.symm]
      · exact ih
theorem mkSet_succ_yes {k : Nat} {p : Nat → Bool} (h : p k = true) : mkSet (k + 1) p = mkSet k p ||| 2 ^ k := by rw [mkSet, if_pos h]
theorem mkSet_succ_no {k : Nat} {p : Nat → Bool} (h : p k = false) : mkSet (k + 1) p = mkSet k p := by rw [mkSet, if_neg (by simp [h])]
theorem mkSet_congr {n : Nat} {p q : Nat → Bool} (h : ∀ i, i < n → p i = q i) : mkSet n p = mkSet n q := by
  apply Nat.eq_of_testBit_eq
  intro i
  rw [testBit_mkSet, testBit_mkSet]
  by_cases hi : i < n
  · simp [hi, h i hi]
  · simp [hi]
theorem mkSet_testBit {n s : Nat} (h : s < 2 ^ n) : mkSet n s.testBit = s := by
  apply Nat.eq_of_testBit_eq
  intro i
  rw [testBit_mkSet]
  by_cases hi : i < n
  · simp [hi]
  · rw [Nat.testBit_lt_two_pow (Nat.lt_of_lt_of_le h (Nat.pow_le_pow_right (by decide) (by omega)))]; simp

/-! ### loops that look for a failure -/
def Upto (p : Nat → Bool) (k : Nat) : Prop := ∀ u, u < k → p u = true
theorem upto_zero (p : Nat → Bool) : Upto p 0 := fun _ hu => absurd hu (Nat.not_lt_zero _)
theorem Upto.succ {p : Nat → Bool} {k : Nat} (h : Upto p k) (hk : p k = true) : Upto p (k + 1) := fun u hu => by
  rcases Nat.lt_succ_iff_lt_or_eq.1 hu with h1 | rfl
  · exact h u h1
  · exact hk
/-- All of 0 .. n - 1. -/
def allB (n : Nat) (p : Nat → Bool) : Bool := (List.range n).all p
theorem allB_iff {n : Nat} {p : Nat → Bool} : allB n p = true ↔ ∀ u, u < n → p u = true := by simp [allB, List.all_eq_true]
theorem Upto.all {p : Nat → Bool} {n k : Nat} (h : Upto p k) (hk : n ≤ k) : allB n p = true := allB_iff.2 fun u hu => h u (by omega)
theorem not_all {p : Nat → Bool} {n k : Nat} (hk : k < n) (h : p k = false) : allB n p = false := by
  cases ha : allB n p
  · rfl
  · rw [allB_iff.1 ha k hk] at h; cases h
theorem not_allB {n : Nat} {p : Nat → Bool} (h : allB n p = false) : ∃ u, u < n ∧ p u = false := by
  apply Classical.byContradiction
  intro hn
  have : allB n p = true := allB_iff.2 fun u hu => by
    cases hp : p u
    · exact absurd ⟨u, hu, hp⟩ hn
    · rfl
  rw [this] at h; cases h
/-- The first error that is not 0, of 0 .. n - 1; else 0. -/
def firstErr : Nat → (Nat → Nat) → Nat
  | 0, _ => 0
  | k + 1, g => if firstErr k g = 0 then g k else firstErr k g
theorem firstErr_zero {n : Nat} {g : Nat → Nat} (h : ∀ u, u < n → g u = 0) : firstErr n g = 0 := by
  induction n with
  | zero => rfl
  | succ k ih => rw [firstErr, if_pos (ih fun u hu => h u (by omega))]; exact h k (by omega)
theorem firstErr_hit {n k : Nat} {g : Nat → Nat} (hk : k < n) (h : ∀ u, u < k → g u = 0) (hne : g k ≠ 0) : firstErr n g = g k := by
  induction n with
  | zero => omega
  | succ m ih =>
    rcases Nat.lt_succ_iff_lt_or_eq.1 hk with h1 | rfl
    · rw [firstErr, ih h1, if_neg hne]
    · rw [firstErr, if_pos (firstErr_zero h)]

theorem ret_bool {a b : Bool} (h : a = b) : Ending.returned (.bool a) = .returned (.bool b) := by rw [h]
theorem ret_int {k : IntKind} {a b : Int} (h : a = b) : Ending.returned (.int k a) = .returned (.int k b) := by rw [h]
theorem ret_int2 {k l : IntKind} {a b c d : Int} (h : a = b) (h' : c = d) : Ending.returned (.tuple #[.int k a, .int l c]) = .returned (.tuple #[.int k b, .int l d]) := by rw [h, h']
theorem int_ne0 {a : Nat} : (((a : Int) != 0) = true) ↔ a ≠ 0 := by simp
theorem int_ne0f {a : Nat} : (((a : Int) != 0) = false) ↔ a = 0 := by simp

/-! ### readings -/
/-- The slice whose address is A reads, for its first n elements, as the numbers f. -/
def U64s (w : World) (A : Option Addr) (n : Nat) (f : Nat → Nat) : Prop :=
  ∀ k, k < n → ∃ b off, A = some ⟨b, off, none⟩ ∧ w.cell? ⟨b, off + k, none⟩ = some (.int .u64 (f k)) ∧ f k < 18446744073709551616
/-- .. as rows: row i is the slice of address R i, length m i, capacity c i, which reads as F i. -/
def Mat (w : World) (A : Option Addr) (n : Nat) (R : Nat → Option Addr) (m c : Nat → Nat) (F : Nat → Nat → Nat) : Prop :=
  ∀ i, i < n → ∃ b off, A = some ⟨b, off, none⟩ ∧ w.cell? ⟨b, off + i, none⟩ = some (.slice (R i) (m i) (c i)) ∧ m i ≤ 9223372036854775807 ∧ U64s w (R i) (m i) (F i)
theorem cell_below {w w' : World} (hb : Below w.heap.size w w') {a : Addr} {v : Value} (h : w.cell? a = some v) : w'.cell? a = some v := (hb.cell (World.block_lt_of_cell? w a h)).trans h
theorem U64s.below {w w' : World} {A : Option Addr} {n : Nat} {f : Nat → Nat} (h : U64s w A n f) (hb : Below w.heap.size w w') : U64s w' A n f := fun k hk =>
  let ⟨b, off, e, hc, hf⟩ := h k hk; ⟨b, off, e, cell_below hb hc, hf⟩
theorem Mat.below {w w' : World} {A : Option Addr} {n : Nat} {R : Nat → Option Addr} {m c : Nat → Nat} {F : Nat → Nat → Nat} (h : Mat w A n R m c F) (hb : Below w.heap.size w w') : Mat w' A n R m c F := fun k hk =>
  let ⟨b, off, e, hc, hm, hr⟩ := h k hk; ⟨b, off, e, cell_below hb hc, hm, hr.below hb⟩
theorem below_alloc (w : World) (o : Obj) : Below w.heap.size w (w.alloc o) := (Below.refl _ _).alloc (Nat.le_refl _) o
theorem bcell {W w1 : World} (hb : Below W.heap.size W w1) : (∀ b o, b < W.heap.size → w1.cell? ⟨b, o, none⟩ = W.cell? ⟨b, o, none⟩) ∧ (∀ b o, b < W.heap.size → w1.frozen? ⟨b, o, none⟩ = W.frozen? ⟨b, o, none⟩) :=
  ⟨fun b o h => hb.cell (p := ⟨b, o, none⟩) h, fun b o h => hb.frozen (p := ⟨b, o, none⟩) h⟩
theorem quiet_l0 {P : Program} {f : FuncId} {args : Array Value} {w : World} {v : Value}
    (h : Calls P f args w fun e w' => e = .returned v ∧ w = w') : Calls P f args w fun e w'' => e = .returned v ∧ ∃ m, w'' = w.drewN m :=
  h.mono fun _ _ ⟨he, hm⟩ => ⟨he, 0, hm.symm⟩
theorem quiet_l1 {P : Program} {f : FuncId} {args : Array Value} {w : World} {n : Nat} {v : Value}
    (h : Calls P f args (w.drewN n) fun e w' => e = .returned v ∧ w.drewN n = w') : Calls P f args (w.drewN n) fun e w'' => e = .returned v ∧ ∃ m, w'' = w.drewN m :=
  h.mono fun _ _ ⟨he, hm⟩ => ⟨he, n, hm.symm⟩
theorem quiet_l2 {P : Program} {f : FuncId} {args : Array Value} {w : World} {a n : Nat} {v : Value}
    (h : Calls P f args (w.drewN (a + n)) fun e w' => e = .returned v ∧ w.drewN (a + n) = w') : Calls P f args (w.drewN (a + n)) fun e w'' => e = .returned v ∧ ∃ m, w'' = w.drewN (a + m) :=
  h.mono fun _ _ ⟨he, hm⟩ => ⟨he, n, hm.symm⟩
theorem below_drewN {B : Nat} {a w : World} (h : Below B a w) (n : Nat) : Below B a (w.drewN n) := ⟨h.os, h.tape, h.output, h.size, h.block⟩
end Go.Proofs.Ytgnkeecjaffnaaa
