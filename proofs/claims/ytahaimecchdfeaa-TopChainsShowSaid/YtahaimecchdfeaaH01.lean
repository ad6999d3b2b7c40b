/-
  Texts of this claim, one after the other: what each proves is said at its head. No condition beyond those that its theorems name.
-/
import Derived.WalkKit
import Derived.WalkSpells
import Derived.WalkLawsBesides
import Derived.Lib.Hide
import Derived.Deep.Draws
import Derived.Deep.RegionHeld3
import Derived.Deep.QuietTactic
import Derived.BigQuiet
import Derived.KernelRfl
import Derived.Deep.DeepCutAuto
import Derived.Test.YtahaimecchdfeaaProg
import Derived.Deep.OwnRows
import Derived.Handy
import Derived.Maps.AppendAt
import Derived.OwnWalk
import Derived.Deep.AppendLies
import Derived.Lib.BufferWrite
import Derived.Lib.Slices
import Derived.Lib.SlicesCompact
import Derived.Lib.RowBridge
import Derived.Shelf.Slices.Turned
import Derived.Ground.Names2Prog
import Derived.Shelf.Slices.Clone
import Derived.Ground.SlgnProg
import Derived.Shelf.SlicesE.Clone

/-
  Plain lemmas for the walks: bits of uint64 and int values, readings of slices in memory, loops that look for a failure.
-/
namespace Go.Proofs.Ytahaimecchdfeaa
open Go.RowKit

/-! ### bits -/
theorem natCast_shr (s v : Nat) : ((s : Int) / 2 ^ v) = ((s / 2 ^ v : Nat) : Int) := by
  rw [Int.natCast_ediv, Int.natCast_pow]; rfl
theorem shr_and_one (s v : Nat) (hs : s < 18446744073709551616) : bits .and .u64 ((s : Int) / 2 ^ min v 64) 1 = ((if s.testBit v then 1 else 0 : Nat) : Int) := by
  have hlt : s / 2 ^ min v 64 < 18446744073709551616 := Nat.lt_of_le_of_lt (Nat.div_le_self _ _) hs
  rw [natCast_shr, show (1 : Int) = ((1 : Nat) : Int) from rfl, u64_and_nat _ _ hlt (by decide), Nat.and_one_is_mod]
  congr 1
  by_cases hv : v ≤ 64
  · rw [Nat.min_eq_left hv, Nat.testBit_eq_decide_div_mod_eq]
    by_cases h : s / 2 ^ v % 2 = 1
    · simp [h]
    · simp [h]; omega
  · rw [Nat.min_eq_right (by omega)]
    have h0 : s / 2 ^ 64 = 0 := Nat.div_eq_of_lt hs
    have h1 : s.testBit v = false := Nat.testBit_lt_two_pow (Nat.lt_of_lt_of_le hs (Nat.pow_le_pow_right (n := 2) (i := 64) (by decide) (by omega)))
    rw [h0, h1]; rfl
theorem bits_has (s v : Nat) (hs : s < 18446744073709551616) : (bits .and .u64 ((s : Int) / 2 ^ min v 64) 1 == 1) = s.testBit v := by
  rw [shr_and_one s v hs]; cases s.testBit v <;> rfl
theorem bits_hasnt (s v : Nat) (hs : s < 18446744073709551616) : (bits .and .u64 ((s : Int) / 2 ^ min v 64) 1 == 0) = !s.testBit v := by
  rw [shr_and_one s v hs]; cases s.testBit v <;> rfl

/-- Go's '&^' on uint64, over the naturals. -/
def andNot (a b : Nat) : Nat := a &&& (18446744073709551615 - b)
theorem bits_andNot (a b : Nat) (ha : a < 18446744073709551616) (hb : b < 18446744073709551616) : bits .andNot .u64 (a : Int) (b : Int) = (andNot a b : Int) := u64_andNot_nat a b ha hb
theorem andNot_lt (a b : Nat) (ha : a < 18446744073709551616) : andNot a b < 18446744073709551616 := Nat.lt_of_le_of_lt Nat.and_le_left ha
theorem testBit_andNot (a b i : Nat) (ha : a < 18446744073709551616) (hb : b < 18446744073709551616) : (andNot a b).testBit i = (a.testBit i && !b.testBit i) := by
  unfold andNot
  rw [Nat.testBit_and]
  have hc : 18446744073709551615 - b = 2 ^ 64 - (b + 1) := by omega
  rw [hc, Nat.testBit_two_pow_sub_succ (x := b) (n := 64) (by omega) i]
  by_cases hi : i < 64
  · simp [hi]
  · have : a.testBit i = false := Nat.testBit_lt_two_pow (Nat.lt_of_lt_of_le ha (Nat.pow_le_pow_right (n := 2) (i := 64) (by decide) (by omega)))
    simp [this]
theorem andNot_eq_zero {a b : Nat} (ha : a < 18446744073709551616) (hb : b < 18446744073709551616) : andNot a b = 0 ↔ ∀ i, a.testBit i = true → b.testBit i = true := by
  constructor
  · intro h i hi
    have := testBit_andNot a b i ha hb
    rw [h, Nat.zero_testBit, hi] at this
    cases hb' : b.testBit i
    · rw [hb'] at this; cases this
    · rfl
  · intro h
    apply Nat.eq_of_testBit_eq
    intro i
    rw [testBit_andNot a b i ha hb, Nat.zero_testBit]
    cases ha' : a.testBit i
    · rfl
    · rw [h i ha']; rfl
theorem pow_lt64 {k : Nat} (h : k < 64) : 2 ^ k < 18446744073709551616 := Nat.pow_lt_pow_right (a := 2) (n := 64) (by decide) h
theorem andNot_mask {a n : Nat} (ha : a < 18446744073709551616) (hn : n ≤ 64) : andNot a (2 ^ n - 1) = 0 ↔ a < 2 ^ n := by
  have hp : 2 ^ n ≤ 2 ^ 64 := Nat.pow_le_pow_right (by decide) hn
  have h0 : 0 < 2 ^ n := Nat.two_pow_pos n
  rw [andNot_eq_zero ha (by omega)]
  constructor
  · intro h
    rcases Nat.lt_or_ge a (2 ^ n) with hlt | hge
    · exact hlt
    · obtain ⟨i, hi, hb⟩ := Nat.exists_ge_and_testBit_of_ge_two_pow hge
      have := h i hb
      rw [Nat.testBit_two_pow_sub_one] at this
      simp at this
      omega
  · intro h i hi
    rw [Nat.testBit_two_pow_sub_one]
    rcases Nat.lt_or_ge i n with hlt | hge
    · simpa using hlt
    · rw [Nat.testBit_lt_two_pow (Nat.lt_of_lt_of_le h (Nat.pow_le_pow_right (by decide) hge))] at hi
      cases hi
theorem or_lt64 {a b : Nat} (ha : a < 18446744073709551616) (hb : b < 18446744073709551616) : a ||| b < 18446744073709551616 := Nat.or_lt_two_pow (n := 64) (by omega) (by omega)
theorem and_lt64 {a b : Nat} (ha : a < 18446744073709551616) : a &&& b < 18446744073709551616 := Nat.lt_of_le_of_lt Nat.and_le_left ha

/-! ### sets as masks -/
/-- The set of all i < n with p i. -/
def mkSet (n : Nat) (p : Nat → Bool) : Nat := match n with
  | 0 => 0
  | k + 1 => if p k then mkSet k p ||| 2 ^ k else mkSet k p
theorem mkSet_lt (n : Nat) (p : Nat → Bool) : mkSet n p < 2 ^ n := by
  induction n with
  | zero => simp [mkSet]
  | succ k ih =>
    unfold mkSet
    have h1 : 2 ^ k < 2 ^ (k + 1) := Nat.pow_lt_pow_right (by decide) (by omega)
    split
    · exact Nat.or_lt_two_pow (by omega) h1
    · omega
theorem testBit_mkSet (n : Nat) (p : Nat → Bool) (i : Nat) : (mkSet n p).testBit i = (decide (i < n) && p i) := by
  induction n with
  | zero => simp [mkSet]
  | succ k ih =>
    unfold mkSet
    by_cases hk : i = k
    · subst hk
      have h0 : (mkSet i p).testBit i = false := Nat.testBit_lt_two_pow (mkSet_lt i p)
      split
      · rename_i h; simp [Nat.testBit_or, Nat.testBit_two_pow_self, h]
      · rename_i h; simp [h0, h]
    · have e : decide (i < k + 1) = decide (i < k) := by
        by_cases h : i < k
        · simp [h]; omega
        · simp [h]; omega
      rw [e]
      split
      · rw [Nat.testBit_or, Nat.testBit_two_pow, ih]; simp [show ¬ k = i from fun e => hk e.symm]
      · exact ih
theorem mkSet_succ_yes {k : Nat} {p : Nat → Bool} (h : p k = true) : mkSet (k + 1) p = mkSet k p ||| 2 ^ k := by rw [mkSet, if_pos h]
theorem mkSet_succ_no {k : Nat} {p : Nat → Bool} (h : p k = false) : mkSet (k + 1) p = mkSet k p := by rw [mkSet, if_neg (by simp [h])]
theorem mkSet_congr {n : Nat} {p q : Nat → Bool} (h : ∀ i, i < n → p i = q i) : mkSet n p = mkSet n q := by
  apply Nat.eq_of_testBit_eq
  intro i
  rw [testBit_mkSet, testBit_mkSet]
  by_cases hi : i < n
  · simp [hi, h i hi]
  · simp [hi]
theorem mkSet_testBit {n s : Nat} (h : s < 2 ^ n) : mkSet n s.testBit = s := by
  apply Nat.eq_of_testBit_eq
  intro i
  rw [testBit_mkSet]
  by_cases hi : i < n
  · simp [hi]
  · rw [Nat.testBit_lt_two_pow (Nat.lt_of_lt_of_le h (Nat.pow_le_pow_right (by decide) (by omega)))]; simp

/-! ### loops that look for a failure -/
def Upto (p : Nat → Bool) (k : Nat) : Prop := ∀ u, u < k → p u = true
theorem upto_zero (p : Nat → Bool) : Upto p 0 := fun _ hu => absurd hu (Nat.not_lt_zero _)
theorem Upto.succ {p : Nat → Bool} {k : Nat} (h : Upto p k) (hk : p k = true) : Upto p (k + 1) := fun u hu => by
  rcases Nat.lt_succ_iff_lt_or_eq.1 hu with h1 | rfl
  · exact h u h1
  · exact hk
/-- All of 0 .. n - 1. -/
def allB (n : Nat) (p : Nat → Bool) : Bool := (List.range n).all p
theorem allB_iff {n : Nat} {p : Nat → Bool} : allB n p = true ↔ ∀ u, u < n → p u = true := by simp [allB, List.all_eq_true]
theorem Upto.all {p : Nat → Bool} {n k : Nat} (h : Upto p k) (hk : n ≤ k) : allB n p = true := allB_iff.2 fun u hu => h u (by omega)
theorem not_all {p : Nat → Bool} {n k : Nat} (hk : k < n) (h : p k = false) : allB n p = false := by
  cases ha : allB n p
  · rfl
  · rw [allB_iff.1 ha k hk] at h; cases h
theorem not_allB {n : Nat} {p : Nat → Bool} (h : allB n p = false) : ∃ u, u < n ∧ p u = false := by
  apply Classical.byContradiction
  intro hn
  have : allB n p = true := allB_iff.2 fun u hu => by
    cases hp : p u
    · exact absurd ⟨u, hu, hp⟩ hn
    · rfl
  rw [this] at h; cases h
/-- The first error that is not 0, of 0 .. n - 1; else 0. -/
def firstErr : Nat → (Nat → Nat) → Nat
  | 0, _ => 0
  | k + 1, g => if firstErr k g = 0 then g k else firstErr k g
theorem firstErr_zero {n : Nat} {g : Nat → Nat} (h : ∀ u, u < n → g u = 0) : firstErr n g = 0 := by
  induction n with
  | zero => rfl
  | succ k ih => rw [firstErr, if_pos (ih fun u hu => h u (by omega))]; exact h k (by omega)
theorem firstErr_hit {n k : Nat} {g : Nat → Nat} (hk : k < n) (h : ∀ u, u < k → g u = 0) (hne : g k ≠ 0) : firstErr n g = g k := by
  induction n with
  | zero => omega
  | succ m ih =>
    rcases Nat.lt_succ_iff_lt_or_eq.1 hk with h1 | rfl
    · rw [firstErr, ih h1, if_neg hne]
    · rw [firstErr, if_pos (firstErr_zero h)]

theorem ret_bool {a b : Bool} (h : a = b) : Ending.returned (.bool a) = .returned (.bool b) := by rw [h]
theorem ret_int {k : IntKind} {a b : Int} (h : a = b) : Ending.returned (.int k a) = .returned (.int k b) := by rw [h]
theorem ret_int2 {k l : IntKind} {a b c d : Int} (h : a = b) (h' : c = d) : Ending.returned (.tuple #[.int k a, .int l c]) = .returned (.tuple #[.int k b, .int l d]) := by rw [h, h']
theorem int_ne0 {a : Nat} : (((a : Int) != 0) = true) ↔ a ≠ 0 := by simp
theorem int_ne0f {a : Nat} : (((a : Int) != 0) = false) ↔ a = 0 := by simp

/-! ### readings -/
/-- The slice whose address is A reads, for its first n elements, as the numbers f. -/
def U64s (w : World) (A : Option Addr) (n : Nat) (f : Nat → Nat) : Prop :=
  ∀ k, k < n → ∃ b off, A = some ⟨b, off, none⟩ ∧ w.cell? ⟨b, off + k, none⟩ = some (.int .u64 (f k)) ∧ f k < 18446744073709551616
/-- .. as rows: row i is the slice of address R i, length m i, capacity c i, which reads as F i. -/
def Mat (w : World) (A : Option Addr) (n : Nat) (R : Nat → Option Addr) (m c : Nat → Nat) (F : Nat → Nat → Nat) : Prop :=
  ∀ i, i < n → ∃ b off, A = some ⟨b, off, none⟩ ∧ w.cell? ⟨b, off + i, none⟩ = some (.slice (R i) (m i) (c i)) ∧ m i ≤ 9223372036854775807 ∧ U64s w (R i) (m i) (F i)
theorem cell_below {w w' : World} (hb : Below w.heap.size w w') {a : Addr} {v : Value} (h : w.cell? a = some v) : w'.cell? a = some v := (hb.cell (World.block_lt_of_cell? w a h)).trans h
theorem U64s.below {w w' : World} {A : Option Addr} {n : Nat} {f : Nat → Nat} (h : U64s w A n f) (hb : Below w.heap.size w w') : U64s w' A n f := fun k hk =>
  let ⟨b, off, e, hc, hf⟩ := h k hk; ⟨b, off, e, cell_below hb hc, hf⟩
theorem Mat.below {w w' : World} {A : Option Addr} {n : Nat} {R : Nat → Option Addr} {m c : Nat → Nat} {F : Nat → Nat → Nat} (h : Mat w A n R m c F) (hb : Below w.heap.size w w') : Mat w' A n R m c F := fun k hk =>
  let ⟨b, off, e, hc, hm, hr⟩ := h k hk; ⟨b, off, e, cell_below hb hc, hm, hr.below hb⟩
theorem below_alloc (w : World) (o : Obj) : Below w.heap.size w (w.alloc o) := (Below.refl _ _).alloc (Nat.le_refl _) o
theorem bcell {W w1 : World} (hb : Below W.heap.size W w1) : (∀ b o, b < W.heap.size → w1.cell? ⟨b, o, none⟩ = W.cell? ⟨b, o, none⟩) ∧ (∀ b o, b < W.heap.size → w1.frozen? ⟨b, o, none⟩ = W.frozen? ⟨b, o, none⟩) :=
  ⟨fun b o h => hb.cell (p := ⟨b, o, none⟩) h, fun b o h => hb.frozen (p := ⟨b, o, none⟩) h⟩
theorem quiet_l0 {P : Program} {f : FuncId} {args : Array Value} {w : World} {v : Value}
    (h : Calls P f args w fun e w' => e = .returned v ∧ w = w') : Calls P f args w fun e w'' => e = .returned v ∧ ∃ m, w'' = w.drewN m :=
  h.mono fun _ _ ⟨he, hm⟩ => ⟨he, 0, hm.symm⟩
theorem quiet_l1 {P : Program} {f : FuncId} {args : Array Value} {w : World} {n : Nat} {v : Value}
    (h : Calls P f args (w.drewN n) fun e w' => e = .returned v ∧ w.drewN n = w') : Calls P f args (w.drewN n) fun e w'' => e = .returned v ∧ ∃ m, w'' = w.drewN m :=
  h.mono fun _ _ ⟨he, hm⟩ => ⟨he, n, hm.symm⟩
theorem quiet_l2 {P : Program} {f : FuncId} {args : Array Value} {w : World} {a n : Nat} {v : Value}
    (h : Calls P f args (w.drewN (a + n)) fun e w' => e = .returned v ∧ w.drewN (a + n) = w') : Calls P f args (w.drewN (a + n)) fun e w'' => e = .returned v ∧ ∃ m, w'' = w.drewN (a + m) :=
  h.mono fun _ _ ⟨he, hm⟩ => ⟨he, n, hm.symm⟩
theorem below_drewN {B : Nat} {a w : World} (h : Below B a w) (n : Nat) : Below B a (w.drewN n) := ⟨h.os, h.tape, h.output, h.size, h.block⟩
end Go.Proofs.Ytahaimecchdfeaa

/-
  Plain facts for the walks: blocks of ints that a call has made; shifts and masks.
-/
namespace Go.Proofs.Ytahaimecchdfeaa
open Go.RowKit

/-- The cells of a block of ints. -/
def RowI (w : World) (B N : Nat) (g : Nat → Nat) : Prop := ∀ k, k < N → w.cell? ⟨B, k, none⟩ = some (.int .i64 (g k)) ∧ w.frozen? ⟨B, k, none⟩ = false
def upd (g : Nat → Nat) (j x : Nat) : Nat → Nat := fun k => if k = j then x else g k
theorem RowI.set {w : World} {B N j x : Nat} {g : Nat → Nat} (h : RowI w B N g) (hj : j < N) : RowI (w.setCell ⟨B, j, none⟩ (.int .i64 x)) B N (upd g j x) := fun k hk => by
  obtain ⟨h1, h2⟩ := h k hk
  refine ⟨?_, by rw [World.frozen?_setCell]; exact h2⟩
  unfold upd
  by_cases hkj : k = j
  · subst hkj
    rw [if_pos rfl]
    exact World.cell?_setCell_same' _ _ _ (by rw [h1]; rfl)
  · rw [if_neg hkj, World.cell?_setCell_other _ _ _ _ (by simp)]
    exact h1
theorem RowI.congr {w : World} {B N : Nat} {g g' : Nat → Nat} (h : RowI w B N g) (e : ∀ k, k < N → g k = g' k) : RowI w B N g' := fun k hk => by
  rw [← e k hk]; exact h k hk
theorem RowI.made (w : World) (N : Nat) (T : TypeId) : RowI (w.alloc (.cells (madeCells #[.int .i64 0] N) T)) w.heap.size N (fun _ => 0) := fun k hk =>
  ⟨(World.rowIs_made w (.int .i64 0) N T).cell hk, (World.rowIs_made w (.int .i64 0) N T).frozen k⟩
theorem RowI.set' {w : World} {B N j x : Nat} {z : Int} {g : Nat → Nat} (h : RowI w B N g) (hj : j < N) (hz : z = (x : Int)) : RowI (w.setCell ⟨B, j, none⟩ (.int .i64 z)) B N (upd g j x) := by
  rw [hz]; exact h.set hj
theorem RowI.below {w w' : World} {B N : Nat} {g : Nat → Nat} (h : RowI w B N g) (hb : Below w.heap.size w w') : RowI w' B N g := fun k hk => by
  obtain ⟨h1, h2⟩ := h k hk
  refine ⟨cell_below hb h1, ?_⟩
  rw [hb.frozen (World.block_lt_of_cell? w _ h1)]; exact h2
theorem upd_upd (g : Nat → Nat) (j x y k : Nat) : upd (upd g j x) j y k = upd g j y k := by
  unfold upd; by_cases h : k = j <;> simp [h]
theorem Try.infoInt : (Try.prog.info? 3).map (fun i => (i.zero, i.size, i.bytes)) = some (some (.int .i64 0), 1, 8) := by kernel_rfl

theorem bits_has' (s v : Nat) (hs : s < 18446744073709551616) (hv : v ≤ 64) : (bits .and .u64 ((s : Int) / 2 ^ v) 1 == 1) = s.testBit v := by
  have h := bits_has s v hs
  rwa [Nat.min_eq_left hv] at h
theorem bits_hasnt' (s v : Nat) (hs : s < 18446744073709551616) (hv : v ≤ 64) : (bits .and .u64 ((s : Int) / 2 ^ v) 1 == 0) = !s.testBit v := by
  have h := bits_hasnt s v hs
  rwa [Nat.min_eq_left hv] at h
theorem wrap_pow {k N : Nat} (hN : N = 2 ^ k) (hk : k ≤ 4) : IntKind.i64.wrap ((2 : Int) ^ k) = (N : Int) := by
  have h : k = 0 ∨ k = 1 ∨ k = 2 ∨ k = 3 ∨ k = 4 := by omega
  rw [hN]
  rcases h with rfl | rfl | rfl | rfl | rfl <;> rfl
theorem shl_one {u P : Nat} (hP : P = 2 ^ u) (hu : u < 64) : IntKind.u64.wrap ((2 : Int) ^ u) = (P : Int) := by
  have e : ((2 : Int) ^ u) = ((2 ^ u : Nat) : Int) := by rw [Int.natCast_pow]; rfl
  have h := pow_lt64 hu
  rw [e, hP, IntKind.wrap_u64]; omega
theorem or_mkSet {u P : Nat} {p : Nat → Bool} (hP : P = 2 ^ u) (hu : u < 64) (h : p u = true) : bits .or .u64 (mkSet u p : Int) (P : Int) = ((mkSet (u + 1) p : Nat) : Int) := by
  have h1 := Nat.lt_trans (mkSet_lt u p) (pow_lt64 hu)
  rw [u64_or_nat _ _ h1 (by rw [hP]; exact pow_lt64 hu), mkSet_succ_yes h, hP]
/-- A slice of ints, read. -/
def I64s (w : World) (A : Option Addr) (n : Nat) (f : Nat → Int) : Prop :=
  ∀ k, k < n → ∃ b off, A = some ⟨b, off, none⟩ ∧ w.cell? ⟨b, off + k, none⟩ = some (.int .i64 (f k)) ∧ -9223372036854775808 ≤ f k ∧ f k ≤ 9223372036854775807
theorem I64s.below {w w' : World} {A : Option Addr} {n : Nat} {f : Nat → Int} (h : I64s w A n f) (hb : Below w.heap.size w w') : I64s w' A n f := fun k hk =>
  let ⟨b, off, e, hc, hf⟩ := h k hk; ⟨b, off, e, cell_below hb hc, hf⟩
theorem RowI.i64s {w : World} {B N : Nat} {g : Nat → Nat} (h : RowI w B N g) (hg : ∀ k, g k ≤ 9223372036854775807) : I64s w (some ⟨B, 0, none⟩) N (fun k => (g k : Int)) := fun k hk => by
  have := hg k
  exact ⟨B, 0, rfl, by rw [Nat.zero_add]; exact (h k hk).1, by dsimp only; omega, by dsimp only; omega⟩
theorem i64s_nil (w : World) (f : Nat → Int) (A : Option Addr) : I64s w A 0 f := fun _ hk => absurd hk (Nat.not_lt_zero _)
theorem u64s_nil (w : World) (f : Nat → Nat) (A : Option Addr) : U64s w A 0 f := fun _ hk => absurd hk (Nat.not_lt_zero _)
end Go.Proofs.Ytahaimecchdfeaa

/-
  Plain facts of layer 54: histories.
-/
namespace Go.Proofs.Ytahaimecchdfeaa
open Go.RowKit

/-- t rounds: what is left of the history are its first two digits. -/
def tmOk (a : Int) (h t : Nat) : Bool := decide (h / 4 ^ t = 4 ∨ a = 0 ∧ h / 4 ^ t = 5)
/-- The number of rounds of a history, or -1. -/
def tmN (a : Int) (h : Nat) : Int :=
  if tmOk a h 0 then 0 else if tmOk a h 1 then 1 else if tmOk a h 2 then 2 else if tmOk a h 3 then 3 else if tmOk a h 4 then 4 else if tmOk a h 5 then 5 else -1
def tmV (a h : Int) : Int := if a < 0 ∨ 1 < a ∨ h < 4 then -1 else tmN a h.toNat
theorem tmN_none {a : Int} {h : Nat} (hn : ∀ t, t ≤ 5 → tmOk a h t = false) : tmN a h = -1 := by
  unfold tmN
  rw [hn 0 (by decide), hn 1 (by decide), hn 2 (by decide), hn 3 (by decide), hn 4 (by decide), hn 5 (by decide)]; rfl
theorem tmN_some {a : Int} {h t : Nat} (ht : t ≤ 5) (hy : tmOk a h t = true) (hn : ∀ s, s < t → tmOk a h s = false) : tmN a h = t := by
  have h6 : t = 0 ∨ t = 1 ∨ t = 2 ∨ t = 3 ∨ t = 4 ∨ t = 5 := by omega
  unfold tmN
  rcases h6 with rfl | rfl | rfl | rfl | rfl | rfl
  · rw [hy]; rfl
  · rw [hn 0 (by decide), hy]; rfl
  · rw [hn 0 (by decide), hn 1 (by decide), hy]; rfl
  · rw [hn 0 (by decide), hn 1 (by decide), hn 2 (by decide), hy]; rfl
  · rw [hn 0 (by decide), hn 1 (by decide), hn 2 (by decide), hn 3 (by decide), hy]; rfl
  · rw [hn 0 (by decide), hn 1 (by decide), hn 2 (by decide), hn 3 (by decide), hn 4 (by decide), hy]; rfl
theorem tmOk_big {a : Int} {h t : Nat} (hb : 6 ≤ h / 4 ^ t) : tmOk a h t = false := by
  unfold tmOk; rw [decide_eq_false_iff_not]
  generalize h / 4 ^ t = x at hb ⊢
  omega
theorem div_pow_succ (h t : Nat) : h / 4 ^ (t + 1) = h / 4 ^ t / 4 := by rw [Nat.pow_succ, Nat.div_div_eq_div_mul]
theorem div_pow_le (h t d : Nat) : h / 4 ^ (t + d) ≤ h / 4 ^ t := by
  induction d with
  | zero => exact Nat.le_refl _
  | succ d ih => rw [← Nat.add_assoc, div_pow_succ]; exact Nat.le_trans (Nat.div_le_self _ _) ih
theorem tmOk_after {a : Int} {h t s : Nat} (hc : h / 4 ^ t < 16) (hs : t < s) : tmOk a h s = false := by
  obtain ⟨d, rfl⟩ : ∃ d, s = t + 1 + d := ⟨s - t - 1, by omega⟩
  have h1 := div_pow_le h (t + 1) d
  have h2 := div_pow_succ h t
  unfold tmOk; rw [decide_eq_false_iff_not]
  generalize h / 4 ^ (t + 1 + d) = x at h1 ⊢
  generalize h / 4 ^ (t + 1) = y at h1 h2
  generalize h / 4 ^ t = z at h2 hc
  omega
theorem tm_end {a : Int} {h t cur : Nat} (he : h / 4 ^ t = cur) (hc : cur < 16) (hb : ∀ s, s < t → 6 ≤ h / 4 ^ s) : tmN a h = if (cur = 4 ∨ a = 0 ∧ cur = 5) ∧ t ≤ 5 then (t : Int) else -1 := by
  by_cases h1 : (cur = 4 ∨ a = 0 ∧ cur = 5) ∧ t ≤ 5
  · rw [if_pos h1]
    exact tmN_some h1.2 (by unfold tmOk; rw [he, decide_eq_true_eq]; exact h1.1) fun s hs => tmOk_big (hb s hs)
  · rw [if_neg h1]
    refine tmN_none fun s hs => ?_
    rcases Nat.lt_trichotomy s t with h2 | rfl | h2
    · exact tmOk_big (hb s h2)
    · unfold tmOk; rw [he, decide_eq_false_iff_not]; exact fun h3 => h1 ⟨h3, hs⟩
    · exact tmOk_after (by rw [he]; exact hc) h2
theorem tm_great {a : Int} {h : Nat} (hb : 16384 ≤ h) : tmN a h = -1 := by
  refine tmN_none fun s hs => tmOk_big ?_
  have h6 : s = 0 ∨ s = 1 ∨ s = 2 ∨ s = 3 ∨ s = 4 ∨ s = 5 := by omega
  rcases h6 with rfl | rfl | rfl | rfl | rfl | rfl <;> simp <;> omega
theorem tmV_range (a h : Int) : -1 ≤ tmV a h ∧ tmV a h ≤ 5 := by
  unfold tmV tmN
  repeat' split
  all_goals omega
theorem tmN_le0 (h : Nat) : tmN 1 h ≤ tmN 0 h := by
  have key : ∀ t, t ≤ 5 → tmOk 1 h t = true → h / 4 ^ t = 4 := fun t _ hy => by
    unfold tmOk at hy; rw [decide_eq_true_eq] at hy; omega
  by_cases he : ∃ t, t ≤ 5 ∧ h / 4 ^ t = 4
  · obtain ⟨t, ht, h4⟩ := he
    have hb : ∀ s, s < t → 6 ≤ h / 4 ^ s := fun s hs => by
      obtain ⟨d, rfl⟩ : ∃ d, t = s + 1 + d := ⟨t - s - 1, by omega⟩
      have h1 := div_pow_le h (s + 1) d
      have h2 := div_pow_succ h s
      generalize h / 4 ^ (s + 1 + d) = x at h1 h4
      generalize h / 4 ^ (s + 1) = y at h1 h2
      generalize h / 4 ^ s = z at h2 ⊢
      omega
    rw [tm_end (a := 1) h4 (by decide) hb, tm_end (a := 0) h4 (by decide) hb]
    simp
  · rw [tmN_none (a := 1) fun t ht => by
      cases hy : tmOk 1 h t
      · rfl
      · exact absurd ⟨t, ht, key t ht hy⟩ he]
    have := (tmV_range 0 (h : Int)).1
    unfold tmN
    repeat' split
    all_goals omega
theorem tm_max (h : Int) : max (tmV 0 h) (tmV 1 h) = tmV 0 h := by
  have h1 : tmV 1 h ≤ tmV 0 h := by
    unfold tmV
    by_cases hc : h < 4
    · rw [if_pos (.inr (.inr hc)), if_pos (.inr (.inr hc))]; exact Int.le_refl _
    · rw [if_neg (by omega), if_neg (by omega)]; exact tmN_le0 _
  omega
/-- A history after a round, or -1. -/
def afV (h m : Int) : Int := if 0 ≤ tmV 0 h ∧ tmV 0 h ≤ 4 ∧ 0 ≤ m ∧ m ≤ 3 then 4 * h + m else -1
/-- The history at the beginning, or -1. -/
def stV (a b : Int) : Int := if 0 ≤ a ∧ a ≤ 1 ∧ 0 ≤ b ∧ b ≤ 1 then (if a = 1 then 4 else 4 + b) else -1
theorem tmV_hist {h : Int} (h0 : 0 ≤ tmV 0 h) (h4 : tmV 0 h ≤ 4) : 4 ≤ h ∧ h < 6144 := by
  unfold tmV at h0 h4
  by_cases hc : (0 : Int) < 0 ∨ (1 : Int) < 0 ∨ h < 4
  · rw [if_pos hc] at h0; omega
  · rw [if_neg hc] at h0 h4
    have hh : 4 ≤ h := by omega
    refine ⟨hh, ?_⟩
    obtain ⟨H, rfl⟩ : ∃ H : Nat, h = H := ⟨h.toNat, by omega⟩
    rw [Int.toNat_natCast] at h0 h4
    have key : ∃ t, t ≤ 4 ∧ tmOk 0 H t = true := by
      apply Classical.byContradiction
      intro hn
      have hf : ∀ t, t ≤ 4 → tmOk 0 H t = false := fun t ht => by
        cases hy : tmOk 0 H t
        · rfl
        · exact absurd ⟨t, ht, hy⟩ hn
      unfold tmN at h0 h4
      rw [hf 0 (by decide), hf 1 (by decide), hf 2 (by decide), hf 3 (by decide), hf 4 (by decide)] at h0 h4
      simp only [Bool.false_eq_true, if_false] at h0 h4
      split at h0 <;> split at h4 <;> omega
    obtain ⟨t, ht, hy⟩ := key
    unfold tmOk at hy
    rw [decide_eq_true_eq] at hy
    have h5 : t = 0 ∨ t = 1 ∨ t = 2 ∨ t = 3 ∨ t = 4 := by omega
    rcases h5 with rfl | rfl | rfl | rfl | rfl <;> simp at hy <;> omega
end Go.Proofs.Ytahaimecchdfeaa

/-
  Walks of layer 54: Time, After, Start, of the program and of the reference.
-/
namespace Go.Proofs.Ytahaimecchdfeaa
open Go.RowKit

theorem no_le {a b : Int} (h : ¬ a ≤ b) : b < a := by omega
set_option maxHeartbeats 1000000 in
theorem Time_any (a h : Int) (w : World) (hb : -9223372036854775808 ≤ h ∧ h ≤ 9223372036854775807) :
    Calls Try.prog 51 #[.int .i64 a, .int .i64 h] w fun e w' => e = .returned (.int .i64 (tmV a h)) ∧ w = w' := by
  by_cases h0 : a < 0
  · have hd1 : decide (a < 0) = true := decide_eq_true h0
    have HE := Lib.hid (show tmV a h = -1 from if_pos (.inl h0))
    clear h0
    go_enter Try.func51, Try.ntmps51
    go_wp2
    go_ret
    exact ⟨by rw [HE.out]; rfl, rfl⟩
  have hd1 : decide (a < 0) = false := decide_eq_false h0
  by_cases h1 : 1 < a
  · have hd2 : decide (1 < a) = true := decide_eq_true h1
    have HE := Lib.hid (show tmV a h = -1 from if_pos (.inr (.inl h1)))
    clear h0 h1
    go_enter Try.func51, Try.ntmps51
    go_wp2
    go_ret
    exact ⟨by rw [HE.out]; rfl, rfl⟩
  have hd2 : decide (1 < a) = false := decide_eq_false h1
  by_cases h4 : h < 4
  · have hd3 : decide (h < 4) = true := decide_eq_true h4
    have HE := Lib.hid (show tmV a h = -1 from if_pos (.inr (.inr h4)))
    clear h0 h1 h4
    go_enter Try.func51, Try.ntmps51
    go_wp2
    go_ret
    exact ⟨by rw [HE.out]; rfl, rfl⟩
  have hd3 : decide (h < 4) = false := decide_eq_false h4
  obtain ⟨H, rfl⟩ : ∃ H : Nat, h = H := ⟨h.toNat, by omega⟩
  have HE := Lib.hid (show tmV a H = tmN a H by unfold tmV; rw [if_neg (by omega)]; rfl)
  have ha0 : 0 ≤ a := by omega
  have ha1 : a ≤ 1 := by omega
  clear h0 h1 h4
  go_enter Try.func51, Try.ntmps51
  go_wp2
  go_loop [1, 5] (fun hv tv => ∃ c t : Nat, hv = .int .i64 c ∧ tv = .int .i64 t ∧ c ≤ 9223372036854775807 ∧ t + c ≤ 9223372036854775807 ∧ Hid (H / 4 ^ t = c) ∧ Hid (∀ s, s < t → 6 ≤ H / 4 ^ s)) (fun hv _ => (intOf hv).toNat)
  case atStart => exact ⟨H, 0, rfl, rfl, by omega, by omega, Lib.hid (by simp), Lib.hid fun s hs => absurd hs (Nat.not_lt_zero _)⟩
  case round =>
    obtain ⟨c, t, rfl, rfl, hc, htc, HC, HS⟩ := hrel
    by_cases h8 : 8 ≤ c
    · have hd4 : decide (8 ≤ c) = true := decide_eq_true h8
      have hd5 : decide ((8 : Int) ≤ (c : Int)) = true := decide_eq_true (by omega)
      have HC2 := Lib.hid (show H / 4 ^ (t + 1) = c / 4 by rw [div_pow_succ, HC.out])
      have HS2 : Hid (∀ s, s < t + 1 → 6 ≤ H / 4 ^ s) := Lib.hid fun s hs => by
        rcases Nat.lt_succ_iff_lt_or_eq.1 hs with h2 | rfl
        · exact HS.out s h2
        · rw [HC.out]; omega
      clear HC HS
      go_wp2_with fail
      go_round
      case rel => exact ⟨c / 4, t + 1, by first | rfl | go_num | (congr 1; omega), by go_num, by omega, by omega, HC2, HS2⟩
      case measure => simp [intOf]; omega
    · have hd4 : decide (8 ≤ c) = false := decide_eq_false h8
      have hd5 : decide ((8 : Int) ≤ (c : Int)) = false := decide_eq_false (by omega)
      have HF := Lib.hid (tm_end (a := a) HC.out (by omega) HS.out)
      clear HC HS
      by_cases c4 : c < 4
      · have e1 : decide (c < 4) = true := decide_eq_true c4
        have e1' : decide ((c : Int) < 4) = true := decide_eq_true (by omega)
        have HV := Lib.hid (show tmV a H = -1 by rw [HE.out, HF.out, if_neg (by omega)])
        clear c4 h8
        go_wp2_with fail
        go_ret
        exact ⟨by rw [HV.out]; rfl, rfl⟩
      have e1 : decide (c < 4) = false := decide_eq_false c4
      have e1' : decide ((c : Int) < 4) = false := decide_eq_false (by omega)
      by_cases c5 : 5 - a < c
      · have e2 : decide (5 - a < (c : Int)) = true := decide_eq_true c5
        have HV := Lib.hid (show tmV a H = -1 by rw [HE.out, HF.out, if_neg (by omega)])
        clear c4 h8 c5
        go_wp2_with fail
        go_ret
        exact ⟨by rw [HV.out]; rfl, rfl⟩
      have e2 : decide (5 - a < (c : Int)) = false := decide_eq_false c5
      by_cases t5 : 5 < t
      · have e3 : decide (5 < t) = true := decide_eq_true t5
        have e3' : decide ((5 : Int) < (t : Int)) = true := decide_eq_true (by omega)
        have HV := Lib.hid (show tmV a H = -1 by rw [HE.out, HF.out, if_neg (by omega)])
        clear c4 h8 c5 t5
        go_wp2_with fail
        go_ret
        exact ⟨by rw [HV.out]; rfl, rfl⟩
      · have e3 : decide (5 < t) = false := decide_eq_false t5
        have e3' : decide ((5 : Int) < (t : Int)) = false := decide_eq_false (by omega)
        have HV := Lib.hid (show tmV a H = t by rw [HE.out, HF.out, if_pos (by omega)])
        clear c4 h8 c5 t5
        go_wp2_with fail
        go_ret
        exact ⟨by rw [HV.out]; rfl, rfl⟩
set_option maxHeartbeats 1000000 in
theorem rTime_any (a h : Int) (w : World) (hb : -9223372036854775808 ≤ h ∧ h ≤ 9223372036854775807) :
    Calls Try.prog 52 #[.int .i64 a, .int .i64 h] w fun e w' => e = .returned (.int .i64 (tmV a h)) ∧ w = w' := by
  by_cases h0 : a < 0
  · have hd1 : decide (a < 0) = true := decide_eq_true h0
    have HE := Lib.hid (show tmV a h = -1 from if_pos (.inl h0))
    clear h0
    go_enter Try.func52, Try.ntmps52
    go_wp2
    go_ret
    exact ⟨by rw [HE.out]; rfl, rfl⟩
  have hd1 : decide (a < 0) = false := decide_eq_false h0
  by_cases h1 : 1 < a
  · have hd2 : decide (1 < a) = true := decide_eq_true h1
    have HE := Lib.hid (show tmV a h = -1 from if_pos (.inr (.inl h1)))
    clear h0 h1
    go_enter Try.func52, Try.ntmps52
    go_wp2
    go_ret
    exact ⟨by rw [HE.out]; rfl, rfl⟩
  have hd2 : decide (1 < a) = false := decide_eq_false h1
  by_cases h4 : h < 4
  · have hd3 : decide (h < 4) = true := decide_eq_true h4
    have HE := Lib.hid (show tmV a h = -1 from if_pos (.inr (.inr h4)))
    clear h0 h1 h4
    go_enter Try.func52, Try.ntmps52
    go_wp2
    go_ret
    exact ⟨by rw [HE.out]; rfl, rfl⟩
  have hd3 : decide (h < 4) = false := decide_eq_false h4
  obtain ⟨H, rfl⟩ : ∃ H : Nat, h = H := ⟨h.toNat, by omega⟩
  have HE := Lib.hid (show tmV a H = tmN a H by unfold tmV; rw [if_neg (by omega)]; rfl)
  by_cases hg : 16384 ≤ H
  · have hd6 : decide (16384 ≤ H) = true := decide_eq_true hg
    have hd7 : decide ((16384 : Int) ≤ (H : Int)) = true := decide_eq_true (by omega)
    have HV := Lib.hid (show tmV a H = -1 by rw [HE.out, tm_great hg])
    clear h0 h1 h4 hg
    go_enter Try.func52, Try.ntmps52
    go_wp2
    go_ret
    exact ⟨by rw [HV.out]; rfl, rfl⟩
  have hd6 : decide (16384 ≤ H) = false := decide_eq_false hg
  have hd7 : decide ((16384 : Int) ≤ (H : Int)) = false := decide_eq_false (by omega)
  have ha0 : 0 ≤ a := by omega
  have ha1 : a ≤ 1 := by omega
  clear h0 h1 h4
  go_enter Try.func52, Try.ntmps52
  go_wp2
  go_loop [5, 6] (fun tv hv => ∃ c t : Nat, hv = .int .i64 c ∧ tv = .int .i64 t ∧ c ≤ 9223372036854775807 ∧ t + c ≤ 9223372036854775807 ∧ Hid (H / 4 ^ t = c) ∧ Hid (∀ s, s < t → 6 ≤ H / 4 ^ s)) (fun _ hv => (intOf hv).toNat)
  case atStart => exact ⟨H, 0, rfl, rfl, by omega, by omega, Lib.hid (by simp), Lib.hid fun s hs => absurd hs (Nat.not_lt_zero _)⟩
  case round =>
    obtain ⟨c, t, rfl, rfl, hc, htc, HC, HS⟩ := hrel
    by_cases h8 : 16 ≤ c
    · have hd4 : decide (16 ≤ c) = true := decide_eq_true h8
      have hd5 : decide ((16 : Int) ≤ (c : Int)) = true := decide_eq_true (by omega)
      have HC2 := Lib.hid (show H / 4 ^ (t + 1) = c / 4 by rw [div_pow_succ, HC.out])
      have HS2 : Hid (∀ s, s < t + 1 → 6 ≤ H / 4 ^ s) := Lib.hid fun s hs => by
        rcases Nat.lt_succ_iff_lt_or_eq.1 hs with h2 | rfl
        · exact HS.out s h2
        · rw [HC.out]; omega
      clear HC HS
      go_wp2_with fail
      go_round
      case rel => exact ⟨c / 4, t + 1, by first | rfl | go_num | (congr 1; omega), by go_num, by omega, by omega, HC2, HS2⟩
      case measure => simp [intOf]; omega
    · have hd4 : decide (16 ≤ c) = false := decide_eq_false h8
      have hd5 : decide ((16 : Int) ≤ (c : Int)) = false := decide_eq_false (by omega)
      have HF := Lib.hid (tm_end (a := a) HC.out (by omega) HS.out)
      clear HC HS
      by_cases c4 : c = 4
      · have e1 : ((c : Int) != 4) = false := by rw [c4]; rfl
        by_cases t5 : 5 < t
        · have e3 : decide (5 < t) = true := decide_eq_true t5
          have e3' : decide ((5 : Int) < (t : Int)) = true := decide_eq_true (by omega)
          have HV := Lib.hid (show tmV a H = -1 by rw [HE.out, HF.out, if_neg (by omega)])
          clear c4 h8 t5
          go_wp2_with fail
          go_ret
          exact ⟨by rw [HV.out]; rfl, rfl⟩
        · have e3 : decide (5 < t) = false := decide_eq_false t5
          have e3' : decide ((5 : Int) < (t : Int)) = false := decide_eq_false (by omega)
          have HV := Lib.hid (show tmV a H = t by rw [HE.out, HF.out, if_pos (by omega)])
          clear c4 h8 t5
          go_wp2_with fail
          go_ret
          exact ⟨by rw [HV.out]; rfl, rfl⟩
      · have e1 : ((c : Int) != 4) = true := by rw [bne_iff_ne]; omega
        by_cases a0 : a = 0
        · have e2 : (a != 0) = false := by rw [a0]; rfl
          by_cases c5 : c = 5
          · have e4 : ((c : Int) != 5) = false := by rw [c5]; rfl
            by_cases t5 : 5 < t
            · have e3 : decide (5 < t) = true := decide_eq_true t5
              have e3' : decide ((5 : Int) < (t : Int)) = true := decide_eq_true (by omega)
              have HV := Lib.hid (show tmV a H = -1 by rw [HE.out, HF.out, if_neg (by omega)])
              clear c4 h8 t5 a0 c5
              go_wp2_with fail
              go_ret
              exact ⟨by rw [HV.out]; rfl, rfl⟩
            · have e3 : decide (5 < t) = false := decide_eq_false t5
              have e3' : decide ((5 : Int) < (t : Int)) = false := decide_eq_false (by omega)
              have HV := Lib.hid (show tmV a H = t by rw [HE.out, HF.out, if_pos (by omega)])
              clear c4 h8 t5 a0 c5
              go_wp2_with fail
              go_ret
              exact ⟨by rw [HV.out]; rfl, rfl⟩
          · have e4 : ((c : Int) != 5) = true := by rw [bne_iff_ne]; omega
            have HV := Lib.hid (show tmV a H = -1 by rw [HE.out, HF.out, if_neg (by omega)])
            clear c4 h8 a0 c5
            go_wp2_with fail
            go_ret
            exact ⟨by rw [HV.out]; rfl, rfl⟩
        · have e2 : (a != 0) = true := by rw [bne_iff_ne]; exact a0
          have HV := Lib.hid (show tmV a H = -1 by rw [HE.out, HF.out, if_neg (by omega)])
          clear c4 h8 a0
          go_wp2_with fail
          go_ret
          exact ⟨by rw [HV.out]; rfl, rfl⟩

/-! ### After -/
set_option maxHeartbeats 1000000 in
theorem After_any (h m : Int) (w : World) (hb : -9223372036854775808 ≤ h ∧ h ≤ 9223372036854775807) :
    Calls Try.prog 69 #[.int .i64 h, .int .i64 m] w fun e w' => e = .returned (.int .i64 (afV h m)) ∧ w = w' := by
  have HT := Lib.hid (Time_any 0 h w hb)
  have hr := tmV_range 0 h
  have hH := tmV_hist (h := h)
  obtain ⟨t, et⟩ : ∃ t, t = tmV 0 h := ⟨_, rfl⟩
  have HV := Lib.hid (show afV h m = if 0 ≤ t ∧ t ≤ 4 ∧ 0 ≤ m ∧ m ≤ 3 then 4 * h + m else -1 by rw [et]; rfl)
  rw [← et] at HT hr hH
  have hHH := Lib.hid hH
  clear et hH
  by_cases t0 : t < 0
  · have e1 : decide (t < 0) = true := decide_eq_true t0
    have HE := Lib.hid (show afV h m = -1 by rw [HV.out, if_neg (by omega)])
    clear t0
    go_enter Try.func69, Try.ntmps69
    go_wp2_with (go_at_call 51; refine (HT.out).mono ?_; rintro e w' ⟨rfl, rfl⟩)
    go_ret
    exact ⟨by rw [HE.out]; rfl, rfl⟩
  have e1 : decide (t < 0) = false := decide_eq_false t0
  by_cases t5 : 5 ≤ t
  · have e2 : decide (5 ≤ t) = true := decide_eq_true t5
    have HE := Lib.hid (show afV h m = -1 by rw [HV.out, if_neg (by omega)])
    clear t0 t5
    go_enter Try.func69, Try.ntmps69
    go_wp2_with (go_at_call 51; refine (HT.out).mono ?_; rintro e w' ⟨rfl, rfl⟩)
    go_ret
    exact ⟨by rw [HE.out]; rfl, rfl⟩
  have e2 : decide (5 ≤ t) = false := decide_eq_false t5
  by_cases m0 : m < 0
  · have e3 : decide (m < 0) = true := decide_eq_true m0
    have HE := Lib.hid (show afV h m = -1 by rw [HV.out, if_neg (by omega)])
    clear t0 t5 m0
    go_enter Try.func69, Try.ntmps69
    go_wp2_with (go_at_call 51; refine (HT.out).mono ?_; rintro e w' ⟨rfl, rfl⟩)
    go_ret
    exact ⟨by rw [HE.out]; rfl, rfl⟩
  have e3 : decide (m < 0) = false := decide_eq_false m0
  by_cases m3 : 3 < m
  · have e4 : decide (3 < m) = true := decide_eq_true m3
    have HE := Lib.hid (show afV h m = -1 by rw [HV.out, if_neg (by omega)])
    clear t0 t5 m0 m3
    go_enter Try.func69, Try.ntmps69
    go_wp2_with (go_at_call 51; refine (HT.out).mono ?_; rintro e w' ⟨rfl, rfl⟩)
    go_ret
    exact ⟨by rw [HE.out]; rfl, rfl⟩
  have e4 : decide (3 < m) = false := decide_eq_false m3
  have HE := Lib.hid (show afV h m = 4 * h + m by rw [HV.out, if_pos (by omega)])
  obtain ⟨hl, hu⟩ := hHH.out (by omega) (by omega)
  have hm0 : 0 ≤ m := by omega
  have hm3 : m ≤ 3 := by omega
  clear t0 t5 m0 m3 hHH hb
  go_enter Try.func69, Try.ntmps69
  go_wp2_with (go_at_call 51; refine (HT.out).mono ?_; rintro e w' ⟨rfl, rfl⟩)
  go_ret
  exact ⟨by rw [HE.out]; rfl, rfl⟩
end Go.Proofs.Ytahaimecchdfeaa

/-
  Plain lemmas: slices that a call makes by append, and how they read.
-/
namespace Go.Proofs.Ytahaimecchdfeaa
open Go.RowKit

theorem own_ne {w : World} {base base' e e' n n' : Nat} {v v' : Value} {xs xs' : List Value} (h : w.ownsRow base e 1 v n xs) (h' : w.ownsRow base' e' 1 v' n' xs') (hne : e ≠ e') :
    v.ownBlock = none ∨ v.ownBlock ≠ v'.ownBlock := by
  rcases h.2 with ⟨rfl, _⟩ | ⟨g, cap, cur, rfl, _, hh, _⟩
  · exact .inl rfl
  · refine .inr ?_
    rcases h'.2 with ⟨rfl, _⟩ | ⟨g', cap', cur', rfl, _, hh', _⟩
    · simp [Value.ownBlock]
    · intro he
      have : g = g' := by simpa [Value.ownBlock] using he
      subst this
      rw [hh] at hh'
      injection hh' with hh'
      injection hh' with _ ht
      exact hne ht
theorem own_mono {w : World} {base base' e n : Nat} {v : Value} {xs : List Value} (h : w.ownsRow base e 1 v n xs) (hb : base' ≤ base) : w.ownsRow base' e 1 v n xs := by
  refine ⟨h.1, ?_⟩
  rcases h.2 with h' | ⟨g, cap, cur, hv, hg, r⟩
  · exact .inl h'
  · exact .inr ⟨g, cap, cur, hv, Nat.le_trans hb hg, r⟩
theorem own_below {w w' : World} {B base e n : Nat} {v : Value} {xs : List Value} (h : w.ownsRow base e 1 v n xs) (hb : Below B w w') (hB : w.heap.size ≤ B) : w'.ownsRow base e 1 v n xs := by
  refine ⟨h.1, ?_⟩
  rcases h.2 with h' | ⟨g, cap, cur, hv, hg, hh, r⟩
  · exact .inl h'
  · exact .inr ⟨g, cap, cur, hv, hg, (hb.block g (by have := (Array.getElem?_eq_some_iff.1 hh).1; omega)).trans hh, r⟩
/-- Its shape: an address or none; the cells. -/
theorem own_form {w : World} {base e n : Nat} {v : Value} {xs : List Value} (h : w.ownsRow base e 1 v n xs) :
    ∃ A c, v = .slice A n c ∧ ∀ k, k < n → ∃ b, A = some ⟨b, 0, none⟩ ∧ base ≤ b ∧ b < w.heap.size ∧ w.cell? ⟨b, 0 + k, none⟩ = xs[k]? := by
  rcases h.2 with ⟨rfl, rfl⟩ | ⟨g, cap, cur, rfl, hg, hh, _, _, _, htake⟩
  · exact ⟨none, 0, rfl, fun k hk => absurd hk (Nat.not_lt_zero _)⟩
  · refine ⟨some ⟨g, 0, none⟩, cap, rfl, fun k hk => ⟨g, rfl, hg, (Array.getElem?_eq_some_iff.1 hh).1, ?_⟩⟩
    rw [Nat.zero_add, cell_of_row w g k cur e (0, 0) hh, ← htake, List.getElem?_take, if_pos (by omega)]
    simp
theorem own_succ {w : World} {base e n : Nat} {v : Value} {xs : List Value} (h : w.ownsRow base e 1 v (n + 1) xs) : ∃ g cap, v = .slice (some ⟨g, 0, none⟩) (n + 1) cap := by
  rcases h.2 with ⟨_, h0⟩ | ⟨g, cap, _, rfl, _⟩
  · omega
  · exact ⟨g, cap, rfl⟩
/-- The values of n uint64 numbers. -/
def u64L (f : Nat → Nat) (n : Nat) : List Value := (List.range n).map fun u => .int .u64 (f u : Nat)
theorem u64L_succ (f : Nat → Nat) (n : Nat) : u64L f (n + 1) = u64L f n ++ [.int .u64 (f n : Nat)] := by
  unfold u64L; rw [List.range_succ, List.map_append]; rfl
theorem u64L_get {f : Nat → Nat} {n k : Nat} (h : k < n) : (u64L f n)[k]? = some (.int .u64 (f k : Nat)) := by
  unfold u64L; simp [h]
/-- The blocks of a matrix lie at B or beyond. -/
def FreshM (B : Nat) (A : Option Addr) (n : Nat) (R : Nat → Option Addr) (m : Nat → Nat) : Prop :=
  (∀ i, i < n → ∃ b, A = some ⟨b, 0, none⟩ ∧ B ≤ b) ∧ ∀ i, i < n → ∀ j, j < m i → ∃ b, R i = some ⟨b, 0, none⟩ ∧ B ≤ b
theorem Mat.setCell {w : World} {A : Option Addr} {n B : Nat} {R : Nat → Option Addr} {m c : Nat → Nat} {F : Nat → Nat → Nat} (h : Mat w A n R m c F) (hf : FreshM B A n R m) {p : Addr} (hp : p.block < B) (x : Value) :
    Mat (w.setCell p x) A n R m c F := fun i hi => by
  obtain ⟨b, off, e, hc, hm, hr⟩ := h i hi
  obtain ⟨b', e', hb⟩ := hf.1 i hi
  have e2 := e.symm.trans e'
  injection e2 with e2
  injection e2 with e21 e22 e23
  subst e21
  refine ⟨b, off, e, ?_, hm, fun k hk => ?_⟩
  · rw [World.cell?_setCell_other _ _ _ _ (fun e => by subst e; simp at hp; omega)]; exact hc
  · obtain ⟨b2, off2, f, hc2, hf2⟩ := hr k hk
    obtain ⟨b3, f', hb3⟩ := hf.2 i hi k hk
    have f2 := f.symm.trans f'
    injection f2 with f2
    injection f2 with f21 f22 f23
    subst f21
    exact ⟨b2, off2, f, by rw [World.cell?_setCell_other _ _ _ _ (fun e => by subst e; simp at hp; omega)]; exact hc2, hf2⟩
theorem FreshM.mono {B B' : Nat} {A : Option Addr} {n : Nat} {R : Nat → Option Addr} {m : Nat → Nat} (h : FreshM B A n R m) (hb : B' ≤ B) : FreshM B' A n R m :=
  ⟨fun i hi => let ⟨b, e, h⟩ := h.1 i hi; ⟨b, e, by omega⟩, fun i hi j hj => let ⟨b, e, h⟩ := h.2 i hi j hj; ⟨b, e, by omega⟩⟩
theorem own_u64s {w : World} {base e n : Nat} {v : Value} {f : Nat → Nat} (h : w.ownsRow base e 1 v n (u64L f n)) (hf : ∀ u, u < n → f u < 18446744073709551616) :
    ∃ A c, v = .slice A n c ∧ U64s w A n f ∧ ∀ k, k < n → ∃ b, A = some ⟨b, 0, none⟩ ∧ base ≤ b := by
  obtain ⟨A, c, rfl, hA⟩ := own_form h
  refine ⟨A, c, rfl, fun k hk => ?_, fun k hk => let ⟨b, e, hb, _⟩ := hA k hk; ⟨b, e, hb⟩⟩
  obtain ⟨b, rfl, _, _, hc⟩ := hA k hk
  exact ⟨b, 0, rfl, by rw [hc, u64L_get hk], hf k hk⟩
theorem one_oneCell {x : Value} (h : x.oneCell' = true) : ∀ u ∈ [x], u.oneCell' = true := by simpa using h
end Go.Proofs.Ytahaimecchdfeaa

/-
  Plain facts for the walks: blocks of the call's own that are known whole (boxes); rows of ints; runs and systems, read.
-/
namespace Go.Proofs.Ytahaimecchdfeaa
open Go.RowKit

/-! ### boxes -/
/-- A block whose cells are known. -/
def Blk (w : World) (b : Nat) (T : TypeId) (xs : Array Value) : Prop := w.heap[b]? = some (.cells xs T (0, 0))
theorem Blk.new (w : World) (xs : Array Value) (T : TypeId) : Blk (w.alloc (.cells xs T)) w.heap.size T xs := heap_alloc_new w _
theorem Blk.lt {w : World} {b : Nat} {T : TypeId} {xs : Array Value} (h : Blk w b T xs) : b < w.heap.size := (Array.getElem?_eq_some_iff.1 h).1
theorem Blk.kept {w w1 : World} {b : Nat} {T : TypeId} {xs : Array Value} {row : Option Nat} (h : Blk w b T xs) (hg : w.grownBy w1 row) (hne : row ≠ some b) : Blk w1 b T xs :=
  (hg.block b h.lt (fun e => hne e.symm)).trans h
theorem Blk.below {w w1 : World} {b : Nat} {T : TypeId} {xs : Array Value} (h : Blk w b T xs) (hb : Below w.heap.size w w1) : Blk w1 b T xs := (hb.block b h.lt).trans h
theorem Blk.alloc {w : World} {b : Nat} {T : TypeId} {xs : Array Value} (h : Blk w b T xs) (o : Obj) : Blk (w.alloc o) b T xs := h.below (below_alloc w o)
theorem Blk.cell {w : World} {b k : Nat} {T : TypeId} {xs : Array Value} {v : Value} (h : Blk w b T xs) (hk : xs[k]? = some v) : w.cell? ⟨b, k, none⟩ = some v := by
  rw [cell_of_row w b k xs T (0, 0) h]; exact hk
theorem Blk.frozen {w : World} {b k : Nat} {T : TypeId} {xs : Array Value} (h : Blk w b T xs) : w.frozen? ⟨b, k, none⟩ = false := by
  simp [World.frozen?, show w.heap[b]? = _ from h]
theorem Blk.set {w : World} {b : Nat} {T : TypeId} {xs : Array Value} (h : Blk w b T xs) (k : Nat) (v : Value) : Blk (w.setCell ⟨b, k, none⟩ v) b T (xs.setIfInBounds k v) := Lib.heap_setCell_same h v
theorem Blk.ne_row {w : World} {b base e n : Nat} {T : TypeId} {xs : Array Value} {v : Value} {ys : List Value} (h : Blk w b T xs) (hr : w.ownsRow base e 1 v n ys) (hT : T ≠ e) : v.ownBlock ≠ some b := by
  rcases hr.2 with ⟨rfl, _⟩ | ⟨g, cap, cur, rfl, _, hgb, _⟩
  · simp [Value.ownBlock]
  · intro e'
    obtain rfl : g = b := by simpa [Value.ownBlock] using e'
    have := (show w.heap[g]? = _ from h).symm.trans hgb
    simp at this
    exact hT this.2
theorem Blk.ne {w : World} {b b' : Nat} {T T' : TypeId} {xs xs' : Array Value} (h : Blk w b T xs) (h' : Blk w b' T' xs') (hT : T ≠ T') : b ≠ b' := by
  intro e; subst e
  have := (show w.heap[b]? = _ from h).symm.trans h'
  simp at this
  exact hT this.2
theorem gr_below {w w1 : World} (hb : Below w.heap.size w w1) (row : Option Nat) : w.grownBy w1 row := ⟨hb.os, hb.tape, hb.output, hb.size, fun k hk _ => hb.block k hk⟩
theorem gr_set (w : World) (b k : Nat) (v : Value) : w.grownBy (w.setCell ⟨b, k, none⟩ v) (some b) := Lib.grownBy_setCell w b k v
theorem own_set {w : World} {base e n b k : Nat} {v : Value} {xs : List Value} {T : TypeId} {cs : Array Value} (h : w.ownsRow base e 1 v n xs) (hb : Blk w b T cs) (hT : T ≠ e) (x : Value) : (w.setCell ⟨b, k, none⟩ x).ownsRow base e 1 v n xs :=
  h.kept (gr_set w b k x) (.inr (hb.ne_row h hT))
theorem Blk.set_ne {w : World} {b b' : Nat} {T : TypeId} {xs : Array Value} (h : Blk w b T xs) (hne : b ≠ b') (k : Nat) (v : Value) : Blk (w.setCell ⟨b', k, none⟩ v) b T xs :=
  h.kept (gr_set w b' k v) (fun e => hne (by injection e with e; exact e.symm))
/-- A slice of the call's own with one element, laid by a composite. -/
theorem own_one {w : World} {base e b : Nat} {x : Value} (h : Blk w b e #[x]) (hb : base ≤ b) : w.ownsRow base e 1 (.slice (some ⟨b, 0, none⟩) 1 1) 1 [x] :=
  ⟨rfl, .inr ⟨b, 1, #[x], rfl, hb, h, Nat.le_refl _, by decide, rfl, rfl⟩⟩

/-! ### ints that a call owns -/
def i64L (f : Nat → Int) (n : Nat) : List Value := (List.range n).map fun u => .int .i64 (f u)
theorem i64L_succ (f : Nat → Int) (n : Nat) : i64L f (n + 1) = i64L f n ++ [.int .i64 (f n)] := by
  unfold i64L; rw [List.range_succ, List.map_append]; rfl
theorem i64L_get {f : Nat → Int} {n k : Nat} (h : k < n) : (i64L f n)[k]? = some (.int .i64 (f k)) := by
  unfold i64L; simp [h]
theorem i64L_congr {f g : Nat → Int} {n : Nat} (h : ∀ k, k < n → f k = g k) : i64L f n = i64L g n := by
  unfold i64L
  refine List.map_congr_left fun k hk => ?_
  rw [h k (List.mem_range.1 hk)]
theorem own_i64s {w : World} {base e n : Nat} {v : Value} {f : Nat → Int} (h : w.ownsRow base e 1 v n (i64L f n)) (hf : ∀ u, u < n → -9223372036854775808 ≤ f u ∧ f u ≤ 9223372036854775807) :
    ∃ A c, v = .slice A n c ∧ I64s w A n f := by
  obtain ⟨A, c, rfl, hA⟩ := own_form h
  refine ⟨A, c, rfl, fun k hk => ?_⟩
  obtain ⟨b, rfl, _, _, hc⟩ := hA k hk
  exact ⟨b, 0, rfl, by rw [hc, i64L_get hk], hf k hk⟩

/-! ### rows of ints, runs, systems -/
/-- A slice of slices of ints, read. -/
def MatI (w : World) (A : Option Addr) (n : Nat) (R : Nat → Option Addr) (m c : Nat → Nat) (F : Nat → Nat → Int) : Prop :=
  ∀ i, i < n → ∃ b off, A = some ⟨b, off, none⟩ ∧ w.cell? ⟨b, off + i, none⟩ = some (.slice (R i) (m i) (c i)) ∧ m i ≤ 9223372036854775807 ∧ I64s w (R i) (m i) (F i)
theorem MatI.below {w w' : World} {A : Option Addr} {n : Nat} {R : Nat → Option Addr} {m c : Nat → Nat} {F : Nat → Nat → Int} (h : MatI w A n R m c F) (hb : Below w.heap.size w w') : MatI w' A n R m c F := fun k hk =>
  let ⟨b, off, e, hc, hm, hr⟩ := h k hk; ⟨b, off, e, cell_below hb hc, hm, hr.below hb⟩
/-- A run, read: n times, m agents (for a run in which all times have so many), the states and the facts. -/
def RunR (w : World) (v : Value) (n : Nat) (m : Nat → Nat) (L : Nat → Nat → Int) (k : Nat) (F : Nat → Nat) : Prop :=
  ∃ A c B d R cc, v = .agg #[.slice A n c, .slice B k d] ∧ MatI w A n R m cc L ∧ U64s w B k F
theorem RunR.below {w w' : World} {v : Value} {n k : Nat} {m : Nat → Nat} {L : Nat → Nat → Int} {F : Nat → Nat} (h : RunR w v n m L k F) (hb : Below w.heap.size w w') : RunR w' v n m L k F := by
  obtain ⟨A, c, B, d, R, cc, e, h1, h2⟩ := h
  exact ⟨A, c, B, d, R, cc, e, h1.below hb, h2.below hb⟩
end Go.Proofs.Ytahaimecchdfeaa

/-
  Plain facts: the first failure of a test; the postulates of revision.
-/
namespace Go.Proofs.Ytahaimecchdfeaa
open Go.RowKit

/-- The first i below n with p i false; n if there is none. -/
def firstNo : Nat → (Nat → Bool) → Nat
  | 0, _ => 0
  | n + 1, p => if firstNo n p < n then firstNo n p else if p n then n + 1 else n
theorem firstNo_spec (n : Nat) (p : Nat → Bool) : firstNo n p ≤ n ∧ (∀ i, i < firstNo n p → p i = true) ∧ (firstNo n p < n → p (firstNo n p) = false) := by
  induction n with
  | zero => exact ⟨Nat.le_refl _, fun i h => absurd h (Nat.not_lt_zero _), fun h => absurd h (Nat.not_lt_zero _)⟩
  | succ n ih =>
    obtain ⟨i1, i2, i3⟩ := ih
    unfold firstNo
    by_cases h : firstNo n p < n
    · rw [if_pos h]; exact ⟨by omega, i2, fun _ => i3 h⟩
    · rw [if_neg h]
      have e : firstNo n p = n := by omega
      rw [e] at i2
      cases hp : p n
      · rw [if_neg (by simp)]; exact ⟨by omega, i2, fun _ => hp⟩
      · rw [if_pos rfl]
        refine ⟨Nat.le_refl _, fun i hi => ?_, fun h => absurd h (Nat.lt_irrefl _)⟩
        rcases Nat.lt_succ_iff_lt_or_eq.1 hi with h1 | rfl
        · exact i2 i h1
        · exact hp
theorem firstNo_hit {n k : Nat} {p : Nat → Bool} (hk : k < n) (h : ∀ i, i < k → p i = true) (hn : p k = false) : firstNo n p = k := by
  obtain ⟨i1, i2, i3⟩ := firstNo_spec n p
  rcases Nat.lt_trichotomy (firstNo n p) k with h1 | h1 | h1
  · have := i3 (by omega); rw [h _ h1] at this; cases this
  · exact h1
  · have := i2 k h1; rw [hn] at this; cases this
theorem firstNo_all {n : Nat} {p : Nat → Bool} (h : ∀ i, i < n → p i = true) : firstNo n p = n := by
  obtain ⟨i1, i2, i3⟩ := firstNo_spec n p
  rcases Nat.lt_or_ge (firstNo n p) n with h1 | h1
  · have := i3 h1; rw [h _ h1] at this; cases this
  · omega

/-! ### where a test of two sets fails first -/
def failB (S last : Nat) (fit : Nat → Nat → Bool) : Bool := !allB S (fun x => allB last (fit x))
def failX (S last : Nat) (fit : Nat → Nat → Bool) : Nat := if failB S last fit then firstNo S (fun x => allB last (fit x)) else 0
def failY (S last : Nat) (fit : Nat → Nat → Bool) : Nat := if failB S last fit then firstNo last (fit (failX S last fit)) else 0
theorem fail_hit {S last x y : Nat} {fit : Nat → Nat → Bool} (hx : x < S) (hy : y < last) (h1 : ∀ x', x' < x → allB last (fit x') = true) (h2 : ∀ y', y' < y → fit x y' = true) (h3 : fit x y = false) :
    failB S last fit = true ∧ failX S last fit = x ∧ failY S last fit = y := by
  have e0 : allB last (fit x) = false := not_all hy h3
  have e1 : failB S last fit = true := by unfold failB; rw [not_all (p := fun x => allB last (fit x)) hx e0]; rfl
  have e2 : failX S last fit = x := by unfold failX; rw [if_pos e1]; exact firstNo_hit hx h1 e0
  refine ⟨e1, e2, ?_⟩
  unfold failY; rw [if_pos e1, e2]; exact firstNo_hit hy h2 h3
theorem fail_none {S last : Nat} {fit : Nat → Nat → Bool} (h : ∀ x, x < S → allB last (fit x) = true) : failB S last fit = false ∧ failX S last fit = 0 ∧ failY S last fit = 0 := by
  have e1 : failB S last fit = false := by unfold failB; rw [allB_iff.2 h]; rfl
  exact ⟨e1, by unfold failX; rw [e1]; rfl, by unfold failY; rw [e1]; rfl⟩
theorem fail_at {S last : Nat} {fit : Nat → Nat → Bool} (h : failB S last fit = true) : failX S last fit < S ∧ failY S last fit < last ∧ fit (failX S last fit) (failY S last fit) = false := by
  have h0 : allB S (fun x => allB last (fit x)) = false := by unfold failB at h; simpa using h
  obtain ⟨u, hu, hf⟩ := not_allB h0
  obtain ⟨a1, a2, a3⟩ := firstNo_spec S (fun x => allB last (fit x))
  have hx : failX S last fit = firstNo S (fun x => allB last (fit x)) := by unfold failX; rw [if_pos h]
  have hlt : firstNo S (fun x => allB last (fit x)) < S := by
    rcases Nat.lt_or_ge (firstNo S (fun x => allB last (fit x))) S with h1 | h1
    · exact h1
    · have := a2 u (by omega); rw [hf] at this; cases this
  have hxf := a3 hlt
  rw [← hx] at hlt hxf
  obtain ⟨y, hy, hyf⟩ := not_allB hxf
  obtain ⟨b1, b2, b3⟩ := firstNo_spec last (fit (failX S last fit))
  have hyv : failY S last fit = firstNo last (fit (failX S last fit)) := by unfold failY; rw [if_pos h]
  have hyl : firstNo last (fit (failX S last fit)) < last := by
    rcases Nat.lt_or_ge (firstNo last (fit (failX S last fit))) last with h1 | h1
    · exact h1
    · have := b2 y (by omega); rw [hyf] at this; cases this
  exact ⟨hlt, by rw [hyv]; exact hyl, by rw [hyv]; exact b3 hyl⟩
theorem fail_ok {S last : Nat} {fit : Nat → Nat → Bool} (h : failB S last fit = false) {x y : Nat} (hx : x < S) (hy : y < last) : fit x y = true := by
  have h0 : allB S (fun x => allB last (fit x)) = true := by unfold failB at h; simpa using h
  exact allB_iff.1 (allB_iff.1 h0 x hx) y hy

/-! ### the postulates of revision -/
/-- Postulate i (0 to 5) of the table T holds for the belief k at x and y. -/
def rvFit (i k : Nat) (T : Nat → Nat) (x y : Nat) : Bool := match i with
  | 0 => andNot (T x) x == 0
  | 1 => k &&& x == 0 || T x == k &&& x
  | 2 => x == 0 || T x != 0
  | 3 => true
  | 4 => andNot (T x &&& y) (T (x &&& y)) == 0
  | _ => T x &&& y == 0 || andNot (T (x &&& y)) (T x &&& y) == 0
def rvLast (S i : Nat) : Nat := if i < 4 then 1 else S
/-- The error of a table of S entries. -/
def tabErr (S n : Nat) (f : Nat → Nat) : Nat := if n = S then (if allB n (fun v => decide (f v < S)) then 0 else 2) else 3
/-- Postulate i fails somewhere. -/
def rvBad (S k : Nat) (T : Nat → Nat) (i : Nat) : Bool := failB S (rvLast S i) (rvFit i k T)
def rvGood (S k : Nat) (T : Nat → Nat) (i : Nat) : Bool := !rvBad S k T i
/-- The first postulate that fails, of the first i. -/
def rvLow (S k : Nat) (T : Nat → Nat) (i : Nat) : Nat := firstNo i (rvGood S k T)
def rvX (S k : Nat) (T : Nat → Nat) (i : Nat) : Nat := if rvLow S k T i < i then failX S (rvLast S (rvLow S k T i)) (rvFit (rvLow S k T i) k T) else 0
def rvY (S k : Nat) (T : Nat → Nat) (i : Nat) : Nat := if rvLow S k T i < i then failY S (rvLast S (rvLow S k T i)) (rvFit (rvLow S k T i) k T) else 0
theorem rvLow_succ (S k : Nat) (T : Nat → Nat) (i : Nat) : rvLow S k T (i + 1) = if rvLow S k T i < i then rvLow S k T i else if rvGood S k T i then i + 1 else i := rfl
/-- No postulate has failed yet. -/
def rvNone (S k : Nat) (T : Nat → Nat) (i : Nat) : Bool := decide (¬ rvLow S k T i < i)
def rvMask (S k : Nat) (T : Nat → Nat) (i : Nat) : Nat := mkSet i (rvGood S k T)
theorem rv_good {S k : Nat} {T : Nat → Nat} {i : Nat} (h : rvBad S k T i = false) : rvX S k T (i + 1) = rvX S k T i ∧ rvY S k T (i + 1) = rvY S k T i ∧ rvNone S k T (i + 1) = rvNone S k T i ∧ rvMask S k T (i + 1) = rvMask S k T i ||| 2 ^ i := by
  have hg : rvGood S k T i = true := by unfold rvGood; rw [h]; rfl
  have hle := (firstNo_spec i (rvGood S k T)).1
  refine ⟨?_, ?_, ?_, mkSet_succ_yes hg⟩
  all_goals
    by_cases hlt : rvLow S k T i < i
    · have e : rvLow S k T (i + 1) = rvLow S k T i := if_pos hlt
      first
        | (unfold rvX; rw [e, if_pos hlt, if_pos (by omega)])
        | (unfold rvY; rw [e, if_pos hlt, if_pos (by omega)])
        | (unfold rvNone; rw [e, decide_eq_false (by omega), decide_eq_false (by omega)])
    · have e : rvLow S k T (i + 1) = i + 1 := by
        rw [rvLow_succ, if_neg hlt, if_pos hg]
      first
        | (unfold rvX; rw [e, if_neg hlt, if_neg (by omega)])
        | (unfold rvY; rw [e, if_neg hlt, if_neg (by omega)])
        | (unfold rvNone; rw [e, decide_eq_true hlt, decide_eq_true (by omega)])
theorem rv_bad_first {S k : Nat} {T : Nat → Nat} {i : Nat} (h : rvBad S k T i = true) (hn : rvNone S k T i = true) : rvX S k T (i + 1) = failX S (rvLast S i) (rvFit i k T) ∧ rvY S k T (i + 1) = failY S (rvLast S i) (rvFit i k T) ∧ rvNone S k T (i + 1) = false ∧ rvMask S k T (i + 1) = rvMask S k T i := by
  have hg : rvGood S k T i = false := by unfold rvGood; rw [h]; rfl
  have hlt : ¬ rvLow S k T i < i := of_decide_eq_true hn
  have e : rvLow S k T (i + 1) = i := by
    rw [rvLow_succ, if_neg hlt, hg]; rfl
  refine ⟨?_, ?_, ?_, mkSet_succ_no hg⟩
  · unfold rvX; rw [e, if_pos (by omega)]
  · unfold rvY; rw [e, if_pos (by omega)]
  · unfold rvNone; rw [e]; exact decide_eq_false (by omega)
theorem rv_bad_later {S k : Nat} {T : Nat → Nat} {i : Nat} (h : rvBad S k T i = true) (hn : rvNone S k T i = false) : rvX S k T (i + 1) = rvX S k T i ∧ rvY S k T (i + 1) = rvY S k T i ∧ rvNone S k T (i + 1) = false ∧ rvMask S k T (i + 1) = rvMask S k T i := by
  have hg : rvGood S k T i = false := by unfold rvGood; rw [h]; rfl
  have hlt : rvLow S k T i < i := by have := of_decide_eq_false hn; omega
  have e : rvLow S k T (i + 1) = rvLow S k T i := if_pos hlt
  refine ⟨?_, ?_, ?_, mkSet_succ_no hg⟩
  · unfold rvX; rw [e, if_pos hlt, if_pos (by omega)]
  · unfold rvY; rw [e, if_pos hlt, if_pos (by omega)]
  · unfold rvNone; rw [e]; exact decide_eq_false (by omega)
end Go.Proofs.Ytahaimecchdfeaa

/-
  Plain facts of layer 54: floods: who has crashed, who is reached, what is known, the states, the facts.
-/
namespace Go.Proofs.Ytahaimecchdfeaa
open Go.RowKit

/-- Whether a process has crashed. -/
def goB (rd : Nat → Int) (i t : Nat) : Bool := rd i != 0 && decide (rd i ≤ (t : Int))
/-- Whether a process sends to another one in a round. -/
def reB (rd tv : Nat → Int) (i k t : Nat) : Bool := !goB rd i t || (rd i == (t : Int) && (tv i).toNat.testBit k)
def mvB (rd tv : Nat → Int) (t i k : Nat) : Bool := i != k && reB rd tv i k t && !goB rd k t
/-- What a process knows after the messages of the first i. -/
def orU (rd tv : Nat → Int) (t : Nat) (f : Nat → Nat) (k : Nat) : Nat → Nat
  | 0 => f k
  | i + 1 => if mvB rd tv t i k then orU rd tv t f k i ||| f i else orU rd tv t f k i
theorem orU_yes {rd tv : Nat → Int} {t i k : Nat} {f : Nat → Nat} (h : mvB rd tv t i k = true) : orU rd tv t f k (i + 1) = orU rd tv t f k i ||| f i := if_pos h
theorem orU_no {rd tv : Nat → Int} {t i k : Nat} {f : Nat → Nat} (h : mvB rd tv t i k = false) : orU rd tv t f k (i + 1) = orU rd tv t f k i := if_neg (by rw [h]; decide)
/-- What a process knows at a time. -/
def kn (rd tv : Nat → Int) (n : Nat) : Nat → Nat → Nat
  | 0, k => 2 ^ k
  | t + 1, k => orU rd tv (t + 1) (kn rd tv n t) k n
/-- .. while the rows are gone through: i rows, and k columns of the next one. -/
def orR (rd tv : Nat → Int) (t : Nat) (f : Nat → Nat) (i j : Nat) : Nat → Nat := fun k => if k < j then orU rd tv t f k (i + 1) else orU rd tv t f k i
theorem orU_lt {rd tv : Nat → Int} {t n : Nat} {f : Nat → Nat} (hf : ∀ k, k < n → f k < 2 ^ n) {k : Nat} (hk : k < n) : ∀ i, i ≤ n → orU rd tv t f k i < 2 ^ n
  | 0, _ => hf k hk
  | i + 1, hi => by
    have h1 := orU_lt (rd := rd) (tv := tv) (t := t) hf hk i (by omega)
    have h2 := hf i (by omega)
    unfold orU
    by_cases h : mvB rd tv t i k = true
    · rw [if_pos h]; exact Nat.or_lt_two_pow h1 h2
    · rw [if_neg h]; exact h1
theorem kn_lt (rd tv : Nat → Int) (n : Nat) : ∀ t k, k < n → kn rd tv n t k < 2 ^ n
  | 0, k, hk => Nat.pow_lt_pow_right (by decide) hk
  | t + 1, k, hk => orU_lt (fun k hk => kn_lt rd tv n t k hk) hk n (Nat.le_refl _)
theorem orR_set {rd tv : Nat → Int} {t i k : Nat} {f : Nat → Nat} (u : Nat) : orR rd tv t f i (k + 1) u = if u = k then orU rd tv t f k (i + 1) else orR rd tv t f i k u := by
  unfold orR
  by_cases h : u = k
  · subst h; rw [if_pos (by omega), if_pos rfl]
  · rw [if_neg h]
    by_cases h2 : u < k
    · rw [if_pos (by omega), if_pos h2]
    · rw [if_neg (by omega), if_neg h2]
theorem orR_zero {rd tv : Nat → Int} {t i : Nat} {f : Nat → Nat} (u : Nat) : orR rd tv t f i 0 u = orU rd tv t f u i := if_neg (Nat.not_lt_zero _)
theorem orR_end {rd tv : Nat → Int} {t i n : Nat} {f : Nat → Nat} {u : Nat} (h : u < n) : orR rd tv t f i n u = orU rd tv t f u (i + 1) := if_pos h
/-- The digits of a state. -/
def dgS (x kb : Nat) : Nat → Nat
  | 0 => 0
  | k + 1 => dgS x kb k + (if kb.testBit k then 3 ^ k * (1 + (if x.testBit k then 1 else 0)) else 0)
theorem dgS_lt (x kb : Nat) : ∀ k, dgS x kb k < 3 ^ k
  | 0 => Nat.zero_lt_one
  | k + 1 => by
    have h := dgS_lt x kb k
    have e : 3 ^ (k + 1) = 3 ^ k * 3 := Nat.pow_succ 3 k
    unfold dgS
    by_cases h1 : kb.testBit k = true
    · rw [if_pos h1]
      by_cases h2 : x.testBit k = true
      · rw [if_pos h2]; omega
      · rw [if_neg h2]; omega
    · rw [if_neg h1]; omega
def stN (rd tv : Nat → Int) (n x t i : Nat) : Nat := if goB rd i t then 0 else 1 + t * 3 ^ n + dgS x (kn rd tv n t i) n
def fcN (rd : Nat → Int) (n x t : Nat) : Nat → Nat
  | 0 => x
  | i + 1 => if goB rd i t then fcN rd n x t i else fcN rd n x t i ||| 2 ^ (n + i)
theorem fcN_lt {rd : Nat → Int} {n x t : Nat} (hx : x < 2 ^ (n + n)) : ∀ i, i ≤ n → fcN rd n x t i < 2 ^ (n + n)
  | 0, _ => hx
  | i + 1, hi => by
    have h := fcN_lt (rd := rd) (t := t) hx i (by omega)
    unfold fcN
    by_cases h1 : goB rd i t = true
    · rw [if_pos h1]; exact h
    · rw [if_neg h1]; exact Nat.or_lt_two_pow h (Nat.pow_lt_pow_right (by decide) (by omega))
theorem three_le {n : Nat} (hn : n ≤ 4) : 3 ^ n ≤ 81 := Nat.pow_le_pow_right (n := 3) (j := 4) (by decide) hn
theorem stN_le {rd tv : Nat → Int} {n x t i : Nat} (hn : n ≤ 4) (ht : t ≤ 3) : stN rd tv n x t i ≤ 400 := by
  unfold stN
  have h := dgS_lt x (kn rd tv n t i) n
  have h3 := three_le hn
  by_cases h1 : goB rd i t = true
  · rw [if_pos h1]; omega
  · rw [if_neg h1]
    have : t * 3 ^ n ≤ 3 * 81 := Nat.mul_le_mul ht h3
    omega
/-- Whether an element of the crashes is refused. -/
def crR (n R : Nat) (rd tv : Nat → Int) (i : Nat) : Bool :=
  decide (rd i < 0) || decide ((R : Int) < rd i) || decide (tv i < 0) || decide (((2 ^ n : Nat) : Int) ≤ tv i) || (tv i).toNat.testBit i || (rd i == 0 && tv i != 0)
/-- The error of a flood. -/
def flE (n R x : Int) (m : Nat) (rd tv : Nat → Int) : Nat :=
  if (2 ≤ n ∧ n ≤ 4 ∧ 0 ≤ R ∧ R ≤ 3) ∧ 0 ≤ x ∧ x < ((2 ^ n.toNat : Nat) : Int) then (if (m : Int) = n then (if allB m (fun i => !crR n.toNat R.toNat rd tv i) then 0 else 2) else 3) else 2
theorem flE_ok {n R x : Int} {m : Nat} {rd tv : Nat → Int} (h : flE n R x m rd tv = 0) : ∃ N r X : Nat, n = N ∧ R = r ∧ x = X ∧ m = N ∧ 2 ≤ N ∧ N ≤ 4 ∧ r ≤ 3 ∧ X < 2 ^ N ∧ ∀ i, i < N → crR N r rd tv i = false := by
  unfold flE at h
  by_cases h1 : (2 ≤ n ∧ n ≤ 4 ∧ 0 ≤ R ∧ R ≤ 3) ∧ 0 ≤ x ∧ x < ((2 ^ n.toNat : Nat) : Int)
  · rw [if_pos h1] at h
    by_cases h2 : (m : Int) = n
    · rw [if_pos h2] at h
      by_cases h3 : allB m (fun i => !crR n.toNat R.toNat rd tv i) = true
      · refine ⟨n.toNat, R.toNat, x.toNat, by omega, by omega, by omega, by omega, by omega, by omega, by omega, by omega, fun i hi => ?_⟩
        have := allB_iff.1 h3 i (by omega)
        simpa using this
      · rw [if_neg h3] at h; cases h
    · rw [if_neg h2] at h; cases h
  · rw [if_neg h1] at h; cases h
end Go.Proofs.Ytahaimecchdfeaa

/-
  Plain facts: the elements of a set with the least value.
-/
namespace Go.Proofs.Ytahaimecchdfeaa
open Go.RowKit

theorem bit_lt' {s n i : Nat} (hs : s < 2 ^ n) (hi : s.testBit i = true) : i < n := by
  rcases Nat.lt_or_ge i n with h | h
  · exact h
  · rw [Nat.testBit_lt_two_pow (Nat.lt_of_lt_of_le hs (Nat.pow_le_pow_right (by decide) h))] at hi; cases hi
theorem has_bit {s n : Nat} (hs : s < 2 ^ n) (h : s ≠ 0) : ∃ i, i < n ∧ s.testBit i = true := by
  obtain ⟨i, hi⟩ := Nat.exists_testBit_of_ne_zero h
  exact ⟨i, bit_lt' hs hi, hi⟩
/-- What 'least' has after n elements. -/
def leastP (s : Nat) (f : Nat → Int) : Nat → Nat × Int
  | 0 => (0, 0)
  | v + 1 => if s.testBit v = false then leastP s f v
    else if (leastP s f v).1 = 0 ∨ f v < (leastP s f v).2 then (2 ^ v, f v)
    else if f v = (leastP s f v).2 then ((leastP s f v).1 ||| 2 ^ v, (leastP s f v).2)
    else leastP s f v
theorem leastP_lt (s : Nat) (f : Nat → Int) (n : Nat) : (leastP s f n).1 < 2 ^ n := by
  induction n with
  | zero => exact Nat.one_pos
  | succ v ih =>
    have h1 : 2 ^ v < 2 ^ (v + 1) := Nat.pow_lt_pow_right (by decide) (by omega)
    unfold leastP
    split
    · omega
    · split
      · exact h1
      · split
        · exact Nat.or_lt_two_pow (by omega) h1
        · omega

theorem leastP_inv (s : Nat) (f : Nat → Int) (n : Nat) :
    (∀ v, (leastP s f n).1.testBit v = true ↔ v < n ∧ s.testBit v = true ∧ f v = (leastP s f n).2) ∧ (∀ w, w < n → s.testBit w = true → (leastP s f n).2 ≤ f w ∧ (leastP s f n).1 ≠ 0) := by
  induction n with
  | zero => exact ⟨fun v => ⟨fun h => (by rw [show (leastP s f 0).1 = 0 from rfl, Nat.zero_testBit] at h; cases h), fun h => absurd h.1 (Nat.not_lt_zero _)⟩, fun w h => absurd h (Nat.not_lt_zero _)⟩
  | succ n ih =>
    obtain ⟨ih1, ih2⟩ := ih
    have hS : leastP s f (n + 1) = if s.testBit n = false then leastP s f n
      else if (leastP s f n).1 = 0 ∨ f n < (leastP s f n).2 then (2 ^ n, f n)
      else if f n = (leastP s f n).2 then ((leastP s f n).1 ||| 2 ^ n, (leastP s f n).2)
      else leastP s f n := rfl
    have hnz : ∀ m : Nat, (m ||| 2 ^ n) ≠ 0 := fun m h => by
      have := congrArg (fun x => Nat.testBit x n) h
      simp [Nat.testBit_or, Nat.testBit_two_pow_self] at this
    cases hb : s.testBit n
    · rw [hS, if_pos hb]
      refine ⟨fun v => ⟨fun h => ?_, fun h => ?_⟩, fun w hw hsw => ?_⟩
      · have := (ih1 v).1 h; exact ⟨by omega, this.2⟩
      · refine (ih1 v).2 ⟨?_, h.2⟩
        rcases Nat.lt_succ_iff_lt_or_eq.1 h.1 with h1 | rfl
        · exact h1
        · rw [hb] at h; cases h.2.1
      · rcases Nat.lt_succ_iff_lt_or_eq.1 hw with h1 | rfl
        · exact ih2 w h1 hsw
        · rw [hb] at hsw; cases hsw
    · rw [hS, if_neg (by rw [hb]; exact fun h => by cases h)]
      by_cases h1 : (leastP s f n).1 = 0 ∨ f n < (leastP s f n).2
      · rw [if_pos h1]
        have hno : ∀ w, w < n → s.testBit w = true → f n < f w := fun w hw hsw => by
          obtain ⟨h2, h3⟩ := ih2 w hw hsw
          rcases h1 with h1 | h1
          · exact absurd h1 h3
          · omega
        refine ⟨fun v => ⟨fun h => ?_, fun h => ?_⟩, fun w hw hsw => ⟨?_, ?_⟩⟩
        · have : n = v := by simpa [Nat.testBit_two_pow] using h
          subst this; exact ⟨by omega, hb, rfl⟩
        · rcases Nat.lt_succ_iff_lt_or_eq.1 h.1 with h2 | rfl
          · have := hno v h2 h.2.1; have := h.2.2; omega
          · exact Nat.testBit_two_pow_self
        · rcases Nat.lt_succ_iff_lt_or_eq.1 hw with h2 | rfl
          · exact Int.le_of_lt (hno w h2 hsw)
          · exact Int.le_refl _
        · have := Nat.two_pow_pos n; show 2 ^ n ≠ 0; omega
      · rw [if_neg h1]
        by_cases h2 : f n = (leastP s f n).2
        · rw [if_pos h2]
          refine ⟨fun v => ⟨fun h => ?_, fun h => ?_⟩, fun w hw hsw => ⟨?_, hnz _⟩⟩
          · have h' : (leastP s f n).1.testBit v = true ∨ n = v := by simpa [Nat.testBit_or, Nat.testBit_two_pow] using h
            rcases h' with h' | rfl
            · have := (ih1 v).1 h'; exact ⟨by omega, this.2⟩
            · exact ⟨by omega, hb, h2⟩
          · show ((leastP s f n).1 ||| 2 ^ n).testBit v = true
            rw [Nat.testBit_or]
            rcases Nat.lt_succ_iff_lt_or_eq.1 h.1 with h3 | rfl
            · rw [(ih1 v).2 ⟨h3, h.2⟩]; rfl
            · simp [Nat.testBit_two_pow_self]
          · rcases Nat.lt_succ_iff_lt_or_eq.1 hw with h3 | rfl
            · exact (ih2 w h3 hsw).1
            · show (leastP s f w).2 ≤ f w; omega
        · rw [if_neg h2]
          refine ⟨fun v => ⟨fun h => ?_, fun h => ?_⟩, fun w hw hsw => ?_⟩
          · have := (ih1 v).1 h; exact ⟨by omega, this.2⟩
          · refine (ih1 v).2 ⟨?_, h.2⟩
            rcases Nat.lt_succ_iff_lt_or_eq.1 h.1 with h3 | rfl
            · exact h3
            · exact absurd h.2.2 h2
          · rcases Nat.lt_succ_iff_lt_or_eq.1 hw with h3 | rfl
            · exact ih2 w h3 hsw
            · refine ⟨?_, fun h => h1 (.inl h)⟩
              have : ¬ f w < (leastP s f w).2 := fun h => h1 (.inr h)
              omega
/-- The set that 'least' returns: the elements with the least value. -/
theorem least_bit (s : Nat) (f : Nat → Int) (n v : Nat) : (leastP s f n).1.testBit v = true ↔ v < n ∧ s.testBit v = true ∧ ∀ w, w < n → s.testBit w = true → f v ≤ f w := by
  obtain ⟨h1, h2⟩ := leastP_inv s f n
  rw [h1]
  constructor
  · rintro ⟨a, b, c⟩
    exact ⟨a, b, fun w hw hsw => by rw [c]; exact (h2 w hw hsw).1⟩
  · rintro ⟨a, b, c⟩
    refine ⟨a, b, ?_⟩
    have h3 := h2 v a b
    obtain ⟨i, hi, hib⟩ := has_bit (leastP_lt s f n) h3.2
    obtain ⟨a', b', c'⟩ := (h1 i).1 hib
    have := c i a' b'
    omega

end Go.Proofs.Ytahaimecchdfeaa

/-
  Plain facts: ranks without gaps: counting, sorting.
-/
namespace Go.Proofs.Ytahaimecchdfeaa
open Go.RowKit

/-- How many of 0 .. n - 1. -/
def cntB : Nat → (Nat → Bool) → Nat
  | 0, _ => 0
  | k + 1, p => if p k = true then cntB k p + 1 else cntB k p
theorem cntB_le (n : Nat) (p : Nat → Bool) : cntB n p ≤ n := by
  induction n with
  | zero => exact Nat.le_refl _
  | succ k ih => unfold cntB; split <;> omega
theorem cntB_mono {n : Nat} {p q : Nat → Bool} (h : ∀ u, u < n → p u = true → q u = true) : cntB n p ≤ cntB n q := by
  induction n with
  | zero => exact Nat.le_refl _
  | succ k ih =>
    have := ih fun u hu => h u (by omega)
    unfold cntB
    by_cases hp : p k = true
    · rw [if_pos hp, if_pos (h k (by omega) hp)]; omega
    · rw [if_neg hp]; split <;> omega
theorem cntB_lt {n : Nat} {p q : Nat → Bool} (h : ∀ u, u < n → p u = true → q u = true) {x : Nat} (hx : x < n) (h1 : p x = false) (h2 : q x = true) : cntB n p < cntB n q := by
  induction n with
  | zero => omega
  | succ k ih =>
    unfold cntB
    rcases Nat.lt_succ_iff_lt_or_eq.1 hx with h3 | rfl
    · have := ih (fun u hu => h u (by omega)) h3
      by_cases hp : p k = true
      · rw [if_pos hp, if_pos (h k (by omega) hp)]; omega
      · rw [if_neg hp]; split <;> omega
    · have := cntB_mono (n := x) (p := p) (q := q) fun u hu => h u (by omega)
      rw [if_neg (by rw [h1]; exact fun h => by cases h), if_pos h2]; omega
theorem cntB_congr {n : Nat} {p q : Nat → Bool} (h : ∀ u, u < n → p u = q u) : cntB n p = cntB n q := by
  induction n with
  | zero => rfl
  | succ k ih => unfold cntB; rw [h k (by omega), ih fun u hu => h u (by omega)]
theorem cntB_all (n : Nat) : cntB n (fun _ => true) = n := by
  induction n with
  | zero => rfl
  | succ k ih => unfold cntB; rw [if_pos rfl, ih]
theorem cntB_filter (n : Nat) (p : Nat → Bool) : cntB n p = ((List.range n).filter p).length := by
  induction n with
  | zero => rfl
  | succ k ih =>
    unfold cntB
    rw [List.range_succ, List.filter_append, List.length_append, ih]
    by_cases hp : p k = true
    · rw [if_pos hp]; simp [hp]
    · rw [if_neg hp]; simp [hp]
theorem allB_congr {n : Nat} {p q : Nat → Bool} (h : ∀ u, u < n → p u = q u) : allB n p = allB n q := by
  rw [Bool.eq_iff_iff, allB_iff, allB_iff]
  exact ⟨fun a u hu => by rw [← h u hu]; exact a u hu, fun a u hu => by rw [h u hu]; exact a u hu⟩

/-- u comes first with its value, which is less than that of v. -/
def canB (f : Nat → Int) (v u : Nat) : Bool := decide (f u < f v) && allB u (fun x => f x != f u)
/-- The rank of v without gaps. -/
def canF (n : Nat) (f : Nat → Int) (v : Nat) : Nat := cntB n (canB f v)
theorem canB_iff {f : Nat → Int} {v u : Nat} : canB f v u = true ↔ f u < f v ∧ allB u (fun x => f x != f u) = true := by unfold canB; simp
theorem canF_lt {n v : Nat} {f : Nat → Int} (hv : v < n) : canF n f v < n := by
  have := cntB_lt (n := n) (p := canB f v) (q := fun _ => true) (fun _ _ _ => rfl) hv (by unfold canB; simp) rfl
  rw [cntB_all] at this; exact this
theorem first_of (f : Nat → Int) (u : Nat) : ∃ x, x ≤ u ∧ f x = f u ∧ allB x (fun y => f y != f x) = true := by
  induction u using Nat.strongRecOn with
  | _ u ih =>
    cases h : allB u (fun y => f y != f u)
    · obtain ⟨y, hy, he⟩ := not_allB h
      have he : f y = f u := by simpa using he
      obtain ⟨x, h1, h2, h3⟩ := ih y hy
      exact ⟨x, by omega, h2.trans he, h3⟩
    · exact ⟨u, Nat.le_refl _, rfl, h⟩
theorem canF_mono {n u v : Nat} {f : Nat → Int} (hu : u < n) (h : f u < f v) : canF n f u < canF n f v := by
  obtain ⟨x, h1, h2, h3⟩ := first_of f u
  refine cntB_lt (x := x) (fun y _ hy => ?_) (by omega) ?_ (canB_iff.2 ⟨by omega, h3⟩)
  · have := canB_iff.1 hy; exact canB_iff.2 ⟨by omega, this.2⟩
  · cases hc : canB f u x
    · rfl
    · have := canB_iff.1 hc; omega
theorem canF_eq {n u v : Nat} {f : Nat → Int} (h : f u = f v) : canF n f u = canF n f v := by
  unfold canF; refine cntB_congr fun x _ => ?_
  unfold canB; rw [h]
theorem canF_iff {n u v : Nat} {f : Nat → Int} (hu : u < n) (hv : v < n) : canF n f u < canF n f v ↔ f u < f v := by
  constructor
  · intro h
    rcases Int.lt_trichotomy (f u) (f v) with h1 | h1 | h1
    · exact h1
    · rw [canF_eq h1] at h; omega
    · have := canF_mono (n := n) hv h1; omega
  · exact canF_mono hu
theorem canF_le_iff {n u v : Nat} {f : Nat → Int} (hu : u < n) (hv : v < n) : canF n f u ≤ canF n f v ↔ f u ≤ f v := by
  have := canF_iff (f := f) hv hu; omega
theorem canF_congr {n v : Nat} {f g : Nat → Int} (hv : v < n) (h : ∀ x y, x < n → y < n → (f x < f y ↔ g x < g y)) : canF n f v = canF n g v := by
  refine cntB_congr fun u hu => ?_
  have e1 : decide (f u < f v) = decide (g u < g v) := by rw [decide_eq_decide]; exact h u v hu hv
  have e2 : allB u (fun x => f x != f u) = allB u (fun x => g x != g u) := allB_congr fun x hx => by
    have h1 := h x u (by omega) hu
    have h2 := h u x hu (by omega)
    rw [Bool.eq_iff_iff, bne_iff_ne, bne_iff_ne]; omega
  unfold canB; rw [e1, e2]
theorem canF_idem {n v : Nat} {f : Nat → Int} (hv : v < n) : canF n (fun u => (canF n f u : Int)) v = canF n f v :=
  canF_congr hv fun x y hx hy => by rw [← canF_iff (f := f) hx hy]; omega
/-- The least elements depend on the order alone. -/
theorem least_congr {s n : Nat} {f g : Nat → Int} (h : ∀ x y, x < n → y < n → (f x ≤ f y ↔ g x ≤ g y)) : (leastP s f n).1 = (leastP s g n).1 := by
  apply Nat.eq_of_testBit_eq
  intro i
  rw [Bool.eq_iff_iff, least_bit, least_bit]
  constructor
  · rintro ⟨a, b, c⟩; exact ⟨a, b, fun w hw hs => (h i w a hw).1 (c w hw hs)⟩
  · rintro ⟨a, b, c⟩; exact ⟨a, b, fun w hw hs => (h i w a hw).2 (c w hw hs)⟩
theorem least_can {s n : Nat} {f : Nat → Int} : (leastP s (fun u => (canF n f u : Int)) n).1 = (leastP s f n).1 :=
  least_congr fun x y hx hy => by rw [← canF_le_iff (f := f) hx hy]; omega

/-! ### the place in the sorted list -/
theorem upTo_spec (d : Array Int) (hs : ∀ i j, i ≤ j → j < d.size → d[i]! ≤ d[j]!) (m : Nat) (hm : m ≤ d.size) :
    (Lib.compactUpTo d m).Pairwise (· < ·) ∧ (∀ x, x ∈ Lib.compactUpTo d m ↔ ∃ j, j < m ∧ d[j]! = x) := by
  induction m with
  | zero => exact ⟨by simp [Lib.compactUpTo], fun x => by simp [Lib.compactUpTo]⟩
  | succ m ih =>
    obtain ⟨i1, i2⟩ := ih (by omega)
    rw [Lib.compactUpTo_succ]
    by_cases hk : Lib.keeps d m = true
    · rw [if_pos hk]
      have hk' : m = 0 ∨ d[m]! ≠ d[m - 1]! := by simpa [Lib.keeps] using hk
      constructor
      · rw [List.pairwise_append]
        refine ⟨i1, by simp, fun x hx y hy => ?_⟩
        obtain rfl : y = d[m]! := by simpa using hy
        obtain ⟨j, hj, rfl⟩ := (i2 x).1 hx
        have h1 := hs j (m - 1) (by omega) (by omega)
        have h2 := hs (m - 1) m (by omega) (by omega)
        rcases hk' with h | h <;> omega
      · intro x
        rw [List.mem_append, i2]
        constructor
        · rintro (⟨j, hj, rfl⟩ | h)
          · exact ⟨j, by omega, rfl⟩
          · exact ⟨m, by omega, (by simpa using h : x = d[m]!).symm⟩
        · rintro ⟨j, hj, rfl⟩
          rcases Nat.lt_succ_iff_lt_or_eq.1 hj with h | rfl
          · exact .inl ⟨j, h, rfl⟩
          · exact .inr (by simp)
    · rw [if_neg hk, List.append_nil]
      have hk' : ¬ (m = 0 ∨ d[m]! ≠ d[m - 1]!) := by simpa [Lib.keeps] using hk
      have h0 : m ≠ 0 := fun h => hk' (.inl h)
      have h1 : d[m]! = d[m - 1]! := Classical.byContradiction fun h => hk' (.inr h)
      refine ⟨i1, fun x => ?_⟩
      rw [i2]
      constructor
      · rintro ⟨j, hj, rfl⟩; exact ⟨j, by omega, rfl⟩
      · rintro ⟨j, hj, rfl⟩
        rcases Nat.lt_succ_iff_lt_or_eq.1 hj with h | rfl
        · exact ⟨j, h, rfl⟩
        · exact ⟨j - 1, by omega, h1.symm⟩
theorem idxFrom_sorted : ∀ (l : List Int) (x : Int) (i : Nat), l.Pairwise (· < ·) → x ∈ l → Lib.idxFrom l x i = ((i + (l.filter (fun y => decide (y < x))).length : Nat) : Int)
  | [], x, i, _, h => by cases h
  | z :: zs, x, i, hp, h => by
    rw [List.pairwise_cons] at hp
    unfold Lib.idxFrom
    by_cases hz : z = x
    · subst hz
      rw [if_pos rfl]
      have : (z :: zs).filter (fun y => decide (y < z)) = [] := by
        rw [List.filter_eq_nil_iff]
        intro y hy
        rcases List.mem_cons.1 hy with rfl | hy
        · simp
        · have := hp.1 y hy; simp; omega
      rw [this]; simp
    · rw [if_neg hz]
      have hx : x ∈ zs := by
        rcases List.mem_cons.1 h with h | h
        · exact absurd h.symm hz
        · exact h
      rw [idxFrom_sorted zs x (i + 1) hp.2 hx]
      have hlt := hp.1 x hx
      rw [List.filter_cons, if_pos (by simpa using hlt), List.length_cons]
      congr 1; omega
/-- The values of the ranks, in order. -/
def zsOf (f : Nat → Int) (n : Nat) : List Int := (List.range n).map f
theorem zsOf_length (f : Nat → Int) (n : Nat) : (zsOf f n).length = n := by simp [zsOf]
theorem zsOf_mem {f : Nat → Int} {n : Nat} {x : Int} : x ∈ zsOf f n ↔ ∃ u, u < n ∧ f u = x := by simp [zsOf]
theorem zsOf_getD {f : Nat → Int} {n u : Nat} (h : u < n) : (zsOf f n).getD u 0 = f u := by simp [zsOf, h]
def sortZ (l : List Int) : List Int := l.mergeSort fun x y => decide (x ≤ y)
theorem sortZ_perm (l : List Int) : (sortZ l).Perm l := List.mergeSort_perm _ _
theorem sortZ_le (l : List Int) : (sortZ l).Pairwise (· ≤ ·) := by
  have := List.pairwise_mergeSort (le := fun x y : Int => decide (x ≤ y)) (fun a b c h1 h2 => by simp only [decide_eq_true_eq] at h1 h2 ⊢; omega) (fun a b => by simp only [Bool.or_eq_true, decide_eq_true_eq]; omega) l
  exact this.imp (fun h => by simpa using h)
theorem compact_sorted (l : List Int) : (Lib.compact (sortZ l)).Pairwise (· < ·) ∧ ∀ x, x ∈ Lib.compact (sortZ l) ↔ x ∈ l := by
  have hs : ∀ i j, i ≤ j → j < (sortZ l).toArray.size → (sortZ l).toArray[i]! ≤ (sortZ l).toArray[j]! := by
    intro i j hij hj
    have hj' : j < (sortZ l).length := by simpa using hj
    rcases Nat.lt_or_ge i j with h | h
    · have := List.pairwise_iff_getElem.1 (sortZ_le l) i j (by omega) hj' h
      simpa [hj', show i < (sortZ l).length by omega] using this
    · obtain rfl : i = j := by omega
      exact Int.le_refl _
  obtain ⟨h1, h2⟩ := upTo_spec (sortZ l).toArray hs (sortZ l).length (by simp)
  refine ⟨h1, fun x => ?_⟩
  rw [← (sortZ_perm l).mem_iff]
  refine (h2 x).trans ?_
  rw [List.mem_iff_getElem]
  constructor
  · rintro ⟨j, hj, he⟩
    exact ⟨j, hj, by simpa [hj] using he⟩
  · rintro ⟨j, hj, he⟩
    exact ⟨j, hj, by simpa [hj] using he⟩
/-- The place of a value among the sorted ones. -/
theorem idx_can {f : Nat → Int} {n v : Nat} (hv : v < n) : Lib.idxOf (Lib.compact (sortZ (zsOf f n))) (f v) = (canF n f v : Nat) := by
  obtain ⟨h1, h2⟩ := compact_sorted (zsOf f n)
  unfold Lib.idxOf
  rw [idxFrom_sorted _ _ _ h1 ((h2 _).2 (zsOf_mem.2 ⟨v, hv, rfl⟩)), Nat.zero_add]
  congr 1
  unfold canF
  rw [cntB_filter, ← @List.length_map _ _ ((List.range n).filter (canB f v)) f]
  refine List.Perm.length_eq ((List.perm_ext_iff_of_nodup ?_ ?_).2 fun x => ?_)
  · exact (h1.filter _).imp fun h => Int.ne_of_lt h
  · rw [List.nodup_iff_pairwise_ne, List.pairwise_map, List.pairwise_filter]
    refine List.pairwise_lt_range.imp fun {a b} hab _ hb => ?_
    have := allB_iff.1 (canB_iff.1 hb).2 a hab
    simpa using this
  · rw [List.mem_filter, h2, zsOf_mem, List.mem_map]
    constructor
    · rintro ⟨⟨u, hu, rfl⟩, hlt⟩
      obtain ⟨y, y1, y2, y3⟩ := first_of f u
      refine ⟨y, ?_, y2⟩
      rw [List.mem_filter, List.mem_range]
      exact ⟨by omega, canB_iff.2 ⟨by have : f u < f v := by simpa using hlt
                                      omega, y3⟩⟩
    · rintro ⟨u, hu, rfl⟩
      rw [List.mem_filter, List.mem_range] at hu
      exact ⟨⟨u, hu.1, rfl⟩, by simpa using (canB_iff.1 hu.2).1⟩
end Go.Proofs.Ytahaimecchdfeaa

/-
  Plain facts of layer 54: clean rounds, and what all know behind one.
-/
namespace Go.Proofs.Ytahaimecchdfeaa
open Go.RowKit

/-- The first clean round, or 0. -/
def clN (rd : Nat → Int) (n : Nat) : Nat → Nat
  | 0 => 0
  | R + 1 => if clN rd n R ≠ 0 then clN rd n R else if allB n (fun i => rd i != ((R + 1 : Nat) : Int)) then R + 1 else 0
def clV (R : Int) (rd : Nat → Int) (n : Nat) : Nat := if 1 ≤ R ∧ R ≤ 3 then clN rd n R.toNat else 0
theorem clN_le (rd : Nat → Int) (n : Nat) : ∀ R, clN rd n R ≤ R
  | 0 => Nat.le_refl _
  | R + 1 => by
    have := clN_le rd n R
    unfold clN
    split
    · omega
    · split <;> omega
theorem clN_keep {rd : Nat → Int} {n R : Nat} (h : clN rd n R ≠ 0) : ∀ d, clN rd n (R + d) = clN rd n R
  | 0 => rfl
  | d + 1 => by
    have ih := clN_keep h d
    show (if clN rd n (R + d) ≠ 0 then clN rd n (R + d) else if allB n (fun i => rd i != ((R + d + 1 : Nat) : Int)) then R + d + 1 else 0) = _
    rw [ih, if_pos h]
theorem clN_hit {rd : Nat → Int} {n R : Nat} (h0 : clN rd n R = 0) (h : allB n (fun i => rd i != ((R + 1 : Nat) : Int)) = true) : clN rd n (R + 1) = R + 1 := by
  unfold clN; rw [if_neg (by rw [h0]; exact fun h => h rfl), if_pos h]
theorem clN_miss {rd : Nat → Int} {n R : Nat} (h0 : clN rd n R = 0) (h : allB n (fun i => rd i != ((R + 1 : Nat) : Int)) = false) : clN rd n (R + 1) = 0 := by
  unfold clN; rw [if_neg (by rw [h0]; exact fun h => h rfl), if_neg (by rw [h]; decide)]
theorem clN_clean {rd : Nat → Int} {n : Nat} : ∀ {R}, clN rd n R ≠ 0 → ∀ i, i < n → rd i ≠ ((clN rd n R : Nat) : Int)
  | 0, h => absurd rfl h
  | R + 1, h => by
    by_cases h1 : clN rd n R = 0
    · cases h2 : allB n (fun i => rd i != ((R + 1 : Nat) : Int))
      · exact absurd (clN_miss h1 h2) h
      · rw [clN_hit h1 h2]
        intro i hi
        have := allB_iff.1 h2 i hi
        simpa using this
    · have e : clN rd n (R + 1) = clN rd n R := clN_keep h1 1
      rw [e]
      exact clN_clean h1
/-- With more rounds than crashes there is a clean one. -/
theorem clN_pigeon {rd : Nat → Int} {n : Nat} : ∀ {R}, clN rd n R = 0 → R ≤ cntB n (fun i => decide (1 ≤ rd i ∧ rd i ≤ (R : Int)))
  | 0, _ => Nat.zero_le _
  | R + 1, h => by
    have h1 : clN rd n R = 0 := by
      apply Classical.byContradiction
      intro h1
      have e : clN rd n (R + 1) = clN rd n R := clN_keep h1 1
      rw [e] at h; exact h1 h
    have h2 : allB n (fun i => rd i != ((R + 1 : Nat) : Int)) = false := by
      cases h2 : allB n (fun i => rd i != ((R + 1 : Nat) : Int))
      · rfl
      · rw [clN_hit h1 h2] at h; omega
    obtain ⟨i, hi, he⟩ : ∃ i, i < n ∧ rd i = ((R + 1 : Nat) : Int) := by
      apply Classical.byContradiction
      intro hn
      have : allB n (fun i => rd i != ((R + 1 : Nat) : Int)) = true := allB_iff.2 fun i hi => by
        rw [bne_iff_ne]; exact fun e => hn ⟨i, hi, e⟩
      rw [h2] at this; cases this
    have ih := clN_pigeon h1
    have := cntB_lt (n := n) (p := fun i => decide (1 ≤ rd i ∧ rd i ≤ (R : Int))) (q := fun i => decide (1 ≤ rd i ∧ rd i ≤ ((R + 1 : Nat) : Int))) (fun u _ hu => by
      simp only [decide_eq_true_eq] at hu ⊢; omega) hi (by simp only [decide_eq_false_iff_not]; omega) (by simp only [decide_eq_true_eq]; omega)
    omega
theorem clN_crashed {rd : Nat → Int} {n R : Nat} (h : clN rd n R = 0) : R ≤ cntB n (fun i => decide (0 < rd i)) := by
  have h1 := clN_pigeon h
  have h2 := cntB_mono (n := n) (p := fun i => decide (1 ≤ rd i ∧ rd i ≤ (R : Int))) (q := fun i => decide (0 < rd i)) (fun u _ hu => by
    simp only [decide_eq_true_eq] at hu ⊢; omega)
  omega
/-! ### what all know -/
theorem goB_step {rd : Nat → Int} {i t : Nat} (h : goB rd i (t + 1) = false) : goB rd i t = false := by
  unfold goB at h ⊢
  rw [Bool.and_eq_false_iff] at h ⊢
  rcases h with h | h
  · exact .inl h
  · rw [decide_eq_false_iff_not] at h
    exact .inr (decide_eq_false (by omega))
/-- The union of what the processes of a kind know. -/
def uni (p : Nat → Bool) (f : Nat → Nat) : Nat → Nat
  | 0 => 0
  | i + 1 => if p i then uni p f i ||| f i else uni p f i
theorem uni_has {p : Nat → Bool} {f : Nat → Nat} {k : Nat} (hp : p k = true) : ∀ n, k < n → uni p f n ||| f k = uni p f n
  | 0, h => absurd h (Nat.not_lt_zero _)
  | n + 1, h => by
    unfold uni
    rcases Nat.lt_succ_iff_lt_or_eq.1 h with h1 | rfl
    · have ih := uni_has (f := f) hp n h1
      by_cases hn : p n = true
      · rw [if_pos hn, Nat.or_assoc, Nat.or_comm (f n), ← Nat.or_assoc, ih]
      · rw [if_neg hn, ih]
    · rw [if_pos hp, Nat.or_assoc, Nat.or_self]
theorem orU_uni {rd tv : Nat → Int} {s n k : Nat} {f : Nat → Nat} (hc : ∀ i, i < n → rd i ≠ ((s + 1 : Nat) : Int)) (hk : k < n) (ha : goB rd k (s + 1) = false) :
    ∀ i, i ≤ n → orU rd tv (s + 1) f k i = uni (fun i => !goB rd i (s + 1)) f i ||| f k
  | 0, _ => by show f k = 0 ||| f k; rw [Nat.zero_or]
  | i + 1, hi => by
    have ih := orU_uni (tv := tv) (f := f) hc hk ha i (by omega)
    have hm : mvB rd tv (s + 1) i k = (i != k && !goB rd i (s + 1)) := by
      have hr : reB rd tv i k (s + 1) = !goB rd i (s + 1) := by
        unfold reB
        have : (rd i == ((s + 1 : Nat) : Int)) = false := beq_eq_false_iff_ne.2 (hc i (by omega))
        rw [this, Bool.false_and, Bool.or_false]
      unfold mvB; rw [hr, ha]; simp
    unfold orU uni
    rw [hm]
    cases hg : goB rd i (s + 1)
    · rw [if_pos (show (!false) = true from rfl)]
      by_cases hik : i = k
      · subst hik
        rw [if_neg (by simp), ih, Nat.or_assoc, Nat.or_self]
      · rw [if_pos (by simp [hik]), ih, Nat.or_assoc, Nat.or_assoc, Nat.or_comm (f k)]
    · rw [if_neg (by simp), if_neg (by simp), ih]
/-- After a clean round all that have not crashed know the same. -/
theorem clean_same {rd tv : Nat → Int} {n s : Nat} (hc : ∀ i, i < n → rd i ≠ ((s + 1 : Nat) : Int)) : ∀ d, ∃ K, ∀ k, k < n → goB rd k (s + 1 + d) = false → kn rd tv n (s + 1 + d) k = K
  | 0 => ⟨uni (fun i => !goB rd i (s + 1)) (kn rd tv n s) n, fun k hk ha => by
      show orU rd tv (s + 1) (kn rd tv n s) k n = _
      rw [orU_uni hc hk ha n (Nat.le_refl _)]
      exact uni_has (by simpa using ha) n hk⟩
  | d + 1 => by
    obtain ⟨K, hK⟩ := clean_same (tv := tv) hc d
    obtain ⟨t, ht⟩ : ∃ t, t = s + 1 + d := ⟨_, rfl⟩
    rw [← ht] at hK
    refine ⟨K, fun k hk ha => ?_⟩
    rw [show s + 1 + (d + 1) = t + 1 by omega] at ha ⊢
    show orU rd tv (t + 1) (kn rd tv n t) k n = K
    have h0 := hK k hk (goB_step ha)
    have key : ∀ i, i ≤ n → orU rd tv (t + 1) (kn rd tv n t) k i = K := fun i => by
      induction i with
      | zero => exact fun _ => h0
      | succ i ih =>
        intro hi
        have ih := ih (by omega)
        unfold orU
        by_cases hm : mvB rd tv (t + 1) i k = true
        · rw [if_pos hm, ih]
          have hg : goB rd i t = false := by
            unfold mvB reB at hm
            rw [Bool.and_eq_true, Bool.and_eq_true, Bool.or_eq_true, Bool.and_eq_true] at hm
            rcases hm.1.2 with h | h
            · exact goB_step (by simpa using h)
            · have : rd i = ((t + 1 : Nat) : Int) := by simpa using h.1
              unfold goB
              rw [this, Bool.and_eq_false_iff]
              exact .inr (decide_eq_false (by omega))
          rw [hK i (by omega) hg, Nat.or_self]
        · rw [if_neg hm]; exact ih
    exact key n (Nat.le_refl _)
theorem st_same {rd tv : Nat → Int} {n s : Nat} (hc : ∀ i, i < n → rd i ≠ ((s + 1 : Nat) : Int)) (x d : Nat) : ∃ V, V ≠ 0 ∧ ∀ k, k < n → stN rd tv n x (s + 1 + d) k = if goB rd k (s + 1 + d) then 0 else V := by
  obtain ⟨K, hK⟩ := clean_same (tv := tv) hc d
  refine ⟨1 + (s + 1 + d) * 3 ^ n + dgS x K n, by omega, fun k hk => ?_⟩
  unfold stN
  cases hg : goB rd k (s + 1 + d)
  · rw [hK k hk hg]
  · rfl
end Go.Proofs.Ytahaimecchdfeaa

/-
  Plain facts for the walks: what a call owns, whatever an element's size; runs and lists of runs that a call has made.
-/
namespace Go.Proofs.Ytahaimecchdfeaa
open Go.RowKit

section
variable {w w1 : World} {base base' e e' sz sz' n n' : Nat} {v v' : Value} {xs xs' : List Value} {T : TypeId} {b : Nat} {cs : Array Value}
theorem own_ne' (h : w.ownsRow base e sz v n xs) (h' : w.ownsRow base' e' sz' v' n' xs') (hne : e ≠ e') : v.ownBlock = none ∨ v.ownBlock ≠ v'.ownBlock := by
  rcases h.2 with ⟨rfl, _⟩ | ⟨g, cap, cur, rfl, _, hh, _⟩
  · exact .inl rfl
  · refine .inr ?_
    rcases h'.2 with ⟨rfl, _⟩ | ⟨g', cap', cur', rfl, _, hh', _⟩
    · simp [Value.ownBlock]
    · intro he
      have : g = g' := by simpa [Value.ownBlock] using he
      subst this
      rw [hh] at hh'
      injection hh' with hh'
      injection hh' with _ ht
      exact hne ht
theorem own_below' {B : Nat} (h : w.ownsRow base e sz v n xs) (hb : Below B w w1) (hB : w.heap.size ≤ B) : w1.ownsRow base e sz v n xs := by
  refine ⟨h.1, ?_⟩
  rcases h.2 with h' | ⟨g, cap, cur, hv, hg, hh, r⟩
  · exact .inl h'
  · exact .inr ⟨g, cap, cur, hv, hg, (hb.block g (by have := (Array.getElem?_eq_some_iff.1 hh).1; omega)).trans hh, r⟩
theorem own_mono' (h : w.ownsRow base e sz v n xs) (hb : base' ≤ base) : w.ownsRow base' e sz v n xs := by
  refine ⟨h.1, ?_⟩
  rcases h.2 with h' | ⟨g, cap, cur, hv, hg, r⟩
  · exact .inl h'
  · exact .inr ⟨g, cap, cur, hv, Nat.le_trans hb hg, r⟩
theorem Blk.ne_row' (h : Blk w b T cs) (hr : w.ownsRow base e sz v n xs) (hT : T ≠ e) : v.ownBlock ≠ some b := by
  rcases hr.2 with ⟨rfl, _⟩ | ⟨g, cap, cur, rfl, _, hgb, _⟩
  · simp [Value.ownBlock]
  · intro e'
    obtain rfl : g = b := by simpa [Value.ownBlock] using e'
    have := (show w.heap[g]? = _ from h).symm.trans hgb
    simp at this
    exact hT this.2
theorem own_set' (h : w.ownsRow base e sz v n xs) (hb : Blk w b T cs) (hT : T ≠ e) (k : Nat) (x : Value) : (w.setCell ⟨b, k, none⟩ x).ownsRow base e sz v n xs :=
  h.kept (gr_set w b k x) (.inr (hb.ne_row' h hT))
theorem own_alloc' (h : w.ownsRow base e sz v n xs) (o : Obj) : (w.alloc o).ownsRow base e sz v n xs := own_below' h (below_alloc w o) (Nat.le_refl _)
theorem own_form' (h : w.ownsRow base e sz v n xs) : ∃ A c, v = .slice A n c ∧ ∀ k, k < n * sz → ∃ b, A = some ⟨b, 0, none⟩ ∧ base ≤ b ∧ b < w.heap.size ∧ w.cell? ⟨b, k, none⟩ = xs[k]? := by
  rcases h.2 with ⟨rfl, rfl⟩ | ⟨g, cap, cur, rfl, hg, hh, _, _, _, htake⟩
  · exact ⟨none, 0, rfl, fun k hk => by omega⟩
  · refine ⟨some ⟨g, 0, none⟩, cap, rfl, fun k hk => ⟨g, rfl, hg, (Array.getElem?_eq_some_iff.1 hh).1, ?_⟩⟩
    rw [cell_of_row w g k cur e (0, 0) hh, ← htake, List.getElem?_take, if_pos hk]
    simp
/-- The blocks of a type are as they were. -/
def Keeps (w w1 : World) (T : TypeId) : Prop := ∀ b cs, Blk w b T cs → Blk w1 b T cs
theorem Keeps.refl (w : World) (T : TypeId) : Keeps w w T := fun _ _ h => h
theorem Keeps.trans {w2 : World} (h : Keeps w w1 T) (h' : Keeps w1 w2 T) : Keeps w w2 T := fun b cs hb => h' b cs (h b cs hb)
theorem Keeps.of_below (hb : Below w.heap.size w w1) (T : TypeId) : Keeps w w1 T := fun _ _ h => h.below hb
theorem Keeps.of_set {T' : TypeId} {cs' : Array Value} (hb : Blk w b T' cs') (hT : T ≠ T') (k : Nat) (x : Value) : Keeps w (w.setCell ⟨b, k, none⟩ x) T := fun _ _ h => h.set_ne (h.ne hb hT) k x
theorem Keeps.of_grown (hg : w.grownBy w1 v.ownBlock) (hr : w.ownsRow base e sz v n xs) (hT : T ≠ e) : Keeps w w1 T := fun _ _ h => h.kept hg (h.ne_row' hr hT)
theorem own_keeps (h : w.ownsRow base e sz v n xs) (hk : Keeps w w1 e) : w1.ownsRow base e sz v n xs := by
  refine ⟨h.1, ?_⟩
  rcases h.2 with h' | ⟨g, cap, cur, hv, hg, hh, r⟩
  · exact .inl h'
  · exact .inr ⟨g, cap, cur, hv, hg, hk g cur hh, r⟩
end

theorem below_drew {B : Nat} {a w : World} (h : Below B a w) : Below B a w.drew := ⟨h.os, h.tape, h.output, h.size, h.block⟩
theorem below_trans {w x y : World} (h : Below w.heap.size w x) (h2 : Below x.heap.size x y) : Below w.heap.size w y := h.trans (h2.mono h.size)
theorem below_more {w x : World} (h : Below w.heap.size w x) (o : Obj) : Below w.heap.size w (x.alloc o) := h.alloc h.size o
theorem below_grow {w x y : World} {e sz n : Nat} {v : Value} {xs : List Value} (h : Below w.heap.size w x) (hown : x.ownsRow w.heap.size e sz v n xs) (hg : x.grownBy y v.ownBlock) : Below w.heap.size w y := h.grown hg h.size (fun k hk => (hown.lt k hk).1)
theorem own_from {w x y : World} {e sz n : Nat} {v : Value} {xs : List Value} (h : Below w.heap.size w x) (hown : y.ownsRow x.heap.size e sz v n xs) : y.ownsRow w.heap.size e sz v n xs := own_mono' hown h.size
theorem Blk.new' (w : World) (xs : Array Value) (T : TypeId) (b : Nat) (h : b = w.heap.size) : Blk (w.alloc (.cells xs T)) b T xs := by subst h; exact Blk.new w xs T
theorem Blk.kept_row {w w1 : World} {b : Nat} {T : TypeId} {cs : Array Value} {base e sz n : Nat} {v : Value} {xs : List Value} (h : Blk w b T cs) (hr : w.ownsRow base e sz v n xs) (hT : T ≠ e) (hg : w.grownBy w1 v.ownBlock) : Blk w1 b T cs := h.kept hg (h.ne_row' hr hT)
theorem below_put2 {w x : World} {b : Nat} (h : Below w.heap.size w x) (hb : w.heap.size ≤ b) (u v : Value) : Below w.heap.size w ((x.setCell ⟨b, 0, none⟩ u).setCell ⟨b, 1, none⟩ v) :=
  (h.setCell (p := ⟨b, 0, none⟩) hb u).setCell (p := ⟨b, 1, none⟩) hb v
/-- An append onto what was made since w. -/
theorem below_append {w w1 w2 : World} {B e sz n : Nat} {v : Value} {xs : List Value} {o : Obj} (hb : Below B w w1) (hB : w.heap.size = B) (hown : w1.ownsRow B e sz v n xs) (hg : (w1.alloc o).grownBy w2 v.ownBlock) : Below B w w2 :=
  (hb.alloc (by have := hb.size; omega) o).grown hg (by have := hb.size; simp; omega) (fun k hk => (hown.lt k hk).1)

/-- A box of four cells is written whole. -/
theorem Blk.put4 {w : World} {b : Nat} {T : TypeId} {x0 x1 x2 x3 : Value} (h : Blk w b T #[x0, x1, x2, x3]) (y0 y1 y2 y3 : Value) :
    (w.cell? ⟨b, 0, none⟩ = some x0 ∧ w.frozen? ⟨b, 0, none⟩ = false ∧
    (w.setCell ⟨b, 0, none⟩ y0).cell? ⟨b, 1, none⟩ = some x1 ∧ (w.setCell ⟨b, 0, none⟩ y0).frozen? ⟨b, 1, none⟩ = false ∧
    ((w.setCell ⟨b, 0, none⟩ y0).setCell ⟨b, 1, none⟩ y1).cell? ⟨b, 2, none⟩ = some x2 ∧ ((w.setCell ⟨b, 0, none⟩ y0).setCell ⟨b, 1, none⟩ y1).frozen? ⟨b, 2, none⟩ = false ∧
    (((w.setCell ⟨b, 0, none⟩ y0).setCell ⟨b, 1, none⟩ y1).setCell ⟨b, 2, none⟩ y2).cell? ⟨b, 3, none⟩ = some x3 ∧ (((w.setCell ⟨b, 0, none⟩ y0).setCell ⟨b, 1, none⟩ y1).setCell ⟨b, 2, none⟩ y2).frozen? ⟨b, 3, none⟩ = false) ∧
    Blk ((((w.setCell ⟨b, 0, none⟩ y0).setCell ⟨b, 1, none⟩ y1).setCell ⟨b, 2, none⟩ y2).setCell ⟨b, 3, none⟩ y3) b T #[y0, y1, y2, y3] := by
  have h1 : Blk (w.setCell ⟨b, 0, none⟩ y0) b T #[y0, x1, x2, x3] := h.set 0 y0
  have h2 : Blk ((w.setCell ⟨b, 0, none⟩ y0).setCell ⟨b, 1, none⟩ y1) b T #[y0, y1, x2, x3] := h1.set 1 y1
  have h3 : Blk (((w.setCell ⟨b, 0, none⟩ y0).setCell ⟨b, 1, none⟩ y1).setCell ⟨b, 2, none⟩ y2) b T #[y0, y1, y2, x3] := h2.set 2 y2
  exact ⟨⟨h.cell rfl, h.frozen, h1.cell rfl, h1.frozen, h2.cell rfl, h2.frozen, h3.cell rfl, h3.frozen⟩, h3.set 3 y3⟩
theorem below_put4 {w x : World} {b : Nat} (h : Below w.heap.size w x) (hb : w.heap.size ≤ b) (y0 y1 y2 y3 : Value) : Below w.heap.size w ((((x.setCell ⟨b, 0, none⟩ y0).setCell ⟨b, 1, none⟩ y1).setCell ⟨b, 2, none⟩ y2).setCell ⟨b, 3, none⟩ y3) :=
  (((h.setCell (p := ⟨b, 0, none⟩) hb _).setCell (p := ⟨b, 1, none⟩) hb _).setCell (p := ⟨b, 2, none⟩) hb _).setCell (p := ⟨b, 3, none⟩) hb _
theorem Keeps.put4 {w : World} {b : Nat} {T T' : TypeId} {x0 x1 x2 x3 : Value} (h : Blk w b T #[x0, x1, x2, x3]) (hT : T' ≠ T) (y0 y1 y2 y3 : Value) : Keeps w ((((w.setCell ⟨b, 0, none⟩ y0).setCell ⟨b, 1, none⟩ y1).setCell ⟨b, 2, none⟩ y2).setCell ⟨b, 3, none⟩ y3) T' := by
  have h1 : Blk (w.setCell ⟨b, 0, none⟩ y0) b T #[y0, x1, x2, x3] := h.set 0 y0
  have h2 : Blk ((w.setCell ⟨b, 0, none⟩ y0).setCell ⟨b, 1, none⟩ y1) b T #[y0, y1, x2, x3] := h1.set 1 y1
  have h3 : Blk (((w.setCell ⟨b, 0, none⟩ y0).setCell ⟨b, 1, none⟩ y1).setCell ⟨b, 2, none⟩ y2) b T #[y0, y1, y2, x3] := h2.set 2 y2
  exact (((Keeps.of_set h hT 0 y0).trans (.of_set h1 hT 1 y1)).trans (.of_set h2 hT 2 y2)).trans (.of_set h3 hT 3 y3)

/-! ### runs -/
/-- A run, owned. -/
def RunO (w : World) (base : Nat) (v : Value) (n : Nat) (m : Nat → Nat) (L : Nat → Nat → Int) (k : Nat) (F : Nat → Nat) : Prop :=
  ∃ vL vF rows, v = .agg #[vL, vF] ∧ w.ownsRow base 75 1 vL n rows ∧ (∀ i, i < n → ∃ rv, rows[i]? = some rv ∧ w.ownsRow base 3 1 rv (m i) (i64L (L i) (m i))) ∧ w.ownsRow base 121 1 vF k (u64L F k)
section
variable {w w1 : World} {base : Nat} {v : Value} {n k : Nat} {m : Nat → Nat} {L : Nat → Nat → Int} {F : Nat → Nat}
theorem RunO.keeps (h : RunO w base v n m L k F) (h1 : Keeps w w1 75) (h2 : Keeps w w1 3) (h3 : Keeps w w1 121) : RunO w1 base v n m L k F := by
  obtain ⟨vL, vF, rows, rfl, oL, oR, oF⟩ := h
  exact ⟨vL, vF, rows, rfl, own_keeps oL h1, fun i hi => let ⟨rv, e, h⟩ := oR i hi; ⟨rv, e, own_keeps h h2⟩, own_keeps oF h3⟩
theorem RunO.below (h : RunO w base v n m L k F) (hb : Below w.heap.size w w1) : RunO w1 base v n m L k F := h.keeps (.of_below hb _) (.of_below hb _) (.of_below hb _)
theorem RunO.mono {base' : Nat} (h : RunO w base v n m L k F) (hb : base' ≤ base) : RunO w base' v n m L k F := by
  obtain ⟨vL, vF, rows, rfl, oL, oR, oF⟩ := h
  exact ⟨vL, vF, rows, rfl, own_mono' oL hb, fun i hi => let ⟨rv, e, h⟩ := oR i hi; ⟨rv, e, own_mono' h hb⟩, own_mono' oF hb⟩
theorem RunO.shape (h : RunO w base v n m L k F) : ∃ AL cL AF cF, v = .agg #[.slice AL n cL, .slice AF k cF] := by
  obtain ⟨vL, vF, rows, rfl, oL, _, oF⟩ := h
  obtain ⟨A, c, rfl, _⟩ := own_form oL
  obtain ⟨B, d, rfl, _⟩ := own_form oF
  exact ⟨A, c, B, d, rfl⟩
theorem RunO.read (h : RunO w base v n m L k F) (hm : ∀ i, i < n → m i ≤ 9223372036854775807) (hL : ∀ i j, i < n → j < m i → -9223372036854775808 ≤ L i j ∧ L i j ≤ 9223372036854775807) (hF : ∀ u, u < k → F u < 18446744073709551616) : RunR w v n m L k F := by
  obtain ⟨vL, vF, rows, rfl, oL, oR, oF⟩ := h
  have hch : ∀ i, ∃ q : Option Addr × Nat, i < n → rows[i]? = some (.slice q.1 (m i) q.2) ∧ I64s w q.1 (m i) (L i) := fun i => by
    by_cases hi : i < n
    · obtain ⟨rv, h1, h2⟩ := oR i hi
      obtain ⟨A', c', rfl, hu⟩ := own_i64s h2 (fun u hu => hL i u hi hu)
      exact ⟨(A', c'), fun _ => ⟨h1, hu⟩⟩
    · exact ⟨(none, 0), fun h => absurd h hi⟩
  obtain ⟨f, hf⟩ := Classical.axiomOfChoice hch
  obtain ⟨A, c, rfl, hA⟩ := own_form oL
  obtain ⟨B, d, rfl, hU, _⟩ := own_u64s oF hF
  refine ⟨A, c, B, d, fun i => (f i).1, fun i => (f i).2, rfl, fun i hi => ?_, hU⟩
  obtain ⟨b, rfl, _, _, hc⟩ := hA i hi
  exact ⟨b, 0, rfl, by rw [hc]; exact (hf i hi).1, hm i hi, (hf i hi).2⟩
end
/-- What a run is. -/
structure RunD where
  n : Nat
  m : Nat → Nat
  L : Nat → Nat → Int
  k : Nat
  F : Nat → Nat
def RunD.owned (d : RunD) (w : World) (base : Nat) (v : Value) : Prop := RunO w base v d.n d.m d.L d.k d.F
/-- A slice of runs, owned. -/
def RunsO (w : World) (base : Nat) (v : Value) (ps : List RunD) : Prop :=
  ∃ rows, w.ownsRow base 69 2 v ps.length rows ∧ ∀ i d, ps[i]? = some d → ∃ x y, rows[i * 2]? = some x ∧ rows[i * 2 + 1]? = some y ∧ d.owned w base (.agg #[x, y])
theorem RunsO.nil (w : World) (base : Nat) : RunsO w base (.slice none 0 0) [] := ⟨[], World.ownsRow_nil _ _ _ _, fun i d h => by simp at h⟩
theorem RunsO.keeps {w w1 : World} {base : Nat} {v : Value} {ps : List RunD} (h : RunsO w base v ps) (h0 : Keeps w w1 69) (h1 : Keeps w w1 75) (h2 : Keeps w w1 3) (h3 : Keeps w w1 121) : RunsO w1 base v ps := by
  obtain ⟨rows, ho, hr⟩ := h
  exact ⟨rows, own_keeps ho h0, fun i d hi => let ⟨x, y, e1, e2, h⟩ := hr i d hi; ⟨x, y, e1, e2, RunO.keeps h h1 h2 h3⟩⟩
theorem RunsO.below {w w1 : World} {base : Nat} {v : Value} {ps : List RunD} (h : RunsO w base v ps) (hb : Below w.heap.size w w1) : RunsO w1 base v ps := h.keeps (.of_below hb _) (.of_below hb _) (.of_below hb _) (.of_below hb _)
/-- A run is appended. -/
theorem RunsO.push {w w1 : World} {base : Nat} {v v' x y : Value} {ps : List RunD} {d : RunD} {o : Obj} {rows : List Value} (ho : w.ownsRow base 69 2 v ps.length rows)
    (hr : ∀ i d, ps[i]? = some d → ∃ x y, rows[i * 2]? = some x ∧ rows[i * 2 + 1]? = some y ∧ d.owned w base (.agg #[x, y])) (hd : d.owned w base (.agg #[x, y]))
    (hown : w1.ownsRow base 69 2 v' (ps.length + 1) (rows ++ [x, y])) (hg : (w.alloc o).grownBy w1 v.ownBlock) : RunsO w1 base v' (ps ++ [d]) := by
  have hb := below_alloc w o
  have K : ∀ T : TypeId, T ≠ 69 → Keeps w w1 T := fun T hT => (Keeps.of_below hb T).trans (Keeps.of_grown hg (own_alloc' ho o) hT)
  have hlen := ho.1
  refine ⟨rows ++ [x, y], by rw [List.length_append]; exact hown, fun i d' hi => ?_⟩
  by_cases h1 : i < ps.length
  · rw [List.getElem?_append_left h1] at hi
    obtain ⟨x', y', e1, e2, h⟩ := hr i d' hi
    exact ⟨x', y', by rw [List.getElem?_append_left (by omega)]; exact e1, by rw [List.getElem?_append_left (by omega)]; exact e2, RunO.keeps h (K _ (by decide)) (K _ (by decide)) (K _ (by decide))⟩
  · rw [List.getElem?_append_right (by omega)] at hi
    have h2 : i = ps.length := by
      have := (List.getElem?_eq_some_iff.1 hi).1
      simp at this
      omega
    subst h2
    simp at hi
    subst hi
    exact ⟨x, y, by rw [List.getElem?_append_right (by omega)]; simp [hlen], by rw [List.getElem?_append_right (by omega)]; simp [hlen], RunO.keeps hd (K _ (by decide)) (K _ (by decide)) (K _ (by decide))⟩
end Go.Proofs.Ytahaimecchdfeaa

/-
  Plain facts for the walks: blocks of uint64s that a call has made.
-/
namespace Go.Proofs.Ytahaimecchdfeaa
open Go.RowKit

/-- The cells of a block of uint64s. -/
def RowU (w : World) (B N : Nat) (g : Nat → Nat) : Prop := ∀ k, k < N → w.cell? ⟨B, k, none⟩ = some (.int .u64 (g k)) ∧ w.frozen? ⟨B, k, none⟩ = false
theorem RowU.set {w : World} {B N j x : Nat} {g : Nat → Nat} (h : RowU w B N g) (hj : j < N) : RowU (w.setCell ⟨B, j, none⟩ (.int .u64 x)) B N (upd g j x) := fun k hk => by
  obtain ⟨h1, h2⟩ := h k hk
  refine ⟨?_, by rw [World.frozen?_setCell]; exact h2⟩
  unfold upd
  by_cases hkj : k = j
  · subst hkj
    rw [if_pos rfl]
    exact World.cell?_setCell_same' _ _ _ (by rw [h1]; rfl)
  · rw [if_neg hkj, World.cell?_setCell_other _ _ _ _ (by simp)]
    exact h1
theorem RowU.congr {w : World} {B N : Nat} {g g' : Nat → Nat} (h : RowU w B N g) (e : ∀ k, k < N → g k = g' k) : RowU w B N g' := fun k hk => by
  rw [← e k hk]; exact h k hk
theorem RowU.made (w : World) (N : Nat) (T : TypeId) : RowU (w.alloc (.cells (madeCells #[.int .u64 0] N) T)) w.heap.size N (fun _ => 0) := fun k hk =>
  ⟨(World.rowIs_made w (.int .u64 0) N T).cell hk, (World.rowIs_made w (.int .u64 0) N T).frozen k⟩
theorem RowU.below {w w' : World} {B N : Nat} {g : Nat → Nat} (h : RowU w B N g) (hb : Below w.heap.size w w') : RowU w' B N g := fun k hk => by
  obtain ⟨h1, h2⟩ := h k hk
  refine ⟨cell_below hb h1, ?_⟩
  rw [hb.frozen (World.block_lt_of_cell? w _ h1)]; exact h2
theorem RowU.u64s {w : World} {B N : Nat} {g : Nat → Nat} (h : RowU w B N g) (hg : ∀ k, k < N → g k < 18446744073709551616) : U64s w (some ⟨B, 0, none⟩) N g := fun k hk =>
  ⟨B, 0, rfl, by rw [Nat.zero_add]; exact (h k hk).1, hg k hk⟩
theorem Try.infoU64 : (Try.prog.info? 121).map (fun i => (i.zero, i.size, i.bytes)) = some (some (.int .u64 0), 1, 8) := by kernel_rfl
end Go.Proofs.Ytahaimecchdfeaa

/-
  Plain facts for the walks: a slice of rows of uint64s that a call makes by append.
-/
namespace Go.Proofs.Ytahaimecchdfeaa
open Go.RowKit

theorem Try.infoU64s : (Try.prog.info? 67).map (fun i => (i.zero, i.size, i.bytes)) = some (some (.slice none 0 0), 1, 24) := by kernel_rfl
/-- v rows of n numbers are made: row i reads as G i. -/
def RowsParts (B n : Nat) (G : Nat → Nat → Nat) (v : Nat) (wr : World) (A : Option Addr) (c : Nat) (rows : List Value) : Prop :=
  wr.ownsRow B 67 1 (.slice A v c) v rows ∧ ∀ i, i < v → ∃ rv, rows[i]? = some rv ∧ wr.ownsRow B 121 1 rv n (u64L (G i) n)
def RowsInv (w : World) (n : Nat) (G : Nat → Nat → Nat) (v : Nat) (ov : Value) (wr : World) : Prop := ∃ A c rows, ov = .slice A v c ∧ RowsParts w.heap.size n G v wr A c rows ∧ Below w.heap.size w wr
theorem RowsInv.start (w : World) (n : Nat) (G : Nat → Nat → Nat) : RowsInv w n G 0 (.slice none 0 0) w :=
  ⟨none, 0, [], rfl, ⟨World.ownsRow_nil _ _ _ _, fun _ hi => absurd hi (Nat.not_lt_zero _)⟩, Below.refl _ _⟩
theorem RowsInv.below {w wo wr : World} {n v : Nat} {G : Nat → Nat → Nat} {ov : Value} (h : RowsInv w n G v ov wo) (hb : Below wo.heap.size wo wr) : RowsInv w n G v ov wr := by
  obtain ⟨A, c, rows, e, ⟨ho, hr⟩, hw⟩ := h
  exact ⟨A, c, rows, e, ⟨own_below ho hb (Nat.le_refl _), fun i hi => let ⟨rv, h1, h2⟩ := hr i hi; ⟨rv, h1, own_below h2 hb (Nat.le_refl _)⟩⟩, hw.trans (hb.mono hw.size)⟩
theorem RowsInv.step {w wr w1 : World} {n v c g cap : Nat} {G : Nat → Nat → Nat} {A : Option Addr} {rows : List Value} {rv : Value} {T : TypeId} (h : RowsParts w.heap.size n G v wr A c rows) (hw : Below w.heap.size w wr)
    (hrow : wr.ownsRow w.heap.size 121 1 rv n (u64L (G v) n))
    (hown : w1.ownsRow w.heap.size 67 1 (.slice (some ⟨g, 0, none⟩) (v + 1) cap) (v + 1) (rows ++ [rv]))
    (hgrow : (wr.alloc (.cells #[rv] T)).grownBy w1 (Value.slice A v c).ownBlock) :
    RowsInv w n G (v + 1) (.slice (some ⟨g, 0, none⟩) (v + 1) cap) w1 := by
  obtain ⟨ho, hr⟩ := h
  have hlt := ho.lt
  have hsz : wr.heap.size < (wr.alloc (.cells #[rv] T)).heap.size := by simp
  have row1 : ∀ {u xs}, wr.ownsRow w.heap.size 121 1 u n xs → w1.ownsRow w.heap.size 121 1 u n xs := fun {u xs} h =>
    (h.alloc _).kept hgrow (own_ne h ho (by decide))
  refine ⟨some ⟨g, 0, none⟩, cap, rows ++ [rv], rfl, ⟨hown, fun i hi => ?_⟩, ?_⟩
  · rcases Nat.lt_succ_iff_lt_or_eq.1 hi with h1 | rfl
    · obtain ⟨u, hu, hu2⟩ := hr i h1
      exact ⟨u, by rw [List.getElem?_append_left (by have := ho.1; omega)]; exact hu, row1 hu2⟩
    · exact ⟨rv, by have h1 := ho.1; rw [List.getElem?_append_right (by omega)]; simp [h1], row1 hrow⟩
  · exact (hw.alloc hw.size _).grown hgrow (by have := hw.size; omega) (fun k hk => (hlt k hk).1)
theorem RowsInv.mat {w wr : World} {n v : Nat} {G : Nat → Nat → Nat} {ov : Value} (h : RowsInv w n G v ov wr) (hn : n ≤ 9223372036854775807) (hG : ∀ i, i < v → ∀ u, u < n → G i u < 18446744073709551616) :
    ∃ A c R cc, ov = .slice A v c ∧ Mat wr A v R (fun _ => n) cc G ∧ Below w.heap.size w wr := by
  obtain ⟨A, c, rows, rfl, ⟨ho, hr⟩, hw⟩ := h
  have hch : ∀ i, ∃ p : Option Addr × Nat, i < v → rows[i]? = some (.slice p.1 n p.2) ∧ U64s wr p.1 n (G i) := fun i => by
    by_cases hi : i < v
    · obtain ⟨rv, h1, h2⟩ := hr i hi
      obtain ⟨A', c', rfl, hu, _⟩ := own_u64s h2 (fun u hu => hG i hi u hu)
      exact ⟨(A', c'), fun _ => ⟨h1, hu⟩⟩
    · exact ⟨(none, 0), fun h => absurd h hi⟩
  obtain ⟨f, hf⟩ := Classical.axiomOfChoice hch
  obtain ⟨A', c', he, hA⟩ := own_form ho
  injection he with he1 he2 he3
  subst he1
  refine ⟨A, c, fun i => (f i).1, fun i => (f i).2, rfl, fun i hi => ?_, hw⟩
  obtain ⟨b, rfl, _, _, hc⟩ := hA i hi
  exact ⟨b, 0, rfl, by rw [hc]; exact (hf i hi).1, by show n ≤ _; omega, (hf i hi).2⟩
end Go.Proofs.Ytahaimecchdfeaa

/-
  The contracts of package slices that this seat uses, laid at this program by the kit's own tools (lay-shelf, lay-plain), moved into the seat's namespace.
-/
namespace Go.Proofs.Ytahaimecchdfeaa
open Go.Shelf
def Try.lays108_ren : Go.Shelf.Ren := ⟨fun | 108 => 84 | n => n, fun | 28 => 75 | 3 => 3 | 0 => 0 | 4 => 4 | n => n, fun | n => n⟩
theorem Try.lays108 : Go.Proofs.Lays.n108 Try.prog Try.lays108_ren := {
  mixed := by kernel_rfl
  f108 := Try.func84.trans (congrArg some (by kernel_rfl))
  t0 := Try.underlying0
  a0 := Try.isAgg0
  z0 := Try.sizeOf0
  v0 := Try.zeroValue0
  t3 := Try.underlying3
  a3 := Try.isAgg3
  z3 := Try.sizeOf3
  v3 := Try.zeroValue3
  t4 := Try.underlying4
  a4 := Try.isAgg4
  z4 := Try.sizeOf4
  v4 := Try.zeroValue4
  t28 := Try.underlying75
  a28 := Try.isAgg75
  z28 := Try.sizeOf75
  v28 := Try.zeroValue75 }
open Go.Lib in
theorem Try.slices_Index_int (b off n c : Nat) (zs : List Int) (x : Int) (w : World) (hz : n ≤ zs.length) (hbig : n ≤ 9223372036854775807) (hc : ∀ j, j < zs.length → w.cell? ⟨b, off + j, none⟩ = some (.int .i64 (zs.getD j 0))) :
    Calls Try.prog 84 #[.slice (some ⟨b, off, none⟩) n c, .int .i64 x] w fun e w' => e = .returned (.int .i64 (Lib.idxOf (zs.take n) x)) ∧ w' = w := Any.slices_Index_int Try.lays108 b off n c zs x w hz hbig hc
open Go.Lib in
theorem Try.slices_Index_int_empty (a : Option Addr) (c : Nat) (x : Int) (w : World) :
    Calls Try.prog 84 #[.slice a 0 c, .int .i64 x] w fun e w' => e = .returned (.int .i64 (Lib.idxOf [] x)) ∧ w' = w := Any.slices_Index_int_empty Try.lays108 a c x w
def Try.lays107_ren : Go.Shelf.Ren := ⟨fun | 107 => 59 | 108 => 84 | n => n, fun | 28 => 75 | 3 => 3 | 4 => 4 | 0 => 0 | n => n, fun | n => n⟩
theorem Try.lays107 : Go.Proofs.Lays.n107 Try.prog Try.lays107_ren := {
  mixed := by kernel_rfl
  f107 := Try.func59.trans (congrArg some (by kernel_rfl))
  f108 := Try.func84.trans (congrArg some (by kernel_rfl))
  t0 := Try.underlying0
  a0 := Try.isAgg0
  z0 := Try.sizeOf0
  v0 := Try.zeroValue0
  t3 := Try.underlying3
  a3 := Try.isAgg3
  z3 := Try.sizeOf3
  v3 := Try.zeroValue3
  t4 := Try.underlying4
  a4 := Try.isAgg4
  z4 := Try.sizeOf4
  v4 := Try.zeroValue4
  t28 := Try.underlying75
  a28 := Try.isAgg75
  z28 := Try.sizeOf75
  v28 := Try.zeroValue75 }
open Go.Lib in
theorem Try.slices_Contains_int (b off n c : Nat) (zs : List Int) (x : Int) (w : World) (hz : n ≤ zs.length) (hbig : n ≤ 9223372036854775807) (hc : ∀ j, j < zs.length → w.cell? ⟨b, off + j, none⟩ = some (.int .i64 (zs.getD j 0))) :
    Calls Try.prog 59 #[.slice (some ⟨b, off, none⟩) n c, .int .i64 x] w fun e w' => e = .returned (.bool ((zs.take n).contains x)) ∧ w' = w := Any.slices_Contains_int Try.lays107 b off n c zs x w hz hbig hc
open Go.Lib in
theorem Try.slices_Contains_int_empty (a : Option Addr) (c : Nat) (x : Int) (w : World) :
    Calls Try.prog 59 #[.slice a 0 c, .int .i64 x] w fun e w' => e = .returned (.bool false) ∧ w' = w := Any.slices_Contains_int_empty Try.lays107 a c x w
def Try.laysNm215_ren : Go.Shelf.Ren := ⟨fun | 15 => 67 | n => n, fun | 22 => 75 | 3 => 3 | 4 => 4 | n => n, fun | n => n⟩
theorem Try.laysNm215 : Go.Proofs.Lays2.n15 Try.prog Try.laysNm215_ren := {
  mixed := by kernel_rfl
  f15 := Try.func67.trans (congrArg some (by kernel_rfl))
  t3 := Try.underlying3
  a3 := Try.isAgg3
  z3 := Try.sizeOf3
  v3 := Try.zeroValue3
  t4 := Try.underlying4
  a4 := Try.isAgg4
  z4 := Try.sizeOf4
  v4 := Try.zeroValue4
  t22 := Try.underlying75
  a22 := Try.isAgg75
  z22 := Try.sizeOf75
  v22 := Try.zeroValue75
  i3 := by kernel_rfl }
open Go.RowKit Go.Lib in
theorem Try.slices_Clone_int (b off n c : Nat) (zs : List Int) (w : World) (hz : n ≤ zs.length) (hbig : n * 8 ≤ 140737488355328) (hc : ∀ j, j < zs.length → w.cell? ⟨b, off + j, none⟩ = some (.int .i64 (zs.getD j 0))) :
    Calls Try.prog 67 #[.slice (some ⟨b, off, none⟩) n c] w fun e w' => ∃ v', e = .returned v' ∧ w'.ownsRow w.heap.size 3 1 v' n ((zs.take n).map (Value.int .i64)) ∧ v' ≠ .slice none 0 0 ∧ Below w.heap.size w w' := Any.slices_Clone_int Try.laysNm215 b off n c zs w hz hbig hc
open Go.RowKit Go.Lib in
theorem Try.slices_Clone_int_nil (n c : Nat) (w : World) :
    Calls Try.prog 67 #[.slice none n c] w fun e w' => e = .returned (.slice none 0 0) ∧ w' = w := Any.slices_Clone_int_nil Try.laysNm215 n c w
open Go.RowKit Go.Lib in
theorem Try.slices_Clone_int_zero (a : Addr) (c : Nat) (w : World) :
    Calls Try.prog 67 #[.slice (some a) 0 c] w fun e w' => ∃ v', e = .returned v' ∧ w'.ownsRow w.heap.size 3 1 v' 0 [] ∧ v' ≠ .slice none 0 0 ∧ Below w.heap.size w w' := Any.slices_Clone_int_zero Try.laysNm215 a c w
def Try.laysSlE041_f67_ren : Go.Shelf.Ren := ⟨fun | 41 => 67 | n => n, fun | 22 => 75 | 23 => 3 | 4 => 4 | n => n, fun | n => n⟩
theorem Try.laysSlE041_f67 : Go.Proofs.SlLaysE0.n41 Try.prog Try.laysSlE041_f67_ren := {
  mixed := by kernel_rfl
  f41 := ⟨Try.f67.name, by decide, Try.func67.trans (congrArg some (by kernel_rfl))⟩
  t4 := Try.underlying4
  a4 := Try.isAgg4
  z4 := Try.sizeOf4
  v4 := Try.zeroValue4
  t22 := Try.underlying75
  a22 := Try.isAgg75
  z22 := Try.sizeOf75
  v22 := Try.zeroValue75 }
open Go.RowKit Go.Lib in
theorem Try.slices_Clone (i0 : TypeInfo) (z : Value) (size bytes : Nat) (hi : Try.prog.info? 3 = some i0) (hz0 : i0.zero = some z) (hz1 : i0.size = size) (hz2 : i0.bytes = bytes) (hzs : z.cells.size = size) (hsz : 0 < size) (z23 : ∀ w, (Go.sizeOf 3).run Try.prog w = .ok size w) (b off n c : Nat) (news : List Value) (w : World) (hl : news.length = n * size) (hn : n ≤ maxLen) (hbig : n * bytes ≤ 140737488355328) (hc : ∀ j u, news[j]? = some u → w.cell? ⟨b, off + j, none⟩ = some u) (h1 : ∀ u ∈ news, u.oneCell' = true) :
    Calls Try.prog 67 #[.slice (some ⟨b, off, none⟩) n c] w fun e w' => ∃ v', e = .returned v' ∧ w'.ownsRow w.heap.size 3 size v' n news ∧ v' ≠ .slice none 0 0 ∧ Below w.heap.size w w' := AnyE.slices_Clone Try.laysSlE041_f67 i0 z size bytes hi hz0 hz1 hz2 hzs hsz z23 b off n c news w hl hn hbig hc h1
open Go.RowKit Go.Lib in
theorem Try.slices_Clone_nil (n c : Nat) (w : World) :
    Calls Try.prog 67 #[.slice none n c] w fun e w' => e = .returned (.slice none 0 0) ∧ w' = w := AnyE.slices_Clone_nil Try.laysSlE041_f67 n c w
end Go.Proofs.Ytahaimecchdfeaa
