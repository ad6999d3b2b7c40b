/-
  Texts of this claim, one after the other: what each proves is said at its head. No condition beyond those that its theorems name.
-/
import Derived.WalkKit
import Derived.WalkSpells
import Derived.WalkLawsBesides
import Derived.Lib.Hide
import Derived.Deep.Draws
import Derived.Deep.RegionHeld3
import Derived.Deep.QuietTactic
import Derived.BigQuiet
import Derived.KernelRfl
import Derived.Deep.DeepCutAuto
import Derived.ProofKit
import Derived.OpenShut
import Derived.Carry
import Derived.Below
import Derived.ChangeSame
import Derived.Deep.Slices
import Derived.Lib.SmallJoins
import Derived.Test.YtahaimecchdfeaaProg
import Derived.Deep.OwnRows
import Derived.Handy
import Derived.Maps.AppendAt
import Derived.OwnWalk
import Derived.Deep.AppendLies
import Derived.Lib.BufferWrite
import Derived.Shelf.Slices.Turned
import Derived.Ground.Names2Prog
import Derived.Shelf.Slices.Clone
import Derived.Ground.SlgnProg
import Derived.Shelf.SlicesE.Clone
import Derived.Maps.OwnSet
import Derived.Maps.Views
import Derived.WideKeyEntry
import Derived.DeepKeys4

/-
  Plain lemmas for the walks: bits of uint64 and int values, readings of slices in memory, loops that look for a failure.
-/
namespace Go.Proofs.Ytahaimecchdfeaa
open Go.RowKit

/-! ### bits -/
theorem natCast_shr (s v : Nat) : ((s : Int) / 2 ^ v) = ((s / 2 ^ v : Nat) : Int) := by
  rw [Int.natCast_ediv, Int.natCast_pow]; rfl
theorem shr_and_one (s v : Nat) (hs : s < 18446744073709551616) : bits .and .u64 ((s : Int) / 2 ^ min v 64) 1 = ((if s.testBit v then 1 else 0 : Nat) : Int) := by
  have hlt : s / 2 ^ min v 64 < 18446744073709551616 := Nat.lt_of_le_of_lt (Nat.div_le_self _ _) hs
  rw [natCast_shr, show (1 : Int) = ((1 : Nat) : Int) from rfl, u64_and_nat _ _ hlt (by decide), Nat.and_one_is_mod]
  congr 1
  by_cases hv : v ≤ 64
  · rw [Nat.min_eq_left hv, Nat.testBit_eq_decide_div_mod_eq]
    by_cases h : s / 2 ^ v % 2 = 1
    · simp [h]
    · simp [h]; omega
  · rw [Nat.min_eq_right (by omega)]
    have h0 : s / 2 ^ 64 = 0 := Nat.div_eq_of_lt hs
    have h1 : s.testBit v = false := Nat.testBit_lt_two_pow (Nat.lt_of_lt_of_le hs (Nat.pow_le_pow_right (n := 2) (i := 64) (by decide) (by omega)))
    rw [h0, h1]; rfl
theorem bits_has (s v : Nat) (hs : s < 18446744073709551616) : (bits .and .u64 ((s : Int) / 2 ^ min v 64) 1 == 1) = s.testBit v := by
  rw [shr_and_one s v hs]; cases s.testBit v <;> rfl
theorem bits_hasnt (s v : Nat) (hs : s < 18446744073709551616) : (bits .and .u64 ((s : Int) / 2 ^ min v 64) 1 == 0) = !s.testBit v := by
  rw [shr_and_one s v hs]; cases s.testBit v <;> rfl

/-- Go's '&^' on uint64, over the naturals. -/
def andNot (a b : Nat) : Nat := a &&& (18446744073709551615 - b)
theorem bits_andNot (a b : Nat) (ha : a < 18446744073709551616) (hb : b < 18446744073709551616) : bits .andNot .u64 (a : Int) (b : Int) = (andNot a b : Int) := u64_andNot_nat a b ha hb
theorem andNot_lt (a b : Nat) (ha : a < 18446744073709551616) : andNot a b < 18446744073709551616 := Nat.lt_of_le_of_lt Nat.and_le_left ha
theorem testBit_andNot (a b i : Nat) (ha : a < 18446744073709551616) (hb : b < 18446744073709551616) : (andNot a b).testBit i = (a.testBit i && !b.testBit i) := by
  unfold andNot
  rw [Nat.testBit_and]
  have hc : 18446744073709551615 - b = 2 ^ 64 - (b + 1) := by omega
  rw [hc, Nat.testBit_two_pow_sub_succ (x := b) (n := 64) (by omega) i]
  by_cases hi : i < 64
  · simp [hi]
  · have : a.testBit i = false := Nat.testBit_lt_two_pow (Nat.lt_of_lt_of_le ha (Nat.pow_le_pow_right (n := 2) (i := 64) (by decide) (by omega)))
    simp [this]
theorem andNot_eq_zero {a b : Nat} (ha : a < 18446744073709551616) (hb : b < 18446744073709551616) : andNot a b = 0 ↔ ∀ i, a.testBit i = true → b.testBit i = true := by
  constructor
  · intro h i hi
    have := testBit_andNot a b i ha hb
    rw [h, Nat.zero_testBit, hi] at this
    cases hb' : b.testBit i
    · rw [hb'] at this; cases this
    · rfl
  · intro h
    apply Nat.eq_of_testBit_eq
    intro i
    rw [testBit_andNot a b i ha hb, Nat.zero_testBit]
    cases ha' : a.testBit i
    · rfl
    · rw [h i ha']; rfl
theorem pow_lt64 {k : Nat} (h : k < 64) : 2 ^ k < 18446744073709551616 := Nat.pow_lt_pow_right (a := 2) (n := 64) (by decide) h
theorem andNot_mask {a n : Nat} (ha : a < 18446744073709551616) (hn : n ≤ 64) : andNot a (2 ^ n - 1) = 0 ↔ a < 2 ^ n := by
  have hp : 2 ^ n ≤ 2 ^ 64 := Nat.pow_le_pow_right (by decide) hn
  have h0 : 0 < 2 ^ n := Nat.two_pow_pos n
  rw [andNot_eq_zero ha (by omega)]
  constructor
  · intro h
    rcases Nat.lt_or_ge a (2 ^ n) with hlt | hge
    · exact hlt
    · obtain ⟨i, hi, hb⟩ := Nat.exists_ge_and_testBit_of_ge_two_pow hge
      have := h i hb
      rw [Nat.testBit_two_pow_sub_one] at this
      simp at this
      omega
  · intro h i hi
    rw [Nat.testBit_two_pow_sub_one]
    rcases Nat.lt_or_ge i n with hlt | hge
    · simpa using hlt
    · rw [Nat.testBit_lt_two_pow (Nat.lt_of_lt_of_le h (Nat.pow_le_pow_right (by decide) hge))] at hi
      cases hi
theorem or_lt64 {a b : Nat} (ha : a < 18446744073709551616) (hb : b < 18446744073709551616) : a ||| b < 18446744073709551616 := Nat.or_lt_two_pow (n := 64) (by omega) (by omega)
theorem and_lt64 {a b : Nat} (ha : a < 18446744073709551616) : a &&& b < 18446744073709551616 := Nat.lt_of_le_of_lt Nat.and_le_left ha

/-! ### sets as masks -/
/-- The set of all i < n with p i. -/
def mkSet (n : Nat) (p : Nat → Bool) : Nat := match n with
  | 0 => 0
  | k + 1 => if p k then mkSet k p ||| 2 ^ k else mkSet k p
theorem mkSet_lt (n : Nat) (p : Nat → Bool) : mkSet n p < 2 ^ n := by
  induction n with
  | zero => simp [mkSet]
  | succ k ih =>
    unfold mkSet
    have h1 : 2 ^ k < 2 ^ (k + 1) := Nat.pow_lt_pow_right (by decide) (by omega)
    split
    · exact Nat.or_lt_two_pow (by omega) h1
    · omega
theorem testBit_mkSet (n : Nat) (p : Nat → Bool) (i : Nat) : (mkSet n p).testBit i = (decide (i < n) && p i) := by
  induction n with
  | zero => simp [mkSet]
  | succ k ih =>
    unfold mkSet
    by_cases hk : i = k
    · subst hk
      have h0 : (mkSet i p).testBit i = false := Nat.testBit_lt_two_pow (mkSet_lt i p)
      split
      · rename_i h; simp [Nat.testBit_or, Nat.testBit_two_pow_self, h]
      · rename_i h; simp [h0, h]
    · have e : decide (i < k + 1) = decide (i < k) := by
        by_cases h : i < k
        · simp [h]; omega
        · simp [h]; omega
      rw [e]
      split
      · rw [Nat.testBit_or, Nat.testBit_two_pow, ih]; simp [show ¬ k = i from fun e => hk e.symm]
      · exact ih
theorem mkSet_succ_yes {k : Nat} {p : Nat → Bool} (h : p k = true) : mkSet (k + 1) p = mkSet k p ||| 2 ^ k := by rw [mkSet, if_pos h]
theorem mkSet_succ_no {k : Nat} {p : Nat → Bool} (h : p k = false) : mkSet (k + 1) p = mkSet k p := by rw [mkSet, if_neg (by simp [h])]
theorem mkSet_congr {n : Nat} {p q : Nat → Bool} (h : ∀ i, i < n → p i = q i) : mkSet n p = mkSet n q := by
  apply Nat.eq_of_testBit_eq
  intro i
  rw [testBit_mkSet, testBit_mkSet]
  by_cases hi : i < n
  · simp [hi, h i hi]
  · simp [hi]
theorem mkSet_testBit {n s : Nat} (h : s < 2 ^ n) : mkSet n s.testBit = s := by
  apply Nat.eq_of_testBit_eq
  intro i
  rw [testBit_mkSet]
  by_cases hi : i < n
  · simp [hi]
  · rw [Nat.testBit_lt_two_pow (Nat.lt_of_lt_of_le h (Nat.pow_le_pow_right (by decide) (by omega)))]; simp

/-! ### loops that look for a failure -/
def Upto (p : Nat → Bool) (k : Nat) : Prop := ∀ u, u < k → p u = true
theorem upto_zero (p : Nat → Bool) : Upto p 0 := fun _ hu => absurd hu (Nat.not_lt_zero _)
theorem Upto.succ {p : Nat → Bool} {k : Nat} (h : Upto p k) (hk : p k = true) : Upto p (k + 1) := fun u hu => by
  rcases Nat.lt_succ_iff_lt_or_eq.1 hu with h1 | rfl
  · exact h u h1
  · exact hk
/-- All of 0 .. n - 1. -/
def allB (n : Nat) (p : Nat → Bool) : Bool := (List.range n).all p
theorem allB_iff {n : Nat} {p : Nat → Bool} : allB n p = true ↔ ∀ u, u < n → p u = true := by simp [allB, List.all_eq_true]
theorem Upto.all {p : Nat → Bool} {n k : Nat} (h : Upto p k) (hk : n ≤ k) : allB n p = true := allB_iff.2 fun u hu => h u (by omega)
theorem not_all {p : Nat → Bool} {n k : Nat} (hk : k < n) (h : p k = false) : allB n p = false := by
  cases ha : allB n p
  · rfl
  · rw [allB_iff.1 ha k hk] at h; cases h
theorem not_allB {n : Nat} {p : Nat → Bool} (h : allB n p = false) : ∃ u, u < n ∧ p u = false := by
  apply Classical.byContradiction
  intro hn
  have : allB n p = true := allB_iff.2 fun u hu => by
    cases hp : p u
    · exact absurd ⟨u, hu, hp⟩ hn
    · rfl
  rw [this] at h; cases h
/-- The first error that is not 0, of 0 .. n - 1; else 0. -/
def firstErr : Nat → (Nat → Nat) → Nat
  | 0, _ => 0
  | k + 1, g => if firstErr k g = 0 then g k else firstErr k g
theorem firstErr_zero {n : Nat} {g : Nat → Nat} (h : ∀ u, u < n → g u = 0) : firstErr n g = 0 := by
  induction n with
  | zero => rfl
  | succ k ih => rw [firstErr, if_pos (ih fun u hu => h u (by omega))]; exact h k (by omega)
theorem firstErr_hit {n k : Nat} {g : Nat → Nat} (hk : k < n) (h : ∀ u, u < k → g u = 0) (hne : g k ≠ 0) : firstErr n g = g k := by
  induction n with
  | zero => omega
  | succ m ih =>
    rcases Nat.lt_succ_iff_lt_or_eq.1 hk with h1 | rfl
    · rw [firstErr, ih h1, if_neg hne]
    · rw [firstErr, if_pos (firstErr_zero h)]

theorem ret_bool {a b : Bool} (h : a = b) : Ending.returned (.bool a) = .returned (.bool b) := by rw [h]
theorem ret_int {k : IntKind} {a b : Int} (h : a = b) : Ending.returned (.int k a) = .returned (.int k b) := by rw [h]
theorem ret_int2 {k l : IntKind} {a b c d : Int} (h : a = b) (h' : c = d) : Ending.returned (.tuple #[.int k a, .int l c]) = .returned (.tuple #[.int k b, .int l d]) := by rw [h, h']
theorem int_ne0 {a : Nat} : (((a : Int) != 0) = true) ↔ a ≠ 0 := by simp
theorem int_ne0f {a : Nat} : (((a : Int) != 0) = false) ↔ a = 0 := by simp

/-! ### readings -/
/-- The slice whose address is A reads, for its first n elements, as the numbers f. -/
def U64s (w : World) (A : Option Addr) (n : Nat) (f : Nat → Nat) : Prop :=
  ∀ k, k < n → ∃ b off, A = some ⟨b, off, none⟩ ∧ w.cell? ⟨b, off + k, none⟩ = some (.int .u64 (f k)) ∧ f k < 18446744073709551616
/-- .. as rows: row i is the slice of address R i, length m i, capacity c i, which reads as F i. -/
def Mat (w : World) (A : Option Addr) (n : Nat) (R : Nat → Option Addr) (m c : Nat → Nat) (F : Nat → Nat → Nat) : Prop :=
  ∀ i, i < n → ∃ b off, A = some ⟨b, off, none⟩ ∧ w.cell? ⟨b, off + i, none⟩ = some (.slice (R i) (m i) (c i)) ∧ m i ≤ 9223372036854775807 ∧ U64s w (R i) (m i) (F i)
theorem cell_below {w w' : World} (hb : Below w.heap.size w w') {a : Addr} {v : Value} (h : w.cell? a = some v) : w'.cell? a = some v := (hb.cell (World.block_lt_of_cell? w a h)).trans h
theorem U64s.below {w w' : World} {A : Option Addr} {n : Nat} {f : Nat → Nat} (h : U64s w A n f) (hb : Below w.heap.size w w') : U64s w' A n f := fun k hk =>
  let ⟨b, off, e, hc, hf⟩ := h k hk; ⟨b, off, e, cell_below hb hc, hf⟩
theorem Mat.below {w w' : World} {A : Option Addr} {n : Nat} {R : Nat → Option Addr} {m c : Nat → Nat} {F : Nat → Nat → Nat} (h : Mat w A n R m c F) (hb : Below w.heap.size w w') : Mat w' A n R m c F := fun k hk =>
  let ⟨b, off, e, hc, hm, hr⟩ := h k hk; ⟨b, off, e, cell_below hb hc, hm, hr.below hb⟩
theorem below_alloc (w : World) (o : Obj) : Below w.heap.size w (w.alloc o) := (Below.refl _ _).alloc (Nat.le_refl _) o
theorem bcell {W w1 : World} (hb : Below W.heap.size W w1) : (∀ b o, b < W.heap.size → w1.cell? ⟨b, o, none⟩ = W.cell? ⟨b, o, none⟩) ∧ (∀ b o, b < W.heap.size → w1.frozen? ⟨b, o, none⟩ = W.frozen? ⟨b, o, none⟩) :=
  ⟨fun b o h => hb.cell (p := ⟨b, o, none⟩) h, fun b o h => hb.frozen (p := ⟨b, o, none⟩) h⟩
theorem quiet_l0 {P : Program} {f : FuncId} {args : Array Value} {w : World} {v : Value}
    (h : Calls P f args w fun e w' => e = .returned v ∧ w = w') : Calls P f args w fun e w'' => e = .returned v ∧ ∃ m, w'' = w.drewN m :=
  h.mono fun _ _ ⟨he, hm⟩ => ⟨he, 0, hm.symm⟩
theorem quiet_l1 {P : Program} {f : FuncId} {args : Array Value} {w : World} {n : Nat} {v : Value}
    (h : Calls P f args (w.drewN n) fun e w' => e = .returned v ∧ w.drewN n = w') : Calls P f args (w.drewN n) fun e w'' => e = .returned v ∧ ∃ m, w'' = w.drewN m :=
  h.mono fun _ _ ⟨he, hm⟩ => ⟨he, n, hm.symm⟩
theorem quiet_l2 {P : Program} {f : FuncId} {args : Array Value} {w : World} {a n : Nat} {v : Value}
    (h : Calls P f args (w.drewN (a + n)) fun e w' => e = .returned v ∧ w.drewN (a + n) = w') : Calls P f args (w.drewN (a + n)) fun e w'' => e = .returned v ∧ ∃ m, w'' = w.drewN (a + m) :=
  h.mono fun _ _ ⟨he, hm⟩ => ⟨he, n, hm.symm⟩
theorem below_drewN {B : Nat} {a w : World} (h : Below B a w) (n : Nat) : Below B a (w.drewN n) := ⟨h.os, h.tape, h.output, h.size, h.block⟩
end Go.Proofs.Ytahaimecchdfeaa

/-
  A plain lemma: what a law's row asks behind the call, where the law returns true and nothing that was there has changed.
-/
namespace Go.Proofs.Ytahaimecchdfeaa
open Go.ChangeShapes Go.WideShapes Go.ChangeAt Go.RowKit

section
variable {H : Type} {enc : TypeId × Value → H} {P : Program}
theorem trodAll_keep (hl : laidOutB P = true) {W W' : World} (hb : Below W.heap.size W W') {sp : Nat → Bool} : ∀ {ts : List TypeId} {vs : List Value} {ds : List (DataW H)} {ps : List MemPlace}
    (_ : ∀ t ∈ ts, P.readableRec t = true ∧ t < P.types.size) (_ : DataW.TrodAll enc P W 0 (fun _ => true) true ts vs ds ps)
    (_ : ∀ p ∈ ps, p.block < W.heap.size) (_ : ∀ p ∈ ps, sp p.block = true), DataW.TrodAll enc P W' 0 sp true ts vs ds ps
  | [], [], [], _, _, h, _, _ => h
  | t :: ts, v :: vs, d :: ds, ps, hr, h, hlt, hsp => by
    obtain ⟨p, q, h1, h2, rfl⟩ := h
    refine ⟨p, q, WideElems.Trod_stays hl (hr t (by simp)).1 (hr t (by simp)).2 h1 (fun x hx => hb.same (hlt x (by simp [hx]))) (fun x hx => ?_),
      trodAll_keep hl hb (fun t ht => hr t (by simp [ht])) h2 (fun p hp => hlt p (by simp [hp])) (fun p hp => hsp p (by simp [hp])), rfl⟩
    first | exact hsp x (by simp [hx]) | simpa using hsp x (by simp [hx])
theorem post_of_below {f : Func} {s : ChangeSpec} {apart fresh handsOn again : Bool} {W W' : World} {args : Array Value} {v : Value} {ds gs : List (DataW H)} {before pa pv : List MemPlace}
    (hW : DataW.Whole enc P f.params.toList s.vars apart W args.toList ds gs before)
    (hres : ∀ (b : Nat) (sp : Nat → Bool) (hd : Bool), DataW.TrodAll enc P W' b sp hd f.resultTypes.toList (v.resultList f.resultTypes.size) (s.fn H (ds ++ gs)).results [])
    (hargs : ∀ sp : Nat → Bool, (∀ p ∈ before, sp p.block = true) → DataW.TrodAll enc P W' 0 sp true f.params.toList args.toList (s.fn H (ds ++ gs)).args pa)
    (hvars : ∀ sp : Nat → Bool, (∀ p ∈ before, sp p.block = true) → DataW.TrodVars enc P W' sp s.vars (s.fn H (ds ++ gs)).vars pv)
    (hps : before = pa ++ pv) (hb : Below W.heap.size W W')
    (hok : ∀ (j : Nat) (t : TypeId) (r : Value), f.resultTypes[j]? = some t → (v.resultList f.resultTypes.size)[j]? = some r → Value.okWide P W' .any 0 t r) :
    s.post enc P f apart fresh handsOn again W args v W' := by
  have hlt : ∀ p ∈ before, p.block < W.heap.size := fun p hp => hW.lt p hp
  have hold : ∀ p ∈ before, (fun b => decide (b < W.heap.size)) p.block = true := fun p hp => by simpa using hlt p hp
  refine ⟨ds, gs, before, [], pa, pv, hW, hres _ _ _, hargs _ hold, hvars _ hold, World.keptBut_mono (fun p hp => ⟨hp, ?_⟩) (hb.frame (· ∈ before)), fun _ => ?_⟩
  · rw [hps, List.mem_append] at hp
    exact Or.inr hp
  · obtain ⟨_, _, _, _, _, hz, hn⟩ := hW
    refine ⟨hok, _, _, ([] ++ pa) ++ pv, ⟨[] ++ pa, pv, trodAll_append (hargs _ (fun _ _ => rfl)) (hres _ _ _), hvars _ (fun _ _ => rfl), rfl, ?_, ?_⟩, ?_⟩
    · intro b off hp
      have hin : MemPlace.cell b off ∈ before := by rw [hps]; simpa using hp
      rw [hb.frozen (hlt _ hin)]
      exact hz b off hin
    · intro ha
      have := hn ha
      rw [hps] at this
      simpa using this
    · intro p hp _
      rw [hps]
      simpa using hp
/-- A law that returns true and leaves all that was there as it was meets its row. -/
theorem post_true (hl : laidOutB P = true) {f : Func} {s : ChangeSpec} {W W' : World} {args : Array Value} {ds : List (DataW H)} {p : List MemPlace} {tb : TypeId} (hvars : s.vars = [])
    (hA : DataW.TrodAll enc P W 0 (fun _ => true) true f.params.toList args.toList ds p)
    (hW : DataW.Whole enc P f.params.toList s.vars false W args.toList ds [] p)
    (hread : ∀ t ∈ f.params.toList, P.readableRec t = true ∧ t < P.types.size) (hrt : f.resultTypes = #[tb]) (htb : P.underlying tb = some .bool)
    (hr : (s.fn H (ds ++ [])).results = [.lit (.bool true)]) (ha : (s.fn H (ds ++ [])).args = ds) (hv : (s.fn H (ds ++ [])).vars = []) (hb : Below W.heap.size W W') :
    s.post enc P f false true false false W args (.bool true) W' := by
  have hlt : ∀ x ∈ p, x.block < W.heap.size := fun x hx => hW.lt x hx
  refine post_of_below (pa := p) (pv := []) hW (fun b sp hd => ?_) (fun sp hsp => ?_) (fun sp hsp => ?_) (by simp) hb ?_
  · rw [hr, hrt]
    exact trodAll_cons_mk (shut_bool htb _) trodAll_mk0
  · rw [ha]
    exact trodAll_keep hl hb hread hA hlt hsp
  · rw [hv, hvars]; exact rfl
  · exact ok_one hrt rfl (okWide_bool_mk htb _)
end
end Go.Proofs.Ytahaimecchdfeaa

/-
  Plain lemmas: arguments that are slices of uint64 numbers, and slices of these, opened.
-/
namespace Go.Proofs.Ytahaimecchdfeaa
open Go.ChangeShapes Go.WideShapes Go.ChangeAt Go.RowKit Go.Deep Go.Joins

section
variable {H : Type} {enc : TypeId × Value → H} {P : Program} {w : World} {base : Nat} {spare : Nat → Bool} {held : Bool}
theorem add_at (b off i : Nat) : (⟨b, off, none⟩ : Addr).add i = ⟨b, off + i, none⟩ := by
  unfold Addr.add; by_cases h : i = 0 <;> simp [h]
theorem maxLen_val {n : Nat} (h : n ≤ maxLen) : n ≤ 9223372036854775807 := by unfold maxLen at h; omega
theorem u64_of_wf {z : Int} (h : (Lit.int .u64 z).wf = true) : ∃ n : Nat, z = n ∧ n < 18446744073709551616 := by
  have hmin : IntKind.u64.min = 0 := rfl
  have hmax : IntKind.u64.max = 18446744073709551615 := rfl
  simp only [Lit.wf, Bool.and_eq_true, decide_eq_true_eq] at h
  exact ⟨z.toNat, by omega, by omega⟩
theorem u8_of_wf {z : Int} (h : (Lit.int .u8 z).wf = true) : ∃ n : Nat, z = n ∧ n < 256 := by
  have hmin : IntKind.u8.min = 0 := rfl
  have hmax : IntKind.u8.max = 255 := rfl
  simp only [Lit.wf, Bool.and_eq_true, decide_eq_true_eq] at h
  exact ⟨z.toNat, by omega, by omega⟩
theorem i64_of_wf {z : Int} (h : (Lit.int .i64 z).wf = true) : -9223372036854775808 ≤ z ∧ z ≤ 9223372036854775807 := by
  have hmin : IntKind.i64.min = -9223372036854775808 := rfl
  have hmax : IntKind.i64.max = 9223372036854775807 := rfl
  simp only [Lit.wf, Bool.and_eq_true, decide_eq_true_eq] at h
  exact ⟨by omega, by omega⟩
theorem okWide_array {r : Reach} {b0 n : Nat} {t e : TypeId} {v : Value} (ht : P.underlying t = some (.array n e)) (h : Value.okWide P w r b0 t v) : ∃ cs, v = .agg cs ∧ cs.size = P.cellsOf t := by
  simp only [Value.okWide, ht] at h
  obtain ⟨cs, h1, h2, _⟩ := h
  exact ⟨cs, h1, h2⟩
/-- A [2]uint64 by value. -/
theorem open_arr2 {r : Reach} {b0 : Nat} {t e : TypeId} {v : Value} {d : DataW H} {p : List MemPlace} (ht : P.underlying t = some (.array 2 e)) (he : P.underlying e = some (.int .u64)) (hC : P.cellsOf t = 2) (hc : P.cellsOf e = 1)
    (hv : Value.okWide P w r b0 t v) (h : DataW.Trod enc P w base spare held t v d p) : ∃ x y : Nat, v = .agg #[.int .u64 x, .int .u64 y] ∧ x < 18446744073709551616 ∧ y < 18446744073709551616 := by
  obtain ⟨cs, rfl, hsz⟩ := okWide_array ht hv
  obtain ⟨c0, c1, rfl⟩ := array2 (hsz.trans hC)
  obtain ⟨fuel, hf⟩ := h
  obtain ⟨xs, m, _, _, _, hlen, hx⟩ := DataW.trod_array ht hf
  have h0 := hx 0 (by omega)
  have h1 := hx 1 (by omega)
  rw [hc] at h0 h1
  rw [List.getElem?_eq_getElem (by omega)] at h0 h1
  obtain ⟨n0, e0, _, w0⟩ := DataW.trod_int he h0
  obtain ⟨n1, e1, _, w1⟩ := DataW.trod_int he h1
  simp [Value.cells] at e0 e1
  obtain ⟨a, rfl, ha⟩ := u64_of_wf w0
  obtain ⟨b, rfl, hb⟩ := u64_of_wf w1
  subst e0 e1
  exact ⟨a, b, rfl, ha, hb⟩
theorem open_u64s {t e : TypeId} {fuel : Nat} {cs : List Value} {x : DataW H × List MemPlace} (ht : P.underlying t = some (.slice e)) (he : P.underlying e = some (.int .u64)) (hc : P.cellsOf e = 1)
    (h : DataW.trod enc P w base spare held fuel t cs = some x) : ∃ A n c f, cs = [.slice A n c] ∧ n ≤ 9223372036854775807 ∧ U64s w A n f := by
  rcases open_ints ht he hc h with ⟨rfl, _⟩ | ⟨a, len, cap, zs, rfl, _, hl, hm, hz, _, hcell, hwf⟩
  · exact ⟨none, 0, 0, fun _ => 0, rfl, by omega, fun k hk => absurd hk (Nat.not_lt_zero _)⟩
  · have hlz : len ≤ zs.length := by rw [hz]; split <;> omega
    refine ⟨some a, len, cap, fun i => (zs.getD i 0).toNat, rfl, Nat.le_trans hl (maxLen_val hm), fun k hk => ?_⟩
    have h1 := hcell k (by omega)
    have hsp := World.cell?_spot (hcell 0 (by omega))
    obtain ⟨b, off, sp⟩ := a
    have hsp' : sp = none := by simpa [Addr.add] using hsp
    subst hsp'
    rw [add_at] at h1
    have hmem : zs.getD k 0 ∈ zs := by
      rw [List.getD_eq_getElem?_getD, List.getElem?_eq_getElem (by omega)]; exact List.getElem_mem _
    obtain ⟨n, hn, hlt⟩ := u64_of_wf (hwf _ hmem)
    refine ⟨b, off, rfl, ?_, ?_⟩
    · dsimp only; rw [h1, hn]; rfl
    · dsimp only; rw [hn]; exact hlt
theorem open_mat {t e u : TypeId} {fuel : Nat} {cs : List Value} {x : DataW H × List MemPlace} (ht : P.underlying t = some (.slice e)) (he : P.underlying e = some (.slice u)) (hu : P.underlying u = some (.int .u64)) (hc : P.cellsOf e = 1) (hcu : P.cellsOf u = 1)
    (h : DataW.trod enc P w base spare held fuel t cs = some x) : ∃ A n c R m cc F, cs = [.slice A n c] ∧ n ≤ 9223372036854775807 ∧ Mat w A n R m cc F := by
  rcases open_slice1 ht hc h with ⟨rfl, _⟩ | ⟨a, len, cap, mm, n, V, D, Pl, rfl, _, hl, hm, hmm, _, hi⟩
  · exact ⟨none, 0, 0, fun _ => none, fun _ => 0, fun _ => 0, fun _ _ => 0, rfl, by omega, fun k hk => absurd hk (Nat.not_lt_zero _)⟩
  · have hlm : len ≤ mm := by rw [hmm]; split <;> omega
    have hch : ∀ i, ∃ p : (Option Addr × Nat) × (Nat × (Nat → Nat)), i < len → V i = .slice p.1.1 p.1.2 p.2.1 ∧ p.1.2 ≤ 9223372036854775807 ∧ U64s w p.1.1 p.1.2 p.2.2 := fun i => by
      by_cases hil : i < len
      · obtain ⟨A, n', c, f, hv, hn, hr⟩ := open_u64s he hu hcu (hi i (by omega)).2
        injection hv with hv _
        exact ⟨((A, n'), (c, f)), fun _ => ⟨hv, hn, hr⟩⟩
      · exact ⟨((none, 0), (0, fun _ => 0)), fun h => absurd h hil⟩
    obtain ⟨p, hp⟩ := Classical.axiomOfChoice hch
    refine ⟨some a, len, cap, fun i => (p i).1.1, fun i => (p i).1.2, fun i => (p i).2.1, fun i => (p i).2.2, rfl, Nat.le_trans hl (maxLen_val hm), fun i hil => ?_⟩
    obtain ⟨hv, hn, hr⟩ := hp i hil
    have h1 := (hi i (by omega)).1
    have hsp := World.cell?_spot (hi 0 (by omega)).1
    obtain ⟨b, off, sp⟩ := a
    have hsp' : sp = none := by simpa [Addr.add] using hsp
    subst hsp'
    rw [add_at, hv] at h1
    exact ⟨b, off, rfl, h1, hn, hr⟩
end
end Go.Proofs.Ytahaimecchdfeaa

/-
  Plain facts for the walks: blocks of ints that a call has made; shifts and masks.
-/
namespace Go.Proofs.Ytahaimecchdfeaa
open Go.RowKit

/-- The cells of a block of ints. -/
def RowI (w : World) (B N : Nat) (g : Nat → Nat) : Prop := ∀ k, k < N → w.cell? ⟨B, k, none⟩ = some (.int .i64 (g k)) ∧ w.frozen? ⟨B, k, none⟩ = false
def upd (g : Nat → Nat) (j x : Nat) : Nat → Nat := fun k => if k = j then x else g k
theorem RowI.set {w : World} {B N j x : Nat} {g : Nat → Nat} (h : RowI w B N g) (hj : j < N) : RowI (w.setCell ⟨B, j, none⟩ (.int .i64 x)) B N (upd g j x) := fun k hk => by
  obtain ⟨h1, h2⟩ := h k hk
  refine ⟨?_, by rw [World.frozen?_setCell]; exact h2⟩
  unfold upd
  by_cases hkj : k = j
  · subst hkj
    rw [if_pos rfl]
    exact World.cell?_setCell_same' _ _ _ (by rw [h1]; rfl)
  · rw [if_neg hkj, World.cell?_setCell_other _ _ _ _ (by simp)]
    exact h1
theorem RowI.congr {w : World} {B N : Nat} {g g' : Nat → Nat} (h : RowI w B N g) (e : ∀ k, k < N → g k = g' k) : RowI w B N g' := fun k hk => by
  rw [← e k hk]; exact h k hk
theorem RowI.made (w : World) (N : Nat) (T : TypeId) : RowI (w.alloc (.cells (madeCells #[.int .i64 0] N) T)) w.heap.size N (fun _ => 0) := fun k hk =>
  ⟨(World.rowIs_made w (.int .i64 0) N T).cell hk, (World.rowIs_made w (.int .i64 0) N T).frozen k⟩
theorem RowI.set' {w : World} {B N j x : Nat} {z : Int} {g : Nat → Nat} (h : RowI w B N g) (hj : j < N) (hz : z = (x : Int)) : RowI (w.setCell ⟨B, j, none⟩ (.int .i64 z)) B N (upd g j x) := by
  rw [hz]; exact h.set hj
theorem RowI.below {w w' : World} {B N : Nat} {g : Nat → Nat} (h : RowI w B N g) (hb : Below w.heap.size w w') : RowI w' B N g := fun k hk => by
  obtain ⟨h1, h2⟩ := h k hk
  refine ⟨cell_below hb h1, ?_⟩
  rw [hb.frozen (World.block_lt_of_cell? w _ h1)]; exact h2
theorem upd_upd (g : Nat → Nat) (j x y k : Nat) : upd (upd g j x) j y k = upd g j y k := by
  unfold upd; by_cases h : k = j <;> simp [h]
theorem Try.infoInt : (Try.prog.info? 3).map (fun i => (i.zero, i.size, i.bytes)) = some (some (.int .i64 0), 1, 8) := by kernel_rfl

theorem bits_has' (s v : Nat) (hs : s < 18446744073709551616) (hv : v ≤ 64) : (bits .and .u64 ((s : Int) / 2 ^ v) 1 == 1) = s.testBit v := by
  have h := bits_has s v hs
  rwa [Nat.min_eq_left hv] at h
theorem bits_hasnt' (s v : Nat) (hs : s < 18446744073709551616) (hv : v ≤ 64) : (bits .and .u64 ((s : Int) / 2 ^ v) 1 == 0) = !s.testBit v := by
  have h := bits_hasnt s v hs
  rwa [Nat.min_eq_left hv] at h
theorem wrap_pow {k N : Nat} (hN : N = 2 ^ k) (hk : k ≤ 4) : IntKind.i64.wrap ((2 : Int) ^ k) = (N : Int) := by
  have h : k = 0 ∨ k = 1 ∨ k = 2 ∨ k = 3 ∨ k = 4 := by omega
  rw [hN]
  rcases h with rfl | rfl | rfl | rfl | rfl <;> rfl
theorem shl_one {u P : Nat} (hP : P = 2 ^ u) (hu : u < 64) : IntKind.u64.wrap ((2 : Int) ^ u) = (P : Int) := by
  have e : ((2 : Int) ^ u) = ((2 ^ u : Nat) : Int) := by rw [Int.natCast_pow]; rfl
  have h := pow_lt64 hu
  rw [e, hP, IntKind.wrap_u64]; omega
theorem or_mkSet {u P : Nat} {p : Nat → Bool} (hP : P = 2 ^ u) (hu : u < 64) (h : p u = true) : bits .or .u64 (mkSet u p : Int) (P : Int) = ((mkSet (u + 1) p : Nat) : Int) := by
  have h1 := Nat.lt_trans (mkSet_lt u p) (pow_lt64 hu)
  rw [u64_or_nat _ _ h1 (by rw [hP]; exact pow_lt64 hu), mkSet_succ_yes h, hP]
/-- A slice of ints, read. -/
def I64s (w : World) (A : Option Addr) (n : Nat) (f : Nat → Int) : Prop :=
  ∀ k, k < n → ∃ b off, A = some ⟨b, off, none⟩ ∧ w.cell? ⟨b, off + k, none⟩ = some (.int .i64 (f k)) ∧ -9223372036854775808 ≤ f k ∧ f k ≤ 9223372036854775807
theorem I64s.below {w w' : World} {A : Option Addr} {n : Nat} {f : Nat → Int} (h : I64s w A n f) (hb : Below w.heap.size w w') : I64s w' A n f := fun k hk =>
  let ⟨b, off, e, hc, hf⟩ := h k hk; ⟨b, off, e, cell_below hb hc, hf⟩
theorem RowI.i64s {w : World} {B N : Nat} {g : Nat → Nat} (h : RowI w B N g) (hg : ∀ k, g k ≤ 9223372036854775807) : I64s w (some ⟨B, 0, none⟩) N (fun k => (g k : Int)) := fun k hk => by
  have := hg k
  exact ⟨B, 0, rfl, by rw [Nat.zero_add]; exact (h k hk).1, by dsimp only; omega, by dsimp only; omega⟩
theorem i64s_nil (w : World) (f : Nat → Int) (A : Option Addr) : I64s w A 0 f := fun _ hk => absurd hk (Nat.not_lt_zero _)
theorem u64s_nil (w : World) (f : Nat → Nat) (A : Option Addr) : U64s w A 0 f := fun _ hk => absurd hk (Nat.not_lt_zero _)
end Go.Proofs.Ytahaimecchdfeaa

/-
  Plain lemmas: slices that a call makes by append, and how they read.
-/
namespace Go.Proofs.Ytahaimecchdfeaa
open Go.RowKit

theorem own_ne {w : World} {base base' e e' n n' : Nat} {v v' : Value} {xs xs' : List Value} (h : w.ownsRow base e 1 v n xs) (h' : w.ownsRow base' e' 1 v' n' xs') (hne : e ≠ e') :
    v.ownBlock = none ∨ v.ownBlock ≠ v'.ownBlock := by
  rcases h.2 with ⟨rfl, _⟩ | ⟨g, cap, cur, rfl, _, hh, _⟩
  · exact .inl rfl
  · refine .inr ?_
    rcases h'.2 with ⟨rfl, _⟩ | ⟨g', cap', cur', rfl, _, hh', _⟩
    · simp [Value.ownBlock]
    · intro he
      have : g = g' := by simpa [Value.ownBlock] using he
      subst this
      rw [hh] at hh'
      injection hh' with hh'
      injection hh' with _ ht
      exact hne ht
theorem own_mono {w : World} {base base' e n : Nat} {v : Value} {xs : List Value} (h : w.ownsRow base e 1 v n xs) (hb : base' ≤ base) : w.ownsRow base' e 1 v n xs := by
  refine ⟨h.1, ?_⟩
  rcases h.2 with h' | ⟨g, cap, cur, hv, hg, r⟩
  · exact .inl h'
  · exact .inr ⟨g, cap, cur, hv, Nat.le_trans hb hg, r⟩
theorem own_below {w w' : World} {B base e n : Nat} {v : Value} {xs : List Value} (h : w.ownsRow base e 1 v n xs) (hb : Below B w w') (hB : w.heap.size ≤ B) : w'.ownsRow base e 1 v n xs := by
  refine ⟨h.1, ?_⟩
  rcases h.2 with h' | ⟨g, cap, cur, hv, hg, hh, r⟩
  · exact .inl h'
  · exact .inr ⟨g, cap, cur, hv, hg, (hb.block g (by have := (Array.getElem?_eq_some_iff.1 hh).1; omega)).trans hh, r⟩
/-- Its shape: an address or none; the cells. -/
theorem own_form {w : World} {base e n : Nat} {v : Value} {xs : List Value} (h : w.ownsRow base e 1 v n xs) :
    ∃ A c, v = .slice A n c ∧ ∀ k, k < n → ∃ b, A = some ⟨b, 0, none⟩ ∧ base ≤ b ∧ b < w.heap.size ∧ w.cell? ⟨b, 0 + k, none⟩ = xs[k]? := by
  rcases h.2 with ⟨rfl, rfl⟩ | ⟨g, cap, cur, rfl, hg, hh, _, _, _, htake⟩
  · exact ⟨none, 0, rfl, fun k hk => absurd hk (Nat.not_lt_zero _)⟩
  · refine ⟨some ⟨g, 0, none⟩, cap, rfl, fun k hk => ⟨g, rfl, hg, (Array.getElem?_eq_some_iff.1 hh).1, ?_⟩⟩
    rw [Nat.zero_add, cell_of_row w g k cur e (0, 0) hh, ← htake, List.getElem?_take, if_pos (by omega)]
    simp
theorem own_succ {w : World} {base e n : Nat} {v : Value} {xs : List Value} (h : w.ownsRow base e 1 v (n + 1) xs) : ∃ g cap, v = .slice (some ⟨g, 0, none⟩) (n + 1) cap := by
  rcases h.2 with ⟨_, h0⟩ | ⟨g, cap, _, rfl, _⟩
  · omega
  · exact ⟨g, cap, rfl⟩
/-- The values of n uint64 numbers. -/
def u64L (f : Nat → Nat) (n : Nat) : List Value := (List.range n).map fun u => .int .u64 (f u : Nat)
theorem u64L_succ (f : Nat → Nat) (n : Nat) : u64L f (n + 1) = u64L f n ++ [.int .u64 (f n : Nat)] := by
  unfold u64L; rw [List.range_succ, List.map_append]; rfl
theorem u64L_get {f : Nat → Nat} {n k : Nat} (h : k < n) : (u64L f n)[k]? = some (.int .u64 (f k : Nat)) := by
  unfold u64L; simp [h]
/-- The blocks of a matrix lie at B or beyond. -/
def FreshM (B : Nat) (A : Option Addr) (n : Nat) (R : Nat → Option Addr) (m : Nat → Nat) : Prop :=
  (∀ i, i < n → ∃ b, A = some ⟨b, 0, none⟩ ∧ B ≤ b) ∧ ∀ i, i < n → ∀ j, j < m i → ∃ b, R i = some ⟨b, 0, none⟩ ∧ B ≤ b
theorem Mat.setCell {w : World} {A : Option Addr} {n B : Nat} {R : Nat → Option Addr} {m c : Nat → Nat} {F : Nat → Nat → Nat} (h : Mat w A n R m c F) (hf : FreshM B A n R m) {p : Addr} (hp : p.block < B) (x : Value) :
    Mat (w.setCell p x) A n R m c F := fun i hi => by
  obtain ⟨b, off, e, hc, hm, hr⟩ := h i hi
  obtain ⟨b', e', hb⟩ := hf.1 i hi
  have e2 := e.symm.trans e'
  injection e2 with e2
  injection e2 with e21 e22 e23
  subst e21
  refine ⟨b, off, e, ?_, hm, fun k hk => ?_⟩
  · rw [World.cell?_setCell_other _ _ _ _ (fun e => by subst e; simp at hp; omega)]; exact hc
  · obtain ⟨b2, off2, f, hc2, hf2⟩ := hr k hk
    obtain ⟨b3, f', hb3⟩ := hf.2 i hi k hk
    have f2 := f.symm.trans f'
    injection f2 with f2
    injection f2 with f21 f22 f23
    subst f21
    exact ⟨b2, off2, f, by rw [World.cell?_setCell_other _ _ _ _ (fun e => by subst e; simp at hp; omega)]; exact hc2, hf2⟩
theorem FreshM.mono {B B' : Nat} {A : Option Addr} {n : Nat} {R : Nat → Option Addr} {m : Nat → Nat} (h : FreshM B A n R m) (hb : B' ≤ B) : FreshM B' A n R m :=
  ⟨fun i hi => let ⟨b, e, h⟩ := h.1 i hi; ⟨b, e, by omega⟩, fun i hi j hj => let ⟨b, e, h⟩ := h.2 i hi j hj; ⟨b, e, by omega⟩⟩
theorem own_u64s {w : World} {base e n : Nat} {v : Value} {f : Nat → Nat} (h : w.ownsRow base e 1 v n (u64L f n)) (hf : ∀ u, u < n → f u < 18446744073709551616) :
    ∃ A c, v = .slice A n c ∧ U64s w A n f ∧ ∀ k, k < n → ∃ b, A = some ⟨b, 0, none⟩ ∧ base ≤ b := by
  obtain ⟨A, c, rfl, hA⟩ := own_form h
  refine ⟨A, c, rfl, fun k hk => ?_, fun k hk => let ⟨b, e, hb, _⟩ := hA k hk; ⟨b, e, hb⟩⟩
  obtain ⟨b, rfl, _, _, hc⟩ := hA k hk
  exact ⟨b, 0, rfl, by rw [hc, u64L_get hk], hf k hk⟩
theorem one_oneCell {x : Value} (h : x.oneCell' = true) : ∀ u ∈ [x], u.oneCell' = true := by simpa using h
end Go.Proofs.Ytahaimecchdfeaa

/-
  Plain facts for the walks: blocks of the call's own that are known whole (boxes); rows of ints; runs and systems, read.
-/
namespace Go.Proofs.Ytahaimecchdfeaa
open Go.RowKit

/-! ### boxes -/
/-- A block whose cells are known. -/
def Blk (w : World) (b : Nat) (T : TypeId) (xs : Array Value) : Prop := w.heap[b]? = some (.cells xs T (0, 0))
theorem Blk.new (w : World) (xs : Array Value) (T : TypeId) : Blk (w.alloc (.cells xs T)) w.heap.size T xs := heap_alloc_new w _
theorem Blk.lt {w : World} {b : Nat} {T : TypeId} {xs : Array Value} (h : Blk w b T xs) : b < w.heap.size := (Array.getElem?_eq_some_iff.1 h).1
theorem Blk.kept {w w1 : World} {b : Nat} {T : TypeId} {xs : Array Value} {row : Option Nat} (h : Blk w b T xs) (hg : w.grownBy w1 row) (hne : row ≠ some b) : Blk w1 b T xs :=
  (hg.block b h.lt (fun e => hne e.symm)).trans h
theorem Blk.below {w w1 : World} {b : Nat} {T : TypeId} {xs : Array Value} (h : Blk w b T xs) (hb : Below w.heap.size w w1) : Blk w1 b T xs := (hb.block b h.lt).trans h
theorem Blk.alloc {w : World} {b : Nat} {T : TypeId} {xs : Array Value} (h : Blk w b T xs) (o : Obj) : Blk (w.alloc o) b T xs := h.below (below_alloc w o)
theorem Blk.cell {w : World} {b k : Nat} {T : TypeId} {xs : Array Value} {v : Value} (h : Blk w b T xs) (hk : xs[k]? = some v) : w.cell? ⟨b, k, none⟩ = some v := by
  rw [cell_of_row w b k xs T (0, 0) h]; exact hk
theorem Blk.frozen {w : World} {b k : Nat} {T : TypeId} {xs : Array Value} (h : Blk w b T xs) : w.frozen? ⟨b, k, none⟩ = false := by
  simp [World.frozen?, show w.heap[b]? = _ from h]
theorem Blk.set {w : World} {b : Nat} {T : TypeId} {xs : Array Value} (h : Blk w b T xs) (k : Nat) (v : Value) : Blk (w.setCell ⟨b, k, none⟩ v) b T (xs.setIfInBounds k v) := Lib.heap_setCell_same h v
theorem Blk.ne_row {w : World} {b base e n : Nat} {T : TypeId} {xs : Array Value} {v : Value} {ys : List Value} (h : Blk w b T xs) (hr : w.ownsRow base e 1 v n ys) (hT : T ≠ e) : v.ownBlock ≠ some b := by
  rcases hr.2 with ⟨rfl, _⟩ | ⟨g, cap, cur, rfl, _, hgb, _⟩
  · simp [Value.ownBlock]
  · intro e'
    obtain rfl : g = b := by simpa [Value.ownBlock] using e'
    have := (show w.heap[g]? = _ from h).symm.trans hgb
    simp at this
    exact hT this.2
theorem Blk.ne {w : World} {b b' : Nat} {T T' : TypeId} {xs xs' : Array Value} (h : Blk w b T xs) (h' : Blk w b' T' xs') (hT : T ≠ T') : b ≠ b' := by
  intro e; subst e
  have := (show w.heap[b]? = _ from h).symm.trans h'
  simp at this
  exact hT this.2
theorem gr_below {w w1 : World} (hb : Below w.heap.size w w1) (row : Option Nat) : w.grownBy w1 row := ⟨hb.os, hb.tape, hb.output, hb.size, fun k hk _ => hb.block k hk⟩
theorem gr_set (w : World) (b k : Nat) (v : Value) : w.grownBy (w.setCell ⟨b, k, none⟩ v) (some b) := Lib.grownBy_setCell w b k v
theorem own_set {w : World} {base e n b k : Nat} {v : Value} {xs : List Value} {T : TypeId} {cs : Array Value} (h : w.ownsRow base e 1 v n xs) (hb : Blk w b T cs) (hT : T ≠ e) (x : Value) : (w.setCell ⟨b, k, none⟩ x).ownsRow base e 1 v n xs :=
  h.kept (gr_set w b k x) (.inr (hb.ne_row h hT))
theorem Blk.set_ne {w : World} {b b' : Nat} {T : TypeId} {xs : Array Value} (h : Blk w b T xs) (hne : b ≠ b') (k : Nat) (v : Value) : Blk (w.setCell ⟨b', k, none⟩ v) b T xs :=
  h.kept (gr_set w b' k v) (fun e => hne (by injection e with e; exact e.symm))
/-- A slice of the call's own with one element, laid by a composite. -/
theorem own_one {w : World} {base e b : Nat} {x : Value} (h : Blk w b e #[x]) (hb : base ≤ b) : w.ownsRow base e 1 (.slice (some ⟨b, 0, none⟩) 1 1) 1 [x] :=
  ⟨rfl, .inr ⟨b, 1, #[x], rfl, hb, h, Nat.le_refl _, by decide, rfl, rfl⟩⟩

/-! ### ints that a call owns -/
def i64L (f : Nat → Int) (n : Nat) : List Value := (List.range n).map fun u => .int .i64 (f u)
theorem i64L_succ (f : Nat → Int) (n : Nat) : i64L f (n + 1) = i64L f n ++ [.int .i64 (f n)] := by
  unfold i64L; rw [List.range_succ, List.map_append]; rfl
theorem i64L_get {f : Nat → Int} {n k : Nat} (h : k < n) : (i64L f n)[k]? = some (.int .i64 (f k)) := by
  unfold i64L; simp [h]
theorem i64L_congr {f g : Nat → Int} {n : Nat} (h : ∀ k, k < n → f k = g k) : i64L f n = i64L g n := by
  unfold i64L
  refine List.map_congr_left fun k hk => ?_
  rw [h k (List.mem_range.1 hk)]
theorem own_i64s {w : World} {base e n : Nat} {v : Value} {f : Nat → Int} (h : w.ownsRow base e 1 v n (i64L f n)) (hf : ∀ u, u < n → -9223372036854775808 ≤ f u ∧ f u ≤ 9223372036854775807) :
    ∃ A c, v = .slice A n c ∧ I64s w A n f := by
  obtain ⟨A, c, rfl, hA⟩ := own_form h
  refine ⟨A, c, rfl, fun k hk => ?_⟩
  obtain ⟨b, rfl, _, _, hc⟩ := hA k hk
  exact ⟨b, 0, rfl, by rw [hc, i64L_get hk], hf k hk⟩

/-! ### rows of ints, runs, systems -/
/-- A slice of slices of ints, read. -/
def MatI (w : World) (A : Option Addr) (n : Nat) (R : Nat → Option Addr) (m c : Nat → Nat) (F : Nat → Nat → Int) : Prop :=
  ∀ i, i < n → ∃ b off, A = some ⟨b, off, none⟩ ∧ w.cell? ⟨b, off + i, none⟩ = some (.slice (R i) (m i) (c i)) ∧ m i ≤ 9223372036854775807 ∧ I64s w (R i) (m i) (F i)
theorem MatI.below {w w' : World} {A : Option Addr} {n : Nat} {R : Nat → Option Addr} {m c : Nat → Nat} {F : Nat → Nat → Int} (h : MatI w A n R m c F) (hb : Below w.heap.size w w') : MatI w' A n R m c F := fun k hk =>
  let ⟨b, off, e, hc, hm, hr⟩ := h k hk; ⟨b, off, e, cell_below hb hc, hm, hr.below hb⟩
/-- A run, read: n times, m agents (for a run in which all times have so many), the states and the facts. -/
def RunR (w : World) (v : Value) (n : Nat) (m : Nat → Nat) (L : Nat → Nat → Int) (k : Nat) (F : Nat → Nat) : Prop :=
  ∃ A c B d R cc, v = .agg #[.slice A n c, .slice B k d] ∧ MatI w A n R m cc L ∧ U64s w B k F
theorem RunR.below {w w' : World} {v : Value} {n k : Nat} {m : Nat → Nat} {L : Nat → Nat → Int} {F : Nat → Nat} (h : RunR w v n m L k F) (hb : Below w.heap.size w w') : RunR w' v n m L k F := by
  obtain ⟨A, c, B, d, R, cc, e, h1, h2⟩ := h
  exact ⟨A, c, B, d, R, cc, e, h1.below hb, h2.below hb⟩
end Go.Proofs.Ytahaimecchdfeaa

/-
  Plain facts for the walks: what a call owns, whatever an element's size; runs and lists of runs that a call has made.
-/
namespace Go.Proofs.Ytahaimecchdfeaa
open Go.RowKit

section
variable {w w1 : World} {base base' e e' sz sz' n n' : Nat} {v v' : Value} {xs xs' : List Value} {T : TypeId} {b : Nat} {cs : Array Value}
theorem own_ne' (h : w.ownsRow base e sz v n xs) (h' : w.ownsRow base' e' sz' v' n' xs') (hne : e ≠ e') : v.ownBlock = none ∨ v.ownBlock ≠ v'.ownBlock := by
  rcases h.2 with ⟨rfl, _⟩ | ⟨g, cap, cur, rfl, _, hh, _⟩
  · exact .inl rfl
  · refine .inr ?_
    rcases h'.2 with ⟨rfl, _⟩ | ⟨g', cap', cur', rfl, _, hh', _⟩
    · simp [Value.ownBlock]
    · intro he
      have : g = g' := by simpa [Value.ownBlock] using he
      subst this
      rw [hh] at hh'
      injection hh' with hh'
      injection hh' with _ ht
      exact hne ht
theorem own_below' {B : Nat} (h : w.ownsRow base e sz v n xs) (hb : Below B w w1) (hB : w.heap.size ≤ B) : w1.ownsRow base e sz v n xs := by
  refine ⟨h.1, ?_⟩
  rcases h.2 with h' | ⟨g, cap, cur, hv, hg, hh, r⟩
  · exact .inl h'
  · exact .inr ⟨g, cap, cur, hv, hg, (hb.block g (by have := (Array.getElem?_eq_some_iff.1 hh).1; omega)).trans hh, r⟩
theorem own_mono' (h : w.ownsRow base e sz v n xs) (hb : base' ≤ base) : w.ownsRow base' e sz v n xs := by
  refine ⟨h.1, ?_⟩
  rcases h.2 with h' | ⟨g, cap, cur, hv, hg, r⟩
  · exact .inl h'
  · exact .inr ⟨g, cap, cur, hv, Nat.le_trans hb hg, r⟩
theorem Blk.ne_row' (h : Blk w b T cs) (hr : w.ownsRow base e sz v n xs) (hT : T ≠ e) : v.ownBlock ≠ some b := by
  rcases hr.2 with ⟨rfl, _⟩ | ⟨g, cap, cur, rfl, _, hgb, _⟩
  · simp [Value.ownBlock]
  · intro e'
    obtain rfl : g = b := by simpa [Value.ownBlock] using e'
    have := (show w.heap[g]? = _ from h).symm.trans hgb
    simp at this
    exact hT this.2
theorem own_set' (h : w.ownsRow base e sz v n xs) (hb : Blk w b T cs) (hT : T ≠ e) (k : Nat) (x : Value) : (w.setCell ⟨b, k, none⟩ x).ownsRow base e sz v n xs :=
  h.kept (gr_set w b k x) (.inr (hb.ne_row' h hT))
theorem own_alloc' (h : w.ownsRow base e sz v n xs) (o : Obj) : (w.alloc o).ownsRow base e sz v n xs := own_below' h (below_alloc w o) (Nat.le_refl _)
theorem own_form' (h : w.ownsRow base e sz v n xs) : ∃ A c, v = .slice A n c ∧ ∀ k, k < n * sz → ∃ b, A = some ⟨b, 0, none⟩ ∧ base ≤ b ∧ b < w.heap.size ∧ w.cell? ⟨b, k, none⟩ = xs[k]? := by
  rcases h.2 with ⟨rfl, rfl⟩ | ⟨g, cap, cur, rfl, hg, hh, _, _, _, htake⟩
  · exact ⟨none, 0, rfl, fun k hk => by omega⟩
  · refine ⟨some ⟨g, 0, none⟩, cap, rfl, fun k hk => ⟨g, rfl, hg, (Array.getElem?_eq_some_iff.1 hh).1, ?_⟩⟩
    rw [cell_of_row w g k cur e (0, 0) hh, ← htake, List.getElem?_take, if_pos hk]
    simp
/-- The blocks of a type are as they were. -/
def Keeps (w w1 : World) (T : TypeId) : Prop := ∀ b cs, Blk w b T cs → Blk w1 b T cs
theorem Keeps.refl (w : World) (T : TypeId) : Keeps w w T := fun _ _ h => h
theorem Keeps.trans {w2 : World} (h : Keeps w w1 T) (h' : Keeps w1 w2 T) : Keeps w w2 T := fun b cs hb => h' b cs (h b cs hb)
theorem Keeps.of_below (hb : Below w.heap.size w w1) (T : TypeId) : Keeps w w1 T := fun _ _ h => h.below hb
theorem Keeps.of_set {T' : TypeId} {cs' : Array Value} (hb : Blk w b T' cs') (hT : T ≠ T') (k : Nat) (x : Value) : Keeps w (w.setCell ⟨b, k, none⟩ x) T := fun _ _ h => h.set_ne (h.ne hb hT) k x
theorem Keeps.of_grown (hg : w.grownBy w1 v.ownBlock) (hr : w.ownsRow base e sz v n xs) (hT : T ≠ e) : Keeps w w1 T := fun _ _ h => h.kept hg (h.ne_row' hr hT)
theorem own_keeps (h : w.ownsRow base e sz v n xs) (hk : Keeps w w1 e) : w1.ownsRow base e sz v n xs := by
  refine ⟨h.1, ?_⟩
  rcases h.2 with h' | ⟨g, cap, cur, hv, hg, hh, r⟩
  · exact .inl h'
  · exact .inr ⟨g, cap, cur, hv, hg, hk g cur hh, r⟩
end

theorem below_drew {B : Nat} {a w : World} (h : Below B a w) : Below B a w.drew := ⟨h.os, h.tape, h.output, h.size, h.block⟩
theorem below_trans {w x y : World} (h : Below w.heap.size w x) (h2 : Below x.heap.size x y) : Below w.heap.size w y := h.trans (h2.mono h.size)
theorem below_more {w x : World} (h : Below w.heap.size w x) (o : Obj) : Below w.heap.size w (x.alloc o) := h.alloc h.size o
theorem below_grow {w x y : World} {e sz n : Nat} {v : Value} {xs : List Value} (h : Below w.heap.size w x) (hown : x.ownsRow w.heap.size e sz v n xs) (hg : x.grownBy y v.ownBlock) : Below w.heap.size w y := h.grown hg h.size (fun k hk => (hown.lt k hk).1)
theorem own_from {w x y : World} {e sz n : Nat} {v : Value} {xs : List Value} (h : Below w.heap.size w x) (hown : y.ownsRow x.heap.size e sz v n xs) : y.ownsRow w.heap.size e sz v n xs := own_mono' hown h.size
theorem Blk.new' (w : World) (xs : Array Value) (T : TypeId) (b : Nat) (h : b = w.heap.size) : Blk (w.alloc (.cells xs T)) b T xs := by subst h; exact Blk.new w xs T
theorem Blk.kept_row {w w1 : World} {b : Nat} {T : TypeId} {cs : Array Value} {base e sz n : Nat} {v : Value} {xs : List Value} (h : Blk w b T cs) (hr : w.ownsRow base e sz v n xs) (hT : T ≠ e) (hg : w.grownBy w1 v.ownBlock) : Blk w1 b T cs := h.kept hg (h.ne_row' hr hT)
theorem below_put2 {w x : World} {b : Nat} (h : Below w.heap.size w x) (hb : w.heap.size ≤ b) (u v : Value) : Below w.heap.size w ((x.setCell ⟨b, 0, none⟩ u).setCell ⟨b, 1, none⟩ v) :=
  (h.setCell (p := ⟨b, 0, none⟩) hb u).setCell (p := ⟨b, 1, none⟩) hb v
/-- An append onto what was made since w. -/
theorem below_append {w w1 w2 : World} {B e sz n : Nat} {v : Value} {xs : List Value} {o : Obj} (hb : Below B w w1) (hB : w.heap.size = B) (hown : w1.ownsRow B e sz v n xs) (hg : (w1.alloc o).grownBy w2 v.ownBlock) : Below B w w2 :=
  (hb.alloc (by have := hb.size; omega) o).grown hg (by have := hb.size; simp; omega) (fun k hk => (hown.lt k hk).1)

/-- A box of four cells is written whole. -/
theorem Blk.put4 {w : World} {b : Nat} {T : TypeId} {x0 x1 x2 x3 : Value} (h : Blk w b T #[x0, x1, x2, x3]) (y0 y1 y2 y3 : Value) :
    (w.cell? ⟨b, 0, none⟩ = some x0 ∧ w.frozen? ⟨b, 0, none⟩ = false ∧
    (w.setCell ⟨b, 0, none⟩ y0).cell? ⟨b, 1, none⟩ = some x1 ∧ (w.setCell ⟨b, 0, none⟩ y0).frozen? ⟨b, 1, none⟩ = false ∧
    ((w.setCell ⟨b, 0, none⟩ y0).setCell ⟨b, 1, none⟩ y1).cell? ⟨b, 2, none⟩ = some x2 ∧ ((w.setCell ⟨b, 0, none⟩ y0).setCell ⟨b, 1, none⟩ y1).frozen? ⟨b, 2, none⟩ = false ∧
    (((w.setCell ⟨b, 0, none⟩ y0).setCell ⟨b, 1, none⟩ y1).setCell ⟨b, 2, none⟩ y2).cell? ⟨b, 3, none⟩ = some x3 ∧ (((w.setCell ⟨b, 0, none⟩ y0).setCell ⟨b, 1, none⟩ y1).setCell ⟨b, 2, none⟩ y2).frozen? ⟨b, 3, none⟩ = false) ∧
    Blk ((((w.setCell ⟨b, 0, none⟩ y0).setCell ⟨b, 1, none⟩ y1).setCell ⟨b, 2, none⟩ y2).setCell ⟨b, 3, none⟩ y3) b T #[y0, y1, y2, y3] := by
  have h1 : Blk (w.setCell ⟨b, 0, none⟩ y0) b T #[y0, x1, x2, x3] := h.set 0 y0
  have h2 : Blk ((w.setCell ⟨b, 0, none⟩ y0).setCell ⟨b, 1, none⟩ y1) b T #[y0, y1, x2, x3] := h1.set 1 y1
  have h3 : Blk (((w.setCell ⟨b, 0, none⟩ y0).setCell ⟨b, 1, none⟩ y1).setCell ⟨b, 2, none⟩ y2) b T #[y0, y1, y2, x3] := h2.set 2 y2
  exact ⟨⟨h.cell rfl, h.frozen, h1.cell rfl, h1.frozen, h2.cell rfl, h2.frozen, h3.cell rfl, h3.frozen⟩, h3.set 3 y3⟩
theorem below_put4 {w x : World} {b : Nat} (h : Below w.heap.size w x) (hb : w.heap.size ≤ b) (y0 y1 y2 y3 : Value) : Below w.heap.size w ((((x.setCell ⟨b, 0, none⟩ y0).setCell ⟨b, 1, none⟩ y1).setCell ⟨b, 2, none⟩ y2).setCell ⟨b, 3, none⟩ y3) :=
  (((h.setCell (p := ⟨b, 0, none⟩) hb _).setCell (p := ⟨b, 1, none⟩) hb _).setCell (p := ⟨b, 2, none⟩) hb _).setCell (p := ⟨b, 3, none⟩) hb _
theorem Keeps.put4 {w : World} {b : Nat} {T T' : TypeId} {x0 x1 x2 x3 : Value} (h : Blk w b T #[x0, x1, x2, x3]) (hT : T' ≠ T) (y0 y1 y2 y3 : Value) : Keeps w ((((w.setCell ⟨b, 0, none⟩ y0).setCell ⟨b, 1, none⟩ y1).setCell ⟨b, 2, none⟩ y2).setCell ⟨b, 3, none⟩ y3) T' := by
  have h1 : Blk (w.setCell ⟨b, 0, none⟩ y0) b T #[y0, x1, x2, x3] := h.set 0 y0
  have h2 : Blk ((w.setCell ⟨b, 0, none⟩ y0).setCell ⟨b, 1, none⟩ y1) b T #[y0, y1, x2, x3] := h1.set 1 y1
  have h3 : Blk (((w.setCell ⟨b, 0, none⟩ y0).setCell ⟨b, 1, none⟩ y1).setCell ⟨b, 2, none⟩ y2) b T #[y0, y1, y2, x3] := h2.set 2 y2
  exact (((Keeps.of_set h hT 0 y0).trans (.of_set h1 hT 1 y1)).trans (.of_set h2 hT 2 y2)).trans (.of_set h3 hT 3 y3)

/-! ### runs -/
/-- A run, owned. -/
def RunO (w : World) (base : Nat) (v : Value) (n : Nat) (m : Nat → Nat) (L : Nat → Nat → Int) (k : Nat) (F : Nat → Nat) : Prop :=
  ∃ vL vF rows, v = .agg #[vL, vF] ∧ w.ownsRow base 75 1 vL n rows ∧ (∀ i, i < n → ∃ rv, rows[i]? = some rv ∧ w.ownsRow base 3 1 rv (m i) (i64L (L i) (m i))) ∧ w.ownsRow base 121 1 vF k (u64L F k)
section
variable {w w1 : World} {base : Nat} {v : Value} {n k : Nat} {m : Nat → Nat} {L : Nat → Nat → Int} {F : Nat → Nat}
theorem RunO.keeps (h : RunO w base v n m L k F) (h1 : Keeps w w1 75) (h2 : Keeps w w1 3) (h3 : Keeps w w1 121) : RunO w1 base v n m L k F := by
  obtain ⟨vL, vF, rows, rfl, oL, oR, oF⟩ := h
  exact ⟨vL, vF, rows, rfl, own_keeps oL h1, fun i hi => let ⟨rv, e, h⟩ := oR i hi; ⟨rv, e, own_keeps h h2⟩, own_keeps oF h3⟩
theorem RunO.below (h : RunO w base v n m L k F) (hb : Below w.heap.size w w1) : RunO w1 base v n m L k F := h.keeps (.of_below hb _) (.of_below hb _) (.of_below hb _)
theorem RunO.mono {base' : Nat} (h : RunO w base v n m L k F) (hb : base' ≤ base) : RunO w base' v n m L k F := by
  obtain ⟨vL, vF, rows, rfl, oL, oR, oF⟩ := h
  exact ⟨vL, vF, rows, rfl, own_mono' oL hb, fun i hi => let ⟨rv, e, h⟩ := oR i hi; ⟨rv, e, own_mono' h hb⟩, own_mono' oF hb⟩
theorem RunO.shape (h : RunO w base v n m L k F) : ∃ AL cL AF cF, v = .agg #[.slice AL n cL, .slice AF k cF] := by
  obtain ⟨vL, vF, rows, rfl, oL, _, oF⟩ := h
  obtain ⟨A, c, rfl, _⟩ := own_form oL
  obtain ⟨B, d, rfl, _⟩ := own_form oF
  exact ⟨A, c, B, d, rfl⟩
theorem RunO.read (h : RunO w base v n m L k F) (hm : ∀ i, i < n → m i ≤ 9223372036854775807) (hL : ∀ i j, i < n → j < m i → -9223372036854775808 ≤ L i j ∧ L i j ≤ 9223372036854775807) (hF : ∀ u, u < k → F u < 18446744073709551616) : RunR w v n m L k F := by
  obtain ⟨vL, vF, rows, rfl, oL, oR, oF⟩ := h
  have hch : ∀ i, ∃ q : Option Addr × Nat, i < n → rows[i]? = some (.slice q.1 (m i) q.2) ∧ I64s w q.1 (m i) (L i) := fun i => by
    by_cases hi : i < n
    · obtain ⟨rv, h1, h2⟩ := oR i hi
      obtain ⟨A', c', rfl, hu⟩ := own_i64s h2 (fun u hu => hL i u hi hu)
      exact ⟨(A', c'), fun _ => ⟨h1, hu⟩⟩
    · exact ⟨(none, 0), fun h => absurd h hi⟩
  obtain ⟨f, hf⟩ := Classical.axiomOfChoice hch
  obtain ⟨A, c, rfl, hA⟩ := own_form oL
  obtain ⟨B, d, rfl, hU, _⟩ := own_u64s oF hF
  refine ⟨A, c, B, d, fun i => (f i).1, fun i => (f i).2, rfl, fun i hi => ?_, hU⟩
  obtain ⟨b, rfl, _, _, hc⟩ := hA i hi
  exact ⟨b, 0, rfl, by rw [hc]; exact (hf i hi).1, hm i hi, (hf i hi).2⟩
end
/-- What a run is. -/
structure RunD where
  n : Nat
  m : Nat → Nat
  L : Nat → Nat → Int
  k : Nat
  F : Nat → Nat
def RunD.owned (d : RunD) (w : World) (base : Nat) (v : Value) : Prop := RunO w base v d.n d.m d.L d.k d.F
/-- A slice of runs, owned. -/
def RunsO (w : World) (base : Nat) (v : Value) (ps : List RunD) : Prop :=
  ∃ rows, w.ownsRow base 69 2 v ps.length rows ∧ ∀ i d, ps[i]? = some d → ∃ x y, rows[i * 2]? = some x ∧ rows[i * 2 + 1]? = some y ∧ d.owned w base (.agg #[x, y])
theorem RunsO.nil (w : World) (base : Nat) : RunsO w base (.slice none 0 0) [] := ⟨[], World.ownsRow_nil _ _ _ _, fun i d h => by simp at h⟩
theorem RunsO.keeps {w w1 : World} {base : Nat} {v : Value} {ps : List RunD} (h : RunsO w base v ps) (h0 : Keeps w w1 69) (h1 : Keeps w w1 75) (h2 : Keeps w w1 3) (h3 : Keeps w w1 121) : RunsO w1 base v ps := by
  obtain ⟨rows, ho, hr⟩ := h
  exact ⟨rows, own_keeps ho h0, fun i d hi => let ⟨x, y, e1, e2, h⟩ := hr i d hi; ⟨x, y, e1, e2, RunO.keeps h h1 h2 h3⟩⟩
theorem RunsO.below {w w1 : World} {base : Nat} {v : Value} {ps : List RunD} (h : RunsO w base v ps) (hb : Below w.heap.size w w1) : RunsO w1 base v ps := h.keeps (.of_below hb _) (.of_below hb _) (.of_below hb _) (.of_below hb _)
/-- A run is appended. -/
theorem RunsO.push {w w1 : World} {base : Nat} {v v' x y : Value} {ps : List RunD} {d : RunD} {o : Obj} {rows : List Value} (ho : w.ownsRow base 69 2 v ps.length rows)
    (hr : ∀ i d, ps[i]? = some d → ∃ x y, rows[i * 2]? = some x ∧ rows[i * 2 + 1]? = some y ∧ d.owned w base (.agg #[x, y])) (hd : d.owned w base (.agg #[x, y]))
    (hown : w1.ownsRow base 69 2 v' (ps.length + 1) (rows ++ [x, y])) (hg : (w.alloc o).grownBy w1 v.ownBlock) : RunsO w1 base v' (ps ++ [d]) := by
  have hb := below_alloc w o
  have K : ∀ T : TypeId, T ≠ 69 → Keeps w w1 T := fun T hT => (Keeps.of_below hb T).trans (Keeps.of_grown hg (own_alloc' ho o) hT)
  have hlen := ho.1
  refine ⟨rows ++ [x, y], by rw [List.length_append]; exact hown, fun i d' hi => ?_⟩
  by_cases h1 : i < ps.length
  · rw [List.getElem?_append_left h1] at hi
    obtain ⟨x', y', e1, e2, h⟩ := hr i d' hi
    exact ⟨x', y', by rw [List.getElem?_append_left (by omega)]; exact e1, by rw [List.getElem?_append_left (by omega)]; exact e2, RunO.keeps h (K _ (by decide)) (K _ (by decide)) (K _ (by decide))⟩
  · rw [List.getElem?_append_right (by omega)] at hi
    have h2 : i = ps.length := by
      have := (List.getElem?_eq_some_iff.1 hi).1
      simp at this
      omega
    subst h2
    simp at hi
    subst hi
    exact ⟨x, y, by rw [List.getElem?_append_right (by omega)]; simp [hlen], by rw [List.getElem?_append_right (by omega)]; simp [hlen], RunO.keeps hd (K _ (by decide)) (K _ (by decide)) (K _ (by decide))⟩
end Go.Proofs.Ytahaimecchdfeaa

/-
  Plain facts of layer 54: histories.
-/
namespace Go.Proofs.Ytahaimecchdfeaa
open Go.RowKit

/-- t rounds: what is left of the history are its first two digits. -/
def tmOk (a : Int) (h t : Nat) : Bool := decide (h / 4 ^ t = 4 ∨ a = 0 ∧ h / 4 ^ t = 5)
/-- The number of rounds of a history, or -1. -/
def tmN (a : Int) (h : Nat) : Int :=
  if tmOk a h 0 then 0 else if tmOk a h 1 then 1 else if tmOk a h 2 then 2 else if tmOk a h 3 then 3 else if tmOk a h 4 then 4 else if tmOk a h 5 then 5 else -1
def tmV (a h : Int) : Int := if a < 0 ∨ 1 < a ∨ h < 4 then -1 else tmN a h.toNat
theorem tmN_none {a : Int} {h : Nat} (hn : ∀ t, t ≤ 5 → tmOk a h t = false) : tmN a h = -1 := by
  unfold tmN
  rw [hn 0 (by decide), hn 1 (by decide), hn 2 (by decide), hn 3 (by decide), hn 4 (by decide), hn 5 (by decide)]; rfl
theorem tmN_some {a : Int} {h t : Nat} (ht : t ≤ 5) (hy : tmOk a h t = true) (hn : ∀ s, s < t → tmOk a h s = false) : tmN a h = t := by
  have h6 : t = 0 ∨ t = 1 ∨ t = 2 ∨ t = 3 ∨ t = 4 ∨ t = 5 := by omega
  unfold tmN
  rcases h6 with rfl | rfl | rfl | rfl | rfl | rfl
  · rw [hy]; rfl
  · rw [hn 0 (by decide), hy]; rfl
  · rw [hn 0 (by decide), hn 1 (by decide), hy]; rfl
  · rw [hn 0 (by decide), hn 1 (by decide), hn 2 (by decide), hy]; rfl
  · rw [hn 0 (by decide), hn 1 (by decide), hn 2 (by decide), hn 3 (by decide), hy]; rfl
  · rw [hn 0 (by decide), hn 1 (by decide), hn 2 (by decide), hn 3 (by decide), hn 4 (by decide), hy]; rfl
theorem tmOk_big {a : Int} {h t : Nat} (hb : 6 ≤ h / 4 ^ t) : tmOk a h t = false := by
  unfold tmOk; rw [decide_eq_false_iff_not]
  generalize h / 4 ^ t = x at hb ⊢
  omega
theorem div_pow_succ (h t : Nat) : h / 4 ^ (t + 1) = h / 4 ^ t / 4 := by rw [Nat.pow_succ, Nat.div_div_eq_div_mul]
theorem div_pow_le (h t d : Nat) : h / 4 ^ (t + d) ≤ h / 4 ^ t := by
  induction d with
  | zero => exact Nat.le_refl _
  | succ d ih => rw [← Nat.add_assoc, div_pow_succ]; exact Nat.le_trans (Nat.div_le_self _ _) ih
theorem tmOk_after {a : Int} {h t s : Nat} (hc : h / 4 ^ t < 16) (hs : t < s) : tmOk a h s = false := by
  obtain ⟨d, rfl⟩ : ∃ d, s = t + 1 + d := ⟨s - t - 1, by omega⟩
  have h1 := div_pow_le h (t + 1) d
  have h2 := div_pow_succ h t
  unfold tmOk; rw [decide_eq_false_iff_not]
  generalize h / 4 ^ (t + 1 + d) = x at h1 ⊢
  generalize h / 4 ^ (t + 1) = y at h1 h2
  generalize h / 4 ^ t = z at h2 hc
  omega
theorem tm_end {a : Int} {h t cur : Nat} (he : h / 4 ^ t = cur) (hc : cur < 16) (hb : ∀ s, s < t → 6 ≤ h / 4 ^ s) : tmN a h = if (cur = 4 ∨ a = 0 ∧ cur = 5) ∧ t ≤ 5 then (t : Int) else -1 := by
  by_cases h1 : (cur = 4 ∨ a = 0 ∧ cur = 5) ∧ t ≤ 5
  · rw [if_pos h1]
    exact tmN_some h1.2 (by unfold tmOk; rw [he, decide_eq_true_eq]; exact h1.1) fun s hs => tmOk_big (hb s hs)
  · rw [if_neg h1]
    refine tmN_none fun s hs => ?_
    rcases Nat.lt_trichotomy s t with h2 | rfl | h2
    · exact tmOk_big (hb s h2)
    · unfold tmOk; rw [he, decide_eq_false_iff_not]; exact fun h3 => h1 ⟨h3, hs⟩
    · exact tmOk_after (by rw [he]; exact hc) h2
theorem tm_great {a : Int} {h : Nat} (hb : 16384 ≤ h) : tmN a h = -1 := by
  refine tmN_none fun s hs => tmOk_big ?_
  have h6 : s = 0 ∨ s = 1 ∨ s = 2 ∨ s = 3 ∨ s = 4 ∨ s = 5 := by omega
  rcases h6 with rfl | rfl | rfl | rfl | rfl | rfl <;> simp <;> omega
theorem tmV_range (a h : Int) : -1 ≤ tmV a h ∧ tmV a h ≤ 5 := by
  unfold tmV tmN
  repeat' split
  all_goals omega
theorem tmN_le0 (h : Nat) : tmN 1 h ≤ tmN 0 h := by
  have key : ∀ t, t ≤ 5 → tmOk 1 h t = true → h / 4 ^ t = 4 := fun t _ hy => by
    unfold tmOk at hy; rw [decide_eq_true_eq] at hy; omega
  by_cases he : ∃ t, t ≤ 5 ∧ h / 4 ^ t = 4
  · obtain ⟨t, ht, h4⟩ := he
    have hb : ∀ s, s < t → 6 ≤ h / 4 ^ s := fun s hs => by
      obtain ⟨d, rfl⟩ : ∃ d, t = s + 1 + d := ⟨t - s - 1, by omega⟩
      have h1 := div_pow_le h (s + 1) d
      have h2 := div_pow_succ h s
      generalize h / 4 ^ (s + 1 + d) = x at h1 h4
      generalize h / 4 ^ (s + 1) = y at h1 h2
      generalize h / 4 ^ s = z at h2 ⊢
      omega
    rw [tm_end (a := 1) h4 (by decide) hb, tm_end (a := 0) h4 (by decide) hb]
    simp
  · rw [tmN_none (a := 1) fun t ht => by
      cases hy : tmOk 1 h t
      · rfl
      · exact absurd ⟨t, ht, key t ht hy⟩ he]
    have := (tmV_range 0 (h : Int)).1
    unfold tmN
    repeat' split
    all_goals omega
theorem tm_max (h : Int) : max (tmV 0 h) (tmV 1 h) = tmV 0 h := by
  have h1 : tmV 1 h ≤ tmV 0 h := by
    unfold tmV
    by_cases hc : h < 4
    · rw [if_pos (.inr (.inr hc)), if_pos (.inr (.inr hc))]; exact Int.le_refl _
    · rw [if_neg (by omega), if_neg (by omega)]; exact tmN_le0 _
  omega
/-- A history after a round, or -1. -/
def afV (h m : Int) : Int := if 0 ≤ tmV 0 h ∧ tmV 0 h ≤ 4 ∧ 0 ≤ m ∧ m ≤ 3 then 4 * h + m else -1
/-- The history at the beginning, or -1. -/
def stV (a b : Int) : Int := if 0 ≤ a ∧ a ≤ 1 ∧ 0 ≤ b ∧ b ≤ 1 then (if a = 1 then 4 else 4 + b) else -1
theorem tmV_hist {h : Int} (h0 : 0 ≤ tmV 0 h) (h4 : tmV 0 h ≤ 4) : 4 ≤ h ∧ h < 6144 := by
  unfold tmV at h0 h4
  by_cases hc : (0 : Int) < 0 ∨ (1 : Int) < 0 ∨ h < 4
  · rw [if_pos hc] at h0; omega
  · rw [if_neg hc] at h0 h4
    have hh : 4 ≤ h := by omega
    refine ⟨hh, ?_⟩
    obtain ⟨H, rfl⟩ : ∃ H : Nat, h = H := ⟨h.toNat, by omega⟩
    rw [Int.toNat_natCast] at h0 h4
    have key : ∃ t, t ≤ 4 ∧ tmOk 0 H t = true := by
      apply Classical.byContradiction
      intro hn
      have hf : ∀ t, t ≤ 4 → tmOk 0 H t = false := fun t ht => by
        cases hy : tmOk 0 H t
        · rfl
        · exact absurd ⟨t, ht, hy⟩ hn
      unfold tmN at h0 h4
      rw [hf 0 (by decide), hf 1 (by decide), hf 2 (by decide), hf 3 (by decide), hf 4 (by decide)] at h0 h4
      simp only [Bool.false_eq_true, if_false] at h0 h4
      split at h0 <;> split at h4 <;> omega
    obtain ⟨t, ht, hy⟩ := key
    unfold tmOk at hy
    rw [decide_eq_true_eq] at hy
    have h5 : t = 0 ∨ t = 1 ∨ t = 2 ∨ t = 3 ∨ t = 4 := by omega
    rcases h5 with rfl | rfl | rfl | rfl | rfl <;> simp at hy <;> omega
end Go.Proofs.Ytahaimecchdfeaa

/-
  Walks of layer 54: Time, After, Start, of the program and of the reference.
-/
namespace Go.Proofs.Ytahaimecchdfeaa
open Go.RowKit

theorem no_le {a b : Int} (h : ¬ a ≤ b) : b < a := by omega
set_option maxHeartbeats 1000000 in
theorem Time_any (a h : Int) (w : World) (hb : -9223372036854775808 ≤ h ∧ h ≤ 9223372036854775807) :
    Calls Try.prog 51 #[.int .i64 a, .int .i64 h] w fun e w' => e = .returned (.int .i64 (tmV a h)) ∧ w = w' := by
  by_cases h0 : a < 0
  · have hd1 : decide (a < 0) = true := decide_eq_true h0
    have HE := Lib.hid (show tmV a h = -1 from if_pos (.inl h0))
    clear h0
    go_enter Try.func51, Try.ntmps51
    go_wp2
    go_ret
    exact ⟨by rw [HE.out]; rfl, rfl⟩
  have hd1 : decide (a < 0) = false := decide_eq_false h0
  by_cases h1 : 1 < a
  · have hd2 : decide (1 < a) = true := decide_eq_true h1
    have HE := Lib.hid (show tmV a h = -1 from if_pos (.inr (.inl h1)))
    clear h0 h1
    go_enter Try.func51, Try.ntmps51
    go_wp2
    go_ret
    exact ⟨by rw [HE.out]; rfl, rfl⟩
  have hd2 : decide (1 < a) = false := decide_eq_false h1
  by_cases h4 : h < 4
  · have hd3 : decide (h < 4) = true := decide_eq_true h4
    have HE := Lib.hid (show tmV a h = -1 from if_pos (.inr (.inr h4)))
    clear h0 h1 h4
    go_enter Try.func51, Try.ntmps51
    go_wp2
    go_ret
    exact ⟨by rw [HE.out]; rfl, rfl⟩
  have hd3 : decide (h < 4) = false := decide_eq_false h4
  obtain ⟨H, rfl⟩ : ∃ H : Nat, h = H := ⟨h.toNat, by omega⟩
  have HE := Lib.hid (show tmV a H = tmN a H by unfold tmV; rw [if_neg (by omega)]; rfl)
  have ha0 : 0 ≤ a := by omega
  have ha1 : a ≤ 1 := by omega
  clear h0 h1 h4
  go_enter Try.func51, Try.ntmps51
  go_wp2
  go_loop [1, 5] (fun hv tv => ∃ c t : Nat, hv = .int .i64 c ∧ tv = .int .i64 t ∧ c ≤ 9223372036854775807 ∧ t + c ≤ 9223372036854775807 ∧ Hid (H / 4 ^ t = c) ∧ Hid (∀ s, s < t → 6 ≤ H / 4 ^ s)) (fun hv _ => (intOf hv).toNat)
  case atStart => exact ⟨H, 0, rfl, rfl, by omega, by omega, Lib.hid (by simp), Lib.hid fun s hs => absurd hs (Nat.not_lt_zero _)⟩
  case round =>
    obtain ⟨c, t, rfl, rfl, hc, htc, HC, HS⟩ := hrel
    by_cases h8 : 8 ≤ c
    · have hd4 : decide (8 ≤ c) = true := decide_eq_true h8
      have hd5 : decide ((8 : Int) ≤ (c : Int)) = true := decide_eq_true (by omega)
      have HC2 := Lib.hid (show H / 4 ^ (t + 1) = c / 4 by rw [div_pow_succ, HC.out])
      have HS2 : Hid (∀ s, s < t + 1 → 6 ≤ H / 4 ^ s) := Lib.hid fun s hs => by
        rcases Nat.lt_succ_iff_lt_or_eq.1 hs with h2 | rfl
        · exact HS.out s h2
        · rw [HC.out]; omega
      clear HC HS
      go_wp2_with fail
      go_round
      case rel => exact ⟨c / 4, t + 1, by first | rfl | go_num | (congr 1; omega), by go_num, by omega, by omega, HC2, HS2⟩
      case measure => simp [intOf]; omega
    · have hd4 : decide (8 ≤ c) = false := decide_eq_false h8
      have hd5 : decide ((8 : Int) ≤ (c : Int)) = false := decide_eq_false (by omega)
      have HF := Lib.hid (tm_end (a := a) HC.out (by omega) HS.out)
      clear HC HS
      by_cases c4 : c < 4
      · have e1 : decide (c < 4) = true := decide_eq_true c4
        have e1' : decide ((c : Int) < 4) = true := decide_eq_true (by omega)
        have HV := Lib.hid (show tmV a H = -1 by rw [HE.out, HF.out, if_neg (by omega)])
        clear c4 h8
        go_wp2_with fail
        go_ret
        exact ⟨by rw [HV.out]; rfl, rfl⟩
      have e1 : decide (c < 4) = false := decide_eq_false c4
      have e1' : decide ((c : Int) < 4) = false := decide_eq_false (by omega)
      by_cases c5 : 5 - a < c
      · have e2 : decide (5 - a < (c : Int)) = true := decide_eq_true c5
        have HV := Lib.hid (show tmV a H = -1 by rw [HE.out, HF.out, if_neg (by omega)])
        clear c4 h8 c5
        go_wp2_with fail
        go_ret
        exact ⟨by rw [HV.out]; rfl, rfl⟩
      have e2 : decide (5 - a < (c : Int)) = false := decide_eq_false c5
      by_cases t5 : 5 < t
      · have e3 : decide (5 < t) = true := decide_eq_true t5
        have e3' : decide ((5 : Int) < (t : Int)) = true := decide_eq_true (by omega)
        have HV := Lib.hid (show tmV a H = -1 by rw [HE.out, HF.out, if_neg (by omega)])
        clear c4 h8 c5 t5
        go_wp2_with fail
        go_ret
        exact ⟨by rw [HV.out]; rfl, rfl⟩
      · have e3 : decide (5 < t) = false := decide_eq_false t5
        have e3' : decide ((5 : Int) < (t : Int)) = false := decide_eq_false (by omega)
        have HV := Lib.hid (show tmV a H = t by rw [HE.out, HF.out, if_pos (by omega)])
        clear c4 h8 c5 t5
        go_wp2_with fail
        go_ret
        exact ⟨by rw [HV.out]; rfl, rfl⟩
set_option maxHeartbeats 1000000 in
theorem rTime_any (a h : Int) (w : World) (hb : -9223372036854775808 ≤ h ∧ h ≤ 9223372036854775807) :
    Calls Try.prog 52 #[.int .i64 a, .int .i64 h] w fun e w' => e = .returned (.int .i64 (tmV a h)) ∧ w = w' := by
  by_cases h0 : a < 0
  · have hd1 : decide (a < 0) = true := decide_eq_true h0
    have HE := Lib.hid (show tmV a h = -1 from if_pos (.inl h0))
    clear h0
    go_enter Try.func52, Try.ntmps52
    go_wp2
    go_ret
    exact ⟨by rw [HE.out]; rfl, rfl⟩
  have hd1 : decide (a < 0) = false := decide_eq_false h0
  by_cases h1 : 1 < a
  · have hd2 : decide (1 < a) = true := decide_eq_true h1
    have HE := Lib.hid (show tmV a h = -1 from if_pos (.inr (.inl h1)))
    clear h0 h1
    go_enter Try.func52, Try.ntmps52
    go_wp2
    go_ret
    exact ⟨by rw [HE.out]; rfl, rfl⟩
  have hd2 : decide (1 < a) = false := decide_eq_false h1
  by_cases h4 : h < 4
  · have hd3 : decide (h < 4) = true := decide_eq_true h4
    have HE := Lib.hid (show tmV a h = -1 from if_pos (.inr (.inr h4)))
    clear h0 h1 h4
    go_enter Try.func52, Try.ntmps52
    go_wp2
    go_ret
    exact ⟨by rw [HE.out]; rfl, rfl⟩
  have hd3 : decide (h < 4) = false := decide_eq_false h4
  obtain ⟨H, rfl⟩ : ∃ H : Nat, h = H := ⟨h.toNat, by omega⟩
  have HE := Lib.hid (show tmV a H = tmN a H by unfold tmV; rw [if_neg (by omega)]; rfl)
  by_cases hg : 16384 ≤ H
  · have hd6 : decide (16384 ≤ H) = true := decide_eq_true hg
    have hd7 : decide ((16384 : Int) ≤ (H : Int)) = true := decide_eq_true (by omega)
    have HV := Lib.hid (show tmV a H = -1 by rw [HE.out, tm_great hg])
    clear h0 h1 h4 hg
    go_enter Try.func52, Try.ntmps52
    go_wp2
    go_ret
    exact ⟨by rw [HV.out]; rfl, rfl⟩
  have hd6 : decide (16384 ≤ H) = false := decide_eq_false hg
  have hd7 : decide ((16384 : Int) ≤ (H : Int)) = false := decide_eq_false (by omega)
  have ha0 : 0 ≤ a := by omega
  have ha1 : a ≤ 1 := by omega
  clear h0 h1 h4
  go_enter Try.func52, Try.ntmps52
  go_wp2
  go_loop [5, 6] (fun tv hv => ∃ c t : Nat, hv = .int .i64 c ∧ tv = .int .i64 t ∧ c ≤ 9223372036854775807 ∧ t + c ≤ 9223372036854775807 ∧ Hid (H / 4 ^ t = c) ∧ Hid (∀ s, s < t → 6 ≤ H / 4 ^ s)) (fun _ hv => (intOf hv).toNat)
  case atStart => exact ⟨H, 0, rfl, rfl, by omega, by omega, Lib.hid (by simp), Lib.hid fun s hs => absurd hs (Nat.not_lt_zero _)⟩
  case round =>
    obtain ⟨c, t, rfl, rfl, hc, htc, HC, HS⟩ := hrel
    by_cases h8 : 16 ≤ c
    · have hd4 : decide (16 ≤ c) = true := decide_eq_true h8
      have hd5 : decide ((16 : Int) ≤ (c : Int)) = true := decide_eq_true (by omega)
      have HC2 := Lib.hid (show H / 4 ^ (t + 1) = c / 4 by rw [div_pow_succ, HC.out])
      have HS2 : Hid (∀ s, s < t + 1 → 6 ≤ H / 4 ^ s) := Lib.hid fun s hs => by
        rcases Nat.lt_succ_iff_lt_or_eq.1 hs with h2 | rfl
        · exact HS.out s h2
        · rw [HC.out]; omega
      clear HC HS
      go_wp2_with fail
      go_round
      case rel => exact ⟨c / 4, t + 1, by first | rfl | go_num | (congr 1; omega), by go_num, by omega, by omega, HC2, HS2⟩
      case measure => simp [intOf]; omega
    · have hd4 : decide (16 ≤ c) = false := decide_eq_false h8
      have hd5 : decide ((16 : Int) ≤ (c : Int)) = false := decide_eq_false (by omega)
      have HF := Lib.hid (tm_end (a := a) HC.out (by omega) HS.out)
      clear HC HS
      by_cases c4 : c = 4
      · have e1 : ((c : Int) != 4) = false := by rw [c4]; rfl
        by_cases t5 : 5 < t
        · have e3 : decide (5 < t) = true := decide_eq_true t5
          have e3' : decide ((5 : Int) < (t : Int)) = true := decide_eq_true (by omega)
          have HV := Lib.hid (show tmV a H = -1 by rw [HE.out, HF.out, if_neg (by omega)])
          clear c4 h8 t5
          go_wp2_with fail
          go_ret
          exact ⟨by rw [HV.out]; rfl, rfl⟩
        · have e3 : decide (5 < t) = false := decide_eq_false t5
          have e3' : decide ((5 : Int) < (t : Int)) = false := decide_eq_false (by omega)
          have HV := Lib.hid (show tmV a H = t by rw [HE.out, HF.out, if_pos (by omega)])
          clear c4 h8 t5
          go_wp2_with fail
          go_ret
          exact ⟨by rw [HV.out]; rfl, rfl⟩
      · have e1 : ((c : Int) != 4) = true := by rw [bne_iff_ne]; omega
        by_cases a0 : a = 0
        · have e2 : (a != 0) = false := by rw [a0]; rfl
          by_cases c5 : c = 5
          · have e4 : ((c : Int) != 5) = false := by rw [c5]; rfl
            by_cases t5 : 5 < t
            · have e3 : decide (5 < t) = true := decide_eq_true t5
              have e3' : decide ((5 : Int) < (t : Int)) = true := decide_eq_true (by omega)
              have HV := Lib.hid (show tmV a H = -1 by rw [HE.out, HF.out, if_neg (by omega)])
              clear c4 h8 t5 a0 c5
              go_wp2_with fail
              go_ret
              exact ⟨by rw [HV.out]; rfl, rfl⟩
            · have e3 : decide (5 < t) = false := decide_eq_false t5
              have e3' : decide ((5 : Int) < (t : Int)) = false := decide_eq_false (by omega)
              have HV := Lib.hid (show tmV a H = t by rw [HE.out, HF.out, if_pos (by omega)])
              clear c4 h8 t5 a0 c5
              go_wp2_with fail
              go_ret
              exact ⟨by rw [HV.out]; rfl, rfl⟩
          · have e4 : ((c : Int) != 5) = true := by rw [bne_iff_ne]; omega
            have HV := Lib.hid (show tmV a H = -1 by rw [HE.out, HF.out, if_neg (by omega)])
            clear c4 h8 a0 c5
            go_wp2_with fail
            go_ret
            exact ⟨by rw [HV.out]; rfl, rfl⟩
        · have e2 : (a != 0) = true := by rw [bne_iff_ne]; exact a0
          have HV := Lib.hid (show tmV a H = -1 by rw [HE.out, HF.out, if_neg (by omega)])
          clear c4 h8 a0
          go_wp2_with fail
          go_ret
          exact ⟨by rw [HV.out]; rfl, rfl⟩

/-! ### After -/
set_option maxHeartbeats 1000000 in
theorem After_any (h m : Int) (w : World) (hb : -9223372036854775808 ≤ h ∧ h ≤ 9223372036854775807) :
    Calls Try.prog 69 #[.int .i64 h, .int .i64 m] w fun e w' => e = .returned (.int .i64 (afV h m)) ∧ w = w' := by
  have HT := Lib.hid (Time_any 0 h w hb)
  have hr := tmV_range 0 h
  have hH := tmV_hist (h := h)
  obtain ⟨t, et⟩ : ∃ t, t = tmV 0 h := ⟨_, rfl⟩
  have HV := Lib.hid (show afV h m = if 0 ≤ t ∧ t ≤ 4 ∧ 0 ≤ m ∧ m ≤ 3 then 4 * h + m else -1 by rw [et]; rfl)
  rw [← et] at HT hr hH
  have hHH := Lib.hid hH
  clear et hH
  by_cases t0 : t < 0
  · have e1 : decide (t < 0) = true := decide_eq_true t0
    have HE := Lib.hid (show afV h m = -1 by rw [HV.out, if_neg (by omega)])
    clear t0
    go_enter Try.func69, Try.ntmps69
    go_wp2_with (go_at_call 51; refine (HT.out).mono ?_; rintro e w' ⟨rfl, rfl⟩)
    go_ret
    exact ⟨by rw [HE.out]; rfl, rfl⟩
  have e1 : decide (t < 0) = false := decide_eq_false t0
  by_cases t5 : 5 ≤ t
  · have e2 : decide (5 ≤ t) = true := decide_eq_true t5
    have HE := Lib.hid (show afV h m = -1 by rw [HV.out, if_neg (by omega)])
    clear t0 t5
    go_enter Try.func69, Try.ntmps69
    go_wp2_with (go_at_call 51; refine (HT.out).mono ?_; rintro e w' ⟨rfl, rfl⟩)
    go_ret
    exact ⟨by rw [HE.out]; rfl, rfl⟩
  have e2 : decide (5 ≤ t) = false := decide_eq_false t5
  by_cases m0 : m < 0
  · have e3 : decide (m < 0) = true := decide_eq_true m0
    have HE := Lib.hid (show afV h m = -1 by rw [HV.out, if_neg (by omega)])
    clear t0 t5 m0
    go_enter Try.func69, Try.ntmps69
    go_wp2_with (go_at_call 51; refine (HT.out).mono ?_; rintro e w' ⟨rfl, rfl⟩)
    go_ret
    exact ⟨by rw [HE.out]; rfl, rfl⟩
  have e3 : decide (m < 0) = false := decide_eq_false m0
  by_cases m3 : 3 < m
  · have e4 : decide (3 < m) = true := decide_eq_true m3
    have HE := Lib.hid (show afV h m = -1 by rw [HV.out, if_neg (by omega)])
    clear t0 t5 m0 m3
    go_enter Try.func69, Try.ntmps69
    go_wp2_with (go_at_call 51; refine (HT.out).mono ?_; rintro e w' ⟨rfl, rfl⟩)
    go_ret
    exact ⟨by rw [HE.out]; rfl, rfl⟩
  have e4 : decide (3 < m) = false := decide_eq_false m3
  have HE := Lib.hid (show afV h m = 4 * h + m by rw [HV.out, if_pos (by omega)])
  obtain ⟨hl, hu⟩ := hHH.out (by omega) (by omega)
  have hm0 : 0 ≤ m := by omega
  have hm3 : m ≤ 3 := by omega
  clear t0 t5 m0 m3 hHH hb
  go_enter Try.func69, Try.ntmps69
  go_wp2_with (go_at_call 51; refine (HT.out).mono ?_; rintro e w' ⟨rfl, rfl⟩)
  go_ret
  exact ⟨by rw [HE.out]; rfl, rfl⟩
end Go.Proofs.Ytahaimecchdfeaa

/-
  Plain facts for the walks: blocks of uint64s that a call has made.
-/
namespace Go.Proofs.Ytahaimecchdfeaa
open Go.RowKit

/-- The cells of a block of uint64s. -/
def RowU (w : World) (B N : Nat) (g : Nat → Nat) : Prop := ∀ k, k < N → w.cell? ⟨B, k, none⟩ = some (.int .u64 (g k)) ∧ w.frozen? ⟨B, k, none⟩ = false
theorem RowU.set {w : World} {B N j x : Nat} {g : Nat → Nat} (h : RowU w B N g) (hj : j < N) : RowU (w.setCell ⟨B, j, none⟩ (.int .u64 x)) B N (upd g j x) := fun k hk => by
  obtain ⟨h1, h2⟩ := h k hk
  refine ⟨?_, by rw [World.frozen?_setCell]; exact h2⟩
  unfold upd
  by_cases hkj : k = j
  · subst hkj
    rw [if_pos rfl]
    exact World.cell?_setCell_same' _ _ _ (by rw [h1]; rfl)
  · rw [if_neg hkj, World.cell?_setCell_other _ _ _ _ (by simp)]
    exact h1
theorem RowU.congr {w : World} {B N : Nat} {g g' : Nat → Nat} (h : RowU w B N g) (e : ∀ k, k < N → g k = g' k) : RowU w B N g' := fun k hk => by
  rw [← e k hk]; exact h k hk
theorem RowU.made (w : World) (N : Nat) (T : TypeId) : RowU (w.alloc (.cells (madeCells #[.int .u64 0] N) T)) w.heap.size N (fun _ => 0) := fun k hk =>
  ⟨(World.rowIs_made w (.int .u64 0) N T).cell hk, (World.rowIs_made w (.int .u64 0) N T).frozen k⟩
theorem RowU.below {w w' : World} {B N : Nat} {g : Nat → Nat} (h : RowU w B N g) (hb : Below w.heap.size w w') : RowU w' B N g := fun k hk => by
  obtain ⟨h1, h2⟩ := h k hk
  refine ⟨cell_below hb h1, ?_⟩
  rw [hb.frozen (World.block_lt_of_cell? w _ h1)]; exact h2
theorem RowU.u64s {w : World} {B N : Nat} {g : Nat → Nat} (h : RowU w B N g) (hg : ∀ k, k < N → g k < 18446744073709551616) : U64s w (some ⟨B, 0, none⟩) N g := fun k hk =>
  ⟨B, 0, rfl, by rw [Nat.zero_add]; exact (h k hk).1, hg k hk⟩
theorem Try.infoU64 : (Try.prog.info? 121).map (fun i => (i.zero, i.size, i.bytes)) = some (some (.int .u64 0), 1, 8) := by kernel_rfl
end Go.Proofs.Ytahaimecchdfeaa

/-
  Plain facts for the walks: a slice of rows of uint64s that a call makes by append.
-/
namespace Go.Proofs.Ytahaimecchdfeaa
open Go.RowKit

theorem Try.infoU64s : (Try.prog.info? 67).map (fun i => (i.zero, i.size, i.bytes)) = some (some (.slice none 0 0), 1, 24) := by kernel_rfl
/-- v rows of n numbers are made: row i reads as G i. -/
def RowsParts (B n : Nat) (G : Nat → Nat → Nat) (v : Nat) (wr : World) (A : Option Addr) (c : Nat) (rows : List Value) : Prop :=
  wr.ownsRow B 67 1 (.slice A v c) v rows ∧ ∀ i, i < v → ∃ rv, rows[i]? = some rv ∧ wr.ownsRow B 121 1 rv n (u64L (G i) n)
def RowsInv (w : World) (n : Nat) (G : Nat → Nat → Nat) (v : Nat) (ov : Value) (wr : World) : Prop := ∃ A c rows, ov = .slice A v c ∧ RowsParts w.heap.size n G v wr A c rows ∧ Below w.heap.size w wr
theorem RowsInv.start (w : World) (n : Nat) (G : Nat → Nat → Nat) : RowsInv w n G 0 (.slice none 0 0) w :=
  ⟨none, 0, [], rfl, ⟨World.ownsRow_nil _ _ _ _, fun _ hi => absurd hi (Nat.not_lt_zero _)⟩, Below.refl _ _⟩
theorem RowsInv.below {w wo wr : World} {n v : Nat} {G : Nat → Nat → Nat} {ov : Value} (h : RowsInv w n G v ov wo) (hb : Below wo.heap.size wo wr) : RowsInv w n G v ov wr := by
  obtain ⟨A, c, rows, e, ⟨ho, hr⟩, hw⟩ := h
  exact ⟨A, c, rows, e, ⟨own_below ho hb (Nat.le_refl _), fun i hi => let ⟨rv, h1, h2⟩ := hr i hi; ⟨rv, h1, own_below h2 hb (Nat.le_refl _)⟩⟩, hw.trans (hb.mono hw.size)⟩
theorem RowsInv.step {w wr w1 : World} {n v c g cap : Nat} {G : Nat → Nat → Nat} {A : Option Addr} {rows : List Value} {rv : Value} {T : TypeId} (h : RowsParts w.heap.size n G v wr A c rows) (hw : Below w.heap.size w wr)
    (hrow : wr.ownsRow w.heap.size 121 1 rv n (u64L (G v) n))
    (hown : w1.ownsRow w.heap.size 67 1 (.slice (some ⟨g, 0, none⟩) (v + 1) cap) (v + 1) (rows ++ [rv]))
    (hgrow : (wr.alloc (.cells #[rv] T)).grownBy w1 (Value.slice A v c).ownBlock) :
    RowsInv w n G (v + 1) (.slice (some ⟨g, 0, none⟩) (v + 1) cap) w1 := by
  obtain ⟨ho, hr⟩ := h
  have hlt := ho.lt
  have hsz : wr.heap.size < (wr.alloc (.cells #[rv] T)).heap.size := by simp
  have row1 : ∀ {u xs}, wr.ownsRow w.heap.size 121 1 u n xs → w1.ownsRow w.heap.size 121 1 u n xs := fun {u xs} h =>
    (h.alloc _).kept hgrow (own_ne h ho (by decide))
  refine ⟨some ⟨g, 0, none⟩, cap, rows ++ [rv], rfl, ⟨hown, fun i hi => ?_⟩, ?_⟩
  · rcases Nat.lt_succ_iff_lt_or_eq.1 hi with h1 | rfl
    · obtain ⟨u, hu, hu2⟩ := hr i h1
      exact ⟨u, by rw [List.getElem?_append_left (by have := ho.1; omega)]; exact hu, row1 hu2⟩
    · exact ⟨rv, by have h1 := ho.1; rw [List.getElem?_append_right (by omega)]; simp [h1], row1 hrow⟩
  · exact (hw.alloc hw.size _).grown hgrow (by have := hw.size; omega) (fun k hk => (hlt k hk).1)
theorem RowsInv.mat {w wr : World} {n v : Nat} {G : Nat → Nat → Nat} {ov : Value} (h : RowsInv w n G v ov wr) (hn : n ≤ 9223372036854775807) (hG : ∀ i, i < v → ∀ u, u < n → G i u < 18446744073709551616) :
    ∃ A c R cc, ov = .slice A v c ∧ Mat wr A v R (fun _ => n) cc G ∧ Below w.heap.size w wr := by
  obtain ⟨A, c, rows, rfl, ⟨ho, hr⟩, hw⟩ := h
  have hch : ∀ i, ∃ p : Option Addr × Nat, i < v → rows[i]? = some (.slice p.1 n p.2) ∧ U64s wr p.1 n (G i) := fun i => by
    by_cases hi : i < v
    · obtain ⟨rv, h1, h2⟩ := hr i hi
      obtain ⟨A', c', rfl, hu, _⟩ := own_u64s h2 (fun u hu => hG i hi u hu)
      exact ⟨(A', c'), fun _ => ⟨h1, hu⟩⟩
    · exact ⟨(none, 0), fun h => absurd h hi⟩
  obtain ⟨f, hf⟩ := Classical.axiomOfChoice hch
  obtain ⟨A', c', he, hA⟩ := own_form ho
  injection he with he1 he2 he3
  subst he1
  refine ⟨A, c, fun i => (f i).1, fun i => (f i).2, rfl, fun i hi => ?_, hw⟩
  obtain ⟨b, rfl, _, _, hc⟩ := hA i hi
  exact ⟨b, 0, rfl, by rw [hc]; exact (hf i hi).1, by show n ≤ _; omega, (hf i hi).2⟩
end Go.Proofs.Ytahaimecchdfeaa

/-
  The contracts of package slices that this seat uses, laid at this program by the kit's own tools (lay-shelf, lay-plain), moved into the seat's namespace.
-/
namespace Go.Proofs.Ytahaimecchdfeaa
open Go.Shelf
def Try.lays108_ren : Go.Shelf.Ren := ⟨fun | 108 => 84 | n => n, fun | 28 => 75 | 3 => 3 | 0 => 0 | 4 => 4 | n => n, fun | n => n⟩
theorem Try.lays108 : Go.Proofs.Lays.n108 Try.prog Try.lays108_ren := {
  mixed := by kernel_rfl
  f108 := Try.func84.trans (congrArg some (by kernel_rfl))
  t0 := Try.underlying0
  a0 := Try.isAgg0
  z0 := Try.sizeOf0
  v0 := Try.zeroValue0
  t3 := Try.underlying3
  a3 := Try.isAgg3
  z3 := Try.sizeOf3
  v3 := Try.zeroValue3
  t4 := Try.underlying4
  a4 := Try.isAgg4
  z4 := Try.sizeOf4
  v4 := Try.zeroValue4
  t28 := Try.underlying75
  a28 := Try.isAgg75
  z28 := Try.sizeOf75
  v28 := Try.zeroValue75 }
open Go.Lib in
theorem Try.slices_Index_int (b off n c : Nat) (zs : List Int) (x : Int) (w : World) (hz : n ≤ zs.length) (hbig : n ≤ 9223372036854775807) (hc : ∀ j, j < zs.length → w.cell? ⟨b, off + j, none⟩ = some (.int .i64 (zs.getD j 0))) :
    Calls Try.prog 84 #[.slice (some ⟨b, off, none⟩) n c, .int .i64 x] w fun e w' => e = .returned (.int .i64 (Lib.idxOf (zs.take n) x)) ∧ w' = w := Any.slices_Index_int Try.lays108 b off n c zs x w hz hbig hc
open Go.Lib in
theorem Try.slices_Index_int_empty (a : Option Addr) (c : Nat) (x : Int) (w : World) :
    Calls Try.prog 84 #[.slice a 0 c, .int .i64 x] w fun e w' => e = .returned (.int .i64 (Lib.idxOf [] x)) ∧ w' = w := Any.slices_Index_int_empty Try.lays108 a c x w
def Try.lays107_ren : Go.Shelf.Ren := ⟨fun | 107 => 59 | 108 => 84 | n => n, fun | 28 => 75 | 3 => 3 | 4 => 4 | 0 => 0 | n => n, fun | n => n⟩
theorem Try.lays107 : Go.Proofs.Lays.n107 Try.prog Try.lays107_ren := {
  mixed := by kernel_rfl
  f107 := Try.func59.trans (congrArg some (by kernel_rfl))
  f108 := Try.func84.trans (congrArg some (by kernel_rfl))
  t0 := Try.underlying0
  a0 := Try.isAgg0
  z0 := Try.sizeOf0
  v0 := Try.zeroValue0
  t3 := Try.underlying3
  a3 := Try.isAgg3
  z3 := Try.sizeOf3
  v3 := Try.zeroValue3
  t4 := Try.underlying4
  a4 := Try.isAgg4
  z4 := Try.sizeOf4
  v4 := Try.zeroValue4
  t28 := Try.underlying75
  a28 := Try.isAgg75
  z28 := Try.sizeOf75
  v28 := Try.zeroValue75 }
open Go.Lib in
theorem Try.slices_Contains_int (b off n c : Nat) (zs : List Int) (x : Int) (w : World) (hz : n ≤ zs.length) (hbig : n ≤ 9223372036854775807) (hc : ∀ j, j < zs.length → w.cell? ⟨b, off + j, none⟩ = some (.int .i64 (zs.getD j 0))) :
    Calls Try.prog 59 #[.slice (some ⟨b, off, none⟩) n c, .int .i64 x] w fun e w' => e = .returned (.bool ((zs.take n).contains x)) ∧ w' = w := Any.slices_Contains_int Try.lays107 b off n c zs x w hz hbig hc
open Go.Lib in
theorem Try.slices_Contains_int_empty (a : Option Addr) (c : Nat) (x : Int) (w : World) :
    Calls Try.prog 59 #[.slice a 0 c, .int .i64 x] w fun e w' => e = .returned (.bool false) ∧ w' = w := Any.slices_Contains_int_empty Try.lays107 a c x w
def Try.laysNm215_ren : Go.Shelf.Ren := ⟨fun | 15 => 67 | n => n, fun | 22 => 75 | 3 => 3 | 4 => 4 | n => n, fun | n => n⟩
theorem Try.laysNm215 : Go.Proofs.Lays2.n15 Try.prog Try.laysNm215_ren := {
  mixed := by kernel_rfl
  f15 := Try.func67.trans (congrArg some (by kernel_rfl))
  t3 := Try.underlying3
  a3 := Try.isAgg3
  z3 := Try.sizeOf3
  v3 := Try.zeroValue3
  t4 := Try.underlying4
  a4 := Try.isAgg4
  z4 := Try.sizeOf4
  v4 := Try.zeroValue4
  t22 := Try.underlying75
  a22 := Try.isAgg75
  z22 := Try.sizeOf75
  v22 := Try.zeroValue75
  i3 := by kernel_rfl }
open Go.RowKit Go.Lib in
theorem Try.slices_Clone_int (b off n c : Nat) (zs : List Int) (w : World) (hz : n ≤ zs.length) (hbig : n * 8 ≤ 140737488355328) (hc : ∀ j, j < zs.length → w.cell? ⟨b, off + j, none⟩ = some (.int .i64 (zs.getD j 0))) :
    Calls Try.prog 67 #[.slice (some ⟨b, off, none⟩) n c] w fun e w' => ∃ v', e = .returned v' ∧ w'.ownsRow w.heap.size 3 1 v' n ((zs.take n).map (Value.int .i64)) ∧ v' ≠ .slice none 0 0 ∧ Below w.heap.size w w' := Any.slices_Clone_int Try.laysNm215 b off n c zs w hz hbig hc
open Go.RowKit Go.Lib in
theorem Try.slices_Clone_int_nil (n c : Nat) (w : World) :
    Calls Try.prog 67 #[.slice none n c] w fun e w' => e = .returned (.slice none 0 0) ∧ w' = w := Any.slices_Clone_int_nil Try.laysNm215 n c w
open Go.RowKit Go.Lib in
theorem Try.slices_Clone_int_zero (a : Addr) (c : Nat) (w : World) :
    Calls Try.prog 67 #[.slice (some a) 0 c] w fun e w' => ∃ v', e = .returned v' ∧ w'.ownsRow w.heap.size 3 1 v' 0 [] ∧ v' ≠ .slice none 0 0 ∧ Below w.heap.size w w' := Any.slices_Clone_int_zero Try.laysNm215 a c w
def Try.laysSlE041_f67_ren : Go.Shelf.Ren := ⟨fun | 41 => 67 | n => n, fun | 22 => 75 | 23 => 3 | 4 => 4 | n => n, fun | n => n⟩
theorem Try.laysSlE041_f67 : Go.Proofs.SlLaysE0.n41 Try.prog Try.laysSlE041_f67_ren := {
  mixed := by kernel_rfl
  f41 := ⟨Try.f67.name, by decide, Try.func67.trans (congrArg some (by kernel_rfl))⟩
  t4 := Try.underlying4
  a4 := Try.isAgg4
  z4 := Try.sizeOf4
  v4 := Try.zeroValue4
  t22 := Try.underlying75
  a22 := Try.isAgg75
  z22 := Try.sizeOf75
  v22 := Try.zeroValue75 }
open Go.RowKit Go.Lib in
theorem Try.slices_Clone (i0 : TypeInfo) (z : Value) (size bytes : Nat) (hi : Try.prog.info? 3 = some i0) (hz0 : i0.zero = some z) (hz1 : i0.size = size) (hz2 : i0.bytes = bytes) (hzs : z.cells.size = size) (hsz : 0 < size) (z23 : ∀ w, (Go.sizeOf 3).run Try.prog w = .ok size w) (b off n c : Nat) (news : List Value) (w : World) (hl : news.length = n * size) (hn : n ≤ maxLen) (hbig : n * bytes ≤ 140737488355328) (hc : ∀ j u, news[j]? = some u → w.cell? ⟨b, off + j, none⟩ = some u) (h1 : ∀ u ∈ news, u.oneCell' = true) :
    Calls Try.prog 67 #[.slice (some ⟨b, off, none⟩) n c] w fun e w' => ∃ v', e = .returned v' ∧ w'.ownsRow w.heap.size 3 size v' n news ∧ v' ≠ .slice none 0 0 ∧ Below w.heap.size w w' := AnyE.slices_Clone Try.laysSlE041_f67 i0 z size bytes hi hz0 hz1 hz2 hzs hsz z23 b off n c news w hl hn hbig hc h1
open Go.RowKit Go.Lib in
theorem Try.slices_Clone_nil (n c : Nat) (w : World) :
    Calls Try.prog 67 #[.slice none n c] w fun e w' => e = .returned (.slice none 0 0) ∧ w' = w := AnyE.slices_Clone_nil Try.laysSlE041_f67 n c w
end Go.Proofs.Ytahaimecchdfeaa

/-
  Lists of pairs of numbers as cells; points that are owned; the points of a system in order.
-/
namespace Go.Proofs.Ytahaimecchdfeaa
open Go.RowKit

/-- The cells of a pattern. -/
def crL (l : List (Nat × Nat)) : List Value := l.flatMap fun c => [.int .i64 (c.1 : Nat), .int .i64 (c.2 : Nat)]
theorem crL_len (l : List (Nat × Nat)) : (crL l).length = l.length * 2 := by
  induction l with
  | nil => rfl
  | cons c l ih => unfold crL at ih ⊢; rw [List.flatMap_cons, List.length_append, ih, List.length_cons]; simp; omega
theorem crL_snoc (l : List (Nat × Nat)) (c : Nat × Nat) : crL (l ++ [c]) = crL l ++ [.int .i64 (c.1 : Nat), .int .i64 (c.2 : Nat)] := by
  unfold crL; rw [List.flatMap_append]; simp
theorem crL_get : ∀ (l : List (Nat × Nat)) (k : Nat) (c : Nat × Nat), l[k]? = some c → (crL l)[k * 2]? = some (.int .i64 (c.1 : Nat)) ∧ (crL l)[k * 2 + 1]? = some (.int .i64 (c.2 : Nat))
  | [], k, c, h => by simp at h
  | d :: l, 0, c, h => by
    have : d = c := by simpa using h
    subst this
    exact ⟨rfl, rfl⟩
  | d :: l, k + 1, c, h => by
    have ih := crL_get l k c (by simpa using h)
    have e : crL (d :: l) = .int .i64 (d.1 : Nat) :: .int .i64 (d.2 : Nat) :: crL l := rfl
    rw [e, show (k + 1) * 2 = k * 2 + 1 + 1 from by omega]
    exact ih
theorem crL_one (l : List (Nat × Nat)) : ∀ u ∈ crL l, u.oneCell' = true := by
  intro u hu
  unfold crL at hu
  rw [List.mem_flatMap] at hu
  obtain ⟨c, _, h⟩ := hu
  simp only [List.mem_cons, List.not_mem_nil, or_false] at h
  rcases h with rfl | rfl <;> rfl
theorem Try.infoPoint : (Try.prog.info? 26).map (fun i => (i.zero, i.size, i.bytes)) = some (some (.agg #[.int .i64 0, .int .i64 0]), 2, 16) := by kernel_rfl
/-- A list of points, owned. -/
def PnO (w : World) (base : Nat) (v : Value) (l : List (Nat × Nat)) : Prop := w.ownsRow base 26 2 v l.length (crL l)
theorem pnO_at {w : World} {base : Nat} {v : Value} {l : List (Nat × Nat)} (h : PnO w base v l) {k : Nat} {c : Nat × Nat} (hk : l[k]? = some c) : ∃ b cap, v = .slice (some ⟨b, 0, none⟩) l.length cap ∧ w.cell? ⟨b, k * 2, none⟩ = some (.int .i64 (c.1 : Nat)) ∧ w.cell? ⟨b, k * 2 + 1, none⟩ = some (.int .i64 (c.2 : Nat)) := by
  obtain ⟨A, cap, rfl, hA⟩ := own_form' h
  have hlt := (List.getElem?_eq_some_iff.1 hk).1
  obtain ⟨b, rfl, _, _, h1⟩ := hA (k * 2) (by omega)
  obtain ⟨b', e, _, _, h2⟩ := hA (k * 2 + 1) (by omega)
  injection e with e
  injection e with e _ _
  subst e
  obtain ⟨g1, g2⟩ := crL_get l k c hk
  exact ⟨b, cap, rfl, h1.trans g1, h2.trans g2⟩
theorem PnO.below {w w1 : World} {base : Nat} {v : Value} {l : List (Nat × Nat)} (h : PnO w base v l) (hb : Below w.heap.size w w1) : PnO w1 base v l := own_keeps h (Keeps.of_below hb _)
theorem PnO.shape {w : World} {base : Nat} {v : Value} {l : List (Nat × Nat)} (h : PnO w base v l) : ∃ A c, v = .slice A l.length c := by
  obtain ⟨A, c, e, _⟩ := own_form' h
  exact ⟨A, c, e⟩
/-- The points of the first i runs, and of the next one the first t. -/
def ptU (l i t : Nat) : List (Nat × Nat) := ((List.range i).flatMap fun r => (List.range l).map fun t => (r, t)) ++ (List.range t).map fun t => (i, t)
def ptL (n l : Nat) : List (Nat × Nat) := (List.range n).flatMap fun r => (List.range l).map fun t => (r, t)
theorem ptU_step (l i t : Nat) : ptU l i (t + 1) = ptU l i t ++ [(i, t)] := by unfold ptU; rw [List.range_succ, List.map_append, List.append_assoc]; rfl
theorem ptU_row (l i : Nat) : ptU l i l = ptU l (i + 1) 0 := by unfold ptU; rw [List.range_succ, List.flatMap_append]; simp
theorem ptU_end (n l : Nat) : ptU l n 0 = ptL n l := by unfold ptU ptL; simp
theorem ptU_len (l i t : Nat) : (ptU l i t).length = i * l + t := by
  unfold ptU
  rw [List.length_append, List.length_map, List.length_range]
  congr 1
  induction i with
  | zero => simp
  | succ i ih => rw [List.range_succ, List.flatMap_append, List.length_append, ih, Nat.succ_mul]; simp
theorem ptL_len (n l : Nat) : (ptL n l).length = n * l := by rw [← ptU_end, ptU_len]; omega
theorem ptL_mem {n l : Nat} {p : Nat × Nat} : p ∈ ptL n l ↔ p.1 < n ∧ p.2 < l := by
  unfold ptL
  simp only [List.mem_flatMap, List.mem_range, List.mem_map]
  constructor
  · rintro ⟨r, hr, t, ht, rfl⟩; exact ⟨hr, ht⟩
  · rintro ⟨h1, h2⟩; exact ⟨p.1, h1, p.2, h2, rfl⟩
end Go.Proofs.Ytahaimecchdfeaa

/-
  Maps that a call makes, with their elements as they lie: a map's datum holds the values themselves.
-/
namespace Go.Proofs.Ytahaimecchdfeaa
open Go.RowKit

/-- An element reads as itself. -/
def rawR (v : Value) : Option (DataW Value × List MemPlace) := some (.held v, [])
theorem rawR_at {v : Value} {D : DataW Value} {kl : Lit} {z : Value} {ps : List MemPlace} (h : rawR v = some (D.atKey kl (.held z), ps)) : D.atKey kl (.held z) = .held v := by
  unfold rawR at h
  injection h with h
  injection h with h _
  exact h.symm
/-- What is said of the map's elements: each key that is there has a value of which the statement holds. -/
def MapI (D : DataW Value) (z : Value) (Q : Lit → Value → Prop) : Prop := ∀ kl v, Maps.has D kl = true → D.atKey kl (.held z) = .held v → Q kl v
theorem MapI.nil (z : Value) (Q : Lit → Value → Prop) : MapI (.map []) z Q := fun kl v h _ => by simp [Maps.has] at h
theorem MapI.put {D : DataW Value} {z u : Value} {Q Q' : Lit → Value → Prop} {kl : Lit} (h : MapI D z Q) (hD : Maps.IsMap D) (hk : WideAt.IsKeyLit kl) (hQ : ∀ k v, k ≠ kl → Q k v → Q' k v) (hu : Q' kl u) : MapI (D.put kl (.held u)) z Q' := fun k v h1 h2 => by
  by_cases e : k = kl
  · subst e
    rw [Maps.atKey_put_same hD hk] at h2
    injection h2 with h2
    subst h2
    exact hu
  · rw [Maps.has_put_other e] at h1
    rw [Maps.atKey_put_other e] at h2
    exact hQ k v e (h k v h1 h2)
theorem MapI.imp {D : DataW Value} {z : Value} {Q Q' : Lit → Value → Prop} (h : MapI D z Q) (hQ : ∀ k v, Q k v → Q' k v) : MapI D z Q' := fun k v h1 h2 => hQ k v (h k v h1 h2)
/-- The blocks of cells are kept while a map is written. -/
theorem Keeps.map {P : Program} {k : TypeId} {R : Value → Option (DataW Value × List MemPlace)} {w w' : World} {b n : Nat} {D : DataW Value} (h : w.ownsMap P k R b n D) (hg : w.grownBy w' (some b)) (T : TypeId) : Keeps w w' T := fun b' cs hb => by
  refine hb.kept hg fun e => ?_
  injection e with e
  subst e
  obtain ⟨es, clock, hm, -⟩ := h
  have := (show w.heap[b]? = _ from hb).symm.trans hm
  simp at this
theorem ownsMap_below {P : Program} {k : TypeId} {R : Value → Option (DataW Value × List MemPlace)} {w w' : World} {b n : Nat} {D : DataW Value} (h : w.ownsMap P k R b n D) (hb : Below w.heap.size w w') : w'.ownsMap P k R b n D := h.kept (gr_below hb none) (by simp)
end Go.Proofs.Ytahaimecchdfeaa

/-
  Maps that a call makes, keyed by structs: 'm[k] = append(m[k], x)' laid as an entry that is opened and shut.
-/
namespace Go.Proofs.Ytahaimecchdfeaa
open Go.RowKit Go.ChangeMaps Go.MapKept Go.WideShapes
open Go.WideElems (Fit rd rg pl rd_val elemAt)

/-- An entry that is open: what a store at its stamp leaves. -/
def MidE (P : Program) (t k : TypeId) (w1 : World) (b st n : Nat) (D : DataW Value) (kl : Lit) : Prop :=
  ∃ es1 clock1, w1.heap[b]? = some (.map es1 clock1) ∧ ∀ (w2 : World) (val : Value), w2.heap[b]? = some (.map es1 clock1) → ∃ w3, (Instr.entryStore t (.map (some b)) (goInt st) val).run P w2 = .ok () w3 ∧ w3.ownsMap P k rawR b (n + 1) (D.put kl (.held val)) ∧ w2.grownBy w3 (some b)
theorem MidE.kept {P : Program} {t k : TypeId} {w1 w2 : World} {b st n : Nat} {D : DataW Value} {kl : Lit} {row : Option Nat} (h : MidE P t k w1 b st n D kl) (hg : w1.grownBy w2 row) (hne : row ≠ some b) : MidE P t k w2 b st n D kl := by
  obtain ⟨es1, clock1, h1, h2⟩ := h
  exact ⟨es1, clock1, (hg.block b (Array.getElem?_eq_some_iff.1 h1).1 (fun e => hne e.symm)).trans h1, h2⟩
theorem MidE.lt {P : Program} {t k : TypeId} {w1 : World} {b st n : Nat} {D : DataW Value} {kl : Lit} (h : MidE P t k w1 b st n D kl) : b < w1.heap.size := by
  obtain ⟨es1, clock1, h1, _⟩ := h
  exact (Array.getElem?_eq_some_iff.1 h1).1
theorem MidE.below {P : Program} {t k : TypeId} {w1 w2 : World} {b st n : Nat} {D : DataW Value} {kl : Lit} (h : MidE P t k w1 b st n D kl) (hb : Below w1.heap.size w1 w2) : MidE P t k w2 b st n D kl := by
  have hlt := h.lt
  obtain ⟨es1, clock1, h1, h2⟩ := h
  exact ⟨es1, clock1, (hb.block b hlt).trans h1, h2⟩
theorem MidE.store {P : Program} {t k : TypeId} {w1 : World} {b st n : Nat} {D : DataW Value} {kl : Lit} (h : MidE P t k w1 b st n D kl) (val : Value) : ∃ w3, (Instr.entryStore t (.map (some b)) (.int .i64 st) val).run P w1 = .ok () w3 ∧ w3.ownsMap P k rawR b (n + 1) (D.put kl (.held val)) ∧ w1.grownBy w3 (some b) := by
  obtain ⟨es1, clock1, h1, h2⟩ := h
  exact h2 w1 val h1
theorem raw_entry {P : Program} {w : World} {t k e : TypeId} {b n : Nat} {D : DataW Value} {z : Value} (KL : WideMaps.KeyLaw P k) (ht : P.underlying t = some (.map k e)) (hz : ∀ u : World, (zeroValue e).run P u = .ok z u) (hown : w.ownsMap P k rawR b n D) (hn : n < maxLen)
    {key : Value} {kl : Lit} (hkey : keyOf P k key = some kl) :
    ∃ (v0 : Value) (st : Nat) (w1 : World), (Instr.mapEntry t (.map (some b)) key).run P w = .ok (.tuple #[v0, goInt st]) w1 ∧ w.grownBy w1 (some b) ∧ ((Maps.has D kl = true ∧ D.atKey kl (.held z) = .held v0) ∨ (Maps.has D kl = false ∧ v0 = z)) ∧ MidE P t k w1 b st n D kl := by
  have K := Maps.Keyed.of_law KL
  have hown0 := hown
  obtain ⟨es, clock, hb, F, hs, rfl⟩ := hown
  obtain ⟨v0, st, es1, clock1, h1, h2, h3⟩ := WideElems.entry_then_store KL ht hz hb F hkey
  refine ⟨v0, st, _, h1, ⟨rfl, rfl, rfl, by simp [setBlock], fun i _ hi => heap_setBlock_other hb _ (fun e => hi (by rw [e]))⟩, ?_, es1, clock1, heap_setBlock_same hb _, fun w2 val hw2 => ?_⟩
  · have hat := WideShapes.atKey_sorted (es.toList.map (rg P k rawR)) (Maps.fit_rising K F) kl (K.key hkey)
    rcases h2 with ⟨e0, hm0, hk0, rfl⟩ | ⟨hno, rfl⟩
    · obtain ⟨y0, hy0⟩ := F.reads e0 hm0
      obtain ⟨zv, hzv, hd⟩ := rd_val hy0
      have m0 := WideElems.rd_key hy0
      rw [hk0, hkey] at m0
      have hall : ∀ zd, (DataW.map ((es.toList.map (rg P k rawR)).foldr DataW.insert [])).atKey kl zd = .held e0.val := fun zd => by
        rw [hat.2 (rg P k rawR e0) (List.mem_map.2 ⟨e0, hm0, rfl⟩) (by rw [WideElems.rg_of hy0]; exact (Option.some.inj m0).symm), WideElems.rg_of hy0, hd]
        unfold rawR at hzv
        rw [← Option.some.inj hzv]
      exact .inl ⟨Maps.has_true_of_atKey hall, hall _⟩
    · refine .inr ⟨Maps.has_false_of_atKey (hat.1 (fun p hp e1 => ?_)), rfl⟩
      obtain ⟨x, hx, rfl⟩ := List.mem_map.1 hp
      obtain ⟨y, hy⟩ := F.reads x hx
      have m1 := WideElems.rd_key hy
      rw [WideElems.rg_of hy] at e1
      rw [e1] at m1
      exact hno x hx (K.inj m1 hkey)
  · obtain ⟨es', clock', hr, hu⟩ := h3 w2 val hw2
    obtain ⟨w', hu', ho', -⟩ := hown0.update K ht hn hkey (show rawR val = some (.held val, []) from rfl)
    have ew : w' = setBlock w b (.map es' clock') := by
      rw [hu] at hu'
      injection hu' with _ e
      exact e.symm
    subst ew
    obtain ⟨es2, clock2, hb2, F2, hs2, hD2⟩ := ho'
    rw [heap_setBlock_same hb] at hb2
    injection hb2 with hb2
    injection hb2 with e1 e2
    subst e1 e2
    exact ⟨_, hr, ⟨es', clock', heap_setBlock_same hw2 _, F2, hs2, hD2⟩, ⟨rfl, rfl, rfl, by simp [setBlock], fun i _ hi => heap_setBlock_other hw2 _ (fun e => hi (by rw [e]))⟩⟩
/-- The entry is opened, at a step of a drawn region. -/
theorem step_mapEntry {P : Program} (w : World) {ops : Array Oper} {o : Oper} {a : Act} {K : Act → World → Prop} {Q : Exit → Act → World → Prop} {E : Prop} (hgd : o.guard = none) (m x : Operand) (t : TypeId) (ho : o.op = .mapEntry t m x)
    (k e : TypeId) (KL : WideMaps.KeyLaw P k) (ht : P.underlying t = some (.map k e)) (z : Value) (hz : ∀ u : World, (zeroValue e).run P u = .ok z u) (b n : Nat) (D : DataW Value) (hm : a.eval m = .map (some b)) (hown : w.ownsMap P k rawR b n D) (hn : n < maxLen) (key : Value) (kl : Lit) (hx : a.eval x = key) (hkey : keyOf P k key = some kl)
    (h : ∀ v0 st w1, w.grownBy w1 (some b) → ((Maps.has D kl = true ∧ D.atKey kl (.held z) = .held v0) ∨ (Maps.has D kl = false ∧ v0 = z)) → MidE P t k w1 b st n D kl → K (a.put o.dst (.tuple #[v0, .int .i64 st])) w1) :
    if Region.wanted o (yielded ops a.tmps) = true then Oper.wp P o a w K Q else E := by
  have hw : Region.wanted o (yielded ops a.tmps) = true := by simp [Region.wanted, hgd]
  rw [if_pos hw]
  obtain ⟨v0, st, w1, hrun, h1, h2, h3⟩ := raw_entry KL ht hz hown hn hkey
  unfold Oper.wp
  simp [execOp, ho, hm, hx, hrun, Result.andThen]
  exact h v0 st w1 h1 h2 h3
/-- .. and shut. -/
theorem step_entryStore {P : Program} (w : World) {ops : Array Oper} {o : Oper} {a : Act} {K : Act → World → Prop} {Q : Exit → Act → World → Prop} {E : Prop} (hgd : o.guard = none) (m s x : Operand) (t : TypeId) (ho : o.op = .entryStore t m s x)
    (k : TypeId) (b st n : Nat) (D : DataW Value) (kl : Lit) (hm : a.eval m = .map (some b)) (hs : a.eval s = .int .i64 st) (hmid : MidE P t k w b st n D kl) (val : Value) (hx : a.eval x = val)
    (h : ∀ w3, w3.ownsMap P k rawR b (n + 1) (D.put kl (.held val)) → w.grownBy w3 (some b) → K (a.put o.dst undef) w3) :
    if Region.wanted o (yielded ops a.tmps) = true then Oper.wp P o a w K Q else E := by
  have hw : Region.wanted o (yielded ops a.tmps) = true := by simp [Region.wanted, hgd]
  rw [if_pos hw]
  obtain ⟨es1, clock1, h1, h2⟩ := hmid
  obtain ⟨w3, hrun, ho3, hg3⟩ := h2 w val h1
  have hrun2 : (Instr.entryStore t (.map (some b)) (.int .i64 st) val).run P w = .ok () w3 := hrun
  unfold Oper.wp
  simp [execOp, ho, hm, hs, hx, hrun2, Result.andThen]
  exact h w3 ho3 hg3
end Go.Proofs.Ytahaimecchdfeaa

/-
  The points at which an agent sees the same: a map from an agent and its state to the numbers of points.
-/
namespace Go.Proofs.Ytahaimecchdfeaa
open Go.RowKit

theorem Try.laidOutAll : laidOutB Try.prog = true := by kernel_rfl
theorem seenRow : (125 : TypeId) < Try.prog.types.size := of_decide_eq_true (by kernel_rfl)
theorem seenLaw : WideMaps.KeyLaw Try.prog 125 := deep_law_laid Try.laidOutAll (m := 2) (by omega) seenRow (by kernel_rfl) (by kernel_rfl)
def okX (x : Int) : Prop := -9223372036854775808 ≤ x ∧ x ≤ 9223372036854775807
theorem okX_wf {x : Int} (h : okX x) : (Lit.int .i64 x).wf = true := by simp only [Lit.wf, Bool.and_eq_true, decide_eq_true_eq]; exact h
theorem okX_nat {g : Nat} (h : g < 65536) : okX (g : Int) := by unfold okX; omega
def keyS (a x : Int) : Lit := .string (keyBytes [.int .i64 a, .int .i64 x])
theorem keyS_lit (a x : Int) : WideAt.IsKeyLit (keyS a x) := by simp [WideAt.IsKeyLit, keyS]
theorem seenKind : Try.prog.keyType 125 = true := by kernel_rfl
theorem ex_succ {a b : Nat} (h : a < b) : ∃ m, b = m + 1 := ⟨b - 1, by omega⟩
theorem seenCells : Try.prog.cellsOf 125 = 2 := by kernel_rfl
theorem intCells : Try.prog.cellsOf 3 = 1 := by kernel_rfl
theorem keyS_ok {a x : Int} (ha : okX a) (hx : okX x) : keyOf Try.prog 125 (.agg #[.int .i64 a, .int .i64 x]) = some (keyS a x) := by
  obtain ⟨m, hm⟩ : ∃ m, Try.prog.types.size = m + 1 := ex_succ seenRow
  have e : Try.prog.keyLits (Try.prog.types.size + 1) 125 [.int .i64 a, .int .i64 x] = some [.int .i64 a, .int .i64 x] := by
    rw [hm]
    simp [Program.keyLits, Try.underlying125, Try.underlying3, seenCells, intCells, okX_wf ha, okX_wf hx]
  unfold keyOf
  rw [Try.underlying125]
  show (if (Try.prog.keyType 125 && (Value.agg #[.int .i64 a, .int .i64 x]).formed Try.prog 125) = true then (Try.prog.keyLits (Try.prog.types.size + 1) 125 [.int .i64 a, .int .i64 x]).map _ else none) = _
  rw [if_pos (by simp [seenKind, Value.formed, Try.underlying125, seenCells]), e]
  rfl
theorem keyS_inj {a x a' x' : Int} (ha : okX a) (hx : okX x) (ha' : okX a') (hx' : okX x') (h : keyS a x = keyS a' x') : a = a' ∧ x = x' := by
  have h1 := keyS_ok ha hx
  rw [h] at h1
  have := (Maps.Keyed.of_law seenLaw).inj h1 (keyS_ok ha' hx')
  simpa using this

/-! ### blocks of cells that are kept -/
def KeepRow (w w' : World) (row : Option Nat) : Prop := ∀ i cs T fr, w.heap[i]? = some (.cells cs T fr) → row ≠ some i → w'.heap[i]? = some (.cells cs T fr)
theorem KeepRow.refl (w : World) (row : Option Nat) : KeepRow w w row := fun _ _ _ _ h _ => h
theorem KeepRow.trans {w1 w2 w3 : World} {row : Option Nat} (h : KeepRow w1 w2 row) (h' : KeepRow w2 w3 row) : KeepRow w1 w3 row := fun i cs T fr h1 hne => h' i cs T fr (h i cs T fr h1 hne) hne
theorem KeepRow.grown {w w' : World} {row : Option Nat} (hg : w.grownBy w' row) : KeepRow w w' row := fun i _ _ _ h hne => (hg.block i (Array.getElem?_eq_some_iff.1 h).1 (fun e => hne e.symm)).trans h
theorem KeepRow.below {w w' : World} (hb : Below w.heap.size w w') (row : Option Nat) : KeepRow w w' row := fun i _ _ _ h _ => (hb.block i (Array.getElem?_eq_some_iff.1 h).1).trans h
theorem KeepRow.map {P : Program} {k : TypeId} {R : Value → Option (DataW Value × List MemPlace)} {w w' : World} {b n : Nat} {D : DataW Value} (h : w.ownsMap P k R b n D) (hg : w.grownBy w' (some b)) (row : Option Nat) : KeepRow w w' row := fun i cs T fr hi _ => by
  refine (hg.block i (Array.getElem?_eq_some_iff.1 hi).1 fun e => ?_).trans hi
  injection e with e
  subst e
  obtain ⟨es, clock, hm, -⟩ := h
  have := hi.symm.trans hm
  simp at this
theorem KeepRow.mid {P : Program} {t k : TypeId} {w w' : World} {b st n : Nat} {D : DataW Value} {kl : Lit} (h : MidE P t k w b st n D kl) (hg : w.grownBy w' (some b)) (row : Option Nat) : KeepRow w w' row := fun i cs T fr hi _ => by
  refine (hg.block i (Array.getElem?_eq_some_iff.1 hi).1 fun e => ?_).trans hi
  injection e with e
  subst e
  obtain ⟨es, clock, hm, -⟩ := h
  have := hi.symm.trans hm
  simp at this
theorem own_keepRow {w w' : World} {base e sz n : Nat} {v : Value} {xs : List Value} {row : Option Nat} (h : w.ownsRow base e sz v n xs) (hk : KeepRow w w' row) (hne : ∀ q, v.ownBlock = some q → row ≠ some q) : w'.ownsRow base e sz v n xs := by
  refine ⟨h.1, ?_⟩
  rcases h.2 with ⟨h1, h2⟩ | ⟨g, cap, cur, rfl, hg, hh, h3⟩
  · exact .inl ⟨h1, h2⟩
  · exact .inr ⟨g, cap, cur, rfl, hg, hk _ _ _ _ hh (hne g rfl), h3⟩
theorem own_lt {w : World} {base e sz n q : Nat} {v : Value} {xs : List Value} (h : w.ownsRow base e sz v n xs) (hq : v.ownBlock = some q) : q < w.heap.size := by
  rcases h.2 with ⟨rfl, h2⟩ | ⟨g, cap, cur, rfl, hg, hh, h3⟩
  · cases hq
  · injection hq with hq
    subst hq
    exact (Array.getElem?_eq_some_iff.1 hh).1

/-! ### the map -/
def natV (l : List Nat) : List Value := l.map fun k => .int .i64 (k : Nat)
/-- A list of numbers, owned. -/
def OwnN (w : World) (base : Nat) (v : Value) (l : List Nat) : Prop := w.ownsRow base 3 1 v l.length (natV l)
theorem OwnN.nil (w : World) (base : Nat) : OwnN w base (.slice none 0 0) [] := World.ownsRow_nil _ _ _ _
theorem OwnN.below {w w1 : World} {base : Nat} {v : Value} {l : List Nat} (h : OwnN w base v l) (hb : Below w.heap.size w w1) : OwnN w1 base v l := own_keeps h (Keeps.of_below hb _)
theorem OwnN.shape {w : World} {base : Nat} {v : Value} {l : List Nat} (h : OwnN w base v l) : ∃ A c, v = .slice A l.length c := by
  obtain ⟨A, c, e, _⟩ := own_form' h
  exact ⟨A, c, e⟩
theorem OwnN.at {w : World} {base : Nat} {v : Value} {l : List Nat} (h : OwnN w base v l) {k x : Nat} (hk : l[k]? = some x) : ∃ b c, v = .slice (some ⟨b, 0, none⟩) l.length c ∧ w.cell? ⟨b, k, none⟩ = some (.int .i64 (x : Nat)) := by
  obtain ⟨A, c, rfl, hA⟩ := own_form' h
  obtain ⟨b, rfl, _, _, h1⟩ := hA k (by rw [Nat.mul_one]; exact (List.getElem?_eq_some_iff.1 hk).1)
  exact ⟨b, c, rfl, h1.trans (by unfold natV; simp [hk])⟩
theorem OwnN.mono {w : World} {base base' : Nat} {v : Value} {l : List Nat} (h : OwnN w base v l) (hb : base' ≤ base) : OwnN w base' v l := own_mono' h hb
/-- The map from what is seen to the numbers of the points. -/
structure SameM (w : World) (base b n : Nat) (D : DataW Value) (I : Nat → Int → List Nat) : Prop where
  own : w.ownsMap Try.prog 125 rawR b n D
  rows : ∀ (g : Nat) (x : Int), g < 65536 → okX x → Maps.has D (keyS g x) = true → ∃ v, D.atKey (keyS g x) (.held (.slice none 0 0)) = .held v ∧ OwnN w base v (I g x)
  miss : ∀ (g : Nat) (x : Int), g < 65536 → okX x → Maps.has D (keyS g x) = false → I g x = []
  apart : ∀ (g : Nat) (x : Int) (g' : Nat) (x' : Int), g < 65536 → okX x → g' < 65536 → okX x' → (g ≠ g' ∨ x ≠ x') → Maps.has D (keyS g x) = true → Maps.has D (keyS g' x') = true → ∀ v v' q, D.atKey (keyS g x) (.held (.slice none 0 0)) = .held v → D.atKey (keyS g' x') (.held (.slice none 0 0)) = .held v' → v.ownBlock = some q → v'.ownBlock ≠ some q
theorem SameM.made (w : World) (base : Nat) : SameM (w.alloc (.map #[] 0)) base w.heap.size 0 (.map []) (fun _ _ => []) :=
  ⟨World.ownsMap_made _ _ _ _, fun _ _ _ _ h => by simp [Maps.has] at h, fun _ _ _ _ _ => rfl, fun _ _ _ _ _ _ _ _ _ h => by simp [Maps.has] at h⟩
theorem SameM.below {w w1 : World} {base b n : Nat} {D : DataW Value} {I : Nat → Int → List Nat} (h : SameM w base b n D I) (hb : Below w.heap.size w w1) : SameM w1 base b n D I :=
  ⟨ownsMap_below h.own hb, fun g x h1 h2 h3 => by obtain ⟨v, e, ho⟩ := h.rows g x h1 h2 h3; exact ⟨v, e, ho.below hb⟩, h.miss, h.apart⟩
theorem SameM.congr {w : World} {base b n : Nat} {D : DataW Value} {I I' : Nat → Int → List Nat} (h : SameM w base b n D I) (e : ∀ g x, I g x = I' g x) : SameM w base b n D I' := by
  have : I = I' := funext fun g => funext fun x => e g x
  exact this ▸ h
theorem SameM.step {w wC : World} {base b n g k : Nat} {x : Int} {D : DataW Value} {I : Nat → Int → List Nat} {v0 v' : Value} (h : SameM w base b n D I) (hg : g < 65536) (hx : okX x)
    (hv : (Maps.has D (keyS g x) = true ∧ D.atKey (keyS g x) (.held (.slice none 0 0)) = .held v0) ∨ (Maps.has D (keyS g x) = false ∧ v0 = .slice none 0 0))
    (hk : KeepRow w wC v0.ownBlock) (hloc : ∀ q, v'.ownBlock = some q → v0.ownBlock = some q ∨ w.heap.size ≤ q)
    (ho : wC.ownsMap Try.prog 125 rawR b (n + 1) (D.put (keyS g x) (.held v'))) (hr : OwnN wC base v' (I g x ++ [k])) :
    SameM wC base b (n + 1) (D.put (keyS g x) (.held v')) (fun g' x' => if g' = g ∧ x' = x then I g x ++ [k] else I g' x') := by
  have hM := h.own.isMap
  have hkey : ∀ (g' : Nat) (x' : Int), g' < 65536 → okX x' → ¬ (g' = g ∧ x' = x) → keyS g' x' ≠ keyS g x := fun g' x' h1 h2 hne e => by
    have := keyS_inj (okX_nat h1) h2 (okX_nat hg) hx e
    exact hne ⟨by omega, this.2⟩
  have hfar : ∀ (g' : Nat) (x' : Int), g' < 65536 → okX x' → ¬ (g' = g ∧ x' = x) → Maps.has D (keyS g' x') = true → ∀ v q, D.atKey (keyS g' x') (.held (.slice none 0 0)) = .held v → v.ownBlock = some q → v0.ownBlock ≠ some q := fun g' x' h1 h2 hne hh v q ev hq e => by
    rcases hv with ⟨h3, h4⟩ | ⟨-, rfl⟩
    · exact h.apart g' x' g x h1 h2 hg hx (by by_cases e1 : g' = g; exact .inr (fun e2 => hne ⟨e1, e2⟩); exact .inl e1) hh h3 v v0 q ev h4 hq e
    · cases e
  refine ⟨ho, fun g' x' h1 h2 hh => ?_, fun g' x' h1 h2 hh => ?_, fun g1 x1 g2 x2 h1 h2 h3 h4 hne hh hh' v v'' q ev ev' hq hq' => ?_⟩
  · by_cases hc : g' = g ∧ x' = x
    · obtain ⟨rfl, rfl⟩ := hc
      exact ⟨v', Maps.atKey_put_same hM (keyS_lit _ _) _ _, by rw [if_pos ⟨rfl, rfl⟩]; exact hr⟩
    · rw [Maps.has_put_other (hkey g' x' h1 h2 hc)] at hh
      obtain ⟨v, ev, hown⟩ := h.rows g' x' h1 h2 hh
      refine ⟨v, by rw [Maps.atKey_put_other (hkey g' x' h1 h2 hc)]; exact ev, ?_⟩
      rw [if_neg hc]
      exact own_keepRow hown hk fun q hq => hfar g' x' h1 h2 hc hh v q ev hq
  · by_cases hc : g' = g ∧ x' = x
    · obtain ⟨rfl, rfl⟩ := hc
      rw [Maps.has_put_same hM (keyS_lit _ _)] at hh; cases hh
    · rw [Maps.has_put_other (hkey g' x' h1 h2 hc)] at hh
      rw [if_neg hc]
      exact h.miss g' x' h1 h2 hh
  · by_cases c1 : g1 = g ∧ x1 = x
    · by_cases c2 : g2 = g ∧ x2 = x
      · rcases hne with hne | hne
        · exact hne (c1.1.trans c2.1.symm)
        · exact hne (c1.2.trans c2.2.symm)
      · obtain ⟨rfl, rfl⟩ := c1
        rw [Maps.atKey_put_same hM (keyS_lit _ _)] at ev
        injection ev with ev
        subst ev
        rw [Maps.has_put_other (hkey g2 x2 h3 h4 c2)] at hh'
        rw [Maps.atKey_put_other (hkey g2 x2 h3 h4 c2)] at ev'
        obtain ⟨u, eu, hown⟩ := h.rows g2 x2 h3 h4 hh'
        rw [ev'] at eu
        injection eu with eu
        subst eu
        rcases hloc q hq with e | e
        · exact hfar g2 x2 h3 h4 c2 hh' _ q ev' hq' e
        · have := own_lt hown hq'
          omega
    · rw [Maps.has_put_other (hkey g1 x1 h1 h2 c1)] at hh
      rw [Maps.atKey_put_other (hkey g1 x1 h1 h2 c1)] at ev
      by_cases c2 : g2 = g ∧ x2 = x
      · obtain ⟨rfl, rfl⟩ := c2
        rw [Maps.atKey_put_same hM (keyS_lit _ _)] at ev'
        injection ev' with ev'
        subst ev'
        obtain ⟨u, eu, hown⟩ := h.rows g1 x1 h1 h2 hh
        rw [ev] at eu
        injection eu with eu
        subst eu
        rcases hloc q hq' with e | e
        · exact hfar g1 x1 h1 h2 c1 hh _ q ev hq e
        · have := own_lt hown hq
          omega
      · rw [Maps.has_put_other (hkey g2 x2 h3 h4 c2)] at hh'
        rw [Maps.atKey_put_other (hkey g2 x2 h3 h4 c2)] at ev'
        exact h.apart g1 x1 g2 x2 h1 h2 h3 h4 hne hh hh' v v'' q ev ev' hq hq'
theorem zeroNums (w : World) : (zeroValue 75).run Try.prog w = .ok (.slice none 0 0) w := by kernel_rfl
/-- Reading the map. -/
theorem SameM.look {w : World} {base b n : Nat} {D : DataW Value} {I : Nat → Int → List Nat} (h : SameM w base b n D I) {g : Nat} {x : Int} (hg : g < 65536) (hx : okX x) :
    ∃ v, (Instr.lookup 77 (.map (some b)) (.agg #[.int .i64 g, .int .i64 x]) false).run Try.prog w = .ok v w ∧ OwnN w base v (I g x) := by
  obtain ⟨v, ps, hrun, hv⟩ := h.own.lookup (Maps.Keyed.of_law seenLaw) Try.underlying77 (zeroNums w) (show rawR (.slice none 0 0) = some (.held (.slice none 0 0), []) from rfl) (keyS_ok (okX_nat hg) hx)
  refine ⟨v, hrun, ?_⟩
  have e := rawR_at hv
  cases hh : Maps.has D (keyS g x)
  · rw [Maps.atKey_of_not_has hh] at e
    injection e with e
    subst e
    rw [h.miss g x hg hx hh]
    exact OwnN.nil _ _
  · obtain ⟨u, eu, ho⟩ := h.rows g x hg hx hh
    rw [e] at eu
    injection eu with eu
    subst eu
    exact ho

/-! ### the numbers of the points -/
/-- The points at which an agent has a state. -/
def idA (L : Nat → Nat → Nat → Int) (pts : List (Nat × Nat)) (g : Nat) (x : Int) : List Nat := (List.range pts.length).filter fun k => L (pts.getD k (0, 0)).1 (pts.getD k (0, 0)).2 g == x
theorem idA_nil (L : Nat → Nat → Nat → Int) (g : Nat) (x : Int) : idA L [] g x = [] := rfl
theorem idA_snoc (L : Nat → Nat → Nat → Int) (pts : List (Nat × Nat)) (p : Nat × Nat) (g : Nat) (x : Int) : idA L (pts ++ [p]) g x = if x = L p.1 p.2 g then idA L pts g x ++ [pts.length] else idA L pts g x := by
  unfold idA
  rw [List.length_append, List.length_singleton, List.range_succ, List.filter_append]
  have h1 : (List.range pts.length).filter (fun k => L ((pts ++ [p]).getD k (0, 0)).1 ((pts ++ [p]).getD k (0, 0)).2 g == x) = (List.range pts.length).filter fun k => L (pts.getD k (0, 0)).1 (pts.getD k (0, 0)).2 g == x := by
    refine List.filter_congr fun k hk => ?_
    rw [List.mem_range] at hk
    rw [List.getD_eq_getElem?_getD, List.getD_eq_getElem?_getD, List.getElem?_append_left hk]
  rw [h1]
  have h2 : (pts ++ [p]).getD pts.length (0, 0) = p := by rw [List.getD_eq_getElem?_getD]; simp
  by_cases hx : x = L p.1 p.2 g
  · rw [if_pos hx, List.filter_cons_of_pos (by rw [h2]; simp [hx])]; rfl
  · rw [if_neg hx, List.filter_cons_of_neg (by rw [h2]; simp; exact fun e => hx e.symm)]; simp
/-- .. behind some points, of the first agents. -/
def idB (a : Nat) (L : Nat → Nat → Nat → Int) (pts : List (Nat × Nat)) (g : Nat) (x : Int) : List Nat := if g < a then idA L pts g x else []
/-- .. while a point is added, agent by agent. -/
def idG (a k : Nat) (L : Nat → Nat → Nat → Int) (pts : List (Nat × Nat)) (p : Nat × Nat) (g : Nat) (x : Int) : List Nat := if g < k then idA L (pts ++ [p]) g x else idB a L pts g x
theorem idG_zero (a : Nat) (L : Nat → Nat → Nat → Int) (pts : List (Nat × Nat)) (p : Nat × Nat) (g : Nat) (x : Int) : idB a L pts g x = idG a 0 L pts p g x := (if_neg (Nat.not_lt_zero _)).symm
theorem idG_end (a : Nat) (L : Nat → Nat → Nat → Int) (pts : List (Nat × Nat)) (p : Nat × Nat) (g : Nat) (x : Int) : idG a a L pts p g x = idB a L (pts ++ [p]) g x := by
  unfold idG idB
  by_cases h : g < a
  · rw [if_pos h, if_pos h]
  · rw [if_neg h, if_neg h, if_neg h]
theorem idG_step (a k : Nat) (L : Nat → Nat → Nat → Int) (pts : List (Nat × Nat)) (p : Nat × Nat) (hk : k < a) (g : Nat) (x : Int) : (if g = k ∧ x = L p.1 p.2 k then idG a k L pts p k (L p.1 p.2 k) ++ [pts.length] else idG a k L pts p g x) = idG a (k + 1) L pts p g x := by
  unfold idG
  by_cases hg : g = k
  · subst hg
    rw [if_neg (Nat.lt_irrefl g), if_neg (Nat.lt_irrefl g), if_pos (Nat.lt_succ_self g), idA_snoc]
    unfold idB
    rw [if_pos hk, if_pos hk]
    by_cases hx : x = L p.1 p.2 g
    · rw [if_pos ⟨rfl, hx⟩, if_pos hx, ← hx]
    · rw [if_neg (fun h => hx h.2), if_neg hx]
  · rw [if_neg (fun h => hg h.1)]
    by_cases h : g < k
    · rw [if_pos h, if_pos (by omega)]
    · rw [if_neg h, if_neg (by omega)]
end Go.Proofs.Ytahaimecchdfeaa
