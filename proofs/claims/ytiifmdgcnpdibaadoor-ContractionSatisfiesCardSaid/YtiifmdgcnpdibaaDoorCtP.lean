/-
  Plain facts of layer 40: contractions: errors, results, postulates, orders.
-/
import Derived.Test.YtiifmdgcnpdibaaDoorBase
import Derived.Test.YtiifmdgcnpdibaaDoorLeast
import Derived.Test.YtiifmdgcnpdibaaDoorRkQ
import Derived.Test.YtiifmdgcnpdibaaDoorPoP
namespace Go.Proofs.YtiifmdgcnpdibaaDoor
open Go.RowKit

theorem eq0_nat (a : Nat) : ((a : Int) == 0) = (a == 0) := by cases h : (a == 0) <;> simp_all
theorem ne0_nat (a : Nat) : ((a : Int) != 0) = (a != 0) := by simp only [bne]; rw [eq0_nat]
theorem eq_nat (a b : Nat) : ((a : Int) == (b : Int)) = (a == b) := by
  rw [Bool.eq_iff_iff]; simp only [beq_iff_eq]; omega
theorem ne_nat (a b : Nat) : ((a : Int) != (b : Int)) = (a != b) := by simp only [bne]; rw [eq_nat]
/-- The error of a belief and an input. -/
def ctErr (m : Nat) (n : Int) (b x : Nat) : Nat := if 0 ≤ n ∧ n ≤ m ∧ b < 2 ^ 2 ^ n.toNat ∧ x < 2 ^ 2 ^ n.toNat then 0 else 2
theorem ctErr_ok {m : Nat} {n : Int} {b x : Nat} (h : ctErr m n b x = 0) : ∃ k : Nat, n = k ∧ k ≤ m ∧ b < 2 ^ 2 ^ k ∧ x < 2 ^ 2 ^ k := by
  unfold ctErr at h
  by_cases h1 : 0 ≤ n ∧ n ≤ m ∧ b < 2 ^ 2 ^ n.toNat ∧ x < 2 ^ 2 ^ n.toNat
  · exact ⟨n.toNat, by omega, by omega, h1.2.2.1, h1.2.2.2⟩
  · rw [if_neg h1] at h; cases h
theorem ctErr_in {m k b x : Nat} (hk : k ≤ m) (hb : b < 2 ^ 2 ^ k) (hx : x < 2 ^ 2 ^ k) : ctErr m k b x = 0 := if_pos ⟨by omega, by omega, hb, hx⟩
theorem ctErr_no {m : Nat} {n : Int} {b x : Nat} (h : ctErr m n b x ≠ 0) : ctErr m n b x = 2 := by
  unfold ctErr at h ⊢
  split
  · rename_i h1; rw [if_pos h1] at h; exact absurd rfl h
  · rfl
theorem or_lt_iff {a b N : Nat} : a ||| b < 2 ^ N ↔ a < 2 ^ N ∧ b < 2 ^ N :=
  ⟨fun h => ⟨Nat.lt_of_le_of_lt Nat.left_le_or h, Nat.lt_of_le_of_lt Nat.right_le_or h⟩, fun h => Nat.or_lt_two_pow h.1 h.2⟩
/-- A contraction that does nothing. -/
def idl (S b x : Nat) : Bool := andNot b x != 0 || x == S - 1
def cpl (S x : Nat) : Nat := andNot (S - 1) x
def fulV (S b x : Nat) : Nat := if idl S b x then b else b ||| cpl S x
/-- The contraction by ranks. -/
def brk (N S : Nat) (f : Nat → Int) (b x : Nat) : Nat := if idl S b x then b else b ||| lst N f (cpl S x)
theorem cpl_lt (S x : Nat) (hS : 1 ≤ S) : cpl S x < S := by
  have : cpl S x ≤ S - 1 := Nat.and_le_left
  omega
theorem brk_lt {N S b x : Nat} {f : Nat → Int} (hS : S = 2 ^ N) (hb : b < S) : brk N S f b x < S := by
  unfold brk
  split
  · exact hb
  · rw [hS] at hb ⊢; exact Nat.or_lt_two_pow hb (lst_lt N f _)
/-- The remainders. -/
def remL (N _S b x : Nat) : List Nat := if andNot b x != 0 then [b] else ((List.range N).filter fun v => !x.testBit v).map fun v => b ||| 2 ^ v
def remF (_N b x : Nat) (u : Nat) : List Nat := ((List.range u).filter fun v => !x.testBit v).map fun v => b ||| 2 ^ v
theorem remF_yes {N b x u : Nat} (h : x.testBit u = false) : remF N b x (u + 1) = remF N b x u ++ [b ||| 2 ^ u] := by
  unfold remF; rw [List.range_succ, List.filter_append, List.map_append]; simp [h]
theorem remF_no {N b x u : Nat} (h : x.testBit u = true) : remF N b x (u + 1) = remF N b x u := by
  unfold remF; rw [List.range_succ, List.filter_append, List.map_append]; simp [h]
theorem remF_len (N b x u : Nat) : (remF N b x u).length ≤ u := by
  unfold remF; rw [List.length_map]; exact Nat.le_trans (List.length_filter_le _ _) (by simp)
theorem remF_lt {N S b x u : Nat} (hS : S = 2 ^ N) (hu : u ≤ N) (hb : b < S) : ∀ y, y ∈ remF N b x u → y < S := fun y hy => by
  unfold remF at hy
  simp only [List.mem_map, List.mem_filter, List.mem_range] at hy
  obtain ⟨v, ⟨hv, _⟩, rfl⟩ := hy
  rw [hS] at hb ⊢
  exact Nat.or_lt_two_pow hb (Nat.pow_lt_pow_right (by decide) (by omega))
def ln (l : List Nat) : Nat → Nat := fun u => l.getD u 0
theorem ln_append (l : List Nat) (x : Nat) : ∀ u, u < l.length → ln (l ++ [x]) u = ln l u := fun u hu => by
  unfold ln; simp [List.getD_eq_getElem?_getD, List.getElem?_append_left hu]
theorem ln_last (l : List Nat) (x : Nat) : ln (l ++ [x]) l.length = x := by unfold ln; simp
theorem ln_lt {l : List Nat} {B : Nat} (hB : 0 < B) (h : ∀ y, y ∈ l → y < B) (u : Nat) : ln l u < B := by
  unfold ln
  rw [List.getD_eq_getElem?_getD]
  cases e : l[u]?
  · exact hB
  · exact h _ (List.mem_of_getElem? e)

/-! ### tables -/
def setsZ (n : Int) : Nat := 2 ^ 2 ^ n.toNat
def ctChk (n : Int) (b len : Nat) (T : Nat → Nat) : Nat := if 0 ≤ n ∧ n ≤ 3 then (if b < setsZ n then tabErr (setsZ n) len T else 2) else 2
theorem tabErr_len {S n : Nat} {f : Nat → Nat} (h : tabErr S n f = 0) : n = S := by
  unfold tabErr at h
  by_cases e : n = S
  · exact e
  · rw [if_neg e] at h; cases h
theorem tab_lt {S : Nat} {T : Nat → Nat} (h : tabErr S S T = 0) : ∀ x, x < S → T x < S := by
  unfold tabErr at h
  rw [if_pos rfl] at h
  cases ha : allB S (fun v => decide (T v < S))
  · rw [ha] at h; cases h
  · exact fun x hx => of_decide_eq_true (allB_iff.1 ha x hx)
theorem ctChk_ok {n : Int} {b len : Nat} {T : Nat → Nat} (h : ctChk n b len T = 0) : ∃ k : Nat, n = k ∧ k ≤ 3 ∧ len = 2 ^ 2 ^ k ∧ b < 2 ^ 2 ^ k ∧ tabErr (2 ^ 2 ^ k) (2 ^ 2 ^ k) T = 0 := by
  unfold ctChk at h
  by_cases h1 : 0 ≤ n ∧ n ≤ 3
  · rw [if_pos h1] at h
    by_cases h2 : b < setsZ n
    · rw [if_pos h2] at h
      have h3 := tabErr_len h
      rw [h3] at h
      exact ⟨n.toNat, by omega, by omega, h3, h2, h⟩
    · rw [if_neg h2] at h; cases h
  · rw [if_neg h1] at h; cases h

/-! ### postulates -/
def ctFit (i S b : Nat) (T : Nat → Nat) (x y : Nat) : Bool := match i with
  | 0 => andNot b (T x) == 0
  | 1 => andNot b x == 0 || T x == b
  | 2 => x == S - 1 || andNot (T x) x != 0
  | 3 => andNot (T x &&& x) b == 0
  | 4 => andNot (T (x &&& y)) (T x ||| T y) == 0
  | _ => andNot (T (x &&& y)) x == 0 || andNot (T x) (T (x &&& y)) == 0
def ctLast (S i : Nat) : Nat := if i < 4 then 1 else S
/-- What Holds returns, by the number of the postulate less one. -/
def ctBad (i S b : Nat) (T : Nat → Nat) : Bool := failB S (ctLast S i) (ctFit i S b T)
def hoE (n : Int) (b len : Nat) (T : Nat → Nat) (p : Int) : Nat := if ctChk n b len T = 0 then (if 1 ≤ p ∧ p ≤ 6 then 0 else 1) else ctChk n b len T
def hoOk (n : Int) (b len : Nat) (T : Nat → Nat) (p : Int) : Bool := if hoE n b len T p = 0 then !ctBad (p - 1).toNat len b T else false
def hoX (n : Int) (b len : Nat) (T : Nat → Nat) (p : Int) : Int := if hoE n b len T p = 0 then (if ctBad (p - 1).toNat len b T then (failX len (ctLast len (p - 1).toNat) (ctFit (p - 1).toNat len b T) : Nat) else -1) else 0
def hoY (n : Int) (b len : Nat) (T : Nat → Nat) (p : Int) : Int := if hoE n b len T p = 0 then (if ctBad (p - 1).toNat len b T then (failY len (ctLast len (p - 1).toNat) (ctFit (p - 1).toNat len b T) : Nat) else -1) else 0

/-! ### orders of a table -/
def ordS (b : Nat) (T : Nat → Nat) : Nat → Nat
  | 0 => b
  | j + 1 => ordS b T j ||| andNot (T (ordS b T j)) (ordS b T j)
def ordR (b : Nat) (T : Nat → Nat) : Nat → Nat → Nat
  | 0, _ => 0
  | j + 1, v => if (andNot (T (ordS b T j)) (ordS b T j)).testBit v then j + 1 else ordR b T j v
def ordI (b : Nat) (T : Nat → Nat) (N : Nat) (v : Nat) : Int := (ordR b T N v : Nat)
def ordOk (N S b : Nat) (T : Nat → Nat) : Bool := ordS b T N == S - 1 && allB S (fun x => brk N S (ordI b T N) (lst N (ordI b T N) (S - 1)) x == T x)
def orE (n : Int) (b len : Nat) (T : Nat → Nat) : Nat := if ctChk n b len T = 0 then (if b = 0 then 11 else if ordOk (2 ^ n.toNat) len b T then 0 else 9) else ctChk n b len T
end Go.Proofs.YtiifmdgcnpdibaaDoor
