/-
  Plain facts of layer 40: what Levi and Harper make; how many postulates hold.
-/
import Derived.Test.YtiifmdgcnpdibaaDoorBase
import Derived.Test.YtiifmdgcnpdibaaDoorRow
import Derived.Test.YtiifmdgcnpdibaaDoorLeast
import Derived.Test.YtiifmdgcnpdibaaDoorRkP
import Derived.Test.YtiifmdgcnpdibaaDoorRkQ
import Derived.Test.YtiifmdgcnpdibaaDoorPoP
import Derived.Test.YtiifmdgcnpdibaaDoorCtP
import Derived.Test.YtiifmdgcnpdibaaDoorCtQ
import Derived.Test.YtiifmdgcnpdibaaDoorCtG
namespace Go.Proofs.YtiifmdgcnpdibaaDoor
open Go.RowKit

section
variable {N S b : Nat} {T : Nat → Nat}
theorem chk_of {k : Nat} (hk : k ≤ 3) (hN : N = 2 ^ k) (hS : S = 2 ^ N) (hb : b < S) (hT : ∀ x, x < S → T x < S) : ctChk k b S T = 0 := by
  have hs : setsZ (k : Int) = S := by unfold setsZ; rw [Int.toNat_natCast, ← hN, hS]
  unfold ctChk
  rw [if_pos (by omega), hs, if_pos hb]
  unfold tabErr
  rw [if_pos rfl, allB_iff.2 fun x hx => decide_eq_true (hT x hx)]
  rfl
theorem cpl_false (hS : S = 2 ^ N) (hN : N ≤ 8) {x i : Nat} (hx : x < S) (hi : i < N) : (cpl S x).testBit i = false ↔ x.testBit i = true := by
  constructor
  · intro h
    cases hb : x.testBit i
    · rw [(cpl_bit hS hN hx).2 ⟨hi, hb⟩] at h; cases h
    · rfl
  · intro h
    cases hb : (cpl S x).testBit i
    · rfl
    · have := ((cpl_bit hS hN hx).1 hb).2
      rw [h] at this; cases this
/-- Contracting, revising, contracting: the table again. -/
theorem levi_harp (hS : S = 2 ^ N) (hN : N ≤ 8) (hb : b < S) (hT : ∀ x, x < S → T x < S) (h : ∀ i, i < 4 → ctBad i S b T = false) (x : Nat) (hx : x < S) : harpF S b (leviF S T) x = T x := by
  have h256 : S ≤ 256 := by rw [hS]; exact Nat.pow_le_pow_right (n := 2) (j := 8) (by decide) hN
  have h1S : 1 ≤ S := by rw [hS]; exact Nat.two_pow_pos N
  have f0 : Sub b (T x) := (sub_iff (by omega) (by have := hT x hx; omega)).1 (bad_iff.1 (h 0 (by decide)) x hx 0 (by unfold ctLast; simp))
  have f3 : Sub (T x &&& x) b := (sub_iff (Nat.lt_of_le_of_lt Nat.and_le_right (by omega)) (by omega)).1 (bad_iff.1 (h 3 (by decide)) x hx 0 (by unfold ctLast; simp))
  unfold harpF leviF
  rw [cpl_cpl hS hN hx]
  apply bit_eq
  intro i
  rw [Nat.testBit_or, Nat.testBit_and, Bool.or_eq_true, Bool.and_eq_true, cpl_bit hS hN hx]
  constructor
  · rintro (h | ⟨_, h⟩)
    · exact f0 i h
    · exact h
  · intro hi
    cases hb' : x.testBit i
    · exact .inr ⟨⟨bit_top hS (hT x hx) hi, rfl⟩, hi⟩
    · exact .inl (f3 i (by rw [Nat.testBit_and, hi, hb']; rfl))
/-- A table by ranks becomes the revision by these ranks. -/
theorem levi_rank (hS : S = 2 ^ N) (hN : N ≤ 8) (hb : b < S) (hb0 : b ≠ 0) (hT : ∀ x, x < S → T x < S) (h : ordOk N S b T = true) (a : Nat) (ha : a < S) : lst N (ordI b T N) a = leviF S T a := by
  have h1S : 1 ≤ S := by rw [hS]; exact Nat.two_pow_pos N
  obtain ⟨h1, h2⟩ := ordOk_iff.1 h
  have hbel := ord_bel hS hN hb hb0 hT h1
  have hca := cpl_lt S a h1S
  have hTa := h2 _ hca
  rw [hbel] at hTa
  have hbb : ∀ i, b.testBit i = true ↔ i < N ∧ ∀ w, w < N → ordI b T N i ≤ ordI b T N w := fun i => by
    have e : b.testBit i = true ↔ (lst N (ordI b T N) (S - 1)).testBit i = true := by rw [hbel]
    rw [e, lst_bit]
    have ht : ∀ w, w < N → (S - 1).testBit w = true := fun w hw => by rw [top_bit hS]; exact decide_eq_true hw
    exact ⟨fun ⟨a, _, c⟩ => ⟨a, fun w hw => c w hw (ht w hw)⟩, fun ⟨a, c⟩ => ⟨a, ht i a, fun w hw _ => c w hw⟩⟩
  unfold leviF
  rw [← hTa]
  apply bit_eq
  intro i
  rw [lst_bit, Nat.testBit_and, Bool.and_eq_true, brk_bit hS hN hb hca]
  constructor
  · rintro ⟨hi, hai, hmin⟩
    refine ⟨hai, ?_⟩
    by_cases hsub : Sub b (cpl S a)
    · exact .inr ⟨hsub, hi, (cpl_false hS hN ha hi).2 hai, fun w hw hcw => hmin w hw ((cpl_false hS hN ha hw).1 hcw)⟩
    · obtain ⟨j, hj, hcj⟩ := not_sub hsub
      have hjN := bit_top hS hb hj
      have haj := (cpl_false hS hN ha hjN).1 hcj
      refine .inl ((hbb i).2 ⟨hi, fun w hw => ?_⟩)
      have := hmin j hjN haj
      have := ((hbb j).1 hj).2 w hw
      omega
  · rintro ⟨hai, hbi | ⟨_, hi, _, hmin⟩⟩
    · obtain ⟨hi, hmin⟩ := (hbb i).1 hbi
      exact ⟨hi, hai, fun w hw _ => hmin w hw⟩
    · exact ⟨hi, hai, fun w hw haw => hmin w hw ((cpl_false hS hN ha hw).2 haw)⟩
/-- Whether the first postulates hold. -/
def satB (S b : Nat) (T : Nat → Nat) (last : Nat) : Bool := allB last fun i => !ctBad i S b T
theorem satB_iff {last : Nat} : satB S b T last = true ↔ ∀ i, i < last → ctBad i S b T = false := by
  unfold satB; rw [allB_iff]
  exact ⟨fun h i hi => by have := h i hi; simpa using this, fun h i hi => by rw [h i hi]; rfl⟩
theorem sat_six (hS : S = 2 ^ N) (hN : N ≤ 8) (hb : b < S) (hb0 : b ≠ 0) (hT : ∀ x, x < S → T x < S) : satB S b T 6 = ordOk N S b T := by
  rw [Bool.eq_iff_iff, satB_iff]
  exact ⟨six_ord hS hN hb hb0 hT, ord_six hS hN hb hb0 hT⟩
end
end Go.Proofs.YtiifmdgcnpdibaaDoor
