/-
  Plain facts of layer 40: lists that hold each valuation once; the contraction by a list.
-/
import Derived.Test.YtiifmdgcnpdibaaDoorBase
import Derived.Test.YtiifmdgcnpdibaaDoorRow
import Derived.Test.YtiifmdgcnpdibaaDoorLeast
import Derived.Test.YtiifmdgcnpdibaaDoorRkP
import Derived.Test.YtiifmdgcnpdibaaDoorRkQ
import Derived.Test.YtiifmdgcnpdibaaDoorPoP
import Derived.Test.YtiifmdgcnpdibaaDoorCtP
import Derived.Test.YtiifmdgcnpdibaaDoorCtQ
namespace Go.Proofs.YtiifmdgcnpdibaaDoor
open Go.RowKit

/-- Each of 0 .. N - 1 is among the first N. -/
def okB (N : Nat) (f : Nat → Int) : Bool := allB N fun v => !allB N fun u => f u != (v : Int)
theorem okB_iff {N : Nat} {f : Nat → Int} : okB N f = true ↔ ∀ v : Nat, v < N → ∃ u, u < N ∧ f u = v := by
  unfold okB
  rw [allB_iff]
  constructor
  · intro h v hv
    have h1 := h v hv
    rw [Bool.not_eq_true'] at h1
    obtain ⟨u, hu, h2⟩ := not_allB h1
    exact ⟨u, hu, by simpa using h2⟩
  · intro h v hv
    obtain ⟨u, hu, h2⟩ := h v hv
    rw [Bool.not_eq_true']
    exact not_all hu (by rw [h2]; simp)
theorem perm_of_cover : ∀ (r l : List Int), r.Pairwise (· ≠ ·) → (∀ x, x ∈ r → x ∈ l) → l.length ≤ r.length → l.Perm r
  | [], l, _, _, h => by
    have : l = [] := List.eq_nil_of_length_eq_zero (by simpa using h)
    rw [this]
  | x :: r, l, hr, hm, h => by
    obtain ⟨h1, h2⟩ := List.pairwise_cons.1 hr
    have hx : x ∈ l := hm x (by simp)
    have hp := List.perm_cons_erase hx
    have hlen := hp.length_eq
    simp only [List.length_cons] at hlen h
    refine hp.trans (List.Perm.cons x (perm_of_cover r (l.erase x) h2 (fun y hy => ?_) (by omega)))
    exact (List.mem_erase_of_ne (fun e => h1 y hy e.symm)).2 (hm y (by simp [hy]))
def rngZ (N : Nat) : List Int := (List.range N).map fun v : Nat => (v : Int)
theorem rngZ_lt (N : Nat) : (rngZ N).Pairwise (· < ·) := by
  unfold rngZ
  rw [List.pairwise_map]
  exact List.pairwise_lt_range.imp fun h => by omega
theorem rngZ_get {N i : Nat} (h : i < N) : (rngZ N).getD i 0 = i := by unfold rngZ; simp [h]
theorem ok_perm {N : Nat} {f : Nat → Int} (h : okB N f = true) : (zsOf f N).Perm (rngZ N) := by
  refine perm_of_cover _ _ ((rngZ_lt N).imp fun h => by omega) (fun x hx => ?_) (by rw [zsOf_length]; simp [rngZ])
  unfold rngZ at hx
  simp only [List.mem_map, List.mem_range] at hx
  obtain ⟨v, hv, rfl⟩ := hx
  obtain ⟨u, hu, e⟩ := okB_iff.1 h v hv
  exact zsOf_mem.2 ⟨u, hu, e⟩
theorem ok_sorted {N : Nat} {f : Nat → Int} (h : okB N f = true) : sortZ (zsOf f N) = rngZ N :=
  List.Perm.eq_of_pairwise (le := fun a b => a ≤ b) (fun a b _ _ h1 h2 => by omega) (sortZ_le _) ((rngZ_lt N).imp fun h => by omega) ((sortZ_perm _).trans (ok_perm h))
theorem sorted_ok {N : Nat} {f : Nat → Int} (h : ∀ i, i < N → (sortZ (zsOf f N)).getD i 0 = i) : okB N f = true := okB_iff.2 fun v hv => by
  have hls : (sortZ (zsOf f N)).length = N := by rw [(sortZ_perm _).length_eq, zsOf_length]
  have hm : (sortZ (zsOf f N)).getD v 0 ∈ zsOf f N := by
    rw [← (sortZ_perm (zsOf f N)).mem_iff, List.getD_eq_getElem?_getD, List.getElem?_eq_getElem (by rw [hls]; exact hv)]
    exact List.getElem_mem _
  rw [h v hv] at hm
  obtain ⟨u, hu, e⟩ := zsOf_mem.1 hm
  exact ⟨u, hu, e⟩
theorem ok_range {N : Nat} {f : Nat → Int} (h : okB N f = true) (u : Nat) (hu : u < N) : ∃ v : Nat, v < N ∧ f u = v := by
  have : f u ∈ rngZ N := ((ok_perm h).mem_iff).1 (zsOf_mem.2 ⟨u, hu, rfl⟩)
  unfold rngZ at this
  simp only [List.mem_map, List.mem_range] at this
  obtain ⟨v, hv, e⟩ := this
  exact ⟨v, hv, e.symm⟩
theorem ok_inj {N : Nat} {f : Nat → Int} (h : okB N f = true) {u v : Nat} (hu : u < N) (hv : v < N) (huv : u ≠ v) : f u ≠ f v := by
  have hp : (zsOf f N).Pairwise (· ≠ ·) := ((ok_perm h).pairwise_iff (fun h => h.symm)).2 ((rngZ_lt N).imp fun h => by omega)
  have key : ∀ a b, a < N → b < N → a < b → f a ≠ f b := fun a b ha hb hab => by
    have := List.pairwise_iff_getElem.1 hp a b (by rw [zsOf_length]; exact ha) (by rw [zsOf_length]; exact hb) hab
    simpa [zsOf] using this
  rcases Nat.lt_or_gt_of_ne huv with h1 | h1
  · exact key u v hu hv h1
  · exact fun e => key v u hv hu h1 e.symm

/-! ### the contraction by a list -/
/-- The place of the first valuation outside of a set. -/
def chI (N x : Nat) (f : Nat → Int) : Nat := firstNo N fun i => x.testBit (f i).toNat
theorem chI_lt {N S x : Nat} {f : Nat → Int} (hS : S = 2 ^ N) (_hN : N ≤ 16) (h : okB N f = true) (hx : x < S) (hn : x ≠ S - 1) : chI N x f < N ∧ x.testBit (f (chI N x f)).toNat = false := by
  obtain ⟨i1, i2, i3⟩ := firstNo_spec N fun i => x.testBit (f i).toNat
  have hlt : chI N x f < N := by
    rcases Nat.lt_or_ge (chI N x f) N with h1 | h1
    · exact h1
    · exfalso
      have e : chI N x f = N := Nat.le_antisymm i1 h1
      apply hn
      apply bit_eq
      intro i
      rw [hS, Nat.testBit_two_pow_sub_one, decide_eq_true_iff]
      constructor
      · intro hi
        apply Classical.byContradiction
        intro hiN
        rw [Nat.testBit_lt_two_pow (Nat.lt_of_lt_of_le (hS ▸ hx) (Nat.pow_le_pow_right (by decide) (by omega)))] at hi
        cases hi
      · intro hi
        obtain ⟨u, hu, e2⟩ := okB_iff.1 h i hi
        have := i2 u (by rw [show firstNo N (fun i => x.testBit (f i).toNat) = N from e]; exact hu)
        rw [e2, Int.toNat_natCast] at this
        exact this
  exact ⟨hlt, i3 hlt⟩
def chV (N S b x : Nat) (f : Nat → Int) : Nat := if idl S b x then b else b ||| 2 ^ (f (chI N x f)).toNat
def chE (n : Int) (b x len : Nat) (f : Nat → Int) : Nat := if ctErr 4 n b x = 0 then (if len = 2 ^ n.toNat ∧ okB len f = true then 0 else 3) else ctErr 4 n b x
def chR (n : Int) (b x len : Nat) (f : Nat → Int) : Nat := if chE n b x len f = 0 then chV len (2 ^ len) b x f else 0
/-- The contraction by a list adds one valuation outside of the input. -/
theorem ch_shape {N S b : Nat} {f : Nat → Int} (hS : S = 2 ^ N) (hN : N ≤ 8) (hb : b < S) (h : okB N f = true) : Shape S b (fun x => chV N S b x f) := by
  have h256 : S ≤ 256 := by rw [hS]; exact Nat.pow_le_pow_right (n := 2) (j := 8) (by decide) hN
  refine ⟨fun x _ hi => by unfold chV; rw [if_pos hi], fun x hx hi => ?_⟩
  obtain ⟨_, hn⟩ := not_idl hS (by omega) (by omega) hi
  obtain ⟨h1, h2⟩ := chI_lt hS (by omega) h hx hn
  refine ⟨2 ^ (f (chI N x f)).toNat, by unfold chV; rw [if_neg (by rw [hi]; exact fun h => by cases h)], fun i hi => ?_, Nat.pos_iff_ne_zero.1 (Nat.two_pow_pos _)⟩
  rw [Nat.testBit_two_pow, decide_eq_true_iff] at hi
  subst hi
  exact h2
theorem chV_lt {N S b x : Nat} {f : Nat → Int} (hS : S = 2 ^ N) (hN : N ≤ 16) (hb : b < S) (h : okB N f = true) (hx : x < S) : chV N S b x f < S := by
  unfold chV
  cases hi : idl S b x
  · rw [if_neg (by intro h; cases h)]
    have hn : x ≠ S - 1 := fun e => by
      unfold idl at hi
      rw [e] at hi
      simp at hi
    obtain ⟨h1, _⟩ := chI_lt hS hN h hx hn
    obtain ⟨v, hv, e⟩ := ok_range h _ h1
    rw [e, Int.toNat_natCast]
    rw [hS] at hb ⊢
    exact Nat.or_lt_two_pow hb (Nat.pow_lt_pow_right (by decide) hv)
  · rw [if_pos rfl]; exact hb
end Go.Proofs.YtiifmdgcnpdibaaDoor
