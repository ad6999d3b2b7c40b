/-
  Texts of this claim, one after the other: what each proves is said at its head. No condition beyond those that its theorems name.
-/
import Derived.Test.YtahaimecchdfeaaProg
import Derived.Test.YtahaimecchdfeaaG01
import Derived.Test.YtahaimecchdfeaaG03
import Derived.Test.YtahaimecchdfeaaG10
import Derived.Test.YtahaimecchdfeaaG16
import Derived.Test.YtahaimecchdfeaaG18
import Derived.Test.YtahaimecchdfeaaG20
import Derived.Test.YtahaimecchdfeaaG22
import Derived.Test.YtahaimecchdfeaaG23
import Derived.Test.YtahaimecchdfeaaG24
import Derived.Test.YtahaimecchdfeaaG25

/-
  Plain facts: the example that every law of layer 57 asks first.
-/
namespace Go.Proofs.Ytahaimecchdfeaa
open Go.RowKit

def exA (k : Nat) : Int := ((altS 2).getD k (0, 0, 0)).1
def exH (k : Nat) : Int := ((altS 2).getD k (0, 0, 0)).2.1
def exM (k : Nat) : Int := ((altS 2).getD k (0, 0, 0)).2.2
def exS : Int → Int → Int := sndV 2 exA exH exM
def exPs : List (Int × List Int) := losRs exS 2
theorem ex_alt : altS 2 = [(0, 5, 1), (1, 17, 1)] := by decide
theorem ex_losE : losE 2 2 exA exH exM = 0 := by kernel_rfl
theorem ex_len : exPs.length = 4 := by kernel_rfl
theorem ex_ent : entE 2 1 3 4 (lT exPs) (fun _ _ => 2) (lT exPs) (lF exPs) 1 2 = 0 := by kernel_rfl
theorem ex_ent2 : entE 2 1 3 4 (lT exPs) (fun _ _ => 2) (lT exPs) (lF exPs) 2 2 = 0 := by kernel_rfl
theorem ex_ent3 : entE 2 1 3 4 (lT exPs) (fun _ _ => 2) (lT exPs) (lF exPs) 3 2 = 0 := by kernel_rfl
theorem ex_dep1 : depE 2 1 3 4 (lT exPs) (fun _ _ => 2) (lT exPs) (lF exPs) 1 2 0 9 = 0 ∧ depV 2 1 3 4 (lT exPs) (fun _ _ => 2) (psL exS exPs) (lT exPs) (lF exPs) 1 2 0 9 = 2 := ⟨by kernel_rfl, by kernel_rfl⟩
theorem ex_dep3 : depE 2 1 3 4 (lT exPs) (fun _ _ => 2) (lT exPs) (lF exPs) 3 2 0 9 = 0 ∧ depV 2 1 3 4 (lT exPs) (fun _ _ => 2) (psL exS exPs) (lT exPs) (lF exPs) 3 2 0 9 = 0 := ⟨by kernel_rfl, by kernel_rfl⟩
theorem ex_del : delF 2 1 3 4 (lT exPs) (fun _ _ => 2) (psL exS exPs) (lT exPs) (lF exPs) 2 2 = 0 ∧ delV 2 1 3 4 (lT exPs) (fun _ _ => 2) (psL exS exPs) (lT exPs) (lF exPs) 2 2 = 1 := ⟨by kernel_rfl, by kernel_rfl⟩
def exX (k : Nat) : Int := [1, 2, 3, 0].getD k 0
theorem ex_ver4 : verV 2 2 exA exH exM 4 exX (fun _ => 2) = 0 := by kernel_rfl
theorem ex_ver3 : verV 2 2 exA exH exM 3 exX (fun _ => 2) = 13 := by kernel_rfl
def exR : Nat → Nat → Bool := akS 2 3 4 (psL exS exPs)
def exC (k : Nat) : Bool := [2, 5, 8, 11].contains k
theorem ex_closed : ((List.range 12).all fun j => (List.range 12).all fun k => !(exC j && exR j k) || exC k) = true := by kernel_rfl
theorem ex_path : (exR 5 8 && exR 8 11 && exR 11 2 && exR 5 5) = true := by kernel_rfl
theorem ex_lt {j k : Nat} (h : exR j k = true) : k < 12 := by
  unfold exR akS akB at h
  rw [Bool.and_eq_true, decide_eq_true_eq] at h
  have e : (ptL 4 (3 : Int).toNat).length = 12 := by kernel_rfl
  omega
theorem exC_lt {k : Nat} (h : exC k = true) : k < 12 := by
  unfold exC at h
  rw [List.contains_iff_mem] at h
  simp at h
  omega
theorem all2 {p : Nat → Nat → Bool} (h : ((List.range 12).all fun j => (List.range 12).all fun k => p j k) = true) {j k : Nat} (hj : j < 12) (hk : k < 12) : p j k = true := by
  rw [List.all_eq_true] at h
  have := h j (List.mem_range.2 hj)
  rw [List.all_eq_true] at this
  exact this k (List.mem_range.2 hk)
theorem ex_rch (k : Nat) : exC k = true ↔ Rch exR 5 k := by
  have hp := ex_path
  simp only [Bool.and_eq_true] at hp
  obtain ⟨⟨⟨h8, h11⟩, h2⟩, h5⟩ := hp
  constructor
  · intro h
    unfold exC at h
    rw [List.contains_iff_mem] at h
    simp at h
    rcases h with rfl | rfl | rfl | rfl
    · exact ((Rch.one h8).step h11).step h2
    · exact Rch.one h5
    · exact Rch.one h8
    · exact (Rch.one h8).step h11
  · intro h
    refine Rch.sub (p := fun k => exC k = true) (fun k hk => ?_) (fun j k hj hk => ?_) h
    · have := all2 ex_closed (j := 5) (by decide) (ex_lt hk)
      rw [hk] at this
      simpa [show exC 5 = true by decide] using this
    · have := all2 ex_closed (exC_lt hj) (ex_lt hk)
      rw [hk, hj] at this
      simpa using this
theorem ex_cmp : cmpL exR 12 5 = [2, 5, 8, 11] := by
  rw [← cmpL_eq (R := exR) (N := 12) (i := 5) (S := exC) fun k _ => ex_rch k]
  decide
theorem ex_cmpP : cmpP 2 1 3 4 (lT exPs) (fun _ _ => 2) (psL exS exPs) (lT exPs) (lF exPs) 1 2 = [(0, 2), (1, 2), (2, 2), (3, 2)] := by
  unfold cmpP
  rw [if_pos ex_ent, show cmpL (akS 2 3 4 (psL exS exPs)) (4 * (3 : Int).toNat) (posP 3 1 2) = [2, 5, 8, 11] from ex_cmp]
  kernel_rfl
theorem ex_com : comE 2 1 3 4 (lT exPs) (fun _ _ => 2) (lT exPs) (lF exPs) 1 2 0 = 0 ∧ comV 2 1 3 4 (lT exPs) (fun _ _ => 2) (psL exS exPs) (lT exPs) (lF exPs) 1 2 0 = false := by
  refine ⟨by kernel_rfl, ?_⟩
  unfold comV
  rw [show cmpL (akS 2 3 4 (psL exS exPs)) (4 * (3 : Int).toNat) (posP 3 1 2) = [2, 5, 8, 11] from ex_cmp]
  kernel_rfl
def exF : Nat → Bool := facK (lF exPs) 4 3 0
theorem ex_near : ((List.range 12).all fun j => (List.range 12).all fun k => (!(exR 5 k) || exF k == exF 5) && (!(exR 5 j && exR j k) || exF k == exF 5)) = true := by kernel_rfl
theorem ex_far : (exF 2 == exF 5) = false := by kernel_rfl
theorem ex_w3 : walkN exR 5 3 2 := by
  have hp := ex_path
  simp only [Bool.and_eq_true] at hp
  obtain ⟨⟨⟨h8, h11⟩, h2⟩, h5⟩ := hp
  exact ⟨11, ⟨8, ⟨5, rfl, h8⟩, h11⟩, h2⟩
theorem ex_f2 : exF 2 ≠ exF 5 := by
  have := ex_far
  rwa [beq_eq_false_iff_ne] at this
theorem ex_w2 {m k : Nat} (hm : m ≤ 2) (h : walkN exR 5 m k) : exF k = exF 5 := by
  match m, hm, h with
  | 0, _, h => rw [show k = 5 from h]
  | 1, _, ⟨j, hj, hk⟩ =>
    rw [show j = 5 from hj] at hk
    have := all2 ex_near (j := 0) (by decide) (ex_lt hk)
    rw [hk] at this
    simp at this
    exact this.1
  | 2, _, ⟨j, ⟨i, hi, hj⟩, hk⟩ =>
    rw [show i = 5 from hi] at hj
    have := all2 ex_near (ex_lt hj) (ex_lt hk)
    rw [hj, hk] at this
    simp at this
    exact this.2
theorem ChOk.walk {R : Nat → Nat → Bool} {N s : Nat} {fac : Nat → Bool} {l : List Nat} (h : ChOk R N s fac l) : ∀ t i, l[t]? = some i → walkN R s t i
  | 0, i, hi => by
    have := h.head
    rw [List.head?_eq_getElem?, hi] at this
    injection this with this
  | t + 1, i, hi => by
    have hlt := (List.getElem?_eq_some_iff.1 hi).1
    obtain ⟨j, hj⟩ : ∃ j, l[t]? = some j := ⟨_, List.getElem?_eq_getElem (by omega)⟩
    exact ⟨j, h.walk t j hj, h.link t j i hj hi⟩
theorem ex_chain {l : List Nat} (h : ChOk exR 12 5 exF l) : l.length = 4 := by
  have h1 := h.least 3 2 ex_w3 ex_f2
  obtain ⟨i, hi, hf⟩ := h.last
  rw [List.getLast?_eq_getElem?] at hi
  have hw := h.walk _ _ hi
  rcases Nat.lt_or_ge l.length 4 with h2 | h2
  · exact absurd (ex_w2 (by omega) hw) hf
  · omega
end Go.Proofs.Ytahaimecchdfeaa
