/-
  Texts of this claim, one after the other: what each proves is said at its head. No condition beyond those that its theorems name.
-/
import Derived.Test.YtahaimecchdfeaaProg
import Derived.Test.YtahaimecchdfeaaG01
import Derived.Test.YtahaimecchdfeaaG08
import Derived.Test.YtahaimecchdfeaaG21
import Derived.Test.YtahaimecchdfeaaG23
import Derived.Test.YtahaimecchdfeaaG30

/-
  Plain facts: over the reliable channel, with the protocol that tells the bit, it is common knowledge just after the first round.
-/
namespace Go.Proofs.Ytahaimecchdfeaa
open Go.RowKit

theorem comV_one {a f l : Int} {n : Nat} {T : Nat → Nat} {m : Nat → Nat → Nat} {L : Nat → Nat → Nat → Int} {K : Nat → Nat} {F : Nat → Nat → Nat} {r t fc : Int} (hE : comE a f l n T m K F r t fc = 0) (hp : posP l r t < n * l.toNat)
    (h1 : akS a l n L (posP l r t) (posP l r t) = true) (h2 : ∀ j, akS a l n L (posP l r t) j = true → j = posP l r t) : comV a f l n T m L K F r t fc = true := by
  have hall : ∀ j, j ∈ cmpL (akS a l n L) (n * l.toNat) (posP l r t) → j = posP l r t := fun j hj =>
    Rch.sub (p := fun k => k = posP l r t) (fun k hk => h2 k hk) (fun j k hj hk => by subst hj; exact h2 k hk) (mem_cmpL.1 hj).2
  have hin : posP l r t ∈ cmpL (akS a l n L) (n * l.toNat) (posP l r t) := mem_cmpL.2 ⟨hp, Rch.one h1⟩
  have hg : (cmpL (akS a l n L) (n * l.toNat) (posP l r t)).getD 0 0 = posP l r t := by
    cases hc : cmpL (akS a l n L) (n * l.toNat) (posP l r t) with
    | nil => rw [hc] at hin; cases hin
    | cons x xs => exact hall x (by rw [hc]; exact List.mem_cons_self)
  unfold comV
  rw [decide_eq_true hE, Bool.true_and, hg, Bool.not_eq_true', List.any_eq_false]
  intro j hj
  rw [hall j hj]
  simp
theorem comV_two {a f l : Int} {n : Nat} {T : Nat → Nat} {m : Nat → Nat → Nat} {L : Nat → Nat → Nat → Int} {K : Nat → Nat} {F : Nat → Nat → Nat} {r t fc : Int} {j j' : Nat} (hj : j < n * l.toNat) (hj' : j' < n * l.toNat)
    (h1 : akS a l n L (posP l r t) j = true) (h2 : akS a l n L (posP l r t) j' = true) (hf : (facK F n l fc.toNat j != facK F n l fc.toNat j') = true) : comV a f l n T m L K F r t fc = false := by
  have m1 : j ∈ cmpL (akS a l n L) (n * l.toNat) (posP l r t) := mem_cmpL.2 ⟨hj, Rch.one h1⟩
  have m2 : j' ∈ cmpL (akS a l n L) (n * l.toNat) (posP l r t) := mem_cmpL.2 ⟨hj', Rch.one h2⟩
  unfold comV
  rw [Bool.and_eq_false_iff]
  right
  rw [Bool.not_eq_false', List.any_eq_true]
  by_cases h : facK F n l fc.toNat j = facK F n l fc.toNat ((cmpL (akS a l n L) (n * l.toNat) (posP l r t)).getD 0 0)
  · refine ⟨j', m2, ?_⟩
    rw [← h]
    rw [bne_iff_ne] at hf ⊢
    exact fun e => hf e.symm
  · exact ⟨j, m1, by rw [bne_iff_ne]; exact h⟩
def tlN (k : Nat) : Nat := (telR k).length
def tlA (k : Nat) (j : Nat) : Int := ((telR k)[j]!).1
def tlH (k : Nat) (j : Nat) : Int := ((telR k)[j]!).2.1
def tlM (k : Nat) (j : Nat) : Int := ((telR k)[j]!).2.2
def tlS (k : Nat) : Int → Int → Int := sndV (tlN k) (tlA k) (tlH k) (tlM k)
def tlR (k i j : Nat) : Bool := akS 2 ((k : Int) + 1) 2 (psL (tlS k) (relB k 2)) i j
def tlB (k : Nat) : Bool := losE k (tlN k) (tlA k) (tlH k) (tlM k) == 0 && exErr k (tlN k) (tlA k) (tlH k) (tlM k) == 0 && ((List.range 2).all fun r => (List.range (k + 1)).all fun t =>
  comE 2 1 ((k : Int) + 1) 2 (lT (relB k 2)) (fun _ _ => 2) (lT (relB k 2)) (lF (relB k 2)) r t 0 == 0 &&
  tlR k (posP ((k : Int) + 1) r t) (posP ((k : Int) + 1) r t) &&
  (if t = 0 then tlR k (posP ((k : Int) + 1) r t) (posP ((k : Int) + 1) (1 - r : Nat) t) && (facK (lF (relB k 2)) 2 ((k : Int) + 1) 0 (posP ((k : Int) + 1) r t) != facK (lF (relB k 2)) 2 ((k : Int) + 1) 0 (posP ((k : Int) + 1) (1 - r : Nat) t))
   else (List.range (2 * (k + 1))).all fun j => !tlR k (posP ((k : Int) + 1) r t) j || j == posP ((k : Int) + 1) r t))
set_option maxRecDepth 100000
theorem tl0 : tlB 0 = true := by kernel_rfl
theorem tl1 : tlB 1 = true := by kernel_rfl
theorem tl2 : tlB 2 = true := by kernel_rfl
theorem tl3 : tlB 3 = true := by kernel_rfl
theorem tl4 : tlB 4 = true := by kernel_rfl
theorem tl_ok {k : Nat} (hk : k ≤ 4) : tlB k = true := by
  have : k = 0 ∨ k = 1 ∨ k = 2 ∨ k = 3 ∨ k = 4 := by omega
  rcases this with rfl | rfl | rfl | rfl | rfl
  · exact tl0
  · exact tl1
  · exact tl2
  · exact tl3
  · exact tl4
theorem tl_err {k : Nat} (hk : k ≤ 4) : losE k (tlN k) (tlA k) (tlH k) (tlM k) = 0 ∧ exErr k (tlN k) (tlA k) (tlH k) (tlM k) = 0 := by
  have h := tl_ok hk
  unfold tlB at h
  simp only [Bool.and_eq_true, beq_iff_eq] at h
  exact h.1
theorem tl_lt {k i j : Nat} (h : tlR k i j = true) : j < 2 * (k + 1) := by
  unfold tlR akS akB at h
  rw [Bool.and_eq_true, decide_eq_true_eq, ptL_len] at h
  have e : ((k : Int) + 1).toNat = k + 1 := by omega
  rw [e] at h
  exact h.1
theorem tl_com {k : Nat} (hk : k ≤ 4) {r t : Nat} (hr : r < 2) (ht : t < k + 1) :
    comE 2 1 ((k : Int) + 1) 2 (lT (relB k 2)) (fun _ _ => 2) (lT (relB k 2)) (lF (relB k 2)) r t 0 = 0 ∧
    comV 2 1 ((k : Int) + 1) 2 (lT (relB k 2)) (fun _ _ => 2) (psL (tlS k) (relB k 2)) (lT (relB k 2)) (lF (relB k 2)) r t 0 = decide ((0 : Int) < (t : Int)) := by
  have h := tl_ok hk
  unfold tlB at h
  rw [Bool.and_eq_true] at h
  have h1 := List.all_eq_true.1 h.2 r (List.mem_range.2 hr)
  have h2 := List.all_eq_true.1 h1 t (List.mem_range.2 ht)
  rw [Bool.and_eq_true, Bool.and_eq_true, beq_iff_eq] at h2
  obtain ⟨⟨hE, hs⟩, h3⟩ := h2
  have hl : ((k : Int) + 1).toNat = k + 1 := by omega
  have hpos : ∀ x : Nat, posP ((k : Int) + 1) (x : Nat) (t : Nat) = x * (k + 1) + t := fun x => by
    unfold posP
    rw [hl]
    rfl
  have hlt : ∀ x : Nat, x < 2 → posP ((k : Int) + 1) (x : Nat) (t : Nat) < 2 * ((k : Int) + 1).toNat := fun x hx => by
    rw [hpos, hl]
    exact pos_lt hx (by omega)
  refine ⟨hE, ?_⟩
  by_cases h0 : t = 0
  · rw [if_pos h0, Bool.and_eq_true] at h3
    rw [decide_eq_false (by omega)]
    exact comV_two (hlt r hr) (hlt (1 - r) (by omega)) hs h3.1 h3.2
  · rw [if_neg h0] at h3
    rw [decide_eq_true (by omega)]
    refine comV_one hE (hlt r hr) hs fun j hj => ?_
    have := List.all_eq_true.1 h3 j (List.mem_range.2 (tl_lt hj))
    rw [show tlR k (posP ((k : Int) + 1) r t) j = true from hj] at this
    simpa using this
end Go.Proofs.Ytahaimecchdfeaa
