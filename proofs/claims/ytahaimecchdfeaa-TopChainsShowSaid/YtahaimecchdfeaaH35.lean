/-
  Texts of this claim, one after the other: what each proves is said at its head. No condition beyond those that its theorems name.
-/
import Derived.Test.YtahaimecchdfeaaProg
import Derived.Test.YtahaimecchdfeaaH01
import Derived.Test.YtahaimecchdfeaaH03
import Derived.Test.YtahaimecchdfeaaH16
import Derived.Test.YtahaimecchdfeaaH17
import Derived.Test.YtahaimecchdfeaaH22
import Derived.Test.YtahaimecchdfeaaH23
import Derived.Test.YtahaimecchdfeaaH25
import Derived.Test.YtahaimecchdfeaaH27
import Derived.Test.YtahaimecchdfeaaH29
import Derived.Test.YtahaimecchdfeaaH31
import Derived.Test.YtahaimecchdfeaaH32
import Derived.Test.YtahaimecchdfeaaH33

/-
  Plain facts: what Verify answers, said of points.
-/
namespace Go.Proofs.Ytahaimecchdfeaa
open Go.RowKit

theorem ralk_comm (a : Nat) (L : Nat → Nat → Nat → Int) (r t r' t' : Nat) : ralk a L r t r' t' = ralk a L r' t' r t := by
  unfold ralk
  congr 1
  funext g
  rw [Bool.eq_iff_iff, beq_iff_eq, beq_iff_eq]
  exact eq_comm
theorem akB_pos {a n l r t r' t' : Nat} {L : Nat → Nat → Nat → Int} (hr : r < n) (ht : t < l) (hr' : r' < n) (ht' : t' < l) : akB a L (ptL n l) (r * l + t) (r' * l + t') = ralk a L r t r' t' := by
  have hp := pos_lt hr ht
  have hp' := pos_lt hr' ht'
  rw [ralk_comm]
  unfold akB ralk
  rw [ptG_get hp, ptG_get hp', pos_div ht, pos_div ht', pos_mod ht, pos_mod ht', ptL_len, decide_eq_true hp', Bool.true_and]
theorem facK_pos {F : Nat → Nat → Nat} {n r t fc : Nat} {l : Int} (hr : r < n) (ht : t < l.toNat) : facK F n l fc (r * l.toNat + t) = facB2 F (r, t) fc := by
  unfold facK
  rw [ptG_get (pos_lt hr ht), pos_div ht, pos_mod ht]
/-- What Verify answers, as the reference finds it. -/
structure VerP (N : Nat) (l : Int) (L : Nat → Nat → Nat → Int) (F : Nat → Nat → Nat) (m : Nat) (X Y : Nat → Int) (V : Nat) : Prop where
  none : m = 0 → V = 3
  out : ∀ k, k < m → ¬ inP N l.toNat (X k) (Y k) → V = 3
  cut : (∀ k, k < m → inP N l.toNat (X k) (Y k)) → ∀ i, i + 1 < m → ralk 2 L (X i).toNat (Y i).toNat (X (i + 1)).toNat (Y (i + 1)).toNat = false → V = 13
  fin : (∀ k, k < m → inP N l.toNat (X k) (Y k)) → (∀ i, i + 1 < m → ralk 2 L (X i).toNat (Y i).toNat (X (i + 1)).toNat (Y (i + 1)).toNat = true) → 0 < m →
    V = if facB2 F ((X 0).toNat, (Y 0).toNat) 0 = facB2 F ((X (m - 1)).toNat, (Y (m - 1)).toNat) 0 then 13 else 0
theorem verN_P {N m : Nat} {l : Int} {L : Nat → Nat → Nat → Int} {F : Nat → Nat → Nat} {X Y : Nat → Int} : VerP N l L F m X Y (verN 2 l N L F m (fun k => ixP (ptL N l.toNat) (X k) (Y k))) := by
  have hix : ∀ k, inP N l.toNat (X k) (Y k) → ixP (ptL N l.toNat) (X k) (Y k) = (((X k).toNat * l.toNat + (Y k).toNat : Nat) : Int) := fun k h => ixP_in h
  have hall : (∀ k, k < m → inP N l.toNat (X k) (Y k)) → allB m (fun k => ixP (ptL N l.toNat) (X k) (Y k) != -1) = true := fun h => allB_iff.2 fun k hk => by
    rw [bne_iff_ne, hix k (h k hk)]
    omega
  have hak : (∀ k, k < m → inP N l.toNat (X k) (Y k)) → ∀ i, i + 1 < m → akS 2 l N L (ixP (ptL N l.toNat) (X i) (Y i)).toNat (ixP (ptL N l.toNat) (X (i + 1)) (Y (i + 1))).toNat = ralk 2 L (X i).toNat (Y i).toNat (X (i + 1)).toNat (Y (i + 1)).toNat := fun h i hi => by
    have h1 := h i (by omega)
    have h2 := h (i + 1) hi
    rw [hix i h1, hix (i + 1) h2, Int.toNat_natCast, Int.toNat_natCast]
    obtain ⟨⟨a1, a2⟩, a3, a4⟩ := h1
    obtain ⟨⟨c1, c2⟩, c3, c4⟩ := h2
    exact akB_pos (by omega) (by omega) (by omega) (by omega)
  refine ⟨fun h => ?_, fun k hk hn => ?_, fun h i hi hr => ?_, fun h hl hm => ?_⟩
  · unfold verN
    rw [if_pos (.inl h)]
  · have hf : allB m (fun k => ixP (ptL N l.toNat) (X k) (Y k) != -1) = false := Bool.eq_false_iff.2 fun hc => by
      have := allB_iff.1 hc k hk
      rw [ixP_out hn] at this
      exact absurd this (by decide)
    unfold verN
    rw [if_pos (.inr hf)]
  · unfold verN
    rw [if_neg (by rw [hall h]; rintro (h | h); omega; cases h), if_neg]
    intro hc
    have := allB_iff.1 hc (i + 1) hi
    simp only [Nat.add_sub_cancel] at this
    rw [Bool.or_eq_true] at this
    rcases this with h1 | h1
    · rw [beq_iff_eq] at h1
      omega
    · rw [hak h i hi, hr] at h1
      cases h1
  · unfold verN
    rw [if_neg (by rw [hall h]; rintro (h | h); omega; cases h), if_pos]
    · have f0 : facK F N l 0 (ixP (ptL N l.toNat) (X 0) (Y 0)).toNat = facB2 F ((X 0).toNat, (Y 0).toNat) 0 := by
        have h1 := h 0 hm
        rw [hix 0 h1, Int.toNat_natCast]
        obtain ⟨⟨a1, a2⟩, a3, a4⟩ := h1
        exact facK_pos (by omega) (by omega)
      have f1 : facK F N l 0 (ixP (ptL N l.toNat) (X (m - 1)) (Y (m - 1))).toNat = facB2 F ((X (m - 1)).toNat, (Y (m - 1)).toNat) 0 := by
        have h1 := h (m - 1) (by omega)
        rw [hix (m - 1) h1, Int.toNat_natCast]
        obtain ⟨⟨a1, a2⟩, a3, a4⟩ := h1
        exact facK_pos (by omega) (by omega)
      rw [f0, f1]
    · refine allB_iff.2 fun i hi => ?_
      cases i with
      | zero => rfl
      | succ i =>
        rw [Bool.or_eq_true]
        right
        rw [Nat.add_sub_cancel, hak h i hi]
        exact hl i hi
end Go.Proofs.Ytahaimecchdfeaa

/-
  Plain facts: the example that every law of layer 57 asks first.
-/
namespace Go.Proofs.Ytahaimecchdfeaa
open Go.RowKit

def exA (k : Nat) : Int := ((altS 2).getD k (0, 0, 0)).1
def exH (k : Nat) : Int := ((altS 2).getD k (0, 0, 0)).2.1
def exM (k : Nat) : Int := ((altS 2).getD k (0, 0, 0)).2.2
def exS : Int → Int → Int := sndV 2 exA exH exM
def exPs : List (Int × List Int) := losRs exS 2
theorem ex_alt : altS 2 = [(0, 5, 1), (1, 17, 1)] := by decide
theorem ex_losE : losE 2 2 exA exH exM = 0 := by kernel_rfl
theorem ex_len : exPs.length = 4 := by kernel_rfl
theorem ex_ent : entE 2 1 3 4 (lT exPs) (fun _ _ => 2) (lT exPs) (lF exPs) 1 2 = 0 := by kernel_rfl
theorem ex_ent2 : entE 2 1 3 4 (lT exPs) (fun _ _ => 2) (lT exPs) (lF exPs) 2 2 = 0 := by kernel_rfl
theorem ex_ent3 : entE 2 1 3 4 (lT exPs) (fun _ _ => 2) (lT exPs) (lF exPs) 3 2 = 0 := by kernel_rfl
theorem ex_dep1 : depE 2 1 3 4 (lT exPs) (fun _ _ => 2) (lT exPs) (lF exPs) 1 2 0 9 = 0 ∧ depV 2 1 3 4 (lT exPs) (fun _ _ => 2) (psL exS exPs) (lT exPs) (lF exPs) 1 2 0 9 = 2 := ⟨by kernel_rfl, by kernel_rfl⟩
theorem ex_dep3 : depE 2 1 3 4 (lT exPs) (fun _ _ => 2) (lT exPs) (lF exPs) 3 2 0 9 = 0 ∧ depV 2 1 3 4 (lT exPs) (fun _ _ => 2) (psL exS exPs) (lT exPs) (lF exPs) 3 2 0 9 = 0 := ⟨by kernel_rfl, by kernel_rfl⟩
theorem ex_del : delF 2 1 3 4 (lT exPs) (fun _ _ => 2) (psL exS exPs) (lT exPs) (lF exPs) 2 2 = 0 ∧ delV 2 1 3 4 (lT exPs) (fun _ _ => 2) (psL exS exPs) (lT exPs) (lF exPs) 2 2 = 1 := ⟨by kernel_rfl, by kernel_rfl⟩
def exX (k : Nat) : Int := [1, 2, 3, 0].getD k 0
theorem ex_ver4 : verV 2 2 exA exH exM 4 exX (fun _ => 2) = 0 := by kernel_rfl
theorem ex_ver3 : verV 2 2 exA exH exM 3 exX (fun _ => 2) = 13 := by kernel_rfl
def exR : Nat → Nat → Bool := akS 2 3 4 (psL exS exPs)
def exC (k : Nat) : Bool := [2, 5, 8, 11].contains k
theorem ex_closed : ((List.range 12).all fun j => (List.range 12).all fun k => !(exC j && exR j k) || exC k) = true := by kernel_rfl
theorem ex_path : (exR 5 8 && exR 8 11 && exR 11 2 && exR 5 5) = true := by kernel_rfl
theorem ex_lt {j k : Nat} (h : exR j k = true) : k < 12 := by
  unfold exR akS akB at h
  rw [Bool.and_eq_true, decide_eq_true_eq] at h
  have e : (ptL 4 (3 : Int).toNat).length = 12 := by kernel_rfl
  omega
theorem exC_lt {k : Nat} (h : exC k = true) : k < 12 := by
  unfold exC at h
  rw [List.contains_iff_mem] at h
  simp at h
  omega
theorem all2 {p : Nat → Nat → Bool} (h : ((List.range 12).all fun j => (List.range 12).all fun k => p j k) = true) {j k : Nat} (hj : j < 12) (hk : k < 12) : p j k = true := by
  rw [List.all_eq_true] at h
  have := h j (List.mem_range.2 hj)
  rw [List.all_eq_true] at this
  exact this k (List.mem_range.2 hk)
theorem ex_rch (k : Nat) : exC k = true ↔ Rch exR 5 k := by
  have hp := ex_path
  simp only [Bool.and_eq_true] at hp
  obtain ⟨⟨⟨h8, h11⟩, h2⟩, h5⟩ := hp
  constructor
  · intro h
    unfold exC at h
    rw [List.contains_iff_mem] at h
    simp at h
    rcases h with rfl | rfl | rfl | rfl
    · exact ((Rch.one h8).step h11).step h2
    · exact Rch.one h5
    · exact Rch.one h8
    · exact (Rch.one h8).step h11
  · intro h
    refine Rch.sub (p := fun k => exC k = true) (fun k hk => ?_) (fun j k hj hk => ?_) h
    · have := all2 ex_closed (j := 5) (by decide) (ex_lt hk)
      rw [hk] at this
      simpa [show exC 5 = true by decide] using this
    · have := all2 ex_closed (exC_lt hj) (ex_lt hk)
      rw [hk, hj] at this
      simpa using this
theorem ex_cmp : cmpL exR 12 5 = [2, 5, 8, 11] := by
  rw [← cmpL_eq (R := exR) (N := 12) (i := 5) (S := exC) fun k _ => ex_rch k]
  decide
theorem ex_cmpP : cmpP 2 1 3 4 (lT exPs) (fun _ _ => 2) (psL exS exPs) (lT exPs) (lF exPs) 1 2 = [(0, 2), (1, 2), (2, 2), (3, 2)] := by
  unfold cmpP
  rw [if_pos ex_ent, show cmpL (akS 2 3 4 (psL exS exPs)) (4 * (3 : Int).toNat) (posP 3 1 2) = [2, 5, 8, 11] from ex_cmp]
  kernel_rfl
theorem ex_com : comE 2 1 3 4 (lT exPs) (fun _ _ => 2) (lT exPs) (lF exPs) 1 2 0 = 0 ∧ comV 2 1 3 4 (lT exPs) (fun _ _ => 2) (psL exS exPs) (lT exPs) (lF exPs) 1 2 0 = false := by
  refine ⟨by kernel_rfl, ?_⟩
  unfold comV
  rw [show cmpL (akS 2 3 4 (psL exS exPs)) (4 * (3 : Int).toNat) (posP 3 1 2) = [2, 5, 8, 11] from ex_cmp]
  kernel_rfl
def exF : Nat → Bool := facK (lF exPs) 4 3 0
theorem ex_near : ((List.range 12).all fun j => (List.range 12).all fun k => (!(exR 5 k) || exF k == exF 5) && (!(exR 5 j && exR j k) || exF k == exF 5)) = true := by kernel_rfl
theorem ex_far : (exF 2 == exF 5) = false := by kernel_rfl
theorem ex_w3 : walkN exR 5 3 2 := by
  have hp := ex_path
  simp only [Bool.and_eq_true] at hp
  obtain ⟨⟨⟨h8, h11⟩, h2⟩, h5⟩ := hp
  exact ⟨11, ⟨8, ⟨5, rfl, h8⟩, h11⟩, h2⟩
theorem ex_f2 : exF 2 ≠ exF 5 := by
  have := ex_far
  rwa [beq_eq_false_iff_ne] at this
theorem ex_w2 {m k : Nat} (hm : m ≤ 2) (h : walkN exR 5 m k) : exF k = exF 5 := by
  match m, hm, h with
  | 0, _, h => rw [show k = 5 from h]
  | 1, _, ⟨j, hj, hk⟩ =>
    rw [show j = 5 from hj] at hk
    have := all2 ex_near (j := 0) (by decide) (ex_lt hk)
    rw [hk] at this
    simp at this
    exact this.1
  | 2, _, ⟨j, ⟨i, hi, hj⟩, hk⟩ =>
    rw [show i = 5 from hi] at hj
    have := all2 ex_near (ex_lt hj) (ex_lt hk)
    rw [hj, hk] at this
    simp at this
    exact this.2
theorem ChOk.walk {R : Nat → Nat → Bool} {N s : Nat} {fac : Nat → Bool} {l : List Nat} (h : ChOk R N s fac l) : ∀ t i, l[t]? = some i → walkN R s t i
  | 0, i, hi => by
    have := h.head
    rw [List.head?_eq_getElem?, hi] at this
    injection this with this
  | t + 1, i, hi => by
    have hlt := (List.getElem?_eq_some_iff.1 hi).1
    obtain ⟨j, hj⟩ : ∃ j, l[t]? = some j := ⟨_, List.getElem?_eq_getElem (by omega)⟩
    exact ⟨j, h.walk t j hj, h.link t j i hj hi⟩
theorem ex_chain {l : List Nat} (h : ChOk exR 12 5 exF l) : l.length = 4 := by
  have h1 := h.least 3 2 ex_w3 ex_f2
  obtain ⟨i, hi, hf⟩ := h.last
  rw [List.getLast?_eq_getElem?] at hi
  have hw := h.walk _ _ hi
  rcases Nat.lt_or_ge l.length 4 with h2 | h2
  · exact absurd (ex_w2 (by omega) hw) hf
  · omega
end Go.Proofs.Ytahaimecchdfeaa

/-
  Plain law: a chain that is accepted shows that neither the bit nor its negation is common knowledge at its first point.
-/
namespace Go.Proofs.Ytahaimecchdfeaa
open Go.RowKit

/-- The bit, or its negation. -/
def bitB (F : Nat → Nat → Nat) : Bool → Nat → Nat → Bool
  | false => fun r t => decide (F r t % 2 = 1)
  | true => fun r t => !decide (F r t % 2 = 1)
/-- Common knowledge of the bit, or of its negation. -/
structure ComB (L : Nat → Nat → Nat → Int) (n l : Nat) (F : Nat → Nat → Nat) (neg : Bool) (Z : Nat → Nat → Bool) : Prop where
  fix : ∀ r t, r < n → t < l → evB L n l 2 (inB (fun _ _ => true) (bitB F neg) Z) r t = Z r t
  it : ∃ m, Z = itB L n l (fun _ _ => true) (bitB F neg) m
theorem ComB.step {L : Nat → Nat → Nat → Int} {n l : Nat} {F : Nat → Nat → Nat} {neg : Bool} {Z : Nat → Nat → Bool} (h : ComB L n l F neg Z) {r t r' t' : Nat} (hr : r < n) (ht : t < l) (hr' : r' < n) (ht' : t' < l) (hk : ralk 2 L r t r' t' = true) (hz : Z r t = true) : bitB F neg r' t' = true ∧ Z r' t' = true := by
  rw [← h.fix r t hr ht] at hz
  unfold evB at hz
  unfold ralk at hk
  obtain ⟨g, hg, hk⟩ := List.any_eq_true.1 hk
  have h1 := List.all_eq_true.1 hz g hg
  unfold knB at h1
  have h2 := List.all_eq_true.1 h1 (r', t') (List.mem_filter.2 ⟨ptL_mem.2 ⟨hr', ht'⟩, beq_iff_eq.2 (beq_iff_eq.1 hk).symm⟩)
  unfold inB at h2
  simpa using h2
theorem ralk_self (L : Nat → Nat → Nat → Int) (r t : Nat) : ralk 2 L r t r t = true := List.any_eq_true.2 ⟨0, List.mem_range.2 (by decide), by simp⟩
theorem ComB.bit {L : Nat → Nat → Nat → Int} {n l : Nat} {F : Nat → Nat → Nat} {neg : Bool} {Z : Nat → Nat → Bool} (h : ComB L n l F neg Z) {r t : Nat} (hr : r < n) (ht : t < l) (hz : Z r t = true) : bitB F neg r t = true := (h.step hr ht hr ht (ralk_self L r t) hz).1
theorem ComB.chain {L : Nat → Nat → Nat → Int} {n l m : Nat} {F : Nat → Nat → Nat} {neg : Bool} {Z : Nat → Nat → Bool} (h : ComB L n l F neg Z) {X Y : Nat → Nat} (hp : ∀ k, k < m → X k < n ∧ Y k < l) (hl : ∀ i, i + 1 < m → ralk 2 L (X i) (Y i) (X (i + 1)) (Y (i + 1)) = true) (hz : Z (X 0) (Y 0) = true) : ∀ i, i < m → Z (X i) (Y i) = true
  | 0, _ => hz
  | i + 1, hi => (h.step (hp i (by omega)).1 (hp i (by omega)).2 (hp _ hi).1 (hp _ hi).2 (hl i hi) (h.chain hp hl hz i (by omega))).2
theorem facB2_zero (F : Nat → Nat → Nat) (r t : Nat) : facB2 F (r, t) 0 = decide (F r t % 2 = 1) := by
  unfold facB2
  exact Nat.testBit_zero _
/-- An accepted chain. -/
theorem VerP.zero {N m : Nat} {l : Int} {L : Nat → Nat → Nat → Int} {F : Nat → Nat → Nat} {X Y : Nat → Int} (h : VerP N l L F m X Y 0) :
    0 < m ∧ (∀ k, k < m → inP N l.toNat (X k) (Y k)) ∧ (∀ i, i + 1 < m → ralk 2 L (X i).toNat (Y i).toNat (X (i + 1)).toNat (Y (i + 1)).toNat = true) ∧ facB2 F ((X 0).toNat, (Y 0).toNat) 0 ≠ facB2 F ((X (m - 1)).toNat, (Y (m - 1)).toNat) 0 := by
  have h0 : 0 < m := by
    rcases Nat.eq_zero_or_pos m with e | e
    · exact absurd (h.none e) (by decide)
    · exact e
  have h1 : ∀ k, k < m → inP N l.toNat (X k) (Y k) := fun k hk => Classical.byContradiction fun hc => absurd (h.out k hk hc) (by decide)
  have h2 : ∀ i, i + 1 < m → ralk 2 L (X i).toNat (Y i).toNat (X (i + 1)).toNat (Y (i + 1)).toNat = true := fun i hi => by
    cases hc : ralk 2 L (X i).toNat (Y i).toNat (X (i + 1)).toNat (Y (i + 1)).toNat with
    | true => rfl
    | false => exact absurd (h.cut h1 i hi hc) (by decide)
  refine ⟨h0, h1, h2, fun e => ?_⟩
  have := h.fin h1 h2 h0
  rw [if_pos e] at this
  exact absurd this (by decide)
theorem chain_not {N m : Nat} {l : Int} {L : Nat → Nat → Nat → Int} {F : Nat → Nat → Nat} {X Y : Nat → Int} {neg : Bool} {Z : Nat → Nat → Bool} (h : VerP N l L F m X Y 0) (hc : ComB L N l.toNat F neg Z) : Z (X 0).toNat (Y 0).toNat = false := by
  obtain ⟨h0, h1, h2, h3⟩ := h.zero
  have hp : ∀ k, k < m → (X k).toNat < N ∧ (Y k).toNat < l.toNat := fun k hk => by
    obtain ⟨⟨a1, a2⟩, a3, a4⟩ := h1 k hk
    omega
  cases hz : Z (X 0).toNat (Y 0).toNat with
  | false => rfl
  | true =>
    have hall := hc.chain (X := fun k => (X k).toNat) (Y := fun k => (Y k).toNat) hp h2 hz
    have b0 := hc.bit (hp 0 h0).1 (hp 0 h0).2 hz
    have b1 := hc.bit (hp (m - 1) (by omega)).1 (hp (m - 1) (by omega)).2 (hall (m - 1) (by omega))
    rw [facB2_zero, facB2_zero] at h3
    exfalso
    cases neg with
    | false =>
      unfold bitB at b0 b1
      exact h3 (b0.trans b1.symm)
    | true =>
      unfold bitB at b0 b1
      have e0 : decide (F (X 0).toNat (Y 0).toNat % 2 = 1) = false := by simpa using b0
      have e1 : decide (F (X (m - 1)).toNat (Y (m - 1)).toNat % 2 = 1) = false := by simpa using b1
      exact h3 (e0.trans e1.symm)
/-- A set that is closed holds in each round. -/
theorem itB_ge {L : Nat → Nat → Nat → Int} {n l : Nat} {X Y P : Nat → Nat → Bool} (h : ∀ r t, r < n → t < l → P r t = true → evB L n l 2 (inB X Y P) r t = true) : ∀ (m r t : Nat), r < n → t < l → P r t = true → itB L n l X Y m r t = true
  | 0, _, _, _, _, _ => rfl
  | m + 1, r, t, hr, ht, hp => evB_mono (fun r' t' hr' ht' h' => inB_mono (fun hp' => itB_ge h m r' t' hr' ht' hp') h') (h r t hr ht hp)
end Go.Proofs.Ytahaimecchdfeaa
