/-
  Texts of this claim, one after the other: what each proves is said at its head. No condition beyond those that its theorems name.
-/
import Derived.Test.YtahaimecchdfeaaProg
import Derived.Test.YtahaimecchdfeaaG01
import Derived.Test.YtahaimecchdfeaaG04
import Derived.Test.YtahaimecchdfeaaG06
import Derived.Test.YtahaimecchdfeaaG16
import Derived.Test.YtahaimecchdfeaaG20
import Derived.Test.YtahaimecchdfeaaG21

/-
  Plain facts of layer 54: the states of the runs of two agents tell the time and the history; the runs differ, and the first one of each bit loses nothing.
-/
namespace Go.Proofs.Ytahaimecchdfeaa
open Go.RowKit

theorem runL_next {snd : Int → Int → Int} {bit : Int} {lost : Nat → Int} {T k g : Nat} (hs : ∀ a h, 0 ≤ snd a h ∧ snd a h ≤ 3) (hb : 0 ≤ bit ∧ bit ≤ 1) (hl : ∀ k, k < T → 0 ≤ lost k ∧ lost k ≤ 3) (hk : k < T) (hT : T ≤ 4) :
    4 * runL snd bit lost k g ≤ runL snd bit lost (k + 1) g ∧ runL snd bit lost (k + 1) g ≤ 4 * runL snd bit lost k g + 3 := by
  have h := run_stp (snd := snd) (bit := bit) (lost := lost) (T := T) hs hb hl hk hT
  have h0 := hs 1 (runS snd bit lost k).2
  have h1 := hs 0 (runS snd bit lost k).1
  unfold runL
  by_cases e : g = 0
  · rw [if_pos e, if_pos e, h.1]
    split <;> omega
  · rw [if_neg e, if_neg e, h.2]
    split <;> omega
theorem runL_zero {snd : Int → Int → Int} {bit : Int} {lost : Nat → Int} {g : Nat} (hb : 0 ≤ bit ∧ bit ≤ 1) : 4 ≤ runL snd bit lost 0 g ∧ runL snd bit lost 0 g ≤ 5 := by
  unfold runL runS
  have h2 : stV 0 bit = 4 + bit := by unfold stV; rw [if_pos (by omega), if_neg (by omega)]
  have h3 : stV 1 bit = 4 := by unfold stV; rw [if_pos (by omega), if_pos rfl]
  split
  · show 4 ≤ stV 0 bit ∧ stV 0 bit ≤ 5
    omega
  · show 4 ≤ stV 1 bit ∧ stV 1 bit ≤ 5
    omega
theorem runL_span {snd : Int → Int → Int} {bit : Int} {lost : Nat → Int} {T g : Nat} (hs : ∀ a h, 0 ≤ snd a h ∧ snd a h ≤ 3) (hb : 0 ≤ bit ∧ bit ≤ 1) (hl : ∀ k, k < T → 0 ≤ lost k ∧ lost k ≤ 3) (hT : T ≤ 4) : ∀ k, k ≤ T → 4 * (4 : Int) ^ k ≤ runL snd bit lost k g ∧ runL snd bit lost k g < 6 * (4 : Int) ^ k
  | 0, _ => by have := runL_zero (snd := snd) (lost := lost) (g := g) hb; simp; omega
  | k + 1, hk => by
    have ih := runL_span hs hb hl hT (g := g) k (by omega)
    have h := runL_next (g := g) hs hb hl (show k < T by omega) hT
    rw [Int.pow_succ]
    omega
theorem runL_back {snd : Int → Int → Int} {b b' : Int} {l l' : Nat → Int} {T g : Nat} (hs : ∀ a h, 0 ≤ snd a h ∧ snd a h ≤ 3) (hb : 0 ≤ b ∧ b ≤ 1) (hb' : 0 ≤ b' ∧ b' ≤ 1) (hl : ∀ k, k < T → 0 ≤ l k ∧ l k ≤ 3) (hl' : ∀ k, k < T → 0 ≤ l' k ∧ l' k ≤ 3) (hT : T ≤ 4) :
    ∀ k, k ≤ T → runL snd b l k g = runL snd b' l' k g → ∀ j, j ≤ k → runL snd b l j g = runL snd b' l' j g
  | 0, _, e, j, hj => by rw [Nat.le_zero.1 hj]; exact e
  | k + 1, hk, e, j, hj => by
    have h1 := runL_next (g := g) hs hb hl (show k < T by omega) hT
    have h2 := runL_next (g := g) hs hb' hl' (show k < T by omega) hT
    rcases Nat.lt_or_eq_of_le hj with h | rfl
    · exact runL_back hs hb hb' hl hl' hT k (by omega) (by omega) j (by omega)
    · exact e
theorem span_one {t t' : Nat} {x : Int} (ht : t ≤ 4) (ht' : t' ≤ 4) (h : 4 * (4 : Int) ^ t ≤ x ∧ x < 6 * (4 : Int) ^ t) (h' : 4 * (4 : Int) ^ t' ≤ x ∧ x < 6 * (4 : Int) ^ t') : t = t' := by
  have h1 : t = 0 ∨ t = 1 ∨ t = 2 ∨ t = 3 ∨ t = 4 := by omega
  have h2 : t' = 0 ∨ t' = 1 ∨ t' = 2 ∨ t' = 3 ∨ t' = 4 := by omega
  rcases h1 with rfl | rfl | rfl | rfl | rfl <;> rcases h2 with rfl | rfl | rfl | rfl | rfl <;> first | rfl | (exfalso; simp at h h'; omega)
/-- Runs of a list, each with a bit and masks for T rounds. -/
def GoodP (T : Nat) (ps : List (Int × List Int)) : Prop := ∀ p, p ∈ ps → (p.1 = 0 ∨ p.1 = 1) ∧ p.2.length = T ∧ ∀ k, 0 ≤ lf p.2 k ∧ lf p.2 k ≤ 3
def psL (snd : Int → Int → Int) (ps : List (Int × List Int)) (r t g : Nat) : Int := runL snd (ppR ps r).1 (lf (ppR ps r).2) t g
theorem psL_time {snd : Int → Int → Int} {T r t r' t' g : Nat} {ps : List (Int × List Int)} (hG : GoodP T ps) (hs : ∀ a h, 0 ≤ snd a h ∧ snd a h ≤ 3) (hT : T ≤ 4) (hr : r < ps.length) (ht : t ≤ T) (hr' : r' < ps.length) (ht' : t' ≤ T) (e : psL snd ps r t g = psL snd ps r' t' g) : t = t' ∧ ∀ j, j ≤ t → psL snd ps r j g = psL snd ps r' j g := by
  have g1 := hG _ (ppR_mem hr)
  have g2 := hG _ (ppR_mem hr')
  have b1 : 0 ≤ (ppR ps r).1 ∧ (ppR ps r).1 ≤ 1 := by omega
  have b2 : 0 ≤ (ppR ps r').1 ∧ (ppR ps r').1 ≤ 1 := by omega
  have s1 := runL_span (g := g) hs b1 (fun k _ => g1.2.2 k) hT t ht
  have s2 := runL_span (g := g) hs b2 (fun k _ => g2.2.2 k) hT t' ht'
  unfold psL at e
  rw [e] at s1
  have := span_one (by omega) (by omega) s1 s2
  subst this
  exact ⟨rfl, runL_back hs b1 b2 (fun k _ => g1.2.2 k) (fun k _ => g2.2.2 k) hT t ht e⟩
theorem chkE_zero {a f l : Int} {n : Nat} {T : Nat → Nat} {m : Nat → Nat → Nat} {K : Nat → Nat} {F : Nat → Nat → Nat} (h1 : (0 ≤ a ∧ a ≤ 4) ∧ (0 ≤ f ∧ f ≤ 8) ∧ 1 ≤ l ∧ l ≤ 16) (h2 : n ≤ 64) (h3 : (n : Int) * l ≤ 512) (h4 : n ≠ 0) (h5 : ∀ i, i < n → (T i : Int) = l ∧ (K i : Int) = l ∧ ∀ t, t < T i → (m i t : Int) = a) (h6 : ∀ i, i < n → ∀ t, t < K i → F i t < 2 ^ f.toNat) : chkE a f l n T m K F = 0 := by
  unfold chkE
  rw [if_pos h1, if_neg (by omega), if_neg h4, if_pos, if_pos]
  · rw [allB_iff]
    intro i hi
    unfold facB
    rw [allB_iff]
    intro t ht
    have := h6 i hi t ht
    rw [decide_eq_false (by omega)]; rfl
  · rw [allB_iff]
    intro i hi
    obtain ⟨e1, e2, e3⟩ := h5 i hi
    unfold frmB
    simp only [Bool.and_eq_true, Bool.not_eq_true', bne_eq_false_iff_eq]
    refine ⟨⟨e1, e2⟩, ?_⟩
    rw [allB_iff]
    intro t ht
    simp [e3 t ht]
theorem ps_chk {T : Nat} {ps : List (Int × List Int)} (hG : GoodP T ps) (hT : T ≤ 4) (h1 : 0 < ps.length) (h2 : ps.length ≤ 64) : chkE 2 1 ((T : Int) + 1) ps.length (fun i => (ppR ps i).2.length + 1) (fun _ _ => 2) (fun i => (ppR ps i).2.length + 1) (fun i _ => (ppR ps i).1.toNat) = 0 := by
  refine chkE_zero (by omega) h2 ?_ (by omega) (fun i hi => ?_) (fun i hi t _ => ?_)
  · have h5 : (ps.length : Int) * ((T : Int) + 1) ≤ (ps.length : Int) * 5 := Int.mul_le_mul_of_nonneg_left (by omega) (by omega)
    omega
  · have h := (hG _ (ppR_mem hi)).2.1
    exact ⟨by show (((ppR ps i).2.length + 1 : Nat) : Int) = _; rw [h]; omega, by show (((ppR ps i).2.length + 1 : Nat) : Int) = _; rw [h]; omega, fun _ _ => rfl⟩
  · rcases (hG _ (ppR_mem hi)).1 with h | h <;> (show (ppR ps i).1.toNat < _; rw [h]; decide)

/-! ### the runs of the lossy channel -/
theorem zs_rank {x : List Int} (T : Nat) : ¬ LtL x (zs T) := by
  rintro ⟨k, -, h⟩
  rw [lf_zs] at h
  exact Nat.not_lt_zero _ (show rank (lf x k) < 0 from h)
theorem zs_ok (snd : Int → Int → Int) (b : Int) (T : Nat) : okP snd (b, zs T) = true := by
  show okB snd b 0 (zs T) = true
  rw [okB_iff]
  intro k _ _
  rw [lf_zs]
  have h := (rst_facts (x := 0) (by omega) (runW_range snd b (fun _ => 0) k)).1
  have e : rst 0 (runW snd b (fun _ => 0) k) = 0 := by unfold rst; simp
  rw [e] at h
  exact h
theorem zs_mem (T : Nat) {b : Int} (hb : b = 0 ∨ b = 1) : (b, zs T) ∈ prs T := prs_mem.2 ⟨hb, (allL_mem T [] _).2 ⟨zs T, rfl, zs_len T, fun y hy => by rw [List.eq_of_mem_replicate hy]; decide⟩⟩
/-- What is said of the runs of the lossy channel. -/
structure LosP (snd : Int → Int → Int) (T : Nat) (ps : List (Int × List Int)) : Prop where
  good : GoodP T ps
  len : 2 ≤ ps.length ∧ ps.length ≤ 64
  diff : ∀ i k, i < ps.length → k < i → ¬ SamR snd (ppR ps i) (ppR ps k)
  first : ∀ i, i < ps.length → (∀ k, k < i → (ppR ps k).1 ≠ (ppR ps i).1) → (ppR ps i).2 = zs T
  all : ∀ b : Int, b = 0 ∨ b = 1 → ∃ i, i < ps.length ∧ (ppR ps i).1 = b
theorem ppR_get {ps : List (Int × List Int)} {i : Nat} (h : i < ps.length) : ppR ps i = ps[i] := by
  unfold ppR; rw [List.getD_eq_getElem?_getD, List.getElem?_eq_getElem h]; rfl
theorem losP {snd : Int → Int → Int} {T : Nat} (hs : ∀ a h, 0 ≤ snd a h ∧ snd a h ≤ 3) (hT : T ≤ 4) (h64 : (losRs snd T).length ≤ 64) : LosP snd T (losRs snd T) := by
  have e : losRs snd T = (prs T).filter (okP snd) := by
    rw [losRs_eq] at h64 ⊢
    rw [List.length_take] at h64
    exact List.take_of_length_le (by omega)
  have hso : (losRs snd T).Pairwise LtP := by rw [e]; exact (prs_sorted T).filter _
  have hso := List.pairwise_iff_getElem.1 hso
  have hmem : ∀ p, p ∈ losRs snd T ↔ p ∈ prs T ∧ okP snd p = true := fun p => by rw [e, List.mem_filter]
  have hG : GoodP T (losRs snd T) := fun p hp => by
    have h := prs_mem.1 ((hmem p).1 hp).1
    obtain ⟨h1, h2⟩ := all_mem h.2
    exact ⟨h.1, h1, h2⟩
  have hz : ∀ b : Int, b = 0 ∨ b = 1 → ∃ i, ∃ h : i < (losRs snd T).length, (losRs snd T)[i] = (b, zs T) := fun b hb => List.getElem_of_mem ((hmem _).2 ⟨zs_mem T hb, zs_ok snd b T⟩)
  refine ⟨hG, ⟨?_, h64⟩, fun i k hi hk hS => ?_, fun i hi hf => ?_, fun b hb => ?_⟩
  · obtain ⟨i, hi, ei⟩ := hz 0 (.inl rfl)
    obtain ⟨j, hj, ej⟩ := hz 1 (.inr rfl)
    have : i ≠ j := by
      rintro rfl
      rw [ei] at ej
      exact absurd (Prod.mk.inj ej).1 (by decide)
    omega
  · have hlt := hso k i (by omega) hi hk
    rw [← ppR_get, ← ppR_get hi] at hlt
    have g1 := hG _ (ppR_mem hi)
    have g2 := hG _ (ppR_mem (ps := losRs snd T) (i := k) (by omega))
    have o1 := ((hmem _).1 (ppR_mem hi)).2
    have o2 := ((hmem _).1 (ppR_mem (ps := losRs snd T) (i := k) (by omega))).2
    generalize ppR (losRs snd T) i = p at hlt g1 o1 hS
    generalize ppR (losRs snd T) k = q at hlt g2 o2 hS
    obtain ⟨b, x⟩ := p
    obtain ⟨b', y⟩ := q
    obtain ⟨-, -, h2, h3⟩ := hS
    have hb : 0 ≤ b ∧ b ≤ 1 := by rcases g1.1 with h | h <;> (simp only at h; omega)
    have eb : b = b' := by
      have h3 : b.toNat = b'.toNat := h3 0 (Nat.succ_pos _)
      have : 0 ≤ b' ∧ b' ≤ 1 := by rcases g2.1 with h | h <;> (simp only at h; omega)
      omega
    subst eb
    have : x = y := ok_inj hs hb hT g1.2.2 g2.2.2 g1.2.1 g2.2.1 o1 o2 fun t ht => by
      have := (h2 t (by show t < x.length + 1; have := g1.2.1; simp only at this; omega)).2
      exact runL_pair.1 this
    subst this
    rcases hlt with h | ⟨-, h⟩
    · simp only at h; omega
    · exact LtL.irrefl h
  · have g1 := hG _ (ppR_mem hi)
    obtain ⟨k, hk, ek⟩ := hz (ppR (losRs snd T) i).1 g1.1
    rcases Nat.lt_trichotomy k i with h | rfl | h
    · exact absurd (by rw [ppR_get hk, ek]) (hf k h)
    · rw [ppR_get hk, ek]
    · have hlt := hso i k hi hk h
      rw [ek, ← ppR_get hi] at hlt
      rcases hlt with h1 | ⟨-, h1⟩
      · exact absurd h1 (Int.lt_irrefl _)
      · exact absurd h1 (zs_rank T)
  · obtain ⟨i, hi, ei⟩ := hz b hb
    exact ⟨i, hi, by rw [ppR_get hi, ei]⟩
theorem relP (T : Nat) : GoodP T (relB T 2) ∧ (relB T 2).length = 2 ∧ ppR (relB T 2) 0 = (0, zs T) ∧ ppR (relB T 2) 1 = (1, zs T) := by
  refine ⟨fun p hp => ?_, by simp [relB], rfl, rfl⟩
  obtain ⟨k, hk, rfl⟩ := List.mem_map.1 hp
  have := List.mem_range.1 hk
  exact ⟨by show (k : Int) = 0 ∨ (k : Int) = 1; omega, zs_len T, fun j => by rw [lf_zs]; show (0 : Int) ≤ 0 ∧ (0 : Int) ≤ 3; decide⟩
end Go.Proofs.Ytahaimecchdfeaa

/-
  Plain facts: the system of the lossy channel, as it lies.
-/
namespace Go.Proofs.Ytahaimecchdfeaa
open Go.RowKit

/-- The times of a run, its states and its facts. -/
def lT (ps : List (Int × List Int)) (i : Nat) : Nat := (ppR ps i).2.length + 1
def lF (ps : List (Int × List Int)) (i _t : Nat) : Nat := (ppR ps i).1.toNat
/-- The system of runs of a protocol. -/
def LsS (w : World) (x : Value) (snd : Int → Int → Int) (R : Int) (ps : List (Int × List Int)) : Prop := SysR w x 2 1 (R + 1) ps.length (lT ps) (fun _ _ => 2) (psL snd ps) (lT ps) (lF ps)
def lchk (R : Int) (ps : List (Int × List Int)) : Prop := chkE 2 1 (R + 1) ps.length (lT ps) (fun _ _ => 2) (lT ps) (lF ps) = 0
theorem LsS.below {w w' : World} {x : Value} {snd : Int → Int → Int} {R : Int} {ps : List (Int × List Int)} (h : LsS w x snd R ps) (hb : Below w.heap.size w w') : LsS w' x snd R ps := by
  obtain ⟨A, c, e, hr⟩ := h
  exact ⟨A, c, e, hr.below hb⟩
theorem good_sys {w : World} {base : Nat} {vR : Value} {snd : Int → Int → Int} {T : Nat} {ps : List (Int × List Int)} (h : RunsO w base vR (ps.map (mkR snd))) (hG : GoodP T ps) (hT : T ≤ 4) : LsS w (.agg #[.int .i64 2, .int .i64 1, .int .i64 ((T : Int) + 1), vR]) snd T ps := by
  obtain ⟨A, c, rfl, hr⟩ := los_read h fun p hp => by
    obtain ⟨h1, h2, -⟩ := hG p hp
    refine ⟨by omega, ?_⟩
    rcases h1 with h | h <;> (rw [h]; decide)
  exact ⟨A, c, rfl, hr⟩
/-- What the lossy channel leaves, where there is no error. -/
theorem los_sys {w : World} {base : Nat} {x : Value} {R : Int} {n : Nat} {fa fh fm : Nat → Int} (h : (losD R n fa fh fm).owned w base x) (hE : losE R n fa fh fm = 0) :
    LsS w x (sndV n fa fh fm) R (losRs (sndV n fa fh fm) R.toNat) ∧ lchk R (losRs (sndV n fa fh fm) R.toNat) ∧ LosP (sndV n fa fh fm) R.toNat (losRs (sndV n fa fh fm) R.toNat) ∧ (0 ≤ R ∧ R ≤ 4) ∧ exErr R n fa fh fm = 0 := by
  have hX : exErr R n fa fh fm = 0 := by
    unfold losE at hE
    by_cases h1 : exErr R n fa fh fm = 0
    · exact h1
    · rw [if_neg h1] at hE; exact hE
  have hl : (losRs (sndV n fa fh fm) R.toNat).length ≤ 64 := by
    unfold losE at hE
    rw [if_pos hX] at hE
    by_cases h1 : 64 < (losRs (sndV n fa fh fm) R.toNat).length
    · rw [if_pos h1] at hE; cases hE
    · omega
  have hR := exErr_R hX
  obtain ⟨T, rfl⟩ : ∃ T : Nat, R = T := ⟨R.toNat, by omega⟩
  rw [Int.toNat_natCast] at hl ⊢
  have hP := losP (snd := sndV n fa fh fm) (T := T) (snd_range hX) (by omega) hl
  have hd : losD T n fa fh fm = ⟨2, 1, (T : Int) + 1, (losRs (sndV n fa fh fm) T).map (mkR (sndV n fa fh fm))⟩ := by unfold losD; rw [hE, if_pos rfl, Int.toNat_natCast]
  rw [hd] at h
  obtain ⟨vR, rfl, ho⟩ := h
  exact ⟨good_sys ho hP.good (by omega), ps_chk hP.good (by omega) (by have := hP.len.1; omega) hP.len.2, hP, hR, hX⟩
end Go.Proofs.Ytahaimecchdfeaa
