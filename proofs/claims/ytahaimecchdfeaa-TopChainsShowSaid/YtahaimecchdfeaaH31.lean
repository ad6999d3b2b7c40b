/-
  Texts of this claim, one after the other: what each proves is said at its head. No condition beyond those that its theorems name.
-/
import Derived.Test.YtahaimecchdfeaaProg
import Derived.Deep.DeepCutAuto
import Derived.Deep.RegionHeld3
import Derived.Maps.RangeWalk
import Derived.Laws.EntriesVeiled
import Derived.Test.YtahaimecchdfeaaH01
import Derived.Test.YtahaimecchdfeaaH02
import Derived.Test.YtahaimecchdfeaaH03
import Derived.Test.YtahaimecchdfeaaH06
import Derived.Test.YtahaimecchdfeaaH09
import Derived.Test.YtahaimecchdfeaaH12
import Derived.Test.YtahaimecchdfeaaH13
import Derived.Test.YtahaimecchdfeaaH17
import Derived.Test.YtahaimecchdfeaaH23
import Derived.Test.YtahaimecchdfeaaH27
import Derived.Test.YtahaimecchdfeaaH28
import Derived.Test.YtahaimecchdfeaaH29
import Derived.Test.YtahaimecchdfeaaH30

/-
  Plain facts of layer 54: the states of the runs of two agents tell the time and the history; the runs differ, and the first one of each bit loses nothing.
-/
namespace Go.Proofs.Ytahaimecchdfeaa
open Go.RowKit

theorem runL_next {snd : Int → Int → Int} {bit : Int} {lost : Nat → Int} {T k g : Nat} (hs : ∀ a h, 0 ≤ snd a h ∧ snd a h ≤ 3) (hb : 0 ≤ bit ∧ bit ≤ 1) (hl : ∀ k, k < T → 0 ≤ lost k ∧ lost k ≤ 3) (hk : k < T) (hT : T ≤ 4) :
    4 * runL snd bit lost k g ≤ runL snd bit lost (k + 1) g ∧ runL snd bit lost (k + 1) g ≤ 4 * runL snd bit lost k g + 3 := by
  have h := run_stp (snd := snd) (bit := bit) (lost := lost) (T := T) hs hb hl hk hT
  have h0 := hs 1 (runS snd bit lost k).2
  have h1 := hs 0 (runS snd bit lost k).1
  unfold runL
  by_cases e : g = 0
  · rw [if_pos e, if_pos e, h.1]
    split <;> omega
  · rw [if_neg e, if_neg e, h.2]
    split <;> omega
theorem runL_zero {snd : Int → Int → Int} {bit : Int} {lost : Nat → Int} {g : Nat} (hb : 0 ≤ bit ∧ bit ≤ 1) : 4 ≤ runL snd bit lost 0 g ∧ runL snd bit lost 0 g ≤ 5 := by
  unfold runL runS
  have h2 : stV 0 bit = 4 + bit := by unfold stV; rw [if_pos (by omega), if_neg (by omega)]
  have h3 : stV 1 bit = 4 := by unfold stV; rw [if_pos (by omega), if_pos rfl]
  split
  · show 4 ≤ stV 0 bit ∧ stV 0 bit ≤ 5
    omega
  · show 4 ≤ stV 1 bit ∧ stV 1 bit ≤ 5
    omega
theorem runL_span {snd : Int → Int → Int} {bit : Int} {lost : Nat → Int} {T g : Nat} (hs : ∀ a h, 0 ≤ snd a h ∧ snd a h ≤ 3) (hb : 0 ≤ bit ∧ bit ≤ 1) (hl : ∀ k, k < T → 0 ≤ lost k ∧ lost k ≤ 3) (hT : T ≤ 4) : ∀ k, k ≤ T → 4 * (4 : Int) ^ k ≤ runL snd bit lost k g ∧ runL snd bit lost k g < 6 * (4 : Int) ^ k
  | 0, _ => by have := runL_zero (snd := snd) (lost := lost) (g := g) hb; simp; omega
  | k + 1, hk => by
    have ih := runL_span hs hb hl hT (g := g) k (by omega)
    have h := runL_next (g := g) hs hb hl (show k < T by omega) hT
    rw [Int.pow_succ]
    omega
theorem runL_back {snd : Int → Int → Int} {b b' : Int} {l l' : Nat → Int} {T g : Nat} (hs : ∀ a h, 0 ≤ snd a h ∧ snd a h ≤ 3) (hb : 0 ≤ b ∧ b ≤ 1) (hb' : 0 ≤ b' ∧ b' ≤ 1) (hl : ∀ k, k < T → 0 ≤ l k ∧ l k ≤ 3) (hl' : ∀ k, k < T → 0 ≤ l' k ∧ l' k ≤ 3) (hT : T ≤ 4) :
    ∀ k, k ≤ T → runL snd b l k g = runL snd b' l' k g → ∀ j, j ≤ k → runL snd b l j g = runL snd b' l' j g
  | 0, _, e, j, hj => by rw [Nat.le_zero.1 hj]; exact e
  | k + 1, hk, e, j, hj => by
    have h1 := runL_next (g := g) hs hb hl (show k < T by omega) hT
    have h2 := runL_next (g := g) hs hb' hl' (show k < T by omega) hT
    rcases Nat.lt_or_eq_of_le hj with h | rfl
    · exact runL_back hs hb hb' hl hl' hT k (by omega) (by omega) j (by omega)
    · exact e
theorem span_one {t t' : Nat} {x : Int} (ht : t ≤ 4) (ht' : t' ≤ 4) (h : 4 * (4 : Int) ^ t ≤ x ∧ x < 6 * (4 : Int) ^ t) (h' : 4 * (4 : Int) ^ t' ≤ x ∧ x < 6 * (4 : Int) ^ t') : t = t' := by
  have h1 : t = 0 ∨ t = 1 ∨ t = 2 ∨ t = 3 ∨ t = 4 := by omega
  have h2 : t' = 0 ∨ t' = 1 ∨ t' = 2 ∨ t' = 3 ∨ t' = 4 := by omega
  rcases h1 with rfl | rfl | rfl | rfl | rfl <;> rcases h2 with rfl | rfl | rfl | rfl | rfl <;> first | rfl | (exfalso; simp at h h'; omega)
/-- Runs of a list, each with a bit and masks for T rounds. -/
def GoodP (T : Nat) (ps : List (Int × List Int)) : Prop := ∀ p, p ∈ ps → (p.1 = 0 ∨ p.1 = 1) ∧ p.2.length = T ∧ ∀ k, 0 ≤ lf p.2 k ∧ lf p.2 k ≤ 3
def psL (snd : Int → Int → Int) (ps : List (Int × List Int)) (r t g : Nat) : Int := runL snd (ppR ps r).1 (lf (ppR ps r).2) t g
theorem psL_time {snd : Int → Int → Int} {T r t r' t' g : Nat} {ps : List (Int × List Int)} (hG : GoodP T ps) (hs : ∀ a h, 0 ≤ snd a h ∧ snd a h ≤ 3) (hT : T ≤ 4) (hr : r < ps.length) (ht : t ≤ T) (hr' : r' < ps.length) (ht' : t' ≤ T) (e : psL snd ps r t g = psL snd ps r' t' g) : t = t' ∧ ∀ j, j ≤ t → psL snd ps r j g = psL snd ps r' j g := by
  have g1 := hG _ (ppR_mem hr)
  have g2 := hG _ (ppR_mem hr')
  have b1 : 0 ≤ (ppR ps r).1 ∧ (ppR ps r).1 ≤ 1 := by omega
  have b2 : 0 ≤ (ppR ps r').1 ∧ (ppR ps r').1 ≤ 1 := by omega
  have s1 := runL_span (g := g) hs b1 (fun k _ => g1.2.2 k) hT t ht
  have s2 := runL_span (g := g) hs b2 (fun k _ => g2.2.2 k) hT t' ht'
  unfold psL at e
  rw [e] at s1
  have := span_one (by omega) (by omega) s1 s2
  subst this
  exact ⟨rfl, runL_back hs b1 b2 (fun k _ => g1.2.2 k) (fun k _ => g2.2.2 k) hT t ht e⟩
theorem chkE_zero {a f l : Int} {n : Nat} {T : Nat → Nat} {m : Nat → Nat → Nat} {K : Nat → Nat} {F : Nat → Nat → Nat} (h1 : (0 ≤ a ∧ a ≤ 4) ∧ (0 ≤ f ∧ f ≤ 8) ∧ 1 ≤ l ∧ l ≤ 16) (h2 : n ≤ 64) (h3 : (n : Int) * l ≤ 512) (h4 : n ≠ 0) (h5 : ∀ i, i < n → (T i : Int) = l ∧ (K i : Int) = l ∧ ∀ t, t < T i → (m i t : Int) = a) (h6 : ∀ i, i < n → ∀ t, t < K i → F i t < 2 ^ f.toNat) : chkE a f l n T m K F = 0 := by
  unfold chkE
  rw [if_pos h1, if_neg (by omega), if_neg h4, if_pos, if_pos]
  · rw [allB_iff]
    intro i hi
    unfold facB
    rw [allB_iff]
    intro t ht
    have := h6 i hi t ht
    rw [decide_eq_false (by omega)]; rfl
  · rw [allB_iff]
    intro i hi
    obtain ⟨e1, e2, e3⟩ := h5 i hi
    unfold frmB
    simp only [Bool.and_eq_true, Bool.not_eq_true', bne_eq_false_iff_eq]
    refine ⟨⟨e1, e2⟩, ?_⟩
    rw [allB_iff]
    intro t ht
    simp [e3 t ht]
theorem ps_chk {T : Nat} {ps : List (Int × List Int)} (hG : GoodP T ps) (hT : T ≤ 4) (h1 : 0 < ps.length) (h2 : ps.length ≤ 64) : chkE 2 1 ((T : Int) + 1) ps.length (fun i => (ppR ps i).2.length + 1) (fun _ _ => 2) (fun i => (ppR ps i).2.length + 1) (fun i _ => (ppR ps i).1.toNat) = 0 := by
  refine chkE_zero (by omega) h2 ?_ (by omega) (fun i hi => ?_) (fun i hi t _ => ?_)
  · have h5 : (ps.length : Int) * ((T : Int) + 1) ≤ (ps.length : Int) * 5 := Int.mul_le_mul_of_nonneg_left (by omega) (by omega)
    omega
  · have h := (hG _ (ppR_mem hi)).2.1
    exact ⟨by show (((ppR ps i).2.length + 1 : Nat) : Int) = _; rw [h]; omega, by show (((ppR ps i).2.length + 1 : Nat) : Int) = _; rw [h]; omega, fun _ _ => rfl⟩
  · rcases (hG _ (ppR_mem hi)).1 with h | h <;> (show (ppR ps i).1.toNat < _; rw [h]; decide)

/-! ### the runs of the lossy channel -/
theorem zs_rank {x : List Int} (T : Nat) : ¬ LtL x (zs T) := by
  rintro ⟨k, -, h⟩
  rw [lf_zs] at h
  exact Nat.not_lt_zero _ (show rank (lf x k) < 0 from h)
theorem zs_ok (snd : Int → Int → Int) (b : Int) (T : Nat) : okP snd (b, zs T) = true := by
  show okB snd b 0 (zs T) = true
  rw [okB_iff]
  intro k _ _
  rw [lf_zs]
  have h := (rst_facts (x := 0) (by omega) (runW_range snd b (fun _ => 0) k)).1
  have e : rst 0 (runW snd b (fun _ => 0) k) = 0 := by unfold rst; simp
  rw [e] at h
  exact h
theorem zs_mem (T : Nat) {b : Int} (hb : b = 0 ∨ b = 1) : (b, zs T) ∈ prs T := prs_mem.2 ⟨hb, (allL_mem T [] _).2 ⟨zs T, rfl, zs_len T, fun y hy => by rw [List.eq_of_mem_replicate hy]; decide⟩⟩
/-- What is said of the runs of the lossy channel. -/
structure LosP (snd : Int → Int → Int) (T : Nat) (ps : List (Int × List Int)) : Prop where
  good : GoodP T ps
  len : 2 ≤ ps.length ∧ ps.length ≤ 64
  diff : ∀ i k, i < ps.length → k < i → ¬ SamR snd (ppR ps i) (ppR ps k)
  first : ∀ i, i < ps.length → (∀ k, k < i → (ppR ps k).1 ≠ (ppR ps i).1) → (ppR ps i).2 = zs T
  all : ∀ b : Int, b = 0 ∨ b = 1 → ∃ i, i < ps.length ∧ (ppR ps i).1 = b
theorem ppR_get {ps : List (Int × List Int)} {i : Nat} (h : i < ps.length) : ppR ps i = ps[i] := by
  unfold ppR; rw [List.getD_eq_getElem?_getD, List.getElem?_eq_getElem h]; rfl
theorem losP {snd : Int → Int → Int} {T : Nat} (hs : ∀ a h, 0 ≤ snd a h ∧ snd a h ≤ 3) (hT : T ≤ 4) (h64 : (losRs snd T).length ≤ 64) : LosP snd T (losRs snd T) := by
  have e : losRs snd T = (prs T).filter (okP snd) := by
    rw [losRs_eq] at h64 ⊢
    rw [List.length_take] at h64
    exact List.take_of_length_le (by omega)
  have hso : (losRs snd T).Pairwise LtP := by rw [e]; exact (prs_sorted T).filter _
  have hso := List.pairwise_iff_getElem.1 hso
  have hmem : ∀ p, p ∈ losRs snd T ↔ p ∈ prs T ∧ okP snd p = true := fun p => by rw [e, List.mem_filter]
  have hG : GoodP T (losRs snd T) := fun p hp => by
    have h := prs_mem.1 ((hmem p).1 hp).1
    obtain ⟨h1, h2⟩ := all_mem h.2
    exact ⟨h.1, h1, h2⟩
  have hz : ∀ b : Int, b = 0 ∨ b = 1 → ∃ i, ∃ h : i < (losRs snd T).length, (losRs snd T)[i] = (b, zs T) := fun b hb => List.getElem_of_mem ((hmem _).2 ⟨zs_mem T hb, zs_ok snd b T⟩)
  refine ⟨hG, ⟨?_, h64⟩, fun i k hi hk hS => ?_, fun i hi hf => ?_, fun b hb => ?_⟩
  · obtain ⟨i, hi, ei⟩ := hz 0 (.inl rfl)
    obtain ⟨j, hj, ej⟩ := hz 1 (.inr rfl)
    have : i ≠ j := by
      rintro rfl
      rw [ei] at ej
      exact absurd (Prod.mk.inj ej).1 (by decide)
    omega
  · have hlt := hso k i (by omega) hi hk
    rw [← ppR_get, ← ppR_get hi] at hlt
    have g1 := hG _ (ppR_mem hi)
    have g2 := hG _ (ppR_mem (ps := losRs snd T) (i := k) (by omega))
    have o1 := ((hmem _).1 (ppR_mem hi)).2
    have o2 := ((hmem _).1 (ppR_mem (ps := losRs snd T) (i := k) (by omega))).2
    generalize ppR (losRs snd T) i = p at hlt g1 o1 hS
    generalize ppR (losRs snd T) k = q at hlt g2 o2 hS
    obtain ⟨b, x⟩ := p
    obtain ⟨b', y⟩ := q
    obtain ⟨-, -, h2, h3⟩ := hS
    have hb : 0 ≤ b ∧ b ≤ 1 := by rcases g1.1 with h | h <;> (simp only at h; omega)
    have eb : b = b' := by
      have h3 : b.toNat = b'.toNat := h3 0 (Nat.succ_pos _)
      have : 0 ≤ b' ∧ b' ≤ 1 := by rcases g2.1 with h | h <;> (simp only at h; omega)
      omega
    subst eb
    have : x = y := ok_inj hs hb hT g1.2.2 g2.2.2 g1.2.1 g2.2.1 o1 o2 fun t ht => by
      have := (h2 t (by show t < x.length + 1; have := g1.2.1; simp only at this; omega)).2
      exact runL_pair.1 this
    subst this
    rcases hlt with h | ⟨-, h⟩
    · simp only at h; omega
    · exact LtL.irrefl h
  · have g1 := hG _ (ppR_mem hi)
    obtain ⟨k, hk, ek⟩ := hz (ppR (losRs snd T) i).1 g1.1
    rcases Nat.lt_trichotomy k i with h | rfl | h
    · exact absurd (by rw [ppR_get hk, ek]) (hf k h)
    · rw [ppR_get hk, ek]
    · have hlt := hso i k hi hk h
      rw [ek, ← ppR_get hi] at hlt
      rcases hlt with h1 | ⟨-, h1⟩
      · exact absurd h1 (Int.lt_irrefl _)
      · exact absurd h1 (zs_rank T)
  · obtain ⟨i, hi, ei⟩ := hz b hb
    exact ⟨i, hi, by rw [ppR_get hi, ei]⟩
theorem relP (T : Nat) : GoodP T (relB T 2) ∧ (relB T 2).length = 2 ∧ ppR (relB T 2) 0 = (0, zs T) ∧ ppR (relB T 2) 1 = (1, zs T) := by
  refine ⟨fun p hp => ?_, by simp [relB], rfl, rfl⟩
  obtain ⟨k, hk, rfl⟩ := List.mem_map.1 hp
  have := List.mem_range.1 hk
  exact ⟨by show (k : Int) = 0 ∨ (k : Int) = 1; omega, zs_len T, fun j => by rw [lf_zs]; show (0 : Int) ≤ 0 ∧ (0 : Int) ≤ 3; decide⟩
end Go.Proofs.Ytahaimecchdfeaa

/-
  Plain facts: the system of the lossy channel, as it lies.
-/
namespace Go.Proofs.Ytahaimecchdfeaa
open Go.RowKit

/-- The times of a run, its states and its facts. -/
def lT (ps : List (Int × List Int)) (i : Nat) : Nat := (ppR ps i).2.length + 1
def lF (ps : List (Int × List Int)) (i _t : Nat) : Nat := (ppR ps i).1.toNat
/-- The system of runs of a protocol. -/
def LsS (w : World) (x : Value) (snd : Int → Int → Int) (R : Int) (ps : List (Int × List Int)) : Prop := SysR w x 2 1 (R + 1) ps.length (lT ps) (fun _ _ => 2) (psL snd ps) (lT ps) (lF ps)
def lchk (R : Int) (ps : List (Int × List Int)) : Prop := chkE 2 1 (R + 1) ps.length (lT ps) (fun _ _ => 2) (lT ps) (lF ps) = 0
theorem LsS.below {w w' : World} {x : Value} {snd : Int → Int → Int} {R : Int} {ps : List (Int × List Int)} (h : LsS w x snd R ps) (hb : Below w.heap.size w w') : LsS w' x snd R ps := by
  obtain ⟨A, c, e, hr⟩ := h
  exact ⟨A, c, e, hr.below hb⟩
theorem good_sys {w : World} {base : Nat} {vR : Value} {snd : Int → Int → Int} {T : Nat} {ps : List (Int × List Int)} (h : RunsO w base vR (ps.map (mkR snd))) (hG : GoodP T ps) (hT : T ≤ 4) : LsS w (.agg #[.int .i64 2, .int .i64 1, .int .i64 ((T : Int) + 1), vR]) snd T ps := by
  obtain ⟨A, c, rfl, hr⟩ := los_read h fun p hp => by
    obtain ⟨h1, h2, -⟩ := hG p hp
    refine ⟨by omega, ?_⟩
    rcases h1 with h | h <;> (rw [h]; decide)
  exact ⟨A, c, rfl, hr⟩
/-- What the lossy channel leaves, where there is no error. -/
theorem los_sys {w : World} {base : Nat} {x : Value} {R : Int} {n : Nat} {fa fh fm : Nat → Int} (h : (losD R n fa fh fm).owned w base x) (hE : losE R n fa fh fm = 0) :
    LsS w x (sndV n fa fh fm) R (losRs (sndV n fa fh fm) R.toNat) ∧ lchk R (losRs (sndV n fa fh fm) R.toNat) ∧ LosP (sndV n fa fh fm) R.toNat (losRs (sndV n fa fh fm) R.toNat) ∧ (0 ≤ R ∧ R ≤ 4) ∧ exErr R n fa fh fm = 0 := by
  have hX : exErr R n fa fh fm = 0 := by
    unfold losE at hE
    by_cases h1 : exErr R n fa fh fm = 0
    · exact h1
    · rw [if_neg h1] at hE; exact hE
  have hl : (losRs (sndV n fa fh fm) R.toNat).length ≤ 64 := by
    unfold losE at hE
    rw [if_pos hX] at hE
    by_cases h1 : 64 < (losRs (sndV n fa fh fm) R.toNat).length
    · rw [if_pos h1] at hE; cases hE
    · omega
  have hR := exErr_R hX
  obtain ⟨T, rfl⟩ : ∃ T : Nat, R = T := ⟨R.toNat, by omega⟩
  rw [Int.toNat_natCast] at hl ⊢
  have hP := losP (snd := sndV n fa fh fm) (T := T) (snd_range hX) (by omega) hl
  have hd : losD T n fa fh fm = ⟨2, 1, (T : Int) + 1, (losRs (sndV n fa fh fm) T).map (mkR (sndV n fa fh fm))⟩ := by unfold losD; rw [hE, if_pos rfl, Int.toNat_natCast]
  rw [hd] at h
  obtain ⟨vR, rfl, ho⟩ := h
  exact ⟨good_sys ho hP.good (by omega), ps_chk hP.good (by omega) (by have := hP.len.1; omega) hP.len.2, hP, hR, hX⟩
end Go.Proofs.Ytahaimecchdfeaa

/-
  Plain facts: over a channel that may lose each message every point reaches a point of either bit.
-/
namespace Go.Proofs.Ytahaimecchdfeaa
open Go.RowKit

/-- A run of the list is that of a bit and of masks. -/
def RunIs (snd : Int → Int → Int) (T : Nat) (ps : List (Int × List Int)) (r : Nat) (b : Int) (l : Nat → Int) : Prop := r < ps.length ∧ (ppR ps r).1 = b ∧ ∀ k, k ≤ T → runS snd (ppR ps r).1 (lf (ppR ps r).2) k = runS snd b l k
theorem lf_map {T : Nat} {l : Nat → Int} {k : Nat} (h : k < T) : lf ((List.range T).map l) k = l k := by
  unfold lf
  rw [List.getD_eq_getElem?_getD, List.getElem?_map, List.getElem?_range h]
  rfl
theorem run_of {snd : Int → Int → Int} {T : Nat} (hs : ∀ a h, 0 ≤ snd a h ∧ snd a h ≤ 3) (h64 : (losRs snd T).length ≤ 64) {b : Int} (hb : b = 0 ∨ b = 1) {l : Nat → Int} (hl : ∀ k, 0 ≤ l k ∧ l k ≤ 3) : ∃ r, RunIs snd T (losRs snd T) r b l := by
  have e : losRs snd T = (prs T).filter (okP snd) := by
    rw [losRs_eq] at h64 ⊢
    rw [List.length_take] at h64
    exact List.take_of_length_le (by omega)
  obtain ⟨x, ex⟩ : ∃ x, x = (List.range T).map l := ⟨_, rfl⟩
  have hx : ∀ y, y ∈ x → 0 ≤ y ∧ y ≤ 3 := fun y hy => by
    rw [ex] at hy
    obtain ⟨k, -, rfl⟩ := List.mem_map.1 hy
    exact hl k
  have hxl : x.length = T := by rw [ex, List.length_map, List.length_range]
  have hm : (b, nrm snd b x) ∈ losRs snd T := by
    rw [e, List.mem_filter]
    refine ⟨prs_mem.2 ⟨hb, (allL_mem T [] _).2 ⟨nrm snd b x, rfl, by rw [nrm_len, hxl], fun y hy => ?_⟩⟩, nrm_ok hs (lf_in hx)⟩
    unfold nrm at hy
    obtain ⟨k, -, rfl⟩ := List.mem_map.1 hy
    exact (rst_facts (lf_in hx k) (runW_range snd b (lf x) k)).2.1
  obtain ⟨r, hr, er⟩ := List.getElem_of_mem hm
  refine ⟨r, hr, by rw [ppR_get hr, er], fun k hk => ?_⟩
  rw [ppR_get hr, er]
  show runS snd b (lf (nrm snd b x)) k = _
  rw [nrm_run hs (lf_in hx) k (by omega)]
  exact runS_congr k fun j hj => by rw [ex]; exact lf_map (by omega)
/-- What an agent has seen stays the same while all that it is sent is lost. -/
theorem stay1 {snd : Int → Int → Int} {b b' : Int} {l l' : Nat → Int} {j : Nat} (h : (runS snd b l j).1 = (runS snd b' l' j).1) : ∀ d, (∀ k, j ≤ k → k < j + d → losB (l k) 1 = true ∧ losB (l' k) 1 = true) → (runS snd b l (j + d)).1 = (runS snd b' l' (j + d)).1
  | 0, _ => h
  | d + 1, hk => by
    have ih := stay1 h d fun k h1 h2 => hk k h1 (by omega)
    have h2 := hk (j + d) (by omega) (by omega)
    show afV (runS snd b l (j + d)).1 (if losB (l (j + d)) 1 = true then 0 else _) = afV (runS snd b' l' (j + d)).1 (if losB (l' (j + d)) 1 = true then 0 else _)
    rw [ih, if_pos h2.1, if_pos h2.2]
theorem stay2 {snd : Int → Int → Int} {b b' : Int} {l l' : Nat → Int} {j : Nat} (h : (runS snd b l j).2 = (runS snd b' l' j).2) : ∀ d, (∀ k, j ≤ k → k < j + d → losB (l k) 0 = true ∧ losB (l' k) 0 = true) → (runS snd b l (j + d)).2 = (runS snd b' l' (j + d)).2
  | 0, _ => h
  | d + 1, hk => by
    have ih := stay2 h d fun k h1 h2 => hk k h1 (by omega)
    have h2 := hk (j + d) (by omega) (by omega)
    show afV (runS snd b l (j + d)).2 (if losB (l (j + d)) 0 = true then 0 else _) = afV (runS snd b' l' (j + d)).2 (if losB (l' (j + d)) 0 = true then 0 else _)
    rw [ih, if_pos h2.1, if_pos h2.2]
/-- Masks that lose all from a round on; and all but the first agent's at one. -/
def cutM (l : Nat → Int) (j : Nat) : Nat → Int := fun k => if k < j then l k else 3
def midM (l : Nat → Int) (j : Nat) (x : Int) : Nat → Int := fun k => if k < j then l k else if k = j then x else 3
theorem midM_range {l : Nat → Int} {j : Nat} {x : Int} (hl : ∀ k, 0 ≤ l k ∧ l k ≤ 3) (hx : 0 ≤ x ∧ x ≤ 3) : ∀ k, 0 ≤ midM l j x k ∧ midM l j x k ≤ 3 := fun k => by
  unfold midM
  split
  · exact hl k
  · split
    · exact hx
    · decide
theorem cutM_range {l : Nat → Int} {j : Nat} (hl : ∀ k, 0 ≤ l k ∧ l k ≤ 3) : ∀ k, 0 ≤ cutM l j k ∧ cutM l j k ≤ 3 := fun k => by
  unfold cutM
  split
  · exact hl k
  · decide
theorem midM_cut (l : Nat → Int) (j : Nat) : midM l j 3 = cutM l j := by
  funext k
  unfold midM cutM
  by_cases h : k < j
  · rw [if_pos h, if_pos h]
  · rw [if_neg h, if_neg h]
    split <;> rfl
theorem cutM_mid (l : Nat → Int) (j : Nat) : cutM l (j + 1) = midM l j (l j) := by
  funext k
  unfold midM cutM
  by_cases h : k < j
  · rw [if_pos h, if_pos (by omega)]
  · rw [if_neg h]
    by_cases h2 : k = j
    · rw [if_pos h2, if_pos (by omega), h2]
    · rw [if_neg h2, if_neg (by omega)]
theorem los3 : losB 3 0 = true ∧ losB 3 1 = true := by decide
theorem midM_past {l : Nat → Int} {j k : Nat} {x : Int} (h : j < k) : midM l j x k = 3 := by unfold midM; rw [if_neg (by omega), if_neg (by omega)]
theorem midM_at {l : Nat → Int} {j : Nat} {x : Int} : midM l j x j = x := by unfold midM; rw [if_neg (by omega), if_pos rfl]
theorem mid_same (snd : Int → Int → Int) (b : Int) (l : Nat → Int) (j : Nat) (x y : Int) : runS snd b (midM l j x) j = runS snd b (midM l j y) j := runS_congr j fun k hk => by unfold midM; rw [if_pos hk, if_pos hk]
theorem mid1 {snd : Int → Int → Int} {b : Int} {l : Nat → Int} {j t : Nat} {x y : Int} (ht : j < t) (h : losB x 1 = losB y 1) : (runS snd b (midM l j x) t).1 = (runS snd b (midM l j y) t).1 := by
  obtain ⟨d, rfl⟩ : ∃ d, t = (j + 1) + d := ⟨t - (j + 1), by omega⟩
  refine stay1 ?_ d fun k h1 _ => by rw [midM_past (by omega), midM_past (by omega)]; exact ⟨los3.2, los3.2⟩
  show afV (runS snd b (midM l j x) j).1 (if losB (midM l j x j) 1 then _ else _) = afV (runS snd b (midM l j y) j).1 (if losB (midM l j y j) 1 then _ else _)
  rw [mid_same snd b l j x y, midM_at, midM_at, h]
theorem mid2 {snd : Int → Int → Int} {b : Int} {l : Nat → Int} {j t : Nat} {x y : Int} (ht : j < t) (h : losB x 0 = losB y 0) : (runS snd b (midM l j x) t).2 = (runS snd b (midM l j y) t).2 := by
  obtain ⟨d, rfl⟩ : ∃ d, t = (j + 1) + d := ⟨t - (j + 1), by omega⟩
  refine stay2 ?_ d fun k h1 _ => by rw [midM_past (by omega), midM_past (by omega)]; exact ⟨los3.1, los3.1⟩
  show afV (runS snd b (midM l j x) j).2 (if losB (midM l j x j) 0 then _ else _) = afV (runS snd b (midM l j y) j).2 (if losB (midM l j y j) 0 then _ else _)
  rw [mid_same snd b l j x y, midM_at, midM_at, h]
theorem bits3 {x : Int} (h : 0 ≤ x ∧ x ≤ 3) : (losB x 1 = losB 1 1 ∧ losB 1 0 = losB 3 0) ∨ losB x 1 = losB 3 1 ∨ losB x 0 = losB 3 0 := by
  have : x = 0 ∨ x = 1 ∨ x = 2 ∨ x = 3 := by omega
  rcases this with rfl | rfl | rfl | rfl <;> decide
/-- A run is reached at a time. -/
def PrR (snd : Int → Int → Int) (T : Nat) (ps : List (Int × List Int)) (R : Nat → Nat → Bool) (i t : Nat) (b : Int) (l : Nat → Int) : Prop := ∃ r, RunIs snd T ps r b l ∧ Rch R i (r * (T + 1) + t)
theorem ak_run {snd : Int → Int → Int} {T t : Nat} {ps : List (Int × List Int)} {r r' : Nat} (ht : t ≤ T) (hr : r < ps.length) (hr' : r' < ps.length)
    (h : (runS snd (ppR ps r).1 (lf (ppR ps r).2) t).1 = (runS snd (ppR ps r').1 (lf (ppR ps r').2) t).1 ∨ (runS snd (ppR ps r).1 (lf (ppR ps r).2) t).2 = (runS snd (ppR ps r').1 (lf (ppR ps r').2) t).2) :
    akB 2 (psL snd ps) (ptL ps.length (T + 1)) (r * (T + 1) + t) (r' * (T + 1) + t) = true := by
  have hp := pos_lt (l := T + 1) (t := t) hr (by omega)
  have hp' := pos_lt (l := T + 1) (t := t) hr' (by omega)
  unfold akB
  rw [ptG_get hp, ptG_get hp', pos_div (by omega), pos_div (by omega), pos_mod (by omega), pos_mod (by omega), Bool.and_eq_true, decide_eq_true_eq, ptL_len]
  refine ⟨hp', ?_⟩
  rw [List.any_eq_true]
  rcases h with h | h
  · exact ⟨0, by simp, by rw [beq_iff_eq]; exact h.symm⟩
  · exact ⟨1, by simp, by rw [beq_iff_eq]; exact h.symm⟩
theorem PrR.step {snd : Int → Int → Int} {T t i : Nat} {b b' : Int} {l l' : Nat → Int} (hs : ∀ a h, 0 ≤ snd a h ∧ snd a h ≤ 3) (h64 : (losRs snd T).length ≤ 64) (ht : t ≤ T) (hb : b' = 0 ∨ b' = 1) (hl : ∀ k, 0 ≤ l' k ∧ l' k ≤ 3)
    (h : PrR snd T (losRs snd T) (akB 2 (psL snd (losRs snd T)) (ptL (losRs snd T).length (T + 1))) i t b l) (hk : (runS snd b l t).1 = (runS snd b' l' t).1 ∨ (runS snd b l t).2 = (runS snd b' l' t).2) :
    PrR snd T (losRs snd T) (akB 2 (psL snd (losRs snd T)) (ptL (losRs snd T).length (T + 1))) i t b' l' := by
  obtain ⟨r, ⟨hr, -, h3⟩, hR⟩ := h
  obtain ⟨r', hr', h2', h3'⟩ := run_of hs h64 hb hl
  refine ⟨r', ⟨hr', h2', h3'⟩, hR.step (ak_run ht hr hr' ?_)⟩
  rw [h3 t ht, h3' t ht]
  exact hk
theorem PrR.cut {snd : Int → Int → Int} {T t i : Nat} {b : Int} {l : Nat → Int} (hs : ∀ a h, 0 ≤ snd a h ∧ snd a h ≤ 3) (h64 : (losRs snd T).length ≤ 64) (ht : t ≤ T) (hb : b = 0 ∨ b = 1) (hl : ∀ k, 0 ≤ l k ∧ l k ≤ 3)
    (h : PrR snd T (losRs snd T) (akB 2 (psL snd (losRs snd T)) (ptL (losRs snd T).length (T + 1))) i t b l) : ∀ d, d ≤ t → PrR snd T (losRs snd T) (akB 2 (psL snd (losRs snd T)) (ptL (losRs snd T).length (T + 1))) i t b (cutM l (t - d))
  | 0, _ => h.step hs h64 ht hb (cutM_range hl) (.inl (by rw [runS_congr (l := l) (l' := cutM l (t - 0)) t fun k hk => by unfold cutM; rw [if_pos (by omega)]]))
  | d + 1, hd => by
    have ih := PrR.cut hs h64 ht hb hl h d (by omega)
    obtain ⟨j, hj⟩ : ∃ j, j = t - (d + 1) := ⟨_, rfl⟩
    rw [show t - d = j + 1 by omega, cutM_mid] at ih
    rw [← hj, ← midM_cut]
    rcases bits3 (hl j) with ⟨h1, h2⟩ | h1 | h1
    · exact (ih.step hs h64 ht hb (midM_range (x := 1) hl (by decide)) (.inl (mid1 (by omega) h1))).step hs h64 ht hb (midM_range (x := 3) hl (by decide)) (.inr (mid2 (by omega) h2))
    · exact ih.step hs h64 ht hb (midM_range (x := 3) hl (by decide)) (.inl (mid1 (by omega) h1))
    · exact ih.step hs h64 ht hb (midM_range (x := 3) hl (by decide)) (.inr (mid2 (by omega) h1))
/-- Every point reaches, at its time, a run of either bit. -/
theorem both_bits {snd : Int → Int → Int} {T t r : Nat} (hs : ∀ a h, 0 ≤ snd a h ∧ snd a h ≤ 3) (hT : T ≤ 4) (h64 : (losRs snd T).length ≤ 64) (ht : t ≤ T) (hr : r < (losRs snd T).length) {b : Int} (hb : b = 0 ∨ b = 1) :
    ∃ r', r' < (losRs snd T).length ∧ (ppR (losRs snd T) r').1 = b ∧ Rch (akB 2 (psL snd (losRs snd T)) (ptL (losRs snd T).length (T + 1))) (r * (T + 1) + t) (r' * (T + 1) + t) := by
  have g := (losP hs hT h64).good _ (ppR_mem hr)
  have h0 : PrR snd T (losRs snd T) (akB 2 (psL snd (losRs snd T)) (ptL (losRs snd T).length (T + 1))) (r * (T + 1) + t) t (ppR (losRs snd T) r).1 (lf (ppR (losRs snd T) r).2) :=
    ⟨r, ⟨hr, rfl, fun _ _ => rfl⟩, Rch.one (ak_run ht hr hr (.inl rfl))⟩
  have h1 := h0.cut hs h64 ht g.1 g.2.2 t (Nat.le_refl _)
  have h2 := h1.step (b' := b) (l' := cutM (lf (ppR (losRs snd T) r).2) (t - t)) hs h64 ht hb (cutM_range g.2.2) (.inr (by
    have h3 : ∀ k, cutM (lf (ppR (losRs snd T) r).2) (t - t) k = 3 := fun k => by unfold cutM; rw [if_neg (by omega)]
    have := stay2 (snd := snd) (b := (ppR (losRs snd T) r).1) (b' := b) (l := cutM (lf (ppR (losRs snd T) r).2) (t - t)) (l' := cutM (lf (ppR (losRs snd T) r).2) (t - t)) (j := 0) (by
      show stV 1 _ = stV 1 b
      unfold stV
      rcases g.1 with h | h <;> rcases hb with h' | h' <;> rw [h, h'] <;> rfl) t (fun k _ _ => by rw [h3 k]; exact ⟨los3.1, los3.1⟩)
    rwa [Nat.zero_add] at this))
  obtain ⟨r', ⟨h3, h4, -⟩, h5⟩ := h2
  exact ⟨r', h3, h4, h5⟩
/-- At no point of the lossy channel is the bit common knowledge. -/
theorem never' {snd : Int → Int → Int} {T : Nat} {ps : List (Int × List Int)} (eps : losRs snd T = ps) (hT : T ≤ 4) (hs : ∀ a h, 0 ≤ snd a h ∧ snd a h ≤ 3) (h64 : ps.length ≤ 64) (hc : lchk T ps) {r t : Nat} (hr : r < ps.length) (ht : t ≤ T) :
    comE 2 1 ((T : Int) + 1) ps.length (lT ps) (fun _ _ => 2) (lT ps) (lF ps) (r : Nat) (t : Nat) 0 = 0 ∧ comV 2 1 ((T : Int) + 1) ps.length (lT ps) (fun _ _ => 2) (psL snd ps) (lT ps) (lF ps) (r : Nat) (t : Nat) 0 = false := by
  have hE : comE 2 1 ((T : Int) + 1) ps.length (lT ps) (fun _ _ => 2) (lT ps) (lF ps) (r : Nat) (t : Nat) 0 = 0 := by
    unfold comE entE
    have hin : inP ps.length ((T : Int) + 1).toNat (r : Nat) (t : Nat) := ⟨⟨by omega, by omega⟩, by omega, by omega⟩
    unfold lchk at hc
    rw [if_pos hc, if_pos hin, if_pos rfl, if_pos (by decide)]
  refine ⟨hE, ?_⟩
  have hl : ((T : Int) + 1).toNat = T + 1 := by omega
  have hb := fun (b : Int) (h : b = 0 ∨ b = 1) => by
    have := both_bits (t := t) (r := r) hs hT (by rw [eps]; exact h64) ht (by rw [eps]; exact hr) h
    rw [eps] at this
    exact this
  have hf : ∀ r', r' < ps.length → facK (lF ps) ps.length ((T : Int) + 1) 0 (r' * (T + 1) + t) = (ppR ps r').1.toNat.testBit 0 := fun r' h => by
    unfold facK facB2 lF
    rw [hl, ptG_get (pos_lt h (by omega)), pos_div (by omega)]
  have hak : akS 2 ((T : Int) + 1) ps.length (psL snd ps) = akB 2 (psL snd ps) (ptL ps.length (T + 1)) := by
    unfold akS
    rw [hl]
    rfl
  have hpos : posP ((T : Int) + 1) (r : Nat) (t : Nat) = r * (T + 1) + t := by
    unfold posP
    rw [hl]
    rfl
  unfold comV
  rw [decide_eq_true hE, Bool.true_and, hak, hl, hpos, Bool.not_eq_false', List.any_eq_true]
  have pick : ∀ b : Int, b = 0 ∨ b = 1 → ∃ k, k ∈ cmpL (akB 2 (psL snd ps) (ptL ps.length (T + 1))) (ps.length * (T + 1)) (r * (T + 1) + t) ∧ facK (lF ps) ps.length ((T : Int) + 1) 0 k = b.toNat.testBit 0 := fun b h => by
    obtain ⟨r', h1, h2, h3⟩ := hb b h
    exact ⟨r' * (T + 1) + t, mem_cmpL.2 ⟨pos_lt h1 (by omega), h3⟩, by rw [hf r' h1, h2]⟩
  cases hg : facK (lF ps) ps.length ((T : Int) + 1) 0 ((cmpL (akB 2 (psL snd ps) (ptL ps.length (T + 1))) (ps.length * (T + 1)) (r * (T + 1) + t)).getD 0 0) with
  | true =>
    obtain ⟨k, h1, h2⟩ := pick 0 (.inl rfl)
    refine ⟨k, h1, ?_⟩
    show (facK (lF ps) ps.length ((T : Int) + 1) 0 k != facK (lF ps) ps.length ((T : Int) + 1) 0 _) = true
    rw [hg, h2]
    rfl
  | false =>
    obtain ⟨k, h1, h2⟩ := pick 1 (.inr rfl)
    refine ⟨k, h1, ?_⟩
    show (facK (lF ps) ps.length ((T : Int) + 1) 0 k != facK (lF ps) ps.length ((T : Int) + 1) 0 _) = true
    rw [hg, h2]
    rfl
theorem never {R : Int} {n : Nat} {fa fh fm : Nat → Int} (hR : 0 ≤ R ∧ R ≤ 4) (hs : ∀ a h, 0 ≤ sndV n fa fh fm a h ∧ sndV n fa fh fm a h ≤ 3) (h64 : (losRs (sndV n fa fh fm) R.toNat).length ≤ 64) (hc : lchk R (losRs (sndV n fa fh fm) R.toNat)) {r t : Nat} (hr : r < (losRs (sndV n fa fh fm) R.toNat).length) (ht : (t : Int) < R + 1) :
    comE 2 1 (R + 1) (losRs (sndV n fa fh fm) R.toNat).length (lT (losRs (sndV n fa fh fm) R.toNat)) (fun _ _ => 2) (lT (losRs (sndV n fa fh fm) R.toNat)) (lF (losRs (sndV n fa fh fm) R.toNat)) (r : Nat) (t : Nat) 0 = 0 ∧
    comV 2 1 (R + 1) (losRs (sndV n fa fh fm) R.toNat).length (lT (losRs (sndV n fa fh fm) R.toNat)) (fun _ _ => 2) (psL (sndV n fa fh fm) (losRs (sndV n fa fh fm) R.toNat)) (lT (losRs (sndV n fa fh fm) R.toNat)) (lF (losRs (sndV n fa fh fm) R.toNat)) (r : Nat) (t : Nat) 0 = false := by
  obtain ⟨T, rfl⟩ : ∃ T : Nat, R = (T : Int) := ⟨R.toNat, by omega⟩
  exact never' rfl (by omega) hs h64 hc hr (by omega)
end Go.Proofs.Ytahaimecchdfeaa

/-
  Walk: know.
-/
namespace Go.Proofs.Ytahaimecchdfeaa
open Go.RowKit

/-- Whether an agent knows what has a truth value. -/
def knB (L : Nat → Nat → Nat → Int) (n l g : Nat) (X : Nat → Nat → Bool) (x : Int) : Bool := (locI L (ptL n l) g x).all fun p => X p.1 p.2
/-- What the map of known states holds, when some keys are still to come. -/
def visM (D : DataW Value) (left : Lit → Bool) (f : Int → Bool) : Int → Option Bool := fun x => if Maps.has D (keyI x) = true ∧ left (keyI x) = false then some (f x) else none
theorem visM_start (D : DataW Value) (f : Int → Bool) (x : Int) : visM D (Maps.has D) f x = none := by
  unfold visM
  rw [if_neg]
  rintro ⟨h1, h2⟩
  rw [h1] at h2
  cases h2
theorem visM_step {D : DataW Value} {left : Lit → Bool} {f : Int → Bool} {x k : Int} {v : Bool} (h : visM D (fun z => left z && !z.sameKey (keyI x)) f k = some v) : (if k = x then some (f x) else visM D left f k) = some v := by
  unfold visM at h ⊢
  by_cases e : k = x
  · subst e
    rw [if_pos rfl]
    split at h
    · exact h
    · cases h
  · rw [if_neg e]
    split at h
    · rename_i hc
      obtain ⟨h1, h2⟩ := hc
      have h3 : (keyI k).sameKey (keyI x) = false := Maps.sameKey_ne fun e2 => e (keyI_inj e2)
      dsimp only at h2
      rw [h3] at h2
      rw [if_pos ⟨h1, by simpa using h2⟩]
      exact h
    · cases h
theorem locI_mem {L : Nat → Nat → Nat → Int} {n l g : Nat} {x : Int} {p : Nat × Nat} (h : p ∈ locI L (ptL n l) g x) : p.1 < n ∧ p.2 < l := ptL_mem.1 (List.mem_filter.1 h).1
theorem locI_self {L : Nat → Nat → Nat → Int} {n l g r t : Nat} (hr : r < n) (ht : t < l) : (r, t) ∈ locI L (ptL n l) g (L r t g) := List.mem_filter.2 ⟨ptL_mem.2 ⟨hr, ht⟩, by simp⟩
theorem locI_len (L : Nat → Nat → Nat → Int) (n l g : Nat) (x : Int) : (locI L (ptL n l) g x).length ≤ n * l := by
  unfold locI
  exact Nat.le_trans (List.length_filter_le _ _) (Nat.le_of_eq (ptL_len n l))
theorem know_start (w W0 : World) (bc g : Nat) (e : W0 = (((w.alloc (.cells #[.pointer (some ⟨bc, 0, none⟩)] 111)).alloc (.cells #[.int .i64 g] 3)).alloc (.map #[] 0)).alloc (.cells #[.map (some (w.heap.size + 1 + 1))] 164)) :
    Blk W0 w.heap.size 111 #[.pointer (some ⟨bc, 0, none⟩)] ∧ Blk W0 (w.heap.size + 1) 3 #[.int .i64 g] ∧ BooM W0 (w.heap.size + 1 + 1) 0 (fun _ => none) ∧ Blk W0 (w.heap.size + 1 + 1 + 1) 164 #[.map (some (w.heap.size + 1 + 1))] ∧ Below w.heap.size w W0 := by
  obtain ⟨W1, e1⟩ : ∃ W1, W1 = w.alloc (.cells #[.pointer (some ⟨bc, 0, none⟩)] 111) := ⟨_, rfl⟩
  obtain ⟨W2, e2⟩ : ∃ W2, W2 = W1.alloc (.cells #[.int .i64 g] 3) := ⟨_, rfl⟩
  obtain ⟨W3, e3⟩ : ∃ W3, W3 = W2.alloc (.map #[] 0) := ⟨_, rfl⟩
  rw [← e1, ← e2, ← e3] at e
  have s1 : W1.heap.size = w.heap.size + 1 := by rw [e1]; simp
  have s2 : W2.heap.size = w.heap.size + 1 + 1 := by rw [e2, ← s1]; simp
  have s3 : W3.heap.size = w.heap.size + 1 + 1 + 1 := by rw [e3, ← s2]; simp
  have b1 : Below w.heap.size w W1 := by rw [e1]; exact below_alloc _ _
  have b2 : Below W1.heap.size W1 W2 := by rw [e2]; exact below_alloc _ _
  have b3 : Below W2.heap.size W2 W3 := by rw [e3]; exact below_alloc _ _
  have b4 : Below W3.heap.size W3 W0 := by rw [e]; exact below_alloc _ _
  have k1 : Blk W1 w.heap.size 111 #[.pointer (some ⟨bc, 0, none⟩)] := by rw [e1]; exact Blk.new _ _ _
  have k2 : Blk W2 (w.heap.size + 1) 3 #[.int .i64 g] := by rw [← s1, e2]; exact Blk.new _ _ _
  have k3 : BooM W3 (w.heap.size + 1 + 1) 0 (fun _ => none) := by rw [← s2, e3]; exact BooM.made _
  have k4 : Blk W0 (w.heap.size + 1 + 1 + 1) 164 #[.map (some (w.heap.size + 1 + 1))] := by rw [← s3, e]; exact Blk.new _ _ _
  exact ⟨((k1.below b2).below b3).below b4, (k2.below b3).below b4, k3.below b4, k4, below_trans (below_trans (below_trans b1 b2) b3) b4⟩
set_option maxHeartbeats 8000000 in
set_option maxRecDepth 100000 in
theorem know_any (w : World) (bc l n g : Nat) (L : Nat → Nat → Nat → Int) (F : Nat → Nat → Nat) (X : Nat → Nat → Bool) (xv : Value) (hC : ChkR w bc l n L F) (hn : n ≤ 64) (hl : l ≤ 16) (hg : g < 2) (hX : TruR w xv l n X) :
    Calls Try.prog 106 #[.pointer (some ⟨bc, 0, none⟩), .int .i64 g, xv] w fun e w' => ∃ g', e = .returned (.slice (some ⟨g', 0, none⟩) n n) ∧ TruO w' g' l n (fun r t => knB L n l g X (L r t g)) ∧ w.heap.size ≤ g' ∧ Below w.heap.size w w' := by
  obtain ⟨gx, rfl, hXO⟩ := hX
  obtain ⟨gs, cs, c5, hM⟩ := hC.c5
  obtain ⟨mb, D, nn, hmb, hPt, hnn⟩ := hM g hg
  obtain ⟨W0, eW0⟩ : ∃ W0, W0 = (((w.alloc (.cells #[.pointer (some ⟨bc, 0, none⟩)] 111)).alloc (.cells #[.int .i64 g] 3)).alloc (.map #[] 0)).alloc (.cells #[.map (some (w.heap.size + 1 + 1))] 164) := ⟨_, rfl⟩
  obtain ⟨k3, k4, km, k7, hb0⟩ := know_start w W0 bc g eW0
  have HC := Lib.hid hC
  have HX := Lib.hid hXO
  have HPT := Lib.hid hPt
  have HW0 := Lib.hid eW0.symm
  have HB0 := Lib.hid hb0
  have HK3 := Lib.hid k3
  have HK4 := Lib.hid k4
  have HKM := Lib.hid km
  have HK7 := Lib.hid k7
  have d0 := k3.cell (k := 0) rfl
  have e0 := k4.cell (k := 0) rfl
  replace c5 := cell_below hb0 c5
  replace hmb := cell_below hb0 hmb
  have hg1 : (g : Int) < 2 := by omega
  have hmm := @run_makeMap Try.prog
  clear hC hXO hM hPt eW0 hb0 k3 k4 km k7
  go_enter Try.func106, Try.ntmps106
  go_upto_region 2 with (fail)
  rw [HW0.out]
  clear hmm HW0
  refine wp_region_quiet_tail 7 (by kernel_rfl) (by kernel_rfl) ?_
  simp only [List.take_succ_cons, List.take_zero, List.drop_succ_cons, List.drop_zero]
  repeat (go_big_quiet_step (fail))
  refine wpQuiet_nil ?_
  go_wp2_with (at_range; refine wpList_range_own _ rfl _ 149 rfl 3 29 (Maps.int_keyed Try.underlying3) Try.underlying149 rawR mb nn D rfl (World.ownsMap.drew ((HPT.out.below HB0.out).own)) ?_; intro w1 hrg1 hg1' hs1; have HRG := Lib.hid hrg1; have HG1 := Lib.hid hg1'; clear hrg1 hg1')
  go_frame
  have hsd : W0.drew.heap.size = W0.heap.size := rfl
  rw [hsd] at hs1 HRG ⊢
  have hrg := HRG.out
  have hb1 : Below W0.heap.size W0 w1 := (below_drew (Below.refl W0.heap.size W0)).grown HG1.out (Nat.le_refl _) (fun _ e => by cases e)
  obtain ⟨b3, eb3⟩ : ∃ b, b = w.heap.size := ⟨_, rfl⟩
  obtain ⟨kb, ekb⟩ : ∃ b, b = w.heap.size + 1 + 1 := ⟨_, rfl⟩
  obtain ⟨b4, eb4⟩ : ∃ b, b = w.heap.size + 1 := ⟨_, rfl⟩
  obtain ⟨b7, eb7⟩ : ∃ b, b = w.heap.size + 1 + 1 + 1 := ⟨_, rfl⟩
  obtain ⟨ri, eri⟩ : ∃ b, b = W0.heap.size := ⟨_, rfl⟩
  have hkb : kb < ri := by rw [ekb, eri]; exact HKM.out.lt
  have hwk : w.heap.size ≤ kb := by omega
  have hwr : w.heap.size ≤ ri := by rw [eri]; exact HB0.out.size
  have hmbl : mb < w.heap.size := HPT.out.own.lt
  have HK3 := Lib.hid (HK3.out.below hb1)
  have HK4 := Lib.hid (HK4.out.below hb1)
  have HKM := Lib.hid ((HKM.out.below hb1).weak (m' := visM D (Maps.has D) (knB L n l g X)) (fun k v h => by rw [visM_start] at h; cases h))
  have HK7 := Lib.hid (HK7.out.below hb1)
  have HB1 := Lib.hid (below_trans HB0.out hb1)
  have hcnt := HPT.out.own.size_le
  rw [← eb7, ← ekb] at HK7
  rw [← ekb] at HKM
  rw [← eb4] at HK4
  rw [← eb3] at HK3
  rw [← eri] at HRG
  rw [← eb7, ← ekb, ← eb4, ← eri, ← eb3]
  clear hb1 hrg HG1 hs1 hsd d0 e0 c5 hmb
  have HEB := Lib.hid eb3
  clear eb3 ekb eb4 eb7 eri
  go_loopw [8] (fun _ wr => ∃ (left : Lit → Bool) (cnt nq : Nat), wr.ranges Try.prog 3 rawR mb ri nn D left cnt ∧ (∀ kl, left kl = true → Maps.has D kl = true) ∧ BooM wr kb nq (visM D left (knB L n l g X)) ∧ nq + cnt ≤ 512 ∧ (Blk wr b3 111 #[.pointer (some ⟨bc, 0, none⟩)] ∧ Blk wr b4 3 #[.int .i64 g] ∧ Blk wr b7 164 #[.map (some kb)]) ∧ Below w.heap.size w wr) (fun _ wr => wr.rangeLeft mb ri)
  case atStart => exact ⟨_, _, 0, HRG.out, fun _ h => h, HKM.out, by omega, ⟨HK3.out, HK4.out, HK7.out⟩, HB1.out⟩
  case round =>
    clear HRG HKM HK3 HK4 HK7 HB1
    obtain ⟨left, cnt, nq, hrg, hlh, hbm, hq, ⟨hk3, hk4, hk7⟩, hb⟩ := hrel
    have HBM := Lib.hid hbm
    have HK3 := Lib.hid hk3
    have HK4 := Lib.hid hk4
    have HK7 := Lib.hid hk7
    have HB := Lib.hid hb
    have HLH := Lib.hid hlh
    have HRG := Lib.hid hrg
    clear hbm hk3 hk4 hk7 hb hlh hrg
    go_wp2_with (at_next; refine wpList_next_ranges _ rfl _ rfl 3 (Maps.int_keyed Try.underlying3) rawR (Value.int .i64) (fun v => v) (fun key kl hkey => by obtain ⟨x, rfl, _⟩ := Maps.keyOf_int_inv Try.underlying3 hkey; exact ⟨x, rfl⟩) (fun v y _ => ⟨v, rfl⟩) mb ri nn D left cnt rfl HRG.out ?_ ?_)
    · intro hc0 hl0
      have HVM := Lib.hid (HBM.out.weak (m' := fun x => if Maps.has D (keyI x) = true then some (knB L n l g X x) else none) (fun k v h => by
        unfold visM
        split at h
        · rename_i hh
          rw [if_pos ⟨hh, hl0 _⟩]
          exact h
        · cases h))
      have q3 := HK3.out.cell (k := 0) rfl
      have q7 := HK7.out.cell (k := 0) rfl
      have HFI := Lib.hid (fill_K wr bc l n L F b7 b3 b4 (fun r t => knB L n l g X (L r t g)) (HC.out.below HB.out) hn hl (fun Y hY r t hr ht => by
        have hCY := (HC.out.below HB.out).below hY
        obtain ⟨_, _, _, _, hL⟩ := hCY.loc
        obtain ⟨_, _, _, _, _, _, hL2⟩ := hL r t hr ht
        obtain ⟨_, _, _, _, _, _, _, hok⟩ := hL2 g hg
        refine know1 r t g b7 b3 b4 kb nq bc l n L F _ _ Y hr ht hg hCY ((HK7.out.below hY).cell (k := 0) rfl) ((HK3.out.below hY).cell (k := 0) rfl) ((HK4.out.below hY).cell (k := 0) rfl) (HVM.out.below hY) ?_
        rw [if_pos]
        cases hh : Maps.has D (keyI (L r t g)) with
        | true => rfl
        | false =>
          have h1 := HPT.out.miss _ hok hh
          have h2 := locI_self (L := L) (g := g) hr ht
          rw [h1] at h2
          cases h2))
      clear HRG HLH HBM hl0 HVM HPT
      go_wp2_with (go_at_call 108; refine HFI.out.mono ?_; rintro e w5 ⟨rfl, hto, hb5⟩; have HTO := Lib.hid hto; have HB5 := Lib.hid (below_trans HB.out hb5); clear hto hb5)
      go_ret
      exact ⟨wr.heap.size, rfl, HTO.out, HB.out.size, HB5.out⟩
    · intro x c kl y y2 w1 cnt1 hkey hlk hv hat hrg1 hlt hg1 hs1 hen
      obtain ⟨x', ex, rfl, hwf⟩ := Maps.keyOf_int_inv Try.underlying3 hkey
      injection ex with _ ex
      subst ex
      have hokx : okX x := by
        simp only [Lit.wf, Bool.and_eq_true, decide_eq_true_eq] at hwf
        exact hwf
      have hhas := HLH.out _ hlk
      have hbw1 : Below w.heap.size w w1 := HB.out.grown hg1 HB.out.size (fun k e => by have := Option.some.inj e; omega)
      obtain ⟨v, hvv, hpo⟩ := (HPT.out.below hbw1).rows x hokx hhas
      have hcv : v = c := by
        have h1 := hat (.held (.slice none 0 0))
        unfold rawR at hv
        injection hv with hv
        injection hv with hv _
        rw [← hv] at h1
        have h2 := hvv.symm.trans h1
        injection h2
      subst hcv
      obtain ⟨Av, cv, rfl⟩ := hpo.shape
      obtain ⟨I, eI⟩ : ∃ I, I = locI L (ptL n l) g x := ⟨_, rfl⟩
      rw [← eI] at hpo hen ⊢
      have HI := Lib.hid eI
      have HPO := Lib.hid hpo
      have hil : I.length ≤ 1024 := by rw [eI]; exact Nat.le_trans (locI_len L n l g x) (Nat.mul_le_mul hn hl)
      have HRG1 := Lib.hid hrg1
      have HBW1 := Lib.hid hbw1
      have hriw : ri < wr.heap.size := HRG.out.lt
      have hkg : ∀ {b : Nat} {T : TypeId} {xs : Array Value}, Blk wr b T xs → Blk w1 b T xs := fun {b T xs} hb => hb.kept hg1 (fun e => by
        have := Option.some.inj e
        subst this
        obtain ⟨es, clock, since, seen, c0, _, _, _, _, hr, _⟩ := HRG.out
        have := (show wr.heap[ri]? = _ from hb).symm.trans hr
        cases this)
      have HK31 := Lib.hid (hkg HK3.out)
      have HK41 := Lib.hid (hkg HK4.out)
      have HK71 := Lib.hid (hkg HK7.out)
      have HBM1 := Lib.hid (HBM.out.kept hg1 (fun e => by have := Option.some.inj e; omega))
      have HRL := Lib.hid (show w1.rangeLeft mb ri < wr.rangeLeft mb ri by rw [hrg1.left_eq, HRG.out.left_eq]; exact hlt)
      have HLK := Lib.hid hlk
      have HXT := Lib.hid (HX.out.below hbw1)
      clear hkey hv hat hrg1 hg1 hwf hbw1 hvv hpo eI hkg HBM HRG HK3 HK4 HK7 hlk
      go_upto_region 7 with (fail)
      clear hen
      go_loopw [10, 29] (fun av jv wr => ∃ j : Nat, j ≤ I.length ∧ jv = .int .i64 j ∧ av = .bool ((I.take j).all fun p => X p.1 p.2) ∧ Below w1.heap.size w1 wr) (fun _ jv _ => I.length - (intOf jv).toNat)
      case atStart => exact ⟨0, Nat.zero_le _, rfl, rfl, Below.refl _ _⟩
      case round =>
        obtain ⟨j, hj, rfl, rfl, hb⟩ := hrel
        have HBJ := Lib.hid hb
        by_cases hjl : j < I.length
        · have hjn : (j : Int) < (I.length : Int) := by omega
          obtain ⟨p, hp⟩ : ∃ p, I[j]? = some p := ⟨_, List.getElem?_eq_getElem hjl⟩
          have hpm : p.1 < n ∧ p.2 < l := by
            have h1 := List.mem_of_getElem? hp
            rw [HI.out] at h1
            exact locI_mem h1
          obtain ⟨hpr, hpt⟩ := hpm
          have HTK := Lib.hid (show ((I.take (j + 1)).all fun p => X p.1 p.2) = (((I.take j).all fun p => X p.1 p.2) && X p.1 p.2) by
            rw [List.take_add_one, hp, List.all_append]
            simp)
          obtain ⟨bp, cap, ev, p0, p1⟩ := pnO_at (HPO.out.below hb) hp
          injection ev with eA en ec
          subst eA ec
          have hxb := HXT.out.below hb
          have x1 := hxb.box.cell (slcA_get (g := gx) (l := l) (n := n) (i := n) hpr hpr)
          have x2 := (hxb.row p.1 hpr).cell (boolA_get (S := X p.1) hpt)
          generalize X p.1 p.2 = bv at x2 HTK
          generalize p.1 = r at p0 x1 x2 hpr
          generalize p.2 = t at p1 x2 hpt
          obtain ⟨ab, eab⟩ : ∃ ab, ab = (I.take j).all fun p => X p.1 p.2 := ⟨_, rfl⟩
          rw [← eab] at HTK ⊢
          have hr1 : (r : Int) < (n : Int) := by omega
          have ht1 : (t : Int) < (l : Int) := by omega
          clear hb hxb eab hp en
          go_upto_region 9 with (fail)
          have hba := below_alloc wr (.cells #[.int .i64 r, .int .i64 t] 26)
          have hpb := Blk.new wr #[.int .i64 r, .int .i64 t] 26
          obtain ⟨pb, epb⟩ : ∃ b, b = wr.heap.size := ⟨_, rfl⟩
          obtain ⟨V2, eV2⟩ : ∃ V2, V2 = wr.alloc (.cells #[.int .i64 r, .int .i64 t] 26) := ⟨_, rfl⟩
          rw [← eV2] at hba hpb ⊢
          rw [← epb] at hpb ⊢
          replace x1 := cell_below hba x1
          replace x2 := cell_below hba x2
          replace p0 := hpb.cell (k := 0) rfl
          replace p1 := hpb.cell (k := 1) rfl
          have HBV := Lib.hid (below_trans HBJ.out hba)
          clear hba hpb eV2 epb
          cases ab with
          | false =>
            go_quiet (fail)
            have hbq := below_drewN HBV.out nq
            generalize V2.drewN nq = V4 at hbq ⊢
            have HBQ := Lib.hid hbq
            clear hbq
            go_wp2_with fail
            go_roundw
            case rel => exact ⟨j + 1, by omega, by go_num, by rw [HTK.out]; rfl, HBQ.out⟩
            case measure => simp [intOf]; omega
          | true =>
            go_quiet (fail)
            have hbq := below_drewN HBV.out nq
            generalize V2.drewN nq = V4 at hbq ⊢
            have HBQ := Lib.hid hbq
            clear hbq
            go_wp2_with fail
            go_roundw
            case rel => exact ⟨j + 1, by omega, by go_num, by rw [HTK.out, Bool.true_and], HBQ.out⟩
            case measure => simp [intOf]; omega
        · obtain rfl : j = I.length := by omega
          have hjn : ¬ (I.length : Int) < (I.length : Int) := by omega
          have HAL := Lib.hid (show ((I.take I.length).all fun p => X p.1 p.2) = knB L n l g X x by rw [List.take_length, HI.out]; rfl)
          rw [HAL.out]
          obtain ⟨w5, hr5, hm5, hg5⟩ := (HBM1.out.below hb).put (k := x) hokx (by omega) (knB L n l g X x)
          have q7 := (HK71.out.below hb).cell (k := 0) rfl
          have hkb5 : ∀ {b : Nat} {T : TypeId} {xs : Array Value}, Blk wr b T xs → Blk w5 b T xs := fun {b T xs} hb' => hb'.kept hg5 (fun e => by
            have := Option.some.inj e
            subst this
            exact (HBM1.out.below hb).no_cells _ _ _ hb')
          have HRG5 := Lib.hid ((HRG1.out.kept (gr_below hb none) (by simp) (by simp)).kept hg5 (fun e => by have := Option.some.inj e; omega) (fun e => by have := Option.some.inj e; omega))
          have HM5 := Lib.hid (hm5.weak (m' := visM D (fun z => left z && !z.sameKey (keyI x)) (knB L n l g X)) (fun k v h => visM_step h))
          have HKK := Lib.hid (And.intro (hkb5 (HK31.out.below hb)) (And.intro (hkb5 (HK41.out.below hb)) (hkb5 (HK71.out.below hb))))
          have hb6 := below_trans HBW1.out hb
          have HB6 := Lib.hid (hb6.grown hg5 hb6.size (fun k e => by have := Option.some.inj e; omega))
          have HRQ := Lib.hid (show w5.rangeLeft mb ri = w1.rangeLeft mb ri by rw [HRG5.out.left_eq, HRG1.out.left_eq])
          clear hm5 hg5 hkb5 hb hb6
          go_wp2_with fail
          go_roundw
          case rel => exact ⟨_, cnt1, nq + 1, HRG5.out, fun kl h => HLH.out kl (by simp only [Bool.and_eq_true] at h; exact h.1), HM5.out, by omega, HKK.out, HB6.out⟩
          case measure => rw [HRQ.out]; exact HRL.out
end Go.Proofs.Ytahaimecchdfeaa

/-
  Walk: every.
-/
namespace Go.Proofs.Ytahaimecchdfeaa
open Go.RowKit

/-- Whether the first agents know what has a truth value. -/
def evB (L : Nat → Nat → Nat → Int) (n l a : Nat) (X : Nat → Nat → Bool) (r t : Nat) : Bool := (List.range a).all fun g => knB L n l g X (L r t g)
theorem evB_succ (L : Nat → Nat → Nat → Int) (n l a : Nat) (X : Nat → Nat → Bool) (r t : Nat) : evB L n l (a + 1) X r t = (evB L n l a X r t && knB L n l a X (L r t a)) := by
  unfold evB
  rw [List.range_succ, List.all_append]
  simp
/-- Another table is written. -/
theorem TruO.other {w : World} {g l n b k : Nat} {X : Nat → Nat → Bool} (h : TruO w g l n X) (hb : b < g) (u : Value) : TruO (w.setCell ⟨b, k, none⟩ u) g l n X :=
  ⟨h.box.set_ne (by omega) k u, fun r hr => (h.row r hr).set_ne (by omega) k u⟩
/-- The points of a check, in any world behind it. -/
theorem ChkR.pts {w : World} {bc l n : Nat} {L : Nat → Nat → Nat → Int} {F : Nat → Nat → Nat} (h : ChkR w bc l n L F) : ∃ gp cp, ∀ W, Below w.heap.size w W → W.cell? ⟨bc, 4, none⟩ = some (.slice (some ⟨gp, 0, none⟩) (n * l) cp) ∧ ∀ k, k < n * l → ∃ r t, r < n ∧ t < l ∧ k = r * l + t ∧ W.cell? ⟨gp, k * 2, none⟩ = some (.int .i64 r) ∧ W.cell? ⟨gp, k * 2 + 1, none⟩ = some (.int .i64 t) := by
  obtain ⟨gp, cp, h4, hp⟩ := h.pt
  refine ⟨gp, cp, fun W hW => ⟨cell_below hW h4, fun k hk => ?_⟩⟩
  obtain ⟨r, t, h1, h2, h3, h5, h6⟩ := hp k hk
  exact ⟨r, t, h1, h2, h3, cell_below hW h5, cell_below hW h6⟩
theorem pos_bound {r t n l : Nat} (hr : r < n) (ht : t < l) : r * l + t < n * l := by
  have := Nat.mul_le_mul_right l (show r + 1 ≤ n from hr)
  rw [Nat.succ_mul] at this
  omega
set_option maxHeartbeats 8000000 in
set_option maxRecDepth 100000 in
theorem every_any (w : World) (bc l n : Nat) (L : Nat → Nat → Nat → Int) (F : Nat → Nat → Nat) (X : Nat → Nat → Bool) (xv : Value) (hC : ChkR w bc l n L F) (hn : n ≤ 64) (hl : l ≤ 16) (hX : TruR w xv l n X) :
    Calls Try.prog 112 #[.pointer (some ⟨bc, 0, none⟩), .int .i64 3, xv] w fun e w' => e = .returned (.slice (some ⟨w.heap.size, 0, none⟩) n n) ∧ TruO w' w.heap.size l n (evB L n l 2 X) ∧ Below w.heap.size w w' := by
  have HFI := Lib.hid (fill_T w bc l n L F (fun _ _ => true) hC hn hl (fun Y _ r t _ _ => every1 r t Y))
  have HKN := Lib.hid (fun Y (hY : Below w.heap.size w Y) (g : Nat) (hg : g < 2) => know_any Y bc l n g L F X xv (hC.below hY) hn hl hg (hX.below hY))
  obtain ⟨gp, cp, hP⟩ := hC.pts
  have hNl : n * l ≤ 1024 := Nat.mul_le_mul hn hl
  have HLN : Hid (∀ r t, r < n → t < l → r * l + t < n * l) := Lib.hid fun r t hr ht => pos_bound hr ht
  obtain ⟨N, eN⟩ : ∃ N, N = n * l := ⟨_, rfl⟩
  rw [← eN] at hP HLN hNl
  have HP := Lib.hid hP
  have HC := Lib.hid hC
  obtain ⟨gx, rfl, -⟩ := hX
  obtain ⟨g0, eg0⟩ : ∃ g, g = w.heap.size := ⟨_, rfl⟩
  have HG0 := Lib.hid eg0
  rw [← eg0] at HFI ⊢
  clear hC hP eN eg0
  go_enter Try.func112, Try.ntmps112
  go_upto_region 2 with (go_at_call 108; refine HFI.out.mono ?_; rintro e w1 ⟨rfl, hto, hb1⟩; have HTO := Lib.hid hto; have HB1 := Lib.hid (show Below w.heap.size w w1 by rw [← HG0.out]; exact hb1); clear hto hb1)
  clear HFI
  have q0 := cell_below HB1.out HC.out.c0
  go_upto_region 3 with (fail)
  clear q0
  go_loopw [19] (fun av wr => ∃ a : Nat, a ≤ 2 ∧ av = .int .i64 a ∧ TruO wr g0 l n (evB L n l a X) ∧ Below w.heap.size w wr) (fun av _ => 2 - (intOf av).toNat)
  case atStart => exact ⟨0, by decide, rfl, HTO.out, HB1.out⟩
  case round =>
    clear HTO HB1
    obtain ⟨a, ha, rfl, hto, hb⟩ := hrel
    have HTO := Lib.hid hto
    have HB := Lib.hid hb
    by_cases hlt : a < 2
    · have haa : (a : Int) < 2 := by omega
      have hbit : bits .and .i64 (3 / 2 ^ a) 1 = 1 := by
        have : a = 0 ∨ a = 1 := by omega
        rcases this with rfl | rfl <;> decide
      have HK := Lib.hid (HKN.out wr hb a hlt)
      clear hto hb
      go_upto_region 7 with (go_at_call 106; refine HK.out.mono ?_; rintro e w2 ⟨g1, rfl, htk, hge, hb2⟩; have HTK := Lib.hid htk; have HGE : Hid (∀ r, r < n → g0 + 1 + r < g1) := Lib.hid (fun r hr => Nat.lt_of_lt_of_le (HTO.out.row r hr).lt hge); have HG01 := Lib.hid (Nat.lt_of_lt_of_le HTO.out.lt hge); have HT2 := Lib.hid (HTO.out.below hb2); have HB2 := Lib.hid (below_trans HB.out hb2); clear htk hge hb2)
      have q4 := (HP.out w2 HB2.out).1
      obtain ⟨kn, ekn⟩ : ∃ kn : Nat → Nat → Bool, kn = fun r t => knB L n l a X (L r t a) := ⟨_, rfl⟩
      rw [← ekn] at HTK
      have HKE := Lib.hid ekn
      obtain ⟨ev, eev⟩ : ∃ ev, ev = evB L n l a X := ⟨_, rfl⟩
      rw [← eev] at HT2
      have HEV := Lib.hid eev
      clear HK HTO HB ekn eev
      go_upto_region 8 with (fail)
      clear q4
      go_loopw [36] (fun kv wr => ∃ k : Nat, k ≤ N ∧ kv = .int .i64 k ∧ TruO wr g0 l n (fun r t => ev r t && (!decide (r * l + t < k) || kn r t)) ∧ TruO wr g1 l n kn ∧ Below w.heap.size w wr) (fun kv _ => N - (intOf kv).toNat)
      case atStart => exact ⟨0, Nat.zero_le _, rfl, HT2.out.congr (fun r t _ _ => by simp), HTK.out, HB2.out⟩
      case round =>
        clear HT2 HTK HB2
        obtain ⟨k, hk, rfl, hto, htk, hb⟩ := hrel
        have HTO := Lib.hid hto
        have HTK := Lib.hid htk
        have HB := Lib.hid hb
        by_cases hkl : k < N
        · have hkk : (k : Int) < (N : Int) := by omega
          obtain ⟨r, t, hr, ht, ek, p0, p1⟩ := (HP.out wr hb).2 k hkl
          have HEK := Lib.hid ek
          have hr1 : (r : Int) < (n : Int) := by omega
          have ht1 : (t : Int) < (l : Int) := by omega
          clear hto htk hb ek
          go_upto_region 10 with (fail)
          have hba := below_alloc wr (.cells #[.int .i64 r, .int .i64 t] 26)
          have hpb := Blk.new wr #[.int .i64 r, .int .i64 t] 26
          obtain ⟨pb, epb⟩ : ∃ b, b = wr.heap.size := ⟨_, rfl⟩
          obtain ⟨V, eV⟩ : ∃ V2, V2 = wr.alloc (.cells #[.int .i64 r, .int .i64 t] 26) := ⟨_, rfl⟩
          rw [← eV] at hba hpb ⊢
          rw [← epb] at hpb ⊢
          have HT2 := Lib.hid (HTO.out.below hba)
          have HK2 := Lib.hid (HTK.out.below hba)
          have HB2 := Lib.hid (below_trans HB.out hba)
          have p0 := hpb.cell (k := 0) rfl
          have p1 := hpb.cell (k := 1) rfl
          have x1 := HT2.out.box.cell (slcA_get (g := g0) (l := l) (n := n) (i := n) hr hr)
          have x2 := (HT2.out.row r hr).cell (boolA_get (S := fun t => ev r t && (!decide (r * l + t < k) || kn r t)) ht)
          have xf := (HT2.out.row r hr).frozen (k := t)
          have y1 := HK2.out.box.cell (slcA_get (g := g1) (l := l) (n := n) (i := n) hr hr)
          have y2 := (HK2.out.row r hr).cell (boolA_get (S := kn r) ht)
          rw [show decide (r * l + t < k) = false from decide_eq_false (by have := HEK.out; omega), Bool.not_false, Bool.true_or, Bool.and_true] at x2
          have HV9 := Lib.hid (fun b : Bool => And.intro ((HT2.out.below (below_drew (Below.refl _ _))).set hr ht b) (And.intro ((HK2.out.below (below_drew (Below.refl _ _))).other (b := g0 + 1 + r) (k := t) (HGE.out r hr) (.bool b)) ((below_drew HB2.out).setCell (p := ⟨g0 + 1 + r, t, none⟩) (show w.heap.size ≤ g0 + 1 + r by have := HG0.out; omega) (.bool b))))
          have HNX : Hid (∀ r' t', r' < n → t' < l → (if r' = r ∧ t' = t then (ev r t && kn r t) else (ev r' t' && (!decide (r' * l + t' < k) || kn r' t'))) = (ev r' t' && (!decide (r' * l + t' < k + 1) || kn r' t'))) := Lib.hid fun r' t' hr' ht' => by
            have hk2 := fill_num (r := r) (t := t) (r' := r') (t' := t') ht ht'
            rw [← HEK.out] at hk2
            by_cases e : r' = r ∧ t' = t
            · rw [if_pos e, decide_eq_true (hk2.2 (.inl e)), Bool.not_true, Bool.false_or, e.1, e.2]
            · rw [if_neg e]
              by_cases e2 : r' * l + t' < k
              · rw [decide_eq_true e2, decide_eq_true (hk2.2 (.inr e2))]
              · rw [decide_eq_false e2, decide_eq_false (fun h => (hk2.1 h).elim e e2)]
          clear hba hpb eV epb HTO HTK HB
          obtain ⟨ob, eob⟩ : ∃ b, b = ev r t := ⟨_, rfl⟩
          obtain ⟨kb, ekb⟩ : ∃ b, b = kn r t := ⟨_, rfl⟩
          rw [← eob] at x2
          rw [← ekb] at y2
          rw [← eob, ← ekb] at HNX
          clear eob ekb
          cases ob with
          | false =>
            refine wp_region_quiet_tail 28 (by kernel_rfl) (by kernel_rfl) ?_
            simp only [List.take_succ_cons, List.take_zero, List.drop_succ_cons, List.drop_zero]
            repeat (go_big_quiet_step (fail))
            refine wpQuiet_nil ?_
            go_wp2_with fail
            refine ⟨⟨k + 1, by omega, by go_num, TruO.congr (HV9.out false).1 (fun r' t' hr' ht' => ?_), (HV9.out false).2.1, (HV9.out false).2.2⟩, by simp [intOf]; omega⟩
            have h1 := HNX.out r' t' hr' ht'
            rw [Bool.false_and] at h1
            exact h1
          | true =>
            refine wp_region_quiet_tail 28 (by kernel_rfl) (by kernel_rfl) ?_
            simp only [List.take_succ_cons, List.take_zero, List.drop_succ_cons, List.drop_zero]
            repeat (go_big_quiet_step (fail))
            refine wpQuiet_nil ?_
            go_wp2_with fail
            refine ⟨⟨k + 1, by omega, by go_num, TruO.congr (HV9.out kb).1 (fun r' t' hr' ht' => ?_), (HV9.out kb).2.1, (HV9.out kb).2.2⟩, by simp [intOf]; omega⟩
            have h1 := HNX.out r' t' hr' ht'
            rw [Bool.true_and] at h1
            exact h1
        · obtain rfl : k = N := by omega
          have hkk : ¬ (k : Int) < (k : Int) := by omega
          have HTE := Lib.hid (hto.congr (X' := evB L n l (a + 1) X) fun r t hr ht => by rw [decide_eq_true (HLN.out r t hr ht), Bool.not_true, Bool.false_or, evB_succ, HEV.out, HKE.out])
          clear hto htk hb
          go_wp2_with fail
          go_roundw
          case rel => exact ⟨a + 1, by omega, by go_num, HTE.out, HB.out⟩
          case measure => simp [intOf]; omega
    · obtain rfl : a = 2 := by omega
      have haa : ¬ ((2 : Nat) : Int) < 2 := by omega
      clear hto hb
      go_wp2_with fail
      go_ret
      exact ⟨rfl, HTO.out, by rw [HG0.out]; exact HB.out⟩
end Go.Proofs.Ytahaimecchdfeaa

/-
  Walk: common knowledge as the greatest fixed point.
-/
namespace Go.Proofs.Ytahaimecchdfeaa
open Go.RowKit

/-- What is asked of the points that an agent considers possible. -/
def inB (X Y Z : Nat → Nat → Bool) (r t : Nat) : Bool := !X r t || (Y r t && Z r t)
/-- The rounds. -/
def itB (L : Nat → Nat → Nat → Int) (n l : Nat) (X Y : Nat → Nat → Bool) : Nat → Nat → Nat → Bool
  | 0 => fun _ _ => true
  | m + 1 => evB L n l 2 (inB X Y (itB L n l X Y m))
theorem knB_mono {L : Nat → Nat → Nat → Int} {n l g : Nat} {Z Z' : Nat → Nat → Bool} (h : ∀ r t, r < n → t < l → Z r t = true → Z' r t = true) {x : Int} (hk : knB L n l g Z x = true) : knB L n l g Z' x = true := by
  unfold knB at hk ⊢
  rw [List.all_eq_true] at hk ⊢
  intro p hp
  obtain ⟨h1, h2⟩ := locI_mem hp
  exact h _ _ h1 h2 (hk p hp)
theorem evB_mono {L : Nat → Nat → Nat → Int} {n l a : Nat} {Z Z' : Nat → Nat → Bool} (h : ∀ r t, r < n → t < l → Z r t = true → Z' r t = true) {r t : Nat} (hk : evB L n l a Z r t = true) : evB L n l a Z' r t = true := by
  unfold evB at hk ⊢
  rw [List.all_eq_true] at hk ⊢
  exact fun g hg => knB_mono h (hk g hg)
theorem inB_mono {X Y Z Z' : Nat → Nat → Bool} {r t : Nat} (h : Z r t = true → Z' r t = true) (hk : inB X Y Z r t = true) : inB X Y Z' r t = true := by
  unfold inB at hk ⊢
  cases hx : X r t <;> cases hy : Y r t <;> simp_all
theorem itB_down (L : Nat → Nat → Nat → Int) (n l : Nat) (X Y : Nat → Nat → Bool) : ∀ (m r t : Nat), r < n → t < l → itB L n l X Y (m + 1) r t = true → itB L n l X Y m r t = true
  | 0, _, _, _, _, _ => rfl
  | m + 1, _, _, _, _, h => evB_mono (fun r' t' hr' ht' h' => inB_mono (itB_down L n l X Y m r' t' hr' ht') h') h
/-- The table that lies in a cell, as it is read. -/
def tabAt (w : World) (b r t : Nat) : Bool :=
  match w.cell? ⟨b, 0, none⟩ with
  | some (.slice (some ad) _ _) => match w.cell? ⟨ad.block + 1 + r, t, none⟩ with
    | some (.bool v) => v
    | _ => false
  | _ => false
def tabN (w : World) (b n l : Nat) : Nat := (ptL n l).countP fun p => tabAt w b p.1 p.2
theorem tabN_eq {w : World} {b g n l : Nat} {Z : Nat → Nat → Bool} (hc : w.cell? ⟨b, 0, none⟩ = some (.slice (some ⟨g, 0, none⟩) n n)) (h : TruO w g l n Z) : tabN w b n l = (ptL n l).countP fun p => Z p.1 p.2 := by
  unfold tabN
  refine List.countP_congr fun p hp => ?_
  obtain ⟨h1, h2⟩ := ptL_mem.1 hp
  have h3 := (h.row p.1 h1).cell (boolA_get (S := Z p.1) h2)
  have h4 : tabAt w b p.1 p.2 = Z p.1 p.2 := by
    unfold tabAt
    rw [hc]
    dsimp only
    rw [h3]
  rw [h4]
theorem countP_lt {α : Type} {p q : α → Bool} : ∀ {l : List α}, (∀ x ∈ l, q x = true → p x = true) → (∃ x ∈ l, p x = true ∧ q x = false) → l.countP q < l.countP p
  | [], _, h => by obtain ⟨x, hx, _⟩ := h; cases hx
  | a :: l, h, h2 => by
    have hle : ∀ l' : List α, (∀ x ∈ l', q x = true → p x = true) → l'.countP q ≤ l'.countP p := fun l' h' => List.countP_mono_left h'
    rw [List.countP_cons, List.countP_cons]
    by_cases ha : p a = true ∧ q a = false
    · have := hle l (fun x hx => h x (List.mem_cons_of_mem _ hx))
      rw [if_pos ha.1, if_neg (by rw [ha.2]; decide)]
      omega
    · have h3 : l.countP q < l.countP p := countP_lt (fun x hx => h x (List.mem_cons_of_mem _ hx)) (by
        obtain ⟨x, hx, hpx⟩ := h2
        rcases List.mem_cons.1 hx with e | e
        · subst e; exact absurd hpx ha
        · exact ⟨x, e, hpx⟩)
      by_cases hq : q a = true
      · rw [if_pos hq, if_pos (h a (List.mem_cons_self ..) hq)]
        omega
      · rw [if_neg hq]
        split <;> omega
theorem TruO.cellset {w : World} {g l n b k : Nat} {X : Nat → Nat → Bool} {T : TypeId} {xs : Array Value} (h : TruO w g l n X) (hb : Blk w b T xs) (h1 : T ≠ 65) (h2 : T ≠ 4) (u : Value) : TruO (w.setCell ⟨b, k, none⟩ u) g l n X :=
  ⟨h.box.set_ne (h.box.ne hb (fun e => h1 e.symm)) k u, fun r hr => (h.row r hr).set_ne ((h.row r hr).ne hb (fun e => h2 e.symm)) k u⟩
/-- What common leaves. -/
def ComPost (w : World) (n l : Nat) (L : Nat → Nat → Nat → Int) (X Y : Nat → Nat → Bool) (e : Ending) (w' : World) : Prop :=
  ∃ (g m : Nat) (Z : Nat → Nat → Bool), e = .returned (.slice (some ⟨g, 0, none⟩) n n) ∧ TruO w' g l n Z ∧ w.heap.size ≤ g ∧ Z = itB L n l X Y m ∧ (∀ r t, r < n → t < l → evB L n l 2 (inB X Y Z) r t = Z r t) ∧ Below w.heap.size w w'
set_option maxHeartbeats 8000000 in
set_option maxRecDepth 100000 in
theorem common_any (w : World) (bc l n : Nat) (L : Nat → Nat → Nat → Int) (F : Nat → Nat → Nat) (X Y : Nat → Nat → Bool) (xv yv : Value) (hC : ChkR w bc l n L F) (hn : n ≤ 64) (hl : l ≤ 16) (hX : TruR w xv l n X) (hY : TruR w yv l n Y) :
    Calls Try.prog 116 #[.pointer (some ⟨bc, 0, none⟩), .int .i64 3, xv, yv] w (ComPost w n l L X Y) := by
  obtain ⟨gx, rfl, hXO⟩ := hX
  obtain ⟨gy, rfl, hYO⟩ := hY
  have HC := Lib.hid hC
  have HX := Lib.hid hXO
  have HY := Lib.hid hYO
  obtain ⟨W0, eW0⟩ : ∃ W0, W0 = (w.alloc (.cells #[.slice (some ⟨gx, 0, none⟩) n n] 114)).alloc (.cells #[.slice (some ⟨gy, 0, none⟩) n n] 114) := ⟨_, rfl⟩
  obtain ⟨k6, k7, hb0, hs0⟩ := two_allocs w _ _ _ _ W0 eW0
  have HW := Lib.hid eW0.symm
  have HK6 := Lib.hid k6
  have HK7 := Lib.hid k7
  have HB0 := Lib.hid hb0
  have HFI := Lib.hid (fill_C W0 bc l n L F (fun _ _ => true) (hC.below hb0) hn hl (fun Y _ r t _ _ => common1 r t Y))
  obtain ⟨gp, cp, hP⟩ := hC.pts
  have hNl : n * l ≤ 1024 := Nat.mul_le_mul hn hl
  have HLN : Hid (∀ r t, r < n → t < l → r * l + t < n * l) := Lib.hid fun r t hr ht => pos_bound hr ht
  obtain ⟨N, eN⟩ : ∃ N, N = n * l := ⟨_, rfl⟩
  rw [← eN] at hP HLN hNl
  have HP := Lib.hid hP
  have HN := Lib.hid eN
  clear hC hXO hYO k6 k7 hb0 eW0 hP hs0 eN
  go_enter Try.func116, Try.ntmps116
  go_upto_region 1 with (fail)
  rw [HW.out]
  clear HW
  obtain ⟨b6, eb6⟩ : ∃ b, b = w.heap.size := ⟨_, rfl⟩
  obtain ⟨b7, eb7⟩ : ∃ b, b = w.heap.size + 1 := ⟨_, rfl⟩
  rw [← eb7, ← eb6]
  rw [← eb6] at HK6
  rw [← eb7] at HK7
  clear eb6 eb7
  go_upto_region 2 with (go_at_call 108; refine HFI.out.mono ?_; rintro e w1 ⟨rfl, hto, hb1⟩; have HTO := Lib.hid hto; have HB1 := Lib.hid (below_trans HB0.out hb1); have HK61 := Lib.hid (HK6.out.below hb1); have HK71 := Lib.hid (HK7.out.below hb1); clear hto hb1)
  have hba := below_alloc w1 (.cells #[.slice (some ⟨W0.heap.size, 0, none⟩) n n] 114)
  have h9 := Blk.new w1 #[.slice (some ⟨W0.heap.size, 0, none⟩) n n] 114
  obtain ⟨W2, eW2⟩ : ∃ W2, W2 = w1.alloc (.cells #[.slice (some ⟨W0.heap.size, 0, none⟩) n n] 114) := ⟨_, rfl⟩
  rw [← eW2] at hba h9 ⊢
  obtain ⟨b9, eb9⟩ : ∃ b, b = w1.heap.size := ⟨_, rfl⟩
  rw [← eb9] at h9 ⊢
  have HI0 : Hid (∃ (m g : Nat), Blk W2 b9 114 #[.slice (some ⟨g, 0, none⟩) n n] ∧ TruO W2 g l n (itB L n l X Y m) ∧ w.heap.size ≤ g ∧ (Blk W2 b6 114 #[.slice (some ⟨gx, 0, none⟩) n n] ∧ Blk W2 b7 114 #[.slice (some ⟨gy, 0, none⟩) n n]) ∧ Below w.heap.size w W2) :=
    Lib.hid ⟨0, _, h9, HTO.out.below hba, HB0.out.size, ⟨HK61.out.below hba, HK71.out.below hba⟩, below_trans HB1.out hba⟩
  have h69 : b6 ≠ b9 := fun e => by have := HK61.out.lt; omega
  have h79 : b7 ≠ b9 := fun e => by have := HK71.out.lt; omega
  have hw9 : w.heap.size ≤ b9 := by rw [eb9]; exact HB1.out.size
  clear hba h9 eW2 eb9 HTO HB1 HK61 HK71 HFI HK6 HK7 HB0
  go_loopw [12] (fun _ wr => ∃ (m g : Nat), Blk wr b9 114 #[.slice (some ⟨g, 0, none⟩) n n] ∧ TruO wr g l n (itB L n l X Y m) ∧ w.heap.size ≤ g ∧ (Blk wr b6 114 #[.slice (some ⟨gx, 0, none⟩) n n] ∧ Blk wr b7 114 #[.slice (some ⟨gy, 0, none⟩) n n]) ∧ Below w.heap.size w wr) (fun _ wr => tabN wr b9 n l)
  case atStart => exact HI0.out
  case round =>
    clear HI0
    obtain ⟨m, g, h9, hto, hgw, ⟨h6, h7⟩, hb⟩ := hrel
    have H9 := Lib.hid h9
    have H6 := Lib.hid h6
    have H7 := Lib.hid h7
    have HB := Lib.hid hb
    have HTO := Lib.hid hto
    have HMS := Lib.hid (tabN_eq (h9.cell (k := 0) rfl) hto)
    have HDN := Lib.hid (itB_down L n l X Y m)
    have HIT := Lib.hid (show itB L n l X Y (m + 1) = evB L n l 2 (inB X Y (itB L n l X Y m)) from rfl)
    obtain ⟨Z, eZ⟩ : ∃ Z, Z = itB L n l X Y m := ⟨_, rfl⟩
    have HZE := Lib.hid eZ
    rw [← eZ] at HTO HMS HDN HIT
    have HFM := Lib.hid (fill_M wr bc l n L F b6 b7 b9 (inB X Y Z) (HC.out.below hb) hn hl (fun V hV r t hr ht => common2 r t b6 b7 b9 l n X Y Z _ _ _ V hr ht ((H6.out.below hV).cell (k := 0) rfl) ((H7.out.below hV).cell (k := 0) rfl) ((H9.out.below hV).cell (k := 0) rfl) ⟨gx, rfl, (HX.out.below hb).below hV⟩ ⟨gy, rfl, (HY.out.below hb).below hV⟩ ⟨g, rfl, HTO.out.below hV⟩))
    clear h9 h6 h7 hb hto eZ
    go_upto_region 3 with (go_at_call 108; refine HFM.out.mono ?_; rintro e w2 ⟨rfl, hti, hb2⟩; have HTI := Lib.hid hti; have HB2 := Lib.hid hb2; clear hti hb2)
    have HEV := Lib.hid (every_any w2 bc l n L F (inB X Y Z) (.slice (some ⟨wr.heap.size, 0, none⟩) n n) (HC.out.below (below_trans HB.out HB2.out)) hn hl ⟨_, rfl, HTI.out⟩)
    clear HFM
    go_upto_region 4 with (go_at_call 112; refine HEV.out.mono ?_; rintro e w3 ⟨rfl, htn, hb3⟩; have HTN := Lib.hid htn; have HB3 := Lib.hid (below_trans HB2.out hb3); clear htn hb3)
    clear HEV HTI
    obtain ⟨Z2, eZ2⟩ : ∃ Z2, Z2 = evB L n l 2 (inB X Y Z) := ⟨_, rfl⟩
    have HZ2 := Lib.hid eZ2
    rw [← eZ2] at HTN
    have HBW := Lib.hid (below_trans HB.out HB3.out)
    have HTZ := Lib.hid (HTO.out.below HB3.out)
    have H93 := Lib.hid (H9.out.below HB3.out)
    have HKK := Lib.hid (And.intro (H6.out.below HB3.out) (H7.out.below HB3.out))
    have hgn : w.heap.size ≤ w2.heap.size := (below_trans HB.out HB2.out).size
    obtain ⟨gn, egn⟩ : ∃ gn, gn = w2.heap.size := ⟨_, rfl⟩
    rw [← egn] at HTN hgn ⊢
    clear eZ2 HTO H9 H6 H7 HB3 HB2 egn
    have q4 := (HP.out w3 HBW.out).1
    obtain ⟨wo, ewo⟩ : ∃ wo, wo = w3 := ⟨_, rfl⟩
    go_upto_region 6 with (fail)
    clear q4
    rw [← ewo] at HTN HTZ H93 HKK HBW ⊢
    clear ewo
    go_loopw [12, 29] (fun cv kv wr => ∃ k : Nat, k ≤ N ∧ kv = .int .i64 k ∧ cv = .bool (((ptL n l).take k).any fun p => Z2 p.1 p.2 != Z p.1 p.2) ∧ Below wo.heap.size wo wr) (fun _ kv _ => N - (intOf kv).toNat)
    case atStart => exact ⟨0, Nat.zero_le _, rfl, rfl, Below.refl _ _⟩
    case round =>
      obtain ⟨k, hk, rfl, rfl, hbk⟩ := hrel
      have HBK := Lib.hid hbk
      have HBR := Lib.hid (below_trans HBW.out hbk)
      by_cases hkl : k < N
      · have hkk : (k : Int) < (N : Int) := by omega
        obtain ⟨r, t, hr, ht, ek, p0, p1⟩ := (HP.out wr HBR.out).2 k hkl
        have HTK := Lib.hid (show (((ptL n l).take (k + 1)).any fun p => Z2 p.1 p.2 != Z p.1 p.2) = (((ptL n l).take k).any (fun p => Z2 p.1 p.2 != Z p.1 p.2) || (Z2 r t != Z r t)) by
          rw [ek, List.take_add_one, ptL_pos hr ht, List.any_append]
          simp)
        have hr1 : (r : Int) < (n : Int) := by omega
        have ht1 : (t : Int) < (l : Int) := by omega
        clear hbk ek
        go_upto_region 8 with (fail)
        have hba := below_alloc wr (.cells #[.int .i64 r, .int .i64 t] 26)
        have hpb := Blk.new wr #[.int .i64 r, .int .i64 t] 26
        obtain ⟨pb, epb⟩ : ∃ b, b = wr.heap.size := ⟨_, rfl⟩
        obtain ⟨V, eV⟩ : ∃ V2, V2 = wr.alloc (.cells #[.int .i64 r, .int .i64 t] 26) := ⟨_, rfl⟩
        rw [← eV] at hba hpb ⊢
        rw [← epb] at hpb ⊢
        have hbv := below_trans HBK.out hba
        have hTN := HTN.out.below hbv
        have hTZ := HTZ.out.below hbv
        have p0 := hpb.cell (k := 0) rfl
        have p1 := hpb.cell (k := 1) rfl
        have x1 := hTN.box.cell (slcA_get (g := gn) (l := l) (n := n) (i := n) hr hr)
        have x2 := (hTN.row r hr).cell (boolA_get (S := Z2 r) ht)
        have y0 := (H93.out.below hbv).cell (k := 0) rfl
        have y1 := hTZ.box.cell (slcA_get (g := g) (l := l) (n := n) (i := n) hr hr)
        have y2 := (hTZ.row r hr).cell (boolA_get (S := Z r) ht)
        have HBV := Lib.hid hbv
        generalize Z2 r t = bx at x2 HTK
        generalize Z r t = bz at y2 HTK
        obtain ⟨ab, eab⟩ : ∃ ab, ab = ((ptL n l).take k).any fun p => Z2 p.1 p.2 != Z p.1 p.2 := ⟨_, rfl⟩
        rw [← eab] at HTK ⊢
        clear hba hpb eV epb hbv hTN hTZ eab
        cases ab with
        | true =>
          go_quiet (fail)
          have hbq := below_drewN HBV.out nq
          generalize V.drewN nq = V4 at hbq ⊢
          have HBQ := Lib.hid hbq
          clear hbq
          go_wp2_with fail
          go_roundw
          case rel => exact ⟨k + 1, by omega, by go_num, by rw [HTK.out]; rfl, HBQ.out⟩
          case measure => simp [intOf]; omega
        | false =>
          go_quiet (fail)
          have hbq := below_drewN HBV.out nq
          generalize V.drewN nq = V4 at hbq ⊢
          have HBQ := Lib.hid hbq
          clear hbq
          go_wp2_with fail
          go_roundw
          case rel => exact ⟨k + 1, by omega, by go_num, by rw [HTK.out, Bool.false_or]; rfl, HBQ.out⟩
          case measure => simp [intOf]; omega
      · obtain rfl : k = N := by omega
        have hkk : ¬ (k : Int) < (k : Int) := by omega
        have HANY := Lib.hid (show (((ptL n l).take k).any fun p => Z2 p.1 p.2 != Z p.1 p.2) = (ptL n l).any fun p => Z2 p.1 p.2 != Z p.1 p.2 by rw [List.take_of_length_le (by rw [ptL_len, HN.out]; exact Nat.le_refl _)])
        rw [HANY.out]
        have h9r := H93.out.below hbk
        have y0 := h9r.cell (k := 0) rfl
        have yf := h9r.frozen (k := 0)
        cases ca : (ptL n l).any fun p => Z2 p.1 p.2 != Z p.1 p.2 with
        | false =>
          have HFX : Hid (∀ r t, r < n → t < l → evB L n l 2 (inB X Y Z) r t = Z r t) := Lib.hid fun r t hr ht => by
            have h1 := List.any_eq_false.1 ca (r, t) (ptL_mem.2 ⟨hr, ht⟩)
            rw [← HZ2.out]
            simpa using h1
          have HTZ2 := Lib.hid (HTZ.out.below hbk)
          clear ca hbk h9r yf
          go_wp2_with fail
          go_ret
          exact ⟨g, m, Z, rfl, HTZ2.out, hgw, HZE.out, HFX.out, HBR.out⟩
        | true =>
          have hKKr := And.intro (HKK.out.1.below hbk) (HKK.out.2.below hbk)
          have hTNr := (HTN.out.below hbk).cellset (k := 0) h9r (by decide) (by decide) (.slice (some ⟨gn, 0, none⟩) n n)
          have h9s := h9r.set 0 (.slice (some ⟨gn, 0, none⟩) n n)
          have HST := Lib.hid (And.intro (And.intro h9s hTNr) (And.intro (And.intro (hKKr.1.set_ne h69 0 (.slice (some ⟨gn, 0, none⟩) n n)) (hKKr.2.set_ne h79 0 (.slice (some ⟨gn, 0, none⟩) n n))) (HBR.out.setCell (p := ⟨b9, 0, none⟩) hw9 (.slice (some ⟨gn, 0, none⟩) n n))))
          have HLT := Lib.hid (show tabN (wr.setCell ⟨b9, 0, none⟩ (.slice (some ⟨gn, 0, none⟩) n n)) b9 n l < (ptL n l).countP fun p => Z p.1 p.2 by
            rw [tabN_eq (h9s.cell (k := 0) rfl) hTNr]
            refine countP_lt (fun p hp h => ?_) ?_
            · obtain ⟨h1, h2⟩ := ptL_mem.1 hp
              refine HDN.out p.1 p.2 h1 h2 ?_
              rw [HIT.out, ← HZ2.out]
              exact h
            · obtain ⟨p, hp, h1⟩ := List.any_eq_true.1 ca
              obtain ⟨h2, h3⟩ := ptL_mem.1 hp
              refine ⟨p, hp, ?_⟩
              have h4 : Z2 p.1 p.2 = true → Z p.1 p.2 = true := fun h => HDN.out p.1 p.2 h2 h3 (by rw [HIT.out, ← HZ2.out]; exact h)
              cases e1 : Z2 p.1 p.2 <;> cases e2 : Z p.1 p.2 <;> simp_all)
          clear ca hbk h9r hKKr hTNr h9s
          go_wp2_with fail
          go_roundw
          case rel => exact ⟨m + 1, gn, HST.out.1.1, by rw [HIT.out, ← HZ2.out]; exact HST.out.1.2, hgn, HST.out.2.1, HST.out.2.2⟩
          case measure => rw [HMS.out]; exact HLT.out
end Go.Proofs.Ytahaimecchdfeaa

/-
  Walks: boolean; the rules of the modal operators; the rule of common knowledge.
-/
namespace Go.Proofs.Ytahaimecchdfeaa
open Go.RowKit

/-- The boxes of boolean. -/
theorem four_boxes (w W : World) (cv xv yv : Value) (nd : Nd) (e : W = (((w.alloc (.cells #[cv] 111)).alloc (.cells nd.V.toArray 108)).alloc (.cells #[xv] 114)).alloc (.cells #[yv] 114)) :
    Blk W w.heap.size 111 #[cv] ∧ NdC W (w.heap.size + 1) 0 nd ∧ Blk W (w.heap.size + 1 + 1) 114 #[xv] ∧ Blk W (w.heap.size + 1 + 1 + 1) 114 #[yv] ∧ Below w.heap.size w W := by
  obtain ⟨W1, e1⟩ : ∃ W1, W1 = w.alloc (.cells #[cv] 111) := ⟨_, rfl⟩
  obtain ⟨W2, e2⟩ : ∃ W2, W2 = W1.alloc (.cells nd.V.toArray 108) := ⟨_, rfl⟩
  obtain ⟨W3, e3⟩ : ∃ W3, W3 = W2.alloc (.cells #[xv] 114) := ⟨_, rfl⟩
  rw [← e1, ← e2, ← e3] at e
  have s1 : W1.heap.size = w.heap.size + 1 := by rw [e1]; simp
  have s2 : W2.heap.size = w.heap.size + 1 + 1 := by rw [e2, ← s1]; simp
  have s3 : W3.heap.size = w.heap.size + 1 + 1 + 1 := by rw [e3, ← s2]; simp
  have b1 : Below w.heap.size w W1 := by rw [e1]; exact below_alloc _ _
  have b2 : Below W1.heap.size W1 W2 := by rw [e2]; exact below_alloc _ _
  have b3 : Below W2.heap.size W2 W3 := by rw [e3]; exact below_alloc _ _
  have b4 : Below W3.heap.size W3 W := by rw [e]; exact below_alloc _ _
  have k1 : Blk W1 w.heap.size 111 #[cv] := by rw [e1]; exact Blk.new _ _ _
  have k2 : NdC W2 (w.heap.size + 1) 0 nd := by rw [← s1, e2]; exact NdC.new _ _
  have k3 : Blk W3 (w.heap.size + 1 + 1) 114 #[xv] := by rw [← s2, e3]; exact Blk.new _ _ _
  have k4 : Blk W (w.heap.size + 1 + 1 + 1) 114 #[yv] := by rw [← s3, e]; exact Blk.new _ _ _
  exact ⟨((k1.below b2).below b3).below b4, (k2.below b3).below b4, k3.below b4, k4, below_trans (below_trans (below_trans b1 b2) b3) b4⟩
set_option maxHeartbeats 4000000 in
set_option maxRecDepth 100000 in
theorem boolean_gen (w : World) (bc l n : Nat) (L : Nat → Nat → Nat → Int) (F : Nat → Nat → Nat) (nd : Nd) (Ax Ay : Option Addr) (nx cx ny cy : Nat) (B : Nat → Nat → Bool) (hC : ChkR w bc l n L F) (hn : n ≤ 64) (hl : l ≤ 16)
    (hB : ∀ (b1 b2 b3 b4 : Nat) (V : World), Below w.heap.size w V → NdC V b1 0 nd → V.cell? ⟨b2, 0, none⟩ = some (.pointer (some ⟨bc, 0, none⟩)) → V.cell? ⟨b3, 0, none⟩ = some (.slice Ax nx cx) → ∀ r t : Nat, r < n → t < l → Calls Try.prog 123 #[.agg #[.int .i64 r, .int .i64 t], .pointer (some ⟨b1, 0, none⟩), .pointer (some ⟨b2, 0, none⟩), .pointer (some ⟨b3, 0, none⟩), .pointer (some ⟨b4, 0, none⟩)] V fun e w' => e = .returned (.bool (B r t)) ∧ Below V.heap.size V w') :
    Calls Try.prog 80 #[.pointer (some ⟨bc, 0, none⟩), .agg nd.V.toArray, .slice Ax nx cx, .slice Ay ny cy] w fun e w' => ∃ g, e = .returned (.slice (some ⟨g, 0, none⟩) n n) ∧ TruO w' g l n B ∧ w.heap.size ≤ g ∧ Below w.heap.size w w' := by
  obtain ⟨W, eW⟩ : ∃ W, W = (((w.alloc (.cells #[.pointer (some ⟨bc, 0, none⟩)] 111)).alloc (.cells #[.int .i64 nd.op, .int .i64 0, .int .i64 0, .int .i64 nd.g, .int .i64 nd.x, .int .i64 nd.y] 108)).alloc (.cells #[.slice Ax nx cx] 114)).alloc (.cells #[.slice Ay ny cy] 114) := ⟨_, rfl⟩
  obtain ⟨k1, k2, k3, k4, hb⟩ := four_boxes w W _ _ _ nd eW
  have HFI := Lib.hid (fill_B W bc l n L F (w.heap.size + 1) w.heap.size (w.heap.size + 1 + 1) (w.heap.size + 1 + 1 + 1) B (hC.below hb) hn hl (fun X hX r t hr ht => hB _ _ _ _ X (below_trans hb hX) (k2.below hX) ((k1.below hX).cell (k := 0) rfl) ((k3.below hX).cell (k := 0) rfl) r t hr ht))
  have d0 := k1.cell (k := 0) rfl
  have HW := Lib.hid eW.symm
  have HB := Lib.hid hb
  unfold Nd.V
  clear hB hC k1 k2 k3 k4 eW hb
  go_enter Try.func80, Try.ntmps80
  go_upto_region 1 with (fail)
  rw [HW.out]
  go_wp2_with (go_at_call 108; refine HFI.out.mono ?_; rintro e w1 ⟨rfl, hto, hb1⟩; have HTO := Lib.hid hto; have HB1 := Lib.hid (below_trans HB.out hb1); clear hto hb1)
  go_ret
  exact ⟨_, rfl, HTO.out, HB.out.size, HB1.out⟩
/-- What a node's table is, out of those of the nodes before it. -/
def SemN (L : Nat → Nat → Nat → Int) (F : Nat → Nat → Nat) (n l : Nat) (Xs : Nat → Nat → Nat → Bool) (Z : Nat → Nat → Bool) : Nd → Prop
  | .T => Z = fun _ _ => true
  | .F => Z = fun r t => decide (F r t % 2 = 1)
  | .N x => Z = fun r t => !Xs x r t
  | .C x y => (∃ m, Z = itB L n l (Xs x) (Xs y) m) ∧ ∀ r t, r < n → t < l → evB L n l 2 (inB (Xs x) (Xs y) Z) r t = Z r t
/-- Whether a node is propositional. -/
def Nd.prop : Nd → Bool
  | .C _ _ => false
  | _ => true
theorem boolean_any (w : World) (bc l n : Nat) (L : Nat → Nat → Nat → Int) (F : Nat → Nat → Nat) (nd : Nd) (Xs : Nat → Nat → Nat → Bool) (Ax Ay : Option Addr) (nx cx ny cy : Nat) (hC : ChkR w bc l n L F) (hn : n ≤ 64) (hl : l ≤ 16) (hF : ∀ r t, r < n → t < l → F r t < 256)
    (hp : nd.prop = true) (hx : nd.ux = true → TruR w (.slice Ax nx cx) l n (Xs nd.x)) :
    Calls Try.prog 80 #[.pointer (some ⟨bc, 0, none⟩), .agg nd.V.toArray, .slice Ax nx cx, .slice Ay ny cy] w fun e w' => ∃ g Z, e = .returned (.slice (some ⟨g, 0, none⟩) n n) ∧ TruO w' g l n Z ∧ SemN L F n l Xs Z nd ∧ w.heap.size ≤ g ∧ Below w.heap.size w w' := by
  cases nd with
  | T =>
    refine (boolean_gen w bc l n L F .T Ax Ay nx cx ny cy (fun _ _ => true) hC hn hl (fun b1 b2 b3 b4 V hV h1 h2 h3 r t hr ht => boolean_T r t b1 b2 b3 b4 V h1)).mono ?_
    rintro e w' ⟨g, rfl, h1, h2, h3⟩
    exact ⟨g, _, rfl, h1, rfl, h2, h3⟩
  | F =>
    refine (boolean_gen w bc l n L F .F Ax Ay nx cx ny cy (fun r t => decide (F r t % 2 = 1)) hC hn hl (fun b1 b2 b3 b4 V hV h1 h2 h3 r t hr ht => boolean_F r t b1 b2 b3 b4 bc l n L F V hr ht h1 h2 (hC.below hV) (hF r t hr ht))).mono ?_
    rintro e w' ⟨g, rfl, h1, h2, h3⟩
    exact ⟨g, _, rfl, h1, rfl, h2, h3⟩
  | N x =>
    refine (boolean_gen w bc l n L F (.N x) Ax Ay nx cx ny cy (fun r t => !Xs x r t) hC hn hl (fun b1 b2 b3 b4 V hV h1 h2 h3 r t hr ht => boolean_N r t b1 b2 b3 b4 x l n (Xs x) _ V hr ht h1 h3 ((hx rfl).below hV))).mono ?_
    rintro e w' ⟨g, rfl, h1, h2, h3⟩
    exact ⟨g, _, rfl, h1, rfl, h2, h3⟩
  | C x y => cases hp
set_option maxHeartbeats 4000000 in
set_option maxRecDepth 100000 in
theorem rule_common (w : World) (bc l n : Nat) (L : Nat → Nat → Nat → Int) (F : Nat → Nat → Nat) (a b : Nat) (Xs : Nat → Nat → Nat → Bool) (Ax Ay : Option Addr) (nx cx ny cy : Nat) (hC : ChkR w bc l n L F) (hn : n ≤ 64) (hl : l ≤ 16)
    (hx : TruR w (.slice Ax nx cx) l n (Xs a)) (hy : TruR w (.slice Ay ny cy) l n (Xs b)) :
    Calls Try.prog 115 #[.pointer (some ⟨bc, 0, none⟩), .agg (Nd.C a b).V.toArray, .slice Ax nx cx, .slice Ay ny cy] w fun e w' => ∃ g Z, e = .returned (.slice (some ⟨g, 0, none⟩) n n) ∧ TruO w' g l n Z ∧ SemN L F n l Xs Z (.C a b) ∧ w.heap.size ≤ g ∧ Below w.heap.size w w' := by
  have hba := below_alloc w (.cells #[.int .i64 13, .int .i64 0, .int .i64 0, .int .i64 3, .int .i64 (a : Nat), .int .i64 (b : Nat)] 108)
  have hbk := Blk.new w #[.int .i64 13, .int .i64 0, .int .i64 0, .int .i64 3, .int .i64 (a : Nat), .int .i64 (b : Nat)] 108
  have HCM := Lib.hid (common_any _ bc l n L F (Xs a) (Xs b) _ _ (hC.below hba) hn hl (hx.below hba) (hy.below hba))
  have HB := Lib.hid hba
  have d3 := hbk.cell (k := 3) rfl
  rw [show (Nd.C a b).V.toArray = #[.int .i64 13, .int .i64 0, .int .i64 0, .int .i64 3, .int .i64 (a : Nat), .int .i64 (b : Nat)] from rfl]
  obtain ⟨W, eW⟩ : ∃ W, W = w.alloc (.cells #[.int .i64 13, .int .i64 0, .int .i64 0, .int .i64 3, .int .i64 (a : Nat), .int .i64 (b : Nat)] 108) := ⟨_, rfl⟩
  rw [← eW] at HCM HB d3
  have HW := Lib.hid eW.symm
  clear hC hx hy hba hbk eW
  go_enter Try.func115, Try.ntmps115
  go_upto_region 1 with (fail)
  rw [HW.out]
  go_wp2_with (go_at_call 116; refine HCM.out.mono ?_; rintro e w1 ⟨g, m, Z, rfl, hto, hg, hZ, hfx, hb1⟩; have HTO := Lib.hid hto; have HZ := Lib.hid hZ; have HFX := Lib.hid hfx; have HB1 := Lib.hid (below_trans HB.out hb1); clear hto hb1 hZ hfx)
  go_ret
  exact ⟨g, Z, rfl, HTO.out, ⟨⟨m, HZ.out⟩, HFX.out⟩, Nat.le_trans HB.out.size hg, HB1.out⟩
/-- The operators of the rules, and their functions. -/
def rlOp (k : Nat) : Nat := [9, 10, 11, 12, 13, 18, 20, 19, 21].getD k 0
def rlFn (k : Nat) : Nat := [105, 107, 111, 113, 115, 117, 119, 120, 122].getD k 0
def rlA : Array Value := #[.int .i64 9, .func (.func 105) #[] #[], .int .i64 10, .func (.func 107) #[] #[], .int .i64 11, .func (.func 111) #[] #[], .int .i64 12, .func (.func 113) #[] #[], .int .i64 13, .func (.func 115) #[] #[], .int .i64 18, .func (.func 117) #[] #[], .int .i64 20, .func (.func 119) #[] #[], .int .i64 19, .func (.func 120) #[] #[], .int .i64 21, .func (.func 122) #[] #[]]
theorem lt9 {p : Nat → Prop} (h0 : p 0) (h1 : p 1) (h2 : p 2) (h3 : p 3) (h4 : p 4) (h5 : p 5) (h6 : p 6) (h7 : p 7) (h8 : p 8) : ∀ k, k < 9 → p k
  | 0, _ => h0
  | 1, _ => h1
  | 2, _ => h2
  | 3, _ => h3
  | 4, _ => h4
  | 5, _ => h5
  | 6, _ => h6
  | 7, _ => h7
  | 8, _ => h8
  | k + 9, h => absurd h (by omega)
theorem rlA_op : ∀ k, k < 9 → rlA[k * 2]? = some (.int .i64 (rlOp k)) := lt9 rfl rfl rfl rfl rfl rfl rfl rfl rfl
theorem rlA_fn : ∀ k, k < 9 → rlA[k * 2 + 1]? = some (.func (.func (rlFn k)) #[] #[]) := lt9 rfl rfl rfl rfl rfl rfl rfl rfl rfl
theorem rules_any (w : World) : Calls Try.prog 79 #[] w fun e w' => e = .returned (.slice (some ⟨w.heap.size, 0, none⟩) 9 9) ∧ Blk w' w.heap.size 119 rlA ∧ Below w.heap.size w w' := by
  have HB := Lib.hid (below_alloc w (.cells rlA 119))
  have HN := Lib.hid (Blk.new w rlA 119)
  go_enter Try.func79, Try.ntmps79
  go_wp2_with fail
  go_ret
  exact ⟨rfl, HN.out, HB.out⟩
end Go.Proofs.Ytahaimecchdfeaa

/-
  Plain facts: over the reliable channel, with the protocol that tells the bit, it is common knowledge just after the first round.
-/
namespace Go.Proofs.Ytahaimecchdfeaa
open Go.RowKit

theorem comV_one {a f l : Int} {n : Nat} {T : Nat → Nat} {m : Nat → Nat → Nat} {L : Nat → Nat → Nat → Int} {K : Nat → Nat} {F : Nat → Nat → Nat} {r t fc : Int} (hE : comE a f l n T m K F r t fc = 0) (hp : posP l r t < n * l.toNat)
    (h1 : akS a l n L (posP l r t) (posP l r t) = true) (h2 : ∀ j, akS a l n L (posP l r t) j = true → j = posP l r t) : comV a f l n T m L K F r t fc = true := by
  have hall : ∀ j, j ∈ cmpL (akS a l n L) (n * l.toNat) (posP l r t) → j = posP l r t := fun j hj =>
    Rch.sub (p := fun k => k = posP l r t) (fun k hk => h2 k hk) (fun j k hj hk => by subst hj; exact h2 k hk) (mem_cmpL.1 hj).2
  have hin : posP l r t ∈ cmpL (akS a l n L) (n * l.toNat) (posP l r t) := mem_cmpL.2 ⟨hp, Rch.one h1⟩
  have hg : (cmpL (akS a l n L) (n * l.toNat) (posP l r t)).getD 0 0 = posP l r t := by
    cases hc : cmpL (akS a l n L) (n * l.toNat) (posP l r t) with
    | nil => rw [hc] at hin; cases hin
    | cons x xs => exact hall x (by rw [hc]; exact List.mem_cons_self)
  unfold comV
  rw [decide_eq_true hE, Bool.true_and, hg, Bool.not_eq_true', List.any_eq_false]
  intro j hj
  rw [hall j hj]
  simp
theorem comV_two {a f l : Int} {n : Nat} {T : Nat → Nat} {m : Nat → Nat → Nat} {L : Nat → Nat → Nat → Int} {K : Nat → Nat} {F : Nat → Nat → Nat} {r t fc : Int} {j j' : Nat} (hj : j < n * l.toNat) (hj' : j' < n * l.toNat)
    (h1 : akS a l n L (posP l r t) j = true) (h2 : akS a l n L (posP l r t) j' = true) (hf : (facK F n l fc.toNat j != facK F n l fc.toNat j') = true) : comV a f l n T m L K F r t fc = false := by
  have m1 : j ∈ cmpL (akS a l n L) (n * l.toNat) (posP l r t) := mem_cmpL.2 ⟨hj, Rch.one h1⟩
  have m2 : j' ∈ cmpL (akS a l n L) (n * l.toNat) (posP l r t) := mem_cmpL.2 ⟨hj', Rch.one h2⟩
  unfold comV
  rw [Bool.and_eq_false_iff]
  right
  rw [Bool.not_eq_false', List.any_eq_true]
  by_cases h : facK F n l fc.toNat j = facK F n l fc.toNat ((cmpL (akS a l n L) (n * l.toNat) (posP l r t)).getD 0 0)
  · refine ⟨j', m2, ?_⟩
    rw [← h]
    rw [bne_iff_ne] at hf ⊢
    exact fun e => hf e.symm
  · exact ⟨j, m1, by rw [bne_iff_ne]; exact h⟩
def tlN (k : Nat) : Nat := (telR k).length
def tlA (k : Nat) (j : Nat) : Int := ((telR k)[j]!).1
def tlH (k : Nat) (j : Nat) : Int := ((telR k)[j]!).2.1
def tlM (k : Nat) (j : Nat) : Int := ((telR k)[j]!).2.2
def tlS (k : Nat) : Int → Int → Int := sndV (tlN k) (tlA k) (tlH k) (tlM k)
def tlR (k i j : Nat) : Bool := akS 2 ((k : Int) + 1) 2 (psL (tlS k) (relB k 2)) i j
def tlB (k : Nat) : Bool := losE k (tlN k) (tlA k) (tlH k) (tlM k) == 0 && exErr k (tlN k) (tlA k) (tlH k) (tlM k) == 0 && ((List.range 2).all fun r => (List.range (k + 1)).all fun t =>
  comE 2 1 ((k : Int) + 1) 2 (lT (relB k 2)) (fun _ _ => 2) (lT (relB k 2)) (lF (relB k 2)) r t 0 == 0 &&
  tlR k (posP ((k : Int) + 1) r t) (posP ((k : Int) + 1) r t) &&
  (if t = 0 then tlR k (posP ((k : Int) + 1) r t) (posP ((k : Int) + 1) (1 - r : Nat) t) && (facK (lF (relB k 2)) 2 ((k : Int) + 1) 0 (posP ((k : Int) + 1) r t) != facK (lF (relB k 2)) 2 ((k : Int) + 1) 0 (posP ((k : Int) + 1) (1 - r : Nat) t))
   else (List.range (2 * (k + 1))).all fun j => !tlR k (posP ((k : Int) + 1) r t) j || j == posP ((k : Int) + 1) r t))
set_option maxRecDepth 100000
theorem tl0 : tlB 0 = true := by kernel_rfl
theorem tl1 : tlB 1 = true := by kernel_rfl
theorem tl2 : tlB 2 = true := by kernel_rfl
theorem tl3 : tlB 3 = true := by kernel_rfl
theorem tl4 : tlB 4 = true := by kernel_rfl
theorem tl_ok {k : Nat} (hk : k ≤ 4) : tlB k = true := by
  have : k = 0 ∨ k = 1 ∨ k = 2 ∨ k = 3 ∨ k = 4 := by omega
  rcases this with rfl | rfl | rfl | rfl | rfl
  · exact tl0
  · exact tl1
  · exact tl2
  · exact tl3
  · exact tl4
theorem tl_err {k : Nat} (hk : k ≤ 4) : losE k (tlN k) (tlA k) (tlH k) (tlM k) = 0 ∧ exErr k (tlN k) (tlA k) (tlH k) (tlM k) = 0 := by
  have h := tl_ok hk
  unfold tlB at h
  simp only [Bool.and_eq_true, beq_iff_eq] at h
  exact h.1
theorem tl_lt {k i j : Nat} (h : tlR k i j = true) : j < 2 * (k + 1) := by
  unfold tlR akS akB at h
  rw [Bool.and_eq_true, decide_eq_true_eq, ptL_len] at h
  have e : ((k : Int) + 1).toNat = k + 1 := by omega
  rw [e] at h
  exact h.1
theorem tl_com {k : Nat} (hk : k ≤ 4) {r t : Nat} (hr : r < 2) (ht : t < k + 1) :
    comE 2 1 ((k : Int) + 1) 2 (lT (relB k 2)) (fun _ _ => 2) (lT (relB k 2)) (lF (relB k 2)) r t 0 = 0 ∧
    comV 2 1 ((k : Int) + 1) 2 (lT (relB k 2)) (fun _ _ => 2) (psL (tlS k) (relB k 2)) (lT (relB k 2)) (lF (relB k 2)) r t 0 = decide ((0 : Int) < (t : Int)) := by
  have h := tl_ok hk
  unfold tlB at h
  rw [Bool.and_eq_true] at h
  have h1 := List.all_eq_true.1 h.2 r (List.mem_range.2 hr)
  have h2 := List.all_eq_true.1 h1 t (List.mem_range.2 ht)
  rw [Bool.and_eq_true, Bool.and_eq_true, beq_iff_eq] at h2
  obtain ⟨⟨hE, hs⟩, h3⟩ := h2
  have hl : ((k : Int) + 1).toNat = k + 1 := by omega
  have hpos : ∀ x : Nat, posP ((k : Int) + 1) (x : Nat) (t : Nat) = x * (k + 1) + t := fun x => by
    unfold posP
    rw [hl]
    rfl
  have hlt : ∀ x : Nat, x < 2 → posP ((k : Int) + 1) (x : Nat) (t : Nat) < 2 * ((k : Int) + 1).toNat := fun x hx => by
    rw [hpos, hl]
    exact pos_lt hx (by omega)
  refine ⟨hE, ?_⟩
  by_cases h0 : t = 0
  · rw [if_pos h0, Bool.and_eq_true] at h3
    rw [decide_eq_false (by omega)]
    exact comV_two (hlt r hr) (hlt (1 - r) (by omega)) hs h3.1 h3.2
  · rw [if_neg h0] at h3
    rw [decide_eq_true (by omega)]
    refine comV_one hE (hlt r hr) hs fun j hj => ?_
    have := List.all_eq_true.1 h3 j (List.mem_range.2 (tl_lt hj))
    rw [show tlR k (posP ((k : Int) + 1) r t) j = true from hj] at this
    simpa using this
end Go.Proofs.Ytahaimecchdfeaa
