/-
  Texts of this claim, one after the other: what each proves is said at its head. No condition beyond those that its theorems name.
-/
import Derived.Test.YtahaimecchdfeaaProg
import Derived.Deep.DeepCutAuto
import Derived.Deep.RegionHeld3
import Derived.Test.YtahaimecchdfeaaH01
import Derived.Test.YtahaimecchdfeaaH02
import Derived.Test.YtahaimecchdfeaaH03
import Derived.Test.YtahaimecchdfeaaH06
import Derived.Test.YtahaimecchdfeaaH09
import Derived.Test.YtahaimecchdfeaaH12
import Derived.Test.YtahaimecchdfeaaH15
import Derived.Test.YtahaimecchdfeaaH19
import Derived.Test.YtahaimecchdfeaaH22
import Derived.Test.YtahaimecchdfeaaH23
import Derived.Test.YtahaimecchdfeaaH24

/-
  Plain facts of layer 54: the runs of the lossy channel obey the protocol; runs that a call owns, read.
-/
namespace Go.Proofs.Ytahaimecchdfeaa
open Go.RowKit

theorem gen_mem {snd : Int → Int → Int} {bit : Int} : ∀ (d : Nat) (l x : List Int), (∀ k, k < l.length → 0 ≤ lf l k ∧ lf l k ≤ 3) → x ∈ gen snd bit d l → x.length = l.length + d ∧ ∀ k, k < x.length → 0 ≤ lf x k ∧ lf x k ≤ 3
  | 0, l, x, hl, h => by
    unfold gen at h
    have : x = l := by simpa using h
    subst this
    exact ⟨rfl, hl⟩
  | d + 1, l, x, hl, h => by
    unfold gen at h
    rw [List.mem_flatMap] at h
    obtain ⟨y, hy, h⟩ := h
    split at h
    · have hy3 : 0 ≤ y ∧ y ≤ 3 := by
        simp only [List.mem_cons, List.not_mem_nil, or_false] at hy
        omega
      have := gen_mem d (l ++ [y]) x (by rw [List.length_append]; exact lf_snoc hl hy3) h
      refine ⟨?_, this.2⟩
      rw [this.1, List.length_append]; simp; omega
    · cases h
theorem los_mem {snd : Int → Int → Int} {T : Nat} {p : Int × List Int} (h : p ∈ losRs snd T) : (p.1 = 0 ∨ p.1 = 1) ∧ p.2.length = T ∧ ∀ k, k < T → 0 ≤ lf p.2 k ∧ lf p.2 k ≤ 3 := by
  have key : ∀ bit rs, p ∈ genT snd bit T [] rs → p ∈ rs ∨ (p.1 = bit ∧ p.2.length = T ∧ ∀ k, k < T → 0 ≤ lf p.2 k ∧ lf p.2 k ≤ 3) := fun bit rs h => by
    unfold genT at h
    have h := List.mem_of_mem_take h
    rw [List.mem_append, List.mem_map] at h
    rcases h with h | ⟨x, hx, rfl⟩
    · exact .inl h
    · have := gen_mem T [] x (fun k hk => absurd hk (Nat.not_lt_zero _)) hx
      have e : x.length = T := by rw [this.1]; simp
      exact .inr ⟨rfl, e, fun k hk => this.2 k (by rw [e]; exact hk)⟩
  unfold losRs at h
  rcases key 1 _ h with h | h
  · rcases key 0 _ h with h | h
    · cases h
    · exact ⟨.inl h.1, h.2⟩
  · exact ⟨.inr h.1, h.2⟩
theorem rule_range {R : Int} {fa fh fm : Nat → Int} {k : Nat} (h : rulE R fa fh fm k = 0) : 1 ≤ fm k ∧ fm k ≤ 3 := by
  unfold rulE at h
  by_cases h1 : 0 ≤ tmV (fa k) (fh k) ∧ tmV (fa k) (fh k) < R ∧ 1 ≤ fm k ∧ fm k ≤ 3
  · exact h1.2.2
  · rw [if_neg h1] at h; cases h
theorem firstErr_all {n : Nat} {f : Nat → Nat} (h : firstErr n f = 0) : ∀ k, k < n → f k = 0 := by
  induction n with
  | zero => exact fun k hk => absurd hk (Nat.not_lt_zero _)
  | succ n ih =>
    intro k hk
    unfold firstErr at h
    by_cases h0 : firstErr n f = 0
    · rcases Nat.lt_succ_iff_lt_or_eq.1 hk with h1 | rfl
      · exact ih h0 k h1
      · simp [h0] at h; exact h
    · simp [h0] at h
theorem snd_range {R : Int} {n : Nat} {fa fh fm : Nat → Int} (h : exErr R n fa fh fm = 0) (a x : Int) : 0 ≤ sndV n fa fh fm a x ∧ sndV n fa fh fm a x ≤ 3 := by
  have hall : ∀ k, k < n → 1 ≤ fm k ∧ fm k ≤ 3 := by
    unfold exErr at h
    split at h
    · split at h
      · exact fun k hk => rule_range (firstErr_all h k hk)
      · cases h
    · cases h
  have key : ∀ m, m ≤ n → 0 ≤ (sndP m fa fh fm a x).getD 0 ∧ (sndP m fa fh fm a x).getD 0 ≤ 3 := fun m => by
    induction m with
    | zero => exact fun _ => ⟨Int.le_refl _, by show (0 : Int) ≤ 3; decide⟩
    | succ m ih =>
      intro hm
      have ih := ih (by omega)
      unfold sndP
      cases hp : sndP m fa fh fm a x with
      | some z => rw [hp] at ih; exact ih
      | none =>
        by_cases hy : fa m = a ∧ fh m = x
        · rw [if_pos hy]
          have := hall m (by omega)
          show 0 ≤ fm m ∧ fm m ≤ 3
          omega
        · rw [if_neg hy]; exact ⟨Int.le_refl _, by show (0 : Int) ≤ 3; decide⟩
  exact key n (Nat.le_refl _)
theorem tm_at1 {h k : Nat} (hk : k ≤ 5) (h4 : h / 4 ^ k = 4) : tmV 1 (h : Int) = k := by
  have hle : h / 4 ^ k ≤ h := Nat.div_le_self _ _
  have h0 : tmV 1 (h : Int) = tmN 1 h := by
    have : ¬ ((1 : Int) < 0 ∨ (1 : Int) < 1 ∨ (h : Int) < 4) := by omega
    unfold tmV; rw [if_neg this]; rfl
  have hb : ∀ s, s < k → 6 ≤ h / 4 ^ s := fun s hs => by
    obtain ⟨d, rfl⟩ : ∃ d, k = s + 1 + d := ⟨k - s - 1, by omega⟩
    have h1 := div_pow_le h (s + 1) d
    have h2 := div_pow_succ h s
    generalize h / 4 ^ (s + 1 + d) = x at h1 h4
    generalize h / 4 ^ (s + 1) = y at h1 h2
    generalize h / 4 ^ s = z at h2 ⊢
    omega
  rw [h0, tm_end rfl (by omega) hb, if_pos ⟨.inl h4, hk⟩]
/-- The second agent's histories begin with 4. -/
theorem second_four {snd : Int → Int → Int} {bit : Int} {lost : Nat → Int} (hs : ∀ a h, 0 ≤ snd a h ∧ snd a h ≤ 3) : ∀ k : Nat, ∃ y : Nat, (rrS snd bit lost k).2 = y ∧ y / 4 ^ k = 4
  | 0 => ⟨4, rfl, by simp⟩
  | k + 1 => by
    obtain ⟨y, hy, h4⟩ := second_four (bit := bit) (lost := lost) hs k
    obtain ⟨v, hv⟩ : ∃ v, v = (if lost k % 2 = 1 then 0 else snd 0 (rrS snd bit lost k).1) := ⟨_, rfl⟩
    have hv3 : 0 ≤ v ∧ v ≤ 3 := by
      rw [hv]
      have := hs 0 (rrS snd bit lost k).1
      split
      · omega
      · exact this
    refine ⟨4 * y + v.toNat, ?_, by rw [div_step (by omega)]; exact h4⟩
    show 4 * (rrS snd bit lost k).2 + (if lost k % 2 = 1 then 0 else snd 0 (rrS snd bit lost k).1) = _
    rw [← hv, hy]; omega
/-- In each run an agent receives what the other one sends, or nothing. -/
theorem obey {snd : Int → Int → Int} {bit : Int} {lost : Nat → Int} {T k : Nat} (hs : ∀ a h, 0 ≤ snd a h ∧ snd a h ≤ 3) (hb : 0 ≤ bit ∧ bit ≤ 1) (hl : ∀ k, k < T → 0 ≤ lost k ∧ lost k ≤ 3) (hk : k + 1 ≤ T) (hT : T ≤ 4) :
    (runL snd bit lost (k + 1) 0 - 4 * runL snd bit lost k 0 = 0 ∨ runL snd bit lost (k + 1) 0 - 4 * runL snd bit lost k 0 = snd 1 (runL snd bit lost k 1)) ∧
    (runL snd bit lost (k + 1) 1 - 4 * runL snd bit lost k 1 = 0 ∨ runL snd bit lost (k + 1) 1 - 4 * runL snd bit lost k 1 = snd 0 (runL snd bit lost k 0)) ∧
    0 ≤ tmV 0 (runL snd bit lost k 0) ∧ 0 ≤ tmV 1 (runL snd bit lost k 1) := by
  obtain ⟨e0, x, y, hx, hy, hx4, hy4⟩ := run_same hs hb hl k (by omega) (by omega)
  obtain ⟨e1, -⟩ := run_same hs hb hl (k + 1) hk (by omega)
  obtain ⟨y', hy', hy44⟩ := second_four (bit := bit) (lost := lost) hs k
  have hyy : y' = y := by omega
  subst hyy
  unfold runL
  rw [e0, e1]
  have r1 : (rrS snd bit lost (k + 1)).1 = 4 * (rrS snd bit lost k).1 + (if lost k / 2 = 1 then 0 else snd 1 (rrS snd bit lost k).2) := rfl
  have r2 : (rrS snd bit lost (k + 1)).2 = 4 * (rrS snd bit lost k).2 + (if lost k % 2 = 1 then 0 else snd 0 (rrS snd bit lost k).1) := rfl
  simp only [if_true, show (1 : Nat) = 0 ↔ False from by decide, if_false]
  refine ⟨?_, ?_, ?_, ?_⟩
  · rw [r1]; split <;> omega
  · rw [r2]; split <;> omega
  · rw [hx, tm_at (by omega) hx4]; omega
  · rw [hy, tm_at1 (by omega) hy44]; omega
/-! ### runs that a call owns, read -/
def ppR (ps : List (Int × List Int)) (i : Nat) : Int × List Int := ps.getD i (0, [])
theorem ppR_mem {ps : List (Int × List Int)} {i : Nat} (h : i < ps.length) : ppR ps i ∈ ps := by
  unfold ppR; rw [List.getD_eq_getElem?_getD, List.getElem?_eq_getElem h]; exact List.getElem_mem _
theorem los_read {w : World} {base : Nat} {vR : Value} {snd : Int → Int → Int} {ps : List (Int × List Int)} (h : RunsO w base vR (ps.map (mkR snd))) (hl : ∀ p, p ∈ ps → p.2.length ≤ 60000 ∧ p.1.toNat < 18446744073709551616) :
    ∃ A c, vR = .slice A ps.length c ∧ RunsR w A ps.length (fun i => (ppR ps i).2.length + 1) (fun _ _ => 2) (fun i => runL snd (ppR ps i).1 (lf (ppR ps i).2)) (fun i => (ppR ps i).2.length + 1) (fun i _ => (ppR ps i).1.toNat) := by
  obtain ⟨rows, ho, hr⟩ := h
  rw [List.length_map] at ho
  obtain ⟨A, c, rfl, hc⟩ := own_form' ho
  refine ⟨A, c, rfl, fun i hi => ?_⟩
  have hp := hl _ (ppR_mem hi)
  obtain ⟨u, v, e1, e2, hd⟩ := hr i (mkR snd (ppR ps i)) (by rw [List.getElem?_map, List.getElem?_eq_getElem hi]; unfold ppR; rw [List.getD_eq_getElem?_getD, List.getElem?_eq_getElem hi]; rfl)
  obtain ⟨b, rfl, -, -, h1⟩ := hc (i * 2) (by omega)
  obtain ⟨b', hb, -, -, h2⟩ := hc (i * 2 + 1) (by omega)
  injection hb with hb
  injection hb with hb _ _
  subst hb
  exact ⟨b, 0, u, v, rfl, by rw [Nat.zero_add]; exact h1.trans e1, by rw [Nat.zero_add]; exact h2.trans e2, by show (ppR ps i).2.length + 1 ≤ 65536; omega, by show (ppR ps i).2.length + 1 ≤ 65536; omega, RunO.read hd (fun _ _ => by show 2 ≤ _; decide) (fun t j _ _ => runL_range _ _ _ _ _) (fun _ _ => hp.2)⟩
end Go.Proofs.Ytahaimecchdfeaa

/-
  Plain facts of layer 54: the reference's way through all lists of masks leaves the runs that the program lists.
-/
namespace Go.Proofs.Ytahaimecchdfeaa
open Go.RowKit

/-- All lists of masks that begin with a list, with so many rounds left. -/
def allL : Nat → List Int → List (List Int)
  | 0, l => [l]
  | d + 1, l => ([0, 2, 1, 3] : List Int).flatMap fun x => allL d (l ++ [x])
theorem allL_snoc : ∀ (d : Nat) (l : List Int), allL (d + 1) l = (allL d l).flatMap fun x => ([0, 2, 1, 3] : List Int).map fun y => x ++ [y]
  | 0, _ => by simp [allL]
  | d + 1, l => by
    show ([0, 2, 1, 3] : List Int).flatMap (fun x => allL (d + 1) (l ++ [x])) = (([0, 2, 1, 3] : List Int).flatMap fun x => allL d (l ++ [x])).flatMap _
    rw [List.flatMap_assoc]
    congr 1
    funext x
    exact allL_snoc d (l ++ [x])
theorem mask_mem {y : Int} : y ∈ ([0, 2, 1, 3] : List Int) ↔ 0 ≤ y ∧ y ≤ 3 := by
  simp only [List.mem_cons, List.not_mem_nil, or_false]; omega
theorem allL_mem : ∀ (d : Nat) (l x : List Int), x ∈ allL d l ↔ ∃ s, x = l ++ s ∧ s.length = d ∧ ∀ y, y ∈ s → 0 ≤ y ∧ y ≤ 3
  | 0, l, x => by
    constructor
    · intro h
      have : x = l := by simpa [allL] using h
      exact ⟨[], by simp [this], rfl, fun _ h => by cases h⟩
    · rintro ⟨s, rfl, hs, -⟩
      rw [List.eq_nil_of_length_eq_zero hs]; simp [allL]
  | d + 1, l, x => by
    constructor
    · intro h
      rw [allL, List.mem_flatMap] at h
      obtain ⟨y, hy, h⟩ := h
      obtain ⟨s, rfl, hs, hr⟩ := (allL_mem d (l ++ [y]) x).1 h
      refine ⟨y :: s, by simp, by simp [hs], fun z hz => ?_⟩
      rcases List.mem_cons.1 hz with rfl | hz
      · exact mask_mem.1 hy
      · exact hr z hz
    · rintro ⟨s, rfl, hs, hr⟩
      cases s with
      | nil => cases hs
      | cons y s =>
        rw [allL, List.mem_flatMap]
        refine ⟨y, mask_mem.2 (hr y (by simp)), (allL_mem d (l ++ [y]) _).2 ⟨s, by simp, by simpa using hs, fun z hz => hr z (by simp [hz])⟩⟩
theorem lf_in {x : List Int} (h : ∀ y, y ∈ x → 0 ≤ y ∧ y ≤ 3) : ∀ k, 0 ≤ lf x k ∧ lf x k ≤ 3 := fun k => by
  unfold lf
  rw [List.getD_eq_getElem?_getD]
  by_cases hk : k < x.length
  · rw [List.getElem?_eq_getElem hk]; exact h _ (List.getElem_mem _)
  · rw [List.getElem?_eq_none (by omega)]; simp
theorem all_mem {T : Nat} {x : List Int} (h : x ∈ allL T []) : x.length = T ∧ ∀ k, 0 ≤ lf x k ∧ lf x k ≤ 3 := by
  obtain ⟨s, rfl, hs, hr⟩ := (allL_mem T [] x).1 h
  exact ⟨hs, lf_in hr⟩
theorem lf_left {a b : List Int} {k : Nat} (h : k < a.length) : lf (a ++ b) k = lf a k := by
  unfold lf; simp [List.getD_eq_getElem?_getD, List.getElem?_append_left h]
theorem lf_mid (a : List Int) (x : Int) (b : List Int) : lf (a ++ [x] ++ b) a.length = x := by
  unfold lf; simp [List.getD_eq_getElem?_getD]
theorem runS_congr {snd : Int → Int → Int} {bit : Int} {l l' : Nat → Int} : ∀ k, (∀ j, j < k → l j = l' j) → runS snd bit l k = runS snd bit l' k
  | 0, _ => rfl
  | k + 1, h => by
    have := runS_congr (snd := snd) (bit := bit) k fun j hj => h j (by omega)
    simp only [runS]
    rw [this, h k (by omega)]
theorem runW_congr {snd : Int → Int → Int} {bit : Int} {l l' : Nat → Int} {k : Nat} (h : ∀ j, j < k → l j = l' j) : runW snd bit l k = runW snd bit l' k := by
  unfold runW; rw [runS_congr k h]
/-- Whether masks lose only messages that are sent, from a round on. -/
def okB (snd : Int → Int → Int) (bit : Int) (t : Nat) (x : List Int) : Bool := (List.range x.length).all fun k => decide (k < t) || bitsOk (lf x k) (runW snd bit (lf x) k)
theorem okB_iff {snd : Int → Int → Int} {bit : Int} {t : Nat} {x : List Int} : okB snd bit t x = true ↔ ∀ k, t ≤ k → k < x.length → bitsOk (lf x k) (runW snd bit (lf x) k) = true := by
  unfold okB
  simp only [List.all_eq_true, List.mem_range, Bool.or_eq_true, decide_eq_true_eq]
  constructor
  · intro h k h1 h2
    rcases h k h2 with h | h
    · omega
    · exact h
  · intro h k h2
    by_cases h1 : k < t
    · exact .inl h1
    · exact .inr (h k (by omega) h2)
theorem gen_filter {snd : Int → Int → Int} {bit : Int} : ∀ (d : Nat) (l : List Int), gen snd bit d l = (allL d l).filter (okB snd bit l.length)
  | 0, l => by
    have h : okB snd bit l.length l = true := okB_iff.2 fun k h1 h2 => by omega
    rw [allL, gen, List.filter_cons_of_pos h]; rfl
  | d + 1, l => by
    rw [allL, gen, List.filter_flatMap]
    congr 1
    funext x
    have hz : ∀ z, z ∈ allL d (l ++ [x]) → okB snd bit l.length z = (bitsOk x (runW snd bit (lf (l ++ [0])) l.length) && okB snd bit (l ++ [x]).length z) := fun z hz => by
      obtain ⟨s, rfl, hs, -⟩ := (allL_mem d (l ++ [x]) z).1 hz
      have e1 := lf_mid l x s
      have e2 : runW snd bit (lf (l ++ [x] ++ s)) l.length = runW snd bit (lf (l ++ [0])) l.length := runW_congr fun j hj => by
        rw [List.append_assoc, lf_left hj, lf_left hj]
      rw [Bool.eq_iff_iff, Bool.and_eq_true, okB_iff, okB_iff]
      constructor
      · intro h
        refine ⟨?_, fun k h1 h2 => h k (by rw [List.length_append] at h1; omega) h2⟩
        have := h l.length (Nat.le_refl _) (by simp)
        rw [e1, e2] at this; exact this
      · rintro ⟨h0, h⟩ k h1 h2
        by_cases hk : k = l.length
        · rw [hk, e1, e2]; exact h0
        · exact h k (by simp; omega) h2
    cases hb : bitsOk x (runW snd bit (lf (l ++ [0])) l.length)
    · rw [if_neg (by simp)]
      symm
      rw [List.filter_eq_nil_iff]
      intro z h
      rw [hz z h, hb]; simp
    · rw [if_pos rfl, gen_filter d (l ++ [x])]
      refine List.filter_congr fun z h => ?_
      rw [hz z h, hb]; rfl

/-- The steps of a run, for messages in range. -/
theorem run_stp {snd : Int → Int → Int} {bit : Int} {lost : Nat → Int} {T k : Nat} (hs : ∀ a h, 0 ≤ snd a h ∧ snd a h ≤ 3) (hb : 0 ≤ bit ∧ bit ≤ 1) (hl : ∀ k, k < T → 0 ≤ lost k ∧ lost k ≤ 3) (hk : k < T) (hT : T ≤ 4) :
    (runS snd bit lost (k + 1)).1 = 4 * (runS snd bit lost k).1 + (if lost k / 2 = 1 then 0 else snd 1 (runS snd bit lost k).2) ∧ (runS snd bit lost (k + 1)).2 = 4 * (runS snd bit lost k).2 + (if lost k % 2 = 1 then 0 else snd 0 (runS snd bit lost k).1) := by
  rw [(run_same hs hb hl (k + 1) hk (by omega)).1, (run_same hs hb hl k (by omega) (by omega)).1]
  exact ⟨rfl, rfl⟩

/-! ### the order of the lists -/
def rank (x : Int) : Nat := if x = 0 then 0 else if x = 2 then 1 else if x = 1 then 2 else 3
def LtL (a b : List Int) : Prop := ∃ k, (∀ j, j < k → lf a j = lf b j) ∧ rank (lf a k) < rank (lf b k)
theorem LtL.irrefl {a : List Int} : ¬ LtL a a := fun ⟨_, _, h⟩ => Nat.lt_irrefl _ h
theorem LtL.asymm {a b : List Int} : LtL a b → ¬ LtL b a := by
  rintro ⟨k, h1, h2⟩ ⟨m, h3, h4⟩
  rcases Nat.lt_trichotomy k m with h | h | h
  · rw [h3 k h] at h2; omega
  · subst h; omega
  · rw [h1 m h] at h4; omega
theorem allL_sorted : ∀ (d : Nat) (l : List Int), (allL d l).Pairwise LtL
  | 0, l => by simp [allL]
  | d + 1, l => by
    rw [allL, List.pairwise_flatMap]
    refine ⟨fun x _ => allL_sorted d (l ++ [x]), ?_⟩
    have key : ∀ x y : Int, rank x < rank y → ∀ a, a ∈ allL d (l ++ [x]) → ∀ b, b ∈ allL d (l ++ [y]) → LtL a b := fun x y hxy a ha b hb => by
      obtain ⟨s, rfl, -, -⟩ := (allL_mem d (l ++ [x]) a).1 ha
      obtain ⟨s', rfl, -, -⟩ := (allL_mem d (l ++ [y]) b).1 hb
      refine ⟨l.length, fun j hj => by rw [List.append_assoc, List.append_assoc, lf_left hj, lf_left hj], ?_⟩
      rw [lf_mid, lf_mid]; exact hxy
    simp only [List.pairwise_cons, List.mem_cons, List.not_mem_nil, or_false, forall_eq_or_imp, forall_eq, List.Pairwise.nil, and_true, false_implies, implies_true]
    exact ⟨⟨key 0 2 (by decide), key 0 1 (by decide), key 0 3 (by decide)⟩, ⟨key 2 1 (by decide), key 2 3 (by decide)⟩, key 1 3 (by decide)⟩

/-! ### masks without what is not sent -/
def rst (x w : Int) : Int := (if x % 2 = 1 ∧ w % 2 = 1 then 1 else 0) + (if x / 2 = 1 ∧ w / 2 = 1 then 2 else 0)
theorem rst_facts {x w : Int} (hx : 0 ≤ x ∧ x ≤ 3) (hw : 0 ≤ w ∧ w ≤ 3) : bitsOk (rst x w) w = true ∧ (0 ≤ rst x w ∧ rst x w ≤ 3) ∧ (rst x w = x ∨ rank (rst x w) < rank x) ∧ (bitsOk x w = true → rst x w = x)
    ∧ (losB (rst x w) 0 = true ↔ losB x 0 = true ∧ w % 2 = 1) ∧ (losB (rst x w) 1 = true ↔ losB x 1 = true ∧ w / 2 = 1) ∧ (bitsOk x w = true → (x % 2 = 1 → w % 2 = 1) ∧ (x / 2 = 1 → w / 2 = 1)) := by
  have h1 : x = 0 ∨ x = 1 ∨ x = 2 ∨ x = 3 := by omega
  have h2 : w = 0 ∨ w = 1 ∨ w = 2 ∨ w = 3 := by omega
  rcases h1 with rfl | rfl | rfl | rfl <;> rcases h2 with rfl | rfl | rfl | rfl <;> decide
theorem whoV_bits {p q : Int} : (whoV p q % 2 = 1 ↔ 0 < p) ∧ (whoV p q / 2 = 1 ↔ 0 < q) := by
  unfold whoV
  by_cases h1 : 0 < p <;> by_cases h2 : 0 < q <;> simp [h1, h2]
def nrm (snd : Int → Int → Int) (bit : Int) (x : List Int) : List Int := (List.range x.length).map fun k => rst (lf x k) (runW snd bit (lf x) k)
theorem nrm_len {snd : Int → Int → Int} {bit : Int} {x : List Int} : (nrm snd bit x).length = x.length := by simp [nrm]
theorem lf_nrm {snd : Int → Int → Int} {bit : Int} {x : List Int} {k : Nat} (h : k < x.length) : lf (nrm snd bit x) k = rst (lf x k) (runW snd bit (lf x) k) := by
  unfold nrm; rw [lf]; simp [List.getD_eq_getElem?_getD, h]
theorem nrm_run {snd : Int → Int → Int} {bit : Int} {x : List Int} (hs : ∀ a h, 0 ≤ snd a h ∧ snd a h ≤ 3) (hx : ∀ k, 0 ≤ lf x k ∧ lf x k ≤ 3) : ∀ k, k ≤ x.length → runS snd bit (lf (nrm snd bit x)) k = runS snd bit (lf x) k
  | 0, _ => rfl
  | k + 1, hk => by
    have ih := nrm_run (bit := bit) hs hx k (by omega)
    simp only [runS]
    rw [ih, lf_nrm (by omega)]
    have hf := rst_facts (hx k) (runW_range snd bit (lf x) k)
    have hw := whoV_bits (p := snd 0 (runS snd bit (lf x) k).1) (q := snd 1 (runS snd bit (lf x) k).2)
    have e1 : (if losB (rst (lf x k) (runW snd bit (lf x) k)) 1 then 0 else snd 1 (runS snd bit (lf x) k).2) = (if losB (lf x k) 1 then 0 else snd 1 (runS snd bit (lf x) k).2) := by
      by_cases h : losB (rst (lf x k) (runW snd bit (lf x) k)) 1 = true
      · rw [if_pos h, if_pos (hf.2.2.2.2.2.1.1 h).1]
      · rw [if_neg h]
        by_cases h2 : losB (lf x k) 1 = true
        · rw [if_pos h2]
          have h3 : ¬ 0 < snd 1 (runS snd bit (lf x) k).2 := fun h3 => h (hf.2.2.2.2.2.1.2 ⟨h2, hw.2.2 h3⟩)
          have := (hs 1 (runS snd bit (lf x) k).2).1
          omega
        · rw [if_neg h2]
    have e0 : (if losB (rst (lf x k) (runW snd bit (lf x) k)) 0 then 0 else snd 0 (runS snd bit (lf x) k).1) = (if losB (lf x k) 0 then 0 else snd 0 (runS snd bit (lf x) k).1) := by
      by_cases h : losB (rst (lf x k) (runW snd bit (lf x) k)) 0 = true
      · rw [if_pos h, if_pos (hf.2.2.2.2.1.1 h).1]
      · rw [if_neg h]
        by_cases h2 : losB (lf x k) 0 = true
        · rw [if_pos h2]
          have h3 : ¬ 0 < snd 0 (runS snd bit (lf x) k).1 := fun h3 => h (hf.2.2.2.2.1.2 ⟨h2, hw.1.2 h3⟩)
          have := (hs 0 (runS snd bit (lf x) k).1).1
          omega
        · rw [if_neg h2]
    rw [e1, e0]
theorem lf_ext {x y : List Int} (h : x.length = y.length) (e : ∀ k, k < x.length → lf x k = lf y k) : x = y := by
  apply List.ext_getElem h
  intro k h1 h2
  have := e k h1
  unfold lf at this
  rw [List.getD_eq_getElem?_getD, List.getD_eq_getElem?_getD, List.getElem?_eq_getElem h1, List.getElem?_eq_getElem h2] at this
  exact this
theorem nrm_ok {snd : Int → Int → Int} {bit : Int} {x : List Int} (hs : ∀ a h, 0 ≤ snd a h ∧ snd a h ≤ 3) (hx : ∀ k, 0 ≤ lf x k ∧ lf x k ≤ 3) : okB snd bit 0 (nrm snd bit x) = true := by
  rw [okB_iff]
  intro k _ hk
  rw [nrm_len] at hk
  have e : runW snd bit (lf (nrm snd bit x)) k = runW snd bit (lf x) k := by unfold runW; rw [nrm_run hs hx k (by omega)]
  rw [lf_nrm hk, e]
  exact (rst_facts (hx k) (runW_range snd bit (lf x) k)).1
theorem nrm_lt {snd : Int → Int → Int} {bit : Int} {x : List Int} (hx : ∀ k, 0 ≤ lf x k ∧ lf x k ≤ 3) (hn : okB snd bit 0 x = false) : LtL (nrm snd bit x) x := by
  -- the first place at which something is lost that is not sent
  have key : ∀ n, n ≤ x.length → (∀ k, k < n → lf (nrm snd bit x) k = lf x k) ∨ LtL (nrm snd bit x) x := fun n => by
    induction n with
    | zero => intro _; exact .inl fun _ h => by omega
    | succ n ih =>
      intro hn
      rcases ih (by omega) with h | h
      · rcases (rst_facts (hx n) (runW_range snd bit (lf x) n)).2.2.1 with h1 | h1
        · refine .inl fun k hk => ?_
          rcases Nat.lt_succ_iff_lt_or_eq.1 hk with h2 | rfl
          · exact h k h2
          · rw [lf_nrm (by omega), h1]
        · exact .inr ⟨n, h, by rw [lf_nrm (by omega)]; exact h1⟩
      · exact .inr h
  rcases key x.length (Nat.le_refl _) with h | h
  · exfalso
    have : okB snd bit 0 x = true := by
      rw [okB_iff]
      intro k _ hk
      have h1 := (rst_facts (hx k) (runW_range snd bit (lf x) k)).1
      rw [← lf_nrm hk, h k hk] at h1
      exact h1
    rw [this] at hn; cases hn
  · exact h
theorem ok_inj {snd : Int → Int → Int} {bit : Int} {x y : List Int} {T : Nat} (hs : ∀ a h, 0 ≤ snd a h ∧ snd a h ≤ 3) (hb : 0 ≤ bit ∧ bit ≤ 1) (hT : T ≤ 4) (hx : ∀ k, 0 ≤ lf x k ∧ lf x k ≤ 3) (hy : ∀ k, 0 ≤ lf y k ∧ lf y k ≤ 3)
    (lx : x.length = T) (ly : y.length = T) (ox : okB snd bit 0 x = true) (oy : okB snd bit 0 y = true) (hr : ∀ t, t ≤ T → runS snd bit (lf x) t = runS snd bit (lf y) t) : x = y := by
  refine lf_ext (lx.trans ly.symm) fun k hk => ?_
  rw [lx] at hk
  have s1 := run_stp (snd := snd) (bit := bit) (lost := lf x) (T := T) hs hb (fun k _ => hx k) hk hT
  have s2 := run_stp (snd := snd) (bit := bit) (lost := lf y) (T := T) hs hb (fun k _ => hy k) hk hT
  rw [hr (k + 1) hk, hr k (by omega)] at s1
  rw [okB_iff] at ox oy
  have o1 := ox k (Nat.zero_le _) (by omega)
  have o2 := oy k (Nat.zero_le _) (by omega)
  have ew : runW snd bit (lf x) k = runW snd bit (lf y) k := by unfold runW; rw [hr k (by omega)]
  rw [ew] at o1
  have b1 := (rst_facts (hx k) (runW_range snd bit (lf y) k)).2.2.2.2.2.2 o1
  have b2 := (rst_facts (hy k) (runW_range snd bit (lf y) k)).2.2.2.2.2.2 o2
  have hw := whoV_bits (p := snd 0 (runS snd bit (lf y) k).1) (q := snd 1 (runS snd bit (lf y) k).2)
  have h1 := hx k
  have h2 := hy k
  have e1 : lf x k / 2 = lf y k / 2 := by
    have e := s1.1.symm.trans s2.1
    by_cases p : lf x k / 2 = 1
    · have := hw.2.1 (b1.2 p)
      rw [if_pos p] at e
      by_cases q : lf y k / 2 = 1
      · rw [p, q]
      · rw [if_neg q] at e; omega
    · rw [if_neg p] at e
      by_cases q : lf y k / 2 = 1
      · have := hw.2.1 (b2.2 q)
        rw [if_pos q] at e; omega
      · omega
  have e0 : lf x k % 2 = lf y k % 2 := by
    have e := s1.2.symm.trans s2.2
    by_cases p : lf x k % 2 = 1
    · have := hw.1.1 (b1.1 p)
      rw [if_pos p] at e
      by_cases q : lf y k % 2 = 1
      · rw [p, q]
      · rw [if_neg q] at e; omega
    · rw [if_neg p] at e
      by_cases q : lf y k % 2 = 1
      · have := hw.1.1 (b2.1 q)
        rw [if_pos q] at e; omega
      · omega
  omega

/-! ### the runs of both bits -/
def prs (T : Nat) : List (Int × List Int) := (allL T []).map (fun x => (0, x)) ++ (allL T []).map fun x => (1, x)
def okP (snd : Int → Int → Int) (p : Int × List Int) : Bool := okB snd p.1 0 p.2
/-- Two runs are the same. -/
def SamR (snd : Int → Int → Int) (p q : Int × List Int) : Prop := SameP (mkR snd p).n (mkR snd p).m (mkR snd p).L (mkR snd p).k (mkR snd p).F (mkR snd q).n (mkR snd q).m (mkR snd q).L (mkR snd q).k (mkR snd q).F
def LtP (a b : Int × List Int) : Prop := a.1 < b.1 ∨ a.1 = b.1 ∧ LtL a.2 b.2
theorem losRs_eq (snd : Int → Int → Int) (T : Nat) : losRs snd T = ((prs T).filter (okP snd)).take 65 := by
  have e : ∀ b : Int, ((allL T []).map fun x => (b, x)).filter (okP snd) = (gen snd b T []).map fun x => (b, x) := fun b => by
    rw [gen_filter, List.filter_map]; rfl
  unfold losRs genT prs
  rw [List.filter_append, e 0, e 1, List.nil_append, take_take_append]
theorem prs_sorted (T : Nat) : (prs T).Pairwise LtP := by
  unfold prs
  rw [List.pairwise_append, List.pairwise_map, List.pairwise_map]
  refine ⟨(allL_sorted T []).imp fun h => .inr ⟨rfl, h⟩, (allL_sorted T []).imp fun h => .inr ⟨rfl, h⟩, fun a ha b hb => ?_⟩
  rw [List.mem_map] at ha hb
  obtain ⟨_, _, rfl⟩ := ha
  obtain ⟨_, _, rfl⟩ := hb
  exact .inl (by show (0 : Int) < 1; omega)
theorem prs_mem {T : Nat} {p : Int × List Int} : p ∈ prs T ↔ (p.1 = 0 ∨ p.1 = 1) ∧ p.2 ∈ allL T [] := by
  obtain ⟨b, x⟩ := p
  unfold prs
  simp only [List.mem_append, List.mem_map, Prod.mk.injEq]
  constructor
  · rintro (⟨y, h, rfl, rfl⟩ | ⟨y, h, rfl, rfl⟩)
    · exact ⟨.inl rfl, h⟩
    · exact ⟨.inr rfl, h⟩
  · rintro ⟨rfl | rfl, h⟩
    · exact .inl ⟨x, h, rfl, rfl⟩
    · exact .inr ⟨x, h, rfl, rfl⟩
theorem runL_pair {snd : Int → Int → Int} {b : Int} {l l' : Nat → Int} {t : Nat} : (∀ i, i < 2 → runL snd b l t i = runL snd b l' t i) ↔ runS snd b l t = runS snd b l' t := by
  constructor
  · intro h
    exact Prod.ext (h 0 (by omega)) (h 1 (by omega))
  · intro h i _
    unfold runL; rw [h]
theorem los_at {snd : Int → Int → Int} {T i : Nat} {p : Int × List Int} (hs : ∀ a h, 0 ≤ snd a h ∧ snd a h ≤ 3) (hT : T ≤ 4) (hp : (prs T)[i]? = some p) : (∃ q, q ∈ ((prs T).take i).filter (okP snd) ∧ SamR snd q p) ↔ okP snd p = false := by
  obtain ⟨hi, hpi⟩ := List.getElem?_eq_some_iff.1 hp
  have hso := List.pairwise_iff_getElem.1 (prs_sorted T)
  have hpm := prs_mem.1 (List.mem_of_getElem? hp)
  obtain ⟨lp, rp⟩ := all_mem hpm.2
  obtain ⟨b, x⟩ := p
  have hb : 0 ≤ b ∧ b ≤ 1 := by rcases hpm.1 with h | h <;> (simp only at h; omega)
  constructor
  · rintro ⟨q, hq, hsm⟩
    obtain ⟨hq1, hq2⟩ := List.mem_filter.1 hq
    obtain ⟨j, hj, rfl⟩ := List.getElem_of_mem hq1
    rw [List.length_take] at hj
    rw [List.getElem_take] at hq2 hsm
    have hlt := hso j i (by omega) hi (by omega)
    rw [hpi] at hlt
    have hqm := prs_mem.1 (List.getElem_mem (l := prs T) (n := j) (by omega))
    obtain ⟨lq, rq⟩ := all_mem hqm.2
    generalize (prs T)[j]'_ = q at hq2 hsm hlt hqm lq rq
    obtain ⟨b', y⟩ := q
    obtain ⟨h1, -, h2, h3⟩ := hsm
    have eb : b' = b := by
      have h3 : b'.toNat = b.toNat := h3 0 (Nat.succ_pos _)
      have : 0 ≤ b' ∧ b' ≤ 1 := by rcases hqm.1 with h | h <;> (simp only at h; omega)
      omega
    subst eb
    cases ho : okP snd (b', x)
    · rfl
    · exfalso
      have : y = x := ok_inj hs hb hT rq rp lq lp hq2 ho fun t ht => by
        have := (h2 t (by show t < y.length + 1; simp only at lq; omega)).2
        exact runL_pair.1 this
      subst this
      rcases hlt with h | ⟨-, h⟩
      · simp only at h; omega
      · exact LtL.irrefl h
  · intro ho
    have hnl := nrm_len (snd := snd) (bit := b) (x := x)
    have hnr := fun k (hk : k < x.length) => (rst_facts (rp k) (runW_range snd b (lf x) k)).2.1
    have hmem : (b, nrm snd b x) ∈ prs T := prs_mem.2 ⟨hpm.1, (allL_mem T [] _).2 ⟨nrm snd b x, rfl, hnl.trans lp, fun y hy => by
      unfold nrm at hy
      obtain ⟨k, hk, rfl⟩ := List.mem_map.1 hy
      exact hnr k (List.mem_range.1 hk)⟩⟩
    obtain ⟨j, hj, hje⟩ := List.getElem_of_mem hmem
    have hlt := nrm_lt rp ho
    have hji : j < i := by
      rcases Nat.lt_trichotomy j i with h | h | h
      · exact h
      · subst h
        rw [hje] at hpi
        have : nrm snd b x = x := (Prod.mk.inj hpi).2
        rw [this] at hlt
        exact absurd hlt LtL.irrefl
      · have := hso i j hi hj h
        rw [hje, hpi] at this
        rcases this with h | ⟨-, h⟩
        · simp only at h; omega
        · exact absurd h (LtL.asymm hlt)
    refine ⟨(b, nrm snd b x), List.mem_filter.2 ⟨?_, nrm_ok hs rp⟩, ?_⟩
    · rw [← hje]
      exact List.mem_iff_getElem.2 ⟨j, by rw [List.length_take]; omega, by rw [List.getElem_take]⟩
    · refine ⟨by show (nrm snd b x).length + 1 = x.length + 1; rw [hnl], by show (nrm snd b x).length + 1 = x.length + 1; rw [hnl], fun t ht => ⟨rfl, ?_⟩, fun _ _ => rfl⟩
      have ht' : t < (nrm snd b x).length + 1 := ht
      rw [hnl] at ht'
      have ht2 : t ≤ x.length := Nat.le_of_lt_succ ht'
      exact runL_pair.2 (nrm_run hs rp t ht2)
/-- The runs that are left behind the first i lists. -/
def rsAt (snd : Int → Int → Int) (T i : Nat) : List (Int × List Int) := ((prs T).take i).filter (okP snd)
theorem rsAt_yes {snd : Int → Int → Int} {T i : Nat} {p : Int × List Int} (hp : (prs T)[i]? = some p) (ho : okP snd p = true) : rsAt snd T (i + 1) = rsAt snd T i ++ [p] := by
  unfold rsAt
  rw [List.take_add_one, hp, List.filter_append]
  simp [ho]
theorem rsAt_no {snd : Int → Int → Int} {T i : Nat} {p : Int × List Int} (hp : (prs T)[i]? = some p) (ho : okP snd p = false) : rsAt snd T (i + 1) = rsAt snd T i := by
  unfold rsAt
  rw [List.take_add_one, hp, List.filter_append]
  simp [ho]
theorem prs_len (T : Nat) : (prs T).length = (allL T []).length + (allL T []).length := by unfold prs; simp
theorem rsAt_end {snd : Int → Int → Int} {T i : Nat} (h : (rsAt snd T i).length ≤ 64) (hi : (prs T).length ≤ i) : losRs snd T = rsAt snd T i := by
  unfold rsAt at h ⊢
  rw [List.take_of_length_le hi] at h ⊢
  rw [losRs_eq, List.take_of_length_le (by omega)]
theorem rsAt_over {snd : Int → Int → Int} {T i : Nat} (h : 64 < (rsAt snd T i).length) : 64 < (losRs snd T).length := by
  rw [losRs_eq, List.length_take]
  have : (rsAt snd T i).length ≤ ((prs T).filter (okP snd)).length := by
    unfold rsAt
    exact ((List.take_sublist i (prs T)).filter _).length_le
  omega
theorem prs_at {T i b : Nat} {l : List Int} (hb : b < 2) (hl : (allL T [])[i]? = some l) : (prs T)[b * (allL T []).length + i]? = some ((b : Int), l) := by
  have hi := (List.getElem?_eq_some_iff.1 hl).1
  unfold prs
  have h2 : b = 0 ∨ b = 1 := by omega
  rcases h2 with rfl | rfl
  · rw [Nat.zero_mul, Nat.zero_add, List.getElem?_append_left (by simpa using hi), List.getElem?_map, hl]; rfl
  · rw [Nat.one_mul, List.getElem?_append_right (by simp), List.getElem?_map, List.length_map, Nat.add_sub_cancel_left, hl]; rfl
end Go.Proofs.Ytahaimecchdfeaa

/-
  Walks of package attack: Component.
-/
namespace Go.Proofs.Ytahaimecchdfeaa
open Go.RowKit

/-- The number of a point. -/
def posP (l r t : Int) : Nat := r.toNat * l.toNat + t.toNat
/-- The points that are alike, by their numbers. -/
def akS (a l : Int) (n : Nat) (L : Nat → Nat → Nat → Int) : Nat → Nat → Bool := akB a.toNat L (ptL n l.toNat)
theorem SpaceOf.component {w : World} {x : Value} {a f l : Int} {n : Nat} {T : Nat → Nat} {m : Nat → Nat → Nat} {L : Nat → Nat → Nat → Int} {K : Nat → Nat} {F : Nat → Nat → Nat} {bx : Nat} (h : SpaceOf w x a f l n T m L K F bx) {i : Nat} (hi : i < n * l.toNat) :
    Calls Try.prog 42 #[.pointer (some ⟨bx, 0, none⟩), .int .i64 i] w fun e w' => ∃ v, e = .returned v ∧ OwnN w' w.heap.size v (cmpL (akS a l n L) (n * l.toNat) i) ∧ Below w.heap.size w w' := by
  obtain ⟨a', l', A, c, bM, vP, rfl, rfl, -, h⟩ := h
  have := component_any i w bx bM a' l' n c f A T m L K F vP h (by rw [ptL_len]; exact hi)
  unfold akS
  rw [Int.toNat_natCast, Int.toNat_natCast]
  rw [ptL_len] at this
  exact this
theorem SpaceOf.holds {w : World} {x : Value} {a f l : Int} {n : Nat} {T : Nat → Nat} {m : Nat → Nat → Nat} {L : Nat → Nat → Nat → Int} {K : Nat → Nat} {F : Nat → Nat → Nat} {bx : Nat} (h : SpaceOf w x a f l n T m L K F bx) {i fc : Nat} (hi : i < n * l.toNat) (hfc : fc ≤ 8) :
    Calls Try.prog 49 #[.pointer (some ⟨bx, 0, none⟩), .int .i64 i, .int .i64 fc] w fun e w' => e = .returned (.bool (facB2 F (ptG (ptL n l.toNat) i) fc)) ∧ Below w.heap.size w w' := by
  obtain ⟨a', l', A, c, bM, vP, rfl, rfl, -, h⟩ := h
  rw [Int.toNat_natCast] at hi ⊢
  refine holds_any i fc w bx bM a' l' n c f A T m L K F vP h _ ?_ hfc
  rw [ptL_get hi, ptG_get hi]
theorem cmpL_len (R : Nat → Nat → Bool) (N i : Nat) : (cmpL R N i).length ≤ N := by
  unfold cmpL
  refine Nat.le_trans (List.length_filter_le _ _) ?_
  rw [List.length_range]
  exact Nat.le_refl _
/-- The points of a component. -/
noncomputable def cmpP (a f l : Int) (n : Nat) (T : Nat → Nat) (m : Nat → Nat → Nat) (L : Nat → Nat → Nat → Int) (K : Nat → Nat) (F : Nat → Nat → Nat) (r t : Int) : List (Nat × Nat) :=
  if entE a f l n T m K F r t = 0 then (cmpL (akS a l n L) (n * l.toNat) (posP l r t)).map (ptG (ptL n l.toNat)) else []
theorem inP_pos {n : Nat} {l r t : Int} (h : inP n l.toNat r t) : posP l r t < n * l.toNat := by
  obtain ⟨⟨h1, h2⟩, h3, h4⟩ := h
  exact pos_lt (by omega) (by omega)
theorem own_keepRow2 {w w' : World} {base e sz n : Nat} {v : Value} {xs : List Value} (h : w.ownsRow base e sz v n xs) (hb : Below w.heap.size w w') : w'.ownsRow base e sz v n xs := own_keeps h (Keeps.of_below hb _)
set_option maxHeartbeats 4000000 in
set_option maxRecDepth 100000 in
theorem Component_any (x : Value) (a f l : Int) (n : Nat) (T : Nat → Nat) (m : Nat → Nat → Nat) (L : Nat → Nat → Nat → Int) (K : Nat → Nat) (F : Nat → Nat → Nat) (r t : Int) (w : World) (h : SysR w x a f l n T m L K F) (hn : n ≤ 65536) :
    Calls Try.prog 14 #[x, .agg #[.int .i64 r, .int .i64 t]] w fun e w' => ∃ v, e = .returned (.tuple #[v, .int .i64 (entE a f l n T m K F r t : Nat)]) ∧ PnO w' w.heap.size v (cmpP a f l n T m L K F r t) ∧ Below w.heap.size w w' := by
  have HEN := Lib.hid (fun W (h : SysR W x a f l n T m L K F) => enter_any x a f l n T m L K F r t W h hn)
  obtain ⟨A, c, rfl, hR⟩ := h
  obtain ⟨W, hW⟩ : ∃ W, W = (w.alloc (.cells #[.int .i64 a, .int .i64 f, .int .i64 l, .slice A n c] 24)).alloc (.cells #[.int .i64 r, .int .i64 t] 26) := ⟨_, rfl⟩
  obtain ⟨k0, k1, hB⟩ := two_boxes4 w _ _ _ _ W hW
  have HB := Lib.hid hB
  have hEN := HEN.out W ⟨A, c, rfl, hR.below hB⟩
  have d0 := k0.cell (k := 0) rfl
  have d1 := k0.cell (k := 1) rfl
  have d2 := k0.cell (k := 2) rfl
  have d3 := k0.cell (k := 3) rfl
  have p0 := k1.cell (k := 0) rfl
  have p1 := k1.cell (k := 1) rfl
  unfold EnPost at hEN
  have HCP : Hid (∀ v, entE a f l n T m K F r t = 0 → v = (cmpL (akS a l n L) (n * l.toNat) (posP l r t)).map (ptG (ptL n l.toNat)) → cmpP a f l n T m L K F r t = v) := Lib.hid (fun v h e => by unfold cmpP; rw [if_pos h, e])
  have HCN : Hid (entE a f l n T m K F r t ≠ 0 → cmpP a f l n T m L K F r t = []) := Lib.hid (fun h => by unfold cmpP; rw [if_neg h])
  obtain ⟨E, eE⟩ : ∃ E, E = entE a f l n T m K F r t := ⟨_, rfl⟩
  rw [← eE] at hEN HCP HCN ⊢
  have HE1 := Lib.hid hEN
  have HW := Lib.hid hW
  clear hR hW k0 k1 hB hEN HEN eE
  go_enter Try.func14, Try.ntmps14
  go_upto_region 1 with (fail)
  rw [← HW.out]
  go_upto_region 2 with (go_at_call 41; refine HE1.out.mono ?_; rintro e w1 ⟨p, i, rfl, hb1, hok⟩; have HB := Lib.hid (below_trans HB.out hb1); have HOK := Lib.hid hok; clear hb1 hok)
  clear d0 d1 d2 d3 p0 p1 HW HE1
  by_cases hE : E = 0
  case neg =>
    have t1 : ((E : Int) != 0) = true := by rw [bne_iff_ne]; omega
    have HC := Lib.hid (HCN.out hE)
    clear hE HOK
    go_wp2_with fail
    go_ret2
    exact ⟨_, rfl, by rw [HC.out]; exact World.ownsRow_nil _ _ _ _, HB.out⟩
  subst hE
  obtain ⟨rfl, hin, hck, bx, rfl, hsp⟩ := HOK.out rfl
  have hpos := inP_pos hin
  obtain ⟨i, ei⟩ : ∃ i, i = posP l r t := ⟨_, rfl⟩
  have ei2 : r.toNat * l.toNat + t.toNat = i := by rw [ei]; rfl
  rw [ei2]
  rw [← ei] at hpos HCP
  have HCO := Lib.hid (hsp.component hpos)
  have HSP := Lib.hid hsp
  have hNl : n * l.toNat ≤ 1024 := by
    obtain ⟨-, -, hl, hn64, -, -, -, -⟩ := chkE_ok hck
    exact Nat.le_trans (Nat.mul_le_mul hn64 (show l.toNat ≤ 16 by omega)) (by decide)
  have hcl := cmpL_len (akS a l n L) (n * l.toNat) i
  have hmem : ∀ k, k ∈ cmpL (akS a l n L) (n * l.toNat) i → k < n * l.toNat := fun k hk => (mem_cmpL.1 hk).1
  obtain ⟨ks, eks⟩ : ∃ ks, ks = cmpL (akS a l n L) (n * l.toNat) i := ⟨_, rfl⟩
  rw [← eks] at HCO HCP hcl hmem
  have HCQ := Lib.hid (HCP.out _ rfl rfl)
  clear HOK hin hck hsp ei ei2 eks HCP HCN
  go_upto_region 6 with (go_at_call 42; refine HCO.out.mono ?_; rintro e w2 ⟨v, rfl, hown, hb1⟩; have HB := Lib.hid (below_trans HB.out hb1); have HOW := Lib.hid hown; have HSP := Lib.hid (HSP.out.below hb1); obtain ⟨Av, cv, rfl⟩ := hown.shape; clear hb1 hown)
  clear HCO
  obtain ⟨a', l', A', c', bM, vP, -, el, -, hsv⟩ := HSP.out
  have el2 : l.toNat = l' := by rw [el, Int.toNat_natCast]
  rw [el2] at hmem hNl hcl HCQ
  obtain ⟨base, hpts⟩ := hsv.pts
  obtain ⟨Ap, cp, rfl⟩ := hpts.shape
  rw [ptL_len] at hpts hsv
  obtain ⟨NP, eNP⟩ : ∃ NP, NP = n * l' := ⟨_, rfl⟩
  rw [← eNP] at hmem hNl hcl hsv hpts
  have HPT := Lib.hid hpts
  have HSV := Lib.hid hsv.box
  have ENP := Lib.hid eNP
  obtain ⟨len, elen⟩ : ∃ q, q = ks.length := ⟨_, rfl⟩
  rw [← elen] at hcl HOW ⊢
  have ELN := Lib.hid elen
  have hsz := HB.out.size
  clear hsv hpts el el2 eNP hpos elen HSP
  go_loopw [9, 26] (fun lv jv wr => ∃ j : Nat, j ≤ len ∧ jv = .int .i64 j ∧ PnO wr w2.heap.size lv ((ks.take j).map (ptG (ptL n l'))) ∧ Below w2.heap.size w2 wr) (fun _ jv _ => len - (intOf jv).toNat)
  case atStart => exact ⟨0, Nat.zero_le _, rfl, World.ownsRow_nil _ _ _ _, Below.refl _ _⟩
  case round =>
    obtain ⟨j, hj, rfl, ho, hb⟩ := hrel
    have HBW := Lib.hid hb
    by_cases hlt : j < len
    · have hjj : (j : Int) < (len : Int) := by omega
      obtain ⟨k, hk⟩ : ∃ k, ks[j]? = some k := ⟨_, List.getElem?_eq_getElem (by rw [← ELN.out]; exact hlt)⟩
      have hkN : k < NP := hmem k (List.mem_of_getElem? hk)
      obtain ⟨bv, cv', ev, c3⟩ := HOW.out.at hk
      injection ev with ev1 ev2 ev3
      subst ev1
      have c3 := cell_below hb c3
      have hkg : (ptL n l')[k]? = some (ptG (ptL n l') k) := by rw [ptL_get (by rw [← ENP.out]; exact hkN), ptG_get (by rw [← ENP.out]; exact hkN)]
      obtain ⟨gp, kp, ep, q0, q1⟩ := pnO_at HPT.out hkg
      injection ep with ep1 ep2 ep3
      subst ep1
      have q0 := cell_below hb q0
      have q1 := cell_below hb q1
      have b4 := (HSV.out.below hb).cell (k := 4) rfl
      have htk : (ks.take (j + 1)).map (ptG (ptL n l')) = (ks.take j).map (ptG (ptL n l')) ++ [ptG (ptL n l') k] := by rw [List.take_add_one, hk, List.map_append]; rfl
      have HTK := Lib.hid htk
      obtain ⟨ys, eys⟩ : ∃ ys, ys = (ks.take j).map (ptG (ptL n l')) := ⟨_, rfl⟩
      have hyl : ys.length ≤ 1024 := by rw [eys, List.length_map, List.length_take]; omega
      rw [← eys] at ho HTK
      have HO := Lib.hid ho
      have hsz2 := hb.size
      obtain ⟨pr, epr⟩ : ∃ p, p = ptG (ptL n l') k := ⟨_, rfl⟩
      rw [← epr] at q0 q1 HTK
      obtain ⟨p1, p2⟩ := pr
      dsimp only at q0 q1
      have hkk : (k : Int) < (NP : Int) := by omega
      have ho2 : wr.ownsRow w2.heap.size 26 2 u9 ys.length (crL ys) := ho
      have HO2 := Lib.hid ho2
      clear ho hb htk eys epr ev2 ev3 ep2 ep3 hk hkg ho2
      go_wp2_with (at_builtin; obtain ⟨i0, hi, hz0, hz1, hz2⟩ := info_parts Try.infoPoint; refine wpList_append_own_at _ rfl _ _ 29 rfl w2.heap.size 26 i0 _ 2 16 Try.underlying29 hi hz0 hz1 hz2 rfl (by decide) _ _ _ rfl (own_alloc' HO2.out _) ⟨wr.heap.size, 0, none⟩ 1 1 [.int .i64 p1, .int .i64 p2] rfl rfl (World.news_of_block (cs := #[.int .i64 p1, .int .i64 p2]) (t := 26) (fr := (0, 0)) (heap_alloc_new wr _)) (by simp [Value.oneCell']) (by unfold maxLen; omega) (by omega) (by simp; omega) ?_; intro v' w3 hown' hgrow _ _; have HOW3 := Lib.hid hown'; have HB3 := Lib.hid (below_append HBW.out rfl HO2.out hgrow); clear hown' hgrow hi hz0 hz1 hz2)
      go_roundw
      case rel =>
        refine ⟨j + 1, by omega, by go_num, ?_, HB3.out⟩
        unfold PnO
        rw [HTK.out, crL_snoc, List.length_append]
        exact HOW3.out
      case measure => simp [intOf]; omega
    · obtain rfl : j = len := by omega
      have hjj : ¬ (j : Int) < (j : Int) := by omega
      have HO := Lib.hid ho
      rw [ELN.out, List.take_length, ← HCQ.out] at HO
      clear ho hb
      go_wp2_with fail
      go_ret2
      exact ⟨_, rfl, own_mono' HO.out hsz, HB.out.trans (HBW.out.mono hsz)⟩
end Go.Proofs.Ytahaimecchdfeaa

/-
  Systems that are owned, read, and held against each other by the reference's Same.
-/
namespace Go.Proofs.Ytahaimecchdfeaa
open Go.RowKit

/-! ### systems that are owned, read and held against each other -/
def RunD.small (d : RunD) : Prop := d.n ≤ 65536 ∧ d.k ≤ 65536 ∧ (∀ i, i < d.n → d.m i ≤ 9223372036854775807) ∧ (∀ i j, i < d.n → j < d.m i → -9223372036854775808 ≤ d.L i j ∧ d.L i j ≤ 9223372036854775807) ∧ ∀ u, u < d.k → d.F u < 18446744073709551616
def pgD (ps : List RunD) (i : Nat) : RunD := ps.getD i RunD.none
theorem runs_read {w : World} {base : Nat} {vR : Value} {ps : List RunD} (h : RunsO w base vR ps) (hl : ∀ d, d ∈ ps → d.small) :
    ∃ A c, vR = .slice A ps.length c ∧ RunsR w A ps.length (fun i => (pgD ps i).n) (fun i => (pgD ps i).m) (fun i => (pgD ps i).L) (fun i => (pgD ps i).k) (fun i => (pgD ps i).F) := by
  obtain ⟨rows, ho, hr⟩ := h
  obtain ⟨A, c, rfl, hc⟩ := own_form' ho
  refine ⟨A, c, rfl, fun i hi => ?_⟩
  have hg : ps[i]? = some (pgD ps i) := by unfold pgD; rw [List.getD_eq_getElem?_getD, List.getElem?_eq_getElem hi]; rfl
  have hp := hl _ (List.mem_of_getElem? hg)
  obtain ⟨u, v, e1, e2, hd⟩ := hr i (pgD ps i) hg
  obtain ⟨b, rfl, -, -, h1⟩ := hc (i * 2) (by omega)
  obtain ⟨b', hb, -, -, h2⟩ := hc (i * 2 + 1) (by omega)
  injection hb with hb
  injection hb with hb _ _
  subst hb
  exact ⟨b, 0, u, v, rfl, by rw [Nat.zero_add]; exact h1.trans e1, by rw [Nat.zero_add]; exact h2.trans e2, hp.1, hp.2.1, RunO.read hd hp.2.2.1 hp.2.2.2.1 hp.2.2.2.2⟩
theorem runsO_shape {w : World} {base : Nat} {v : Value} {ps : List RunD} (h : RunsO w base v ps) : ∃ A c, v = .slice A ps.length c := by
  obtain ⟨rows, ho, _⟩ := h
  obtain ⟨A, c, rfl, _⟩ := own_form' ho
  exact ⟨A, c, rfl⟩
def SysD.small (D : SysD) : Prop := D.ps.length ≤ 65536 ∧ ∀ d, d ∈ D.ps → d.small
theorem SysD.none_small : SysD.none.small := ⟨by decide, fun _ h => by cases h⟩
end Go.Proofs.Ytahaimecchdfeaa
