/-
  Plain facts of layer 54: the reference's way through all lists of masks leaves the runs that the program lists.
-/
import Derived.Test.YtgnkeecjaffnaaaProg
import Derived.Test.YtgnkeecjaffnaaaBase
import Derived.Test.YtgnkeecjaffnaaaRow
import Derived.Test.YtgnkeecjaffnaaaRowsOf
import Derived.Test.YtgnkeecjaffnaaaPc
import Derived.Test.YtgnkeecjaffnaaaPd
import Derived.Test.YtgnkeecjaffnaaaPrP
import Derived.Test.YtgnkeecjaffnaaaPrB
import Derived.Test.YtgnkeecjaffnaaaPrE
import Derived.Test.YtgnkeecjaffnaaaPrG
import Derived.Test.YtgnkeecjaffnaaaPrJ
import Derived.Test.YtgnkeecjaffnaaaPrL
import Derived.Test.YtgnkeecjaffnaaaPrN
namespace Go.Proofs.Ytgnkeecjaffnaaa
open Go.RowKit

/-- All lists of masks that begin with a list, with so many rounds left. -/
def allL : Nat → List Int → List (List Int)
  | 0, l => [l]
  | d + 1, l => ([0, 2, 1, 3] : List Int).flatMap fun x => allL d (l ++ [x])
theorem allL_snoc : ∀ (d : Nat) (l : List Int), allL (d + 1) l = (allL d l).flatMap fun x => ([0, 2, 1, 3] : List Int).map fun y => x ++ [y]
  | 0, _ => by simp [allL]
  | d + 1, l => by
    show ([0, 2, 1, 3] : List Int).flatMap (fun x => allL (d + 1) (l ++ [x])) = (([0, 2, 1, 3] : List Int).flatMap fun x => allL d (l ++ [x])).flatMap _
    rw [List.flatMap_assoc]
    congr 1
    funext x
    exact allL_snoc d (l ++ [x])
theorem mask_mem {y : Int} : y ∈ ([0, 2, 1, 3] : List Int) ↔ 0 ≤ y ∧ y ≤ 3 := by
  simp only [List.mem_cons, List.not_mem_nil, or_false]; omega
theorem allL_mem : ∀ (d : Nat) (l x : List Int), x ∈ allL d l ↔ ∃ s, x = l ++ s ∧ s.length = d ∧ ∀ y, y ∈ s → 0 ≤ y ∧ y ≤ 3
  | 0, l, x => by
    constructor
    · intro h
      have : x = l := by simpa [allL] using h
      exact ⟨[], by simp [this], rfl, fun _ h => by cases h⟩
    · rintro ⟨s, rfl, hs, -⟩
      rw [List.eq_nil_of_length_eq_zero hs]; simp [allL]
  | d + 1, l, x => by
    constructor
    · intro h
      rw [allL, List.mem_flatMap] at h
      obtain ⟨y, hy, h⟩ := h
      obtain ⟨s, rfl, hs, hr⟩ := (allL_mem d (l ++ [y]) x).1 h
      refine ⟨y :: s, by simp, by simp [hs], fun z hz => ?_⟩
      rcases List.mem_cons.1 hz with rfl | hz
      · exact mask_mem.1 hy
      · exact hr z hz
    · rintro ⟨s, rfl, hs, hr⟩
      cases s with
      | nil => cases hs
      | cons y s =>
        rw [allL, List.mem_flatMap]
        refine ⟨y, mask_mem.2 (hr y (by simp)), (allL_mem d (l ++ [y]) _).2 ⟨s, by simp, by simpa using hs, fun z hz => hr z (by simp [hz])⟩⟩
theorem lf_in {x : List Int} (h : ∀ y, y ∈ x → 0 ≤ y ∧ y ≤ 3) : ∀ k, 0 ≤ lf x k ∧ lf x k ≤ 3 := fun k => by
  unfold lf
  rw [List.getD_eq_getElem?_getD]
  by_cases hk : k < x.length
  · rw [List.getElem?_eq_getElem hk]; exact h _ (List.getElem_mem _)
  · rw [List.getElem?_eq_none (by omega)]; simp
theorem all_mem {T : Nat} {x : List Int} (h : x ∈ allL T []) : x.length = T ∧ ∀ k, 0 ≤ lf x k ∧ lf x k ≤ 3 := by
  obtain ⟨s, rfl, hs, hr⟩ := (allL_mem T [] x).1 h
  exact ⟨hs, lf_in hr⟩
theorem lf_left {a b : List Int} {k : Nat} (h : k < a.length) : lf (a ++ b) k = lf a k := by
  unfold lf; simp [List.getD_eq_getElem?_getD, List.getElem?_append_left h]
theorem lf_mid (a : List Int) (x : Int) (b : List Int) : lf (a ++ [x] ++ b) a.length = x := by
  unfold lf; simp [List.getD_eq_getElem?_getD]
theorem runS_congr {snd : Int → Int → Int} {bit : Int} {l l' : Nat → Int} : ∀ k, (∀ j, j < k → l j = l' j) → runS snd bit l k = runS snd bit l' k
  | 0, _ => rfl
  | k + 1, h => by
    have := runS_congr (snd := snd) (bit := bit) k fun j hj => h j (by omega)
    simp only [runS]
    rw [this, h k (by omega)]
theorem runW_congr {snd : Int → Int → Int} {bit : Int} {l l' : Nat → Int} {k : Nat} (h : ∀ j, j < k → l j = l' j) : runW snd bit l k = runW snd bit l' k := by
  unfold runW; rw [runS_congr k h]
/-- Whether masks lose only messages that are sent, from a round on. -/
def okB (snd : Int → Int → Int) (bit : Int) (t : Nat) (x : List Int) : Bool := (List.range x.length).all fun k => decide (k < t) || bitsOk (lf x k) (runW snd bit (lf x) k)
theorem okB_iff {snd : Int → Int → Int} {bit : Int} {t : Nat} {x : List Int} : okB snd bit t x = true ↔ ∀ k, t ≤ k → k < x.length → bitsOk (lf x k) (runW snd bit (lf x) k) = true := by
  unfold okB
  simp only [List.all_eq_true, List.mem_range, Bool.or_eq_true, decide_eq_true_eq]
  constructor
  · intro h k h1 h2
    rcases h k h2 with h | h
    · omega
    · exact h
  · intro h k h2
    by_cases h1 : k < t
    · exact .inl h1
    · exact .inr (h k (by omega) h2)
theorem gen_filter {snd : Int → Int → Int} {bit : Int} : ∀ (d : Nat) (l : List Int), gen snd bit d l = (allL d l).filter (okB snd bit l.length)
  | 0, l => by
    have h : okB snd bit l.length l = true := okB_iff.2 fun k h1 h2 => by omega
    rw [allL, gen, List.filter_cons_of_pos h]; rfl
  | d + 1, l => by
    rw [allL, gen, List.filter_flatMap]
    congr 1
    funext x
    have hz : ∀ z, z ∈ allL d (l ++ [x]) → okB snd bit l.length z = (bitsOk x (runW snd bit (lf (l ++ [0])) l.length) && okB snd bit (l ++ [x]).length z) := fun z hz => by
      obtain ⟨s, rfl, hs, -⟩ := (allL_mem d (l ++ [x]) z).1 hz
      have e1 := lf_mid l x s
      have e2 : runW snd bit (lf (l ++ [x] ++ s)) l.length = runW snd bit (lf (l ++ [0])) l.length := runW_congr fun j hj => by
        rw [List.append_assoc, lf_left hj, lf_left hj]
      rw [Bool.eq_iff_iff, Bool.and_eq_true, okB_iff, okB_iff]
      constructor
      · intro h
        refine ⟨?_, fun k h1 h2 => h k (by rw [List.length_append] at h1; omega) h2⟩
        have := h l.length (Nat.le_refl _) (by simp)
        rw [e1, e2] at this; exact this
      · rintro ⟨h0, h⟩ k h1 h2
        by_cases hk : k = l.length
        · rw [hk, e1, e2]; exact h0
        · exact h k (by simp; omega) h2
    cases hb : bitsOk x (runW snd bit (lf (l ++ [0])) l.length)
    · rw [if_neg (by simp)]
      symm
      rw [List.filter_eq_nil_iff]
      intro z h
      rw [hz z h, hb]; simp
    · rw [if_pos rfl, gen_filter d (l ++ [x])]
      refine List.filter_congr fun z h => ?_
      rw [hz z h, hb]; rfl

/-- The steps of a run, for messages in range. -/
theorem run_stp {snd : Int → Int → Int} {bit : Int} {lost : Nat → Int} {T k : Nat} (hs : ∀ a h, 0 ≤ snd a h ∧ snd a h ≤ 3) (hb : 0 ≤ bit ∧ bit ≤ 1) (hl : ∀ k, k < T → 0 ≤ lost k ∧ lost k ≤ 3) (hk : k < T) (hT : T ≤ 4) :
    (runS snd bit lost (k + 1)).1 = 4 * (runS snd bit lost k).1 + (if lost k / 2 = 1 then 0 else snd 1 (runS snd bit lost k).2) ∧ (runS snd bit lost (k + 1)).2 = 4 * (runS snd bit lost k).2 + (if lost k % 2 = 1 then 0 else snd 0 (runS snd bit lost k).1) := by
  rw [(run_same hs hb hl (k + 1) hk (by omega)).1, (run_same hs hb hl k (by omega) (by omega)).1]
  exact ⟨rfl, rfl⟩

/-! ### the order of the lists -/
def rank (x : Int) : Nat := if x = 0 then 0 else if x = 2 then 1 else if x = 1 then 2 else 3
def LtL (a b : List Int) : Prop := ∃ k, (∀ j, j < k → lf a j = lf b j) ∧ rank (lf a k) < rank (lf b k)
theorem LtL.irrefl {a : List Int} : ¬ LtL a a := fun ⟨_, _, h⟩ => Nat.lt_irrefl _ h
theorem LtL.asymm {a b : List Int} : LtL a b → ¬ LtL b a := by
  rintro ⟨k, h1, h2⟩ ⟨m, h3, h4⟩
  rcases Nat.lt_trichotomy k m with h | h | h
  · rw [h3 k h] at h2; omega
  · subst h; omega
  · rw [h1 m h] at h4; omega
theorem allL_sorted : ∀ (d : Nat) (l : List Int), (allL d l).Pairwise LtL
  | 0, l => by simp [allL]
  | d + 1, l => by
    rw [allL, List.pairwise_flatMap]
    refine ⟨fun x _ => allL_sorted d (l ++ [x]), ?_⟩
    have key : ∀ x y : Int, rank x < rank y → ∀ a, a ∈ allL d (l ++ [x]) → ∀ b, b ∈ allL d (l ++ [y]) → LtL a b := fun x y hxy a ha b hb => by
      obtain ⟨s, rfl, -, -⟩ := (allL_mem d (l ++ [x]) a).1 ha
      obtain ⟨s', rfl, -, -⟩ := (allL_mem d (l ++ [y]) b).1 hb
      refine ⟨l.length, fun j hj => by rw [List.append_assoc, List.append_assoc, lf_left hj, lf_left hj], ?_⟩
      rw [lf_mid, lf_mid]; exact hxy
    simp only [List.pairwise_cons, List.mem_cons, List.not_mem_nil, or_false, forall_eq_or_imp, forall_eq, List.Pairwise.nil, and_true, false_implies, implies_true]
    exact ⟨⟨key 0 2 (by decide), key 0 1 (by decide), key 0 3 (by decide)⟩, ⟨key 2 1 (by decide), key 2 3 (by decide)⟩, key 1 3 (by decide)⟩

/-! ### masks without what is not sent -/
def rst (x w : Int) : Int := (if x % 2 = 1 ∧ w % 2 = 1 then 1 else 0) + (if x / 2 = 1 ∧ w / 2 = 1 then 2 else 0)
theorem rst_facts {x w : Int} (hx : 0 ≤ x ∧ x ≤ 3) (hw : 0 ≤ w ∧ w ≤ 3) : bitsOk (rst x w) w = true ∧ (0 ≤ rst x w ∧ rst x w ≤ 3) ∧ (rst x w = x ∨ rank (rst x w) < rank x) ∧ (bitsOk x w = true → rst x w = x)
    ∧ (losB (rst x w) 0 = true ↔ losB x 0 = true ∧ w % 2 = 1) ∧ (losB (rst x w) 1 = true ↔ losB x 1 = true ∧ w / 2 = 1) ∧ (bitsOk x w = true → (x % 2 = 1 → w % 2 = 1) ∧ (x / 2 = 1 → w / 2 = 1)) := by
  have h1 : x = 0 ∨ x = 1 ∨ x = 2 ∨ x = 3 := by omega
  have h2 : w = 0 ∨ w = 1 ∨ w = 2 ∨ w = 3 := by omega
  rcases h1 with rfl | rfl | rfl | rfl <;> rcases h2 with rfl | rfl | rfl | rfl <;> decide
theorem whoV_bits {p q : Int} : (whoV p q % 2 = 1 ↔ 0 < p) ∧ (whoV p q / 2 = 1 ↔ 0 < q) := by
  unfold whoV
  by_cases h1 : 0 < p <;> by_cases h2 : 0 < q <;> simp [h1, h2]
def nrm (snd : Int → Int → Int) (bit : Int) (x : List Int) : List Int := (List.range x.length).map fun k => rst (lf x k) (runW snd bit (lf x) k)
theorem nrm_len {snd : Int → Int → Int} {bit : Int} {x : List Int} : (nrm snd bit x).length = x.length := by simp [nrm]
theorem lf_nrm {snd : Int → Int → Int} {bit : Int} {x : List Int} {k : Nat} (h : k < x.length) : lf (nrm snd bit x) k = rst (lf x k) (runW snd bit (lf x) k) := by
  unfold nrm; rw [lf]; simp [List.getD_eq_getElem?_getD, h]
theorem nrm_run {snd : Int → Int → Int} {bit : Int} {x : List Int} (hs : ∀ a h, 0 ≤ snd a h ∧ snd a h ≤ 3) (hx : ∀ k, 0 ≤ lf x k ∧ lf x k ≤ 3) : ∀ k, k ≤ x.length → runS snd bit (lf (nrm snd bit x)) k = runS snd bit (lf x) k
  | 0, _ => rfl
  | k + 1, hk => by
    have ih := nrm_run (bit := bit) hs hx k (by omega)
    simp only [runS]
    rw [ih, lf_nrm (by omega)]
    have hf := rst_facts (hx k) (runW_range snd bit (lf x) k)
    have hw := whoV_bits (p := snd 0 (runS snd bit (lf x) k).1) (q := snd 1 (runS snd bit (lf x) k).2)
    have e1 : (if losB (rst (lf x k) (runW snd bit (lf x) k)) 1 then 0 else snd 1 (runS snd bit (lf x) k).2) = (if losB (lf x k) 1 then 0 else snd 1 (runS snd bit (lf x) k).2) := by
      by_cases h : losB (rst (lf x k) (runW snd bit (lf x) k)) 1 = true
      · rw [if_pos h, if_pos (hf.2.2.2.2.2.1.1 h).1]
      · rw [if_neg h]
        by_cases h2 : losB (lf x k) 1 = true
        · rw [if_pos h2]
          have h3 : ¬ 0 < snd 1 (runS snd bit (lf x) k).2 := fun h3 => h (hf.2.2.2.2.2.1.2 ⟨h2, hw.2.2 h3⟩)
          have := (hs 1 (runS snd bit (lf x) k).2).1
          omega
        · rw [if_neg h2]
    have e0 : (if losB (rst (lf x k) (runW snd bit (lf x) k)) 0 then 0 else snd 0 (runS snd bit (lf x) k).1) = (if losB (lf x k) 0 then 0 else snd 0 (runS snd bit (lf x) k).1) := by
      by_cases h : losB (rst (lf x k) (runW snd bit (lf x) k)) 0 = true
      · rw [if_pos h, if_pos (hf.2.2.2.2.1.1 h).1]
      · rw [if_neg h]
        by_cases h2 : losB (lf x k) 0 = true
        · rw [if_pos h2]
          have h3 : ¬ 0 < snd 0 (runS snd bit (lf x) k).1 := fun h3 => h (hf.2.2.2.2.1.2 ⟨h2, hw.1.2 h3⟩)
          have := (hs 0 (runS snd bit (lf x) k).1).1
          omega
        · rw [if_neg h2]
    rw [e1, e0]
theorem lf_ext {x y : List Int} (h : x.length = y.length) (e : ∀ k, k < x.length → lf x k = lf y k) : x = y := by
  apply List.ext_getElem h
  intro k h1 h2
  have := e k h1
  unfold lf at this
  rw [List.getD_eq_getElem?_getD, List.getD_eq_getElem?_getD, List.getElem?_eq_getElem h1, List.getElem?_eq_getElem h2] at this
  exact this
theorem nrm_ok {snd : Int → Int → Int} {bit : Int} {x : List Int} (hs : ∀ a h, 0 ≤ snd a h ∧ snd a h ≤ 3) (hx : ∀ k, 0 ≤ lf x k ∧ lf x k ≤ 3) : okB snd bit 0 (nrm snd bit x) = true := by
  rw [okB_iff]
  intro k _ hk
  rw [nrm_len] at hk
  have e : runW snd bit (lf (nrm snd bit x)) k = runW snd bit (lf x) k := by unfold runW; rw [nrm_run hs hx k (by omega)]
  rw [lf_nrm hk, e]
  exact (rst_facts (hx k) (runW_range snd bit (lf x) k)).1
theorem nrm_lt {snd : Int → Int → Int} {bit : Int} {x : List Int} (hx : ∀ k, 0 ≤ lf x k ∧ lf x k ≤ 3) (hn : okB snd bit 0 x = false) : LtL (nrm snd bit x) x := by
  -- the first place at which something is lost that is not sent
  have key : ∀ n, n ≤ x.length → (∀ k, k < n → lf (nrm snd bit x) k = lf x k) ∨ LtL (nrm snd bit x) x := fun n => by
    induction n with
    | zero => intro _; exact .inl fun _ h => by omega
    | succ n ih =>
      intro hn
      rcases ih (by omega) with h | h
      · rcases (rst_facts (hx n) (runW_range snd bit (lf x) n)).2.2.1 with h1 | h1
        · refine .inl fun k hk => ?_
          rcases Nat.lt_succ_iff_lt_or_eq.1 hk with h2 | rfl
          · exact h k h2
          · rw [lf_nrm (by omega), h1]
        · exact .inr ⟨n, h, by rw [lf_nrm (by omega)]; exact h1⟩
      · exact .inr h
  rcases key x.length (Nat.le_refl _) with h | h
  · exfalso
    have : okB snd bit 0 x = true := by
      rw [okB_iff]
      intro k _ hk
      have h1 := (rst_facts (hx k) (runW_range snd bit (lf x) k)).1
      rw [← lf_nrm hk, h k hk] at h1
      exact h1
    rw [this] at hn; cases hn
  · exact h
theorem ok_inj {snd : Int → Int → Int} {bit : Int} {x y : List Int} {T : Nat} (hs : ∀ a h, 0 ≤ snd a h ∧ snd a h ≤ 3) (hb : 0 ≤ bit ∧ bit ≤ 1) (hT : T ≤ 4) (hx : ∀ k, 0 ≤ lf x k ∧ lf x k ≤ 3) (hy : ∀ k, 0 ≤ lf y k ∧ lf y k ≤ 3)
    (lx : x.length = T) (ly : y.length = T) (ox : okB snd bit 0 x = true) (oy : okB snd bit 0 y = true) (hr : ∀ t, t ≤ T → runS snd bit (lf x) t = runS snd bit (lf y) t) : x = y := by
  refine lf_ext (lx.trans ly.symm) fun k hk => ?_
  rw [lx] at hk
  have s1 := run_stp (snd := snd) (bit := bit) (lost := lf x) (T := T) hs hb (fun k _ => hx k) hk hT
  have s2 := run_stp (snd := snd) (bit := bit) (lost := lf y) (T := T) hs hb (fun k _ => hy k) hk hT
  rw [hr (k + 1) hk, hr k (by omega)] at s1
  rw [okB_iff] at ox oy
  have o1 := ox k (Nat.zero_le _) (by omega)
  have o2 := oy k (Nat.zero_le _) (by omega)
  have ew : runW snd bit (lf x) k = runW snd bit (lf y) k := by unfold runW; rw [hr k (by omega)]
  rw [ew] at o1
  have b1 := (rst_facts (hx k) (runW_range snd bit (lf y) k)).2.2.2.2.2.2 o1
  have b2 := (rst_facts (hy k) (runW_range snd bit (lf y) k)).2.2.2.2.2.2 o2
  have hw := whoV_bits (p := snd 0 (runS snd bit (lf y) k).1) (q := snd 1 (runS snd bit (lf y) k).2)
  have h1 := hx k
  have h2 := hy k
  have e1 : lf x k / 2 = lf y k / 2 := by
    have e := s1.1.symm.trans s2.1
    by_cases p : lf x k / 2 = 1
    · have := hw.2.1 (b1.2 p)
      rw [if_pos p] at e
      by_cases q : lf y k / 2 = 1
      · rw [p, q]
      · rw [if_neg q] at e; omega
    · rw [if_neg p] at e
      by_cases q : lf y k / 2 = 1
      · have := hw.2.1 (b2.2 q)
        rw [if_pos q] at e; omega
      · omega
  have e0 : lf x k % 2 = lf y k % 2 := by
    have e := s1.2.symm.trans s2.2
    by_cases p : lf x k % 2 = 1
    · have := hw.1.1 (b1.1 p)
      rw [if_pos p] at e
      by_cases q : lf y k % 2 = 1
      · rw [p, q]
      · rw [if_neg q] at e; omega
    · rw [if_neg p] at e
      by_cases q : lf y k % 2 = 1
      · have := hw.1.1 (b2.1 q)
        rw [if_pos q] at e; omega
      · omega
  omega

/-! ### the runs of both bits -/
def prs (T : Nat) : List (Int × List Int) := (allL T []).map (fun x => (0, x)) ++ (allL T []).map fun x => (1, x)
def okP (snd : Int → Int → Int) (p : Int × List Int) : Bool := okB snd p.1 0 p.2
/-- Two runs are the same. -/
def SamR (snd : Int → Int → Int) (p q : Int × List Int) : Prop := SameP (mkR snd p).n (mkR snd p).m (mkR snd p).L (mkR snd p).k (mkR snd p).F (mkR snd q).n (mkR snd q).m (mkR snd q).L (mkR snd q).k (mkR snd q).F
def LtP (a b : Int × List Int) : Prop := a.1 < b.1 ∨ a.1 = b.1 ∧ LtL a.2 b.2
theorem losRs_eq (snd : Int → Int → Int) (T : Nat) : losRs snd T = ((prs T).filter (okP snd)).take 65 := by
  have e : ∀ b : Int, ((allL T []).map fun x => (b, x)).filter (okP snd) = (gen snd b T []).map fun x => (b, x) := fun b => by
    rw [gen_filter, List.filter_map]; rfl
  unfold losRs genT prs
  rw [List.filter_append, e 0, e 1, List.nil_append, take_take_append]
theorem prs_sorted (T : Nat) : (prs T).Pairwise LtP := by
  unfold prs
  rw [List.pairwise_append, List.pairwise_map, List.pairwise_map]
  refine ⟨(allL_sorted T []).imp fun h => .inr ⟨rfl, h⟩, (allL_sorted T []).imp fun h => .inr ⟨rfl, h⟩, fun a ha b hb => ?_⟩
  rw [List.mem_map] at ha hb
  obtain ⟨_, _, rfl⟩ := ha
  obtain ⟨_, _, rfl⟩ := hb
  exact .inl (by show (0 : Int) < 1; omega)
theorem prs_mem {T : Nat} {p : Int × List Int} : p ∈ prs T ↔ (p.1 = 0 ∨ p.1 = 1) ∧ p.2 ∈ allL T [] := by
  obtain ⟨b, x⟩ := p
  unfold prs
  simp only [List.mem_append, List.mem_map, Prod.mk.injEq]
  constructor
  · rintro (⟨y, h, rfl, rfl⟩ | ⟨y, h, rfl, rfl⟩)
    · exact ⟨.inl rfl, h⟩
    · exact ⟨.inr rfl, h⟩
  · rintro ⟨rfl | rfl, h⟩
    · exact .inl ⟨x, h, rfl, rfl⟩
    · exact .inr ⟨x, h, rfl, rfl⟩
theorem runL_pair {snd : Int → Int → Int} {b : Int} {l l' : Nat → Int} {t : Nat} : (∀ i, i < 2 → runL snd b l t i = runL snd b l' t i) ↔ runS snd b l t = runS snd b l' t := by
  constructor
  · intro h
    exact Prod.ext (h 0 (by omega)) (h 1 (by omega))
  · intro h i _
    unfold runL; rw [h]
theorem los_at {snd : Int → Int → Int} {T i : Nat} {p : Int × List Int} (hs : ∀ a h, 0 ≤ snd a h ∧ snd a h ≤ 3) (hT : T ≤ 4) (hp : (prs T)[i]? = some p) : (∃ q, q ∈ ((prs T).take i).filter (okP snd) ∧ SamR snd q p) ↔ okP snd p = false := by
  obtain ⟨hi, hpi⟩ := List.getElem?_eq_some_iff.1 hp
  have hso := List.pairwise_iff_getElem.1 (prs_sorted T)
  have hpm := prs_mem.1 (List.mem_of_getElem? hp)
  obtain ⟨lp, rp⟩ := all_mem hpm.2
  obtain ⟨b, x⟩ := p
  have hb : 0 ≤ b ∧ b ≤ 1 := by rcases hpm.1 with h | h <;> (simp only at h; omega)
  constructor
  · rintro ⟨q, hq, hsm⟩
    obtain ⟨hq1, hq2⟩ := List.mem_filter.1 hq
    obtain ⟨j, hj, rfl⟩ := List.getElem_of_mem hq1
    rw [List.length_take] at hj
    rw [List.getElem_take] at hq2 hsm
    have hlt := hso j i (by omega) hi (by omega)
    rw [hpi] at hlt
    have hqm := prs_mem.1 (List.getElem_mem (l := prs T) (n := j) (by omega))
    obtain ⟨lq, rq⟩ := all_mem hqm.2
    generalize (prs T)[j]'_ = q at hq2 hsm hlt hqm lq rq
    obtain ⟨b', y⟩ := q
    obtain ⟨h1, -, h2, h3⟩ := hsm
    have eb : b' = b := by
      have h3 : b'.toNat = b.toNat := h3 0 (Nat.succ_pos _)
      have : 0 ≤ b' ∧ b' ≤ 1 := by rcases hqm.1 with h | h <;> (simp only at h; omega)
      omega
    subst eb
    cases ho : okP snd (b', x)
    · rfl
    · exfalso
      have : y = x := ok_inj hs hb hT rq rp lq lp hq2 ho fun t ht => by
        have := (h2 t (by show t < y.length + 1; simp only at lq; omega)).2
        exact runL_pair.1 this
      subst this
      rcases hlt with h | ⟨-, h⟩
      · simp only at h; omega
      · exact LtL.irrefl h
  · intro ho
    have hnl := nrm_len (snd := snd) (bit := b) (x := x)
    have hnr := fun k (hk : k < x.length) => (rst_facts (rp k) (runW_range snd b (lf x) k)).2.1
    have hmem : (b, nrm snd b x) ∈ prs T := prs_mem.2 ⟨hpm.1, (allL_mem T [] _).2 ⟨nrm snd b x, rfl, hnl.trans lp, fun y hy => by
      unfold nrm at hy
      obtain ⟨k, hk, rfl⟩ := List.mem_map.1 hy
      exact hnr k (List.mem_range.1 hk)⟩⟩
    obtain ⟨j, hj, hje⟩ := List.getElem_of_mem hmem
    have hlt := nrm_lt rp ho
    have hji : j < i := by
      rcases Nat.lt_trichotomy j i with h | h | h
      · exact h
      · subst h
        rw [hje] at hpi
        have : nrm snd b x = x := (Prod.mk.inj hpi).2
        rw [this] at hlt
        exact absurd hlt LtL.irrefl
      · have := hso i j hi hj h
        rw [hje, hpi] at this
        rcases this with h | ⟨-, h⟩
        · simp only at h; omega
        · exact absurd h (LtL.asymm hlt)
    refine ⟨(b, nrm snd b x), List.mem_filter.2 ⟨?_, nrm_ok hs rp⟩, ?_⟩
    · rw [← hje]
      exact List.mem_iff_getElem.2 ⟨j, by rw [List.length_take]; omega, by rw [List.getElem_take]⟩
    · refine ⟨by show (nrm snd b x).length + 1 = x.length + 1; rw [hnl], by show (nrm snd b x).length + 1 = x.length + 1; rw [hnl], fun t ht => ⟨rfl, ?_⟩, fun _ _ => rfl⟩
      have ht' : t < (nrm snd b x).length + 1 := ht
      rw [hnl] at ht'
      have ht2 : t ≤ x.length := Nat.le_of_lt_succ ht'
      exact runL_pair.2 (nrm_run hs rp t ht2)
/-- The runs that are left behind the first i lists. -/
def rsAt (snd : Int → Int → Int) (T i : Nat) : List (Int × List Int) := ((prs T).take i).filter (okP snd)
theorem rsAt_yes {snd : Int → Int → Int} {T i : Nat} {p : Int × List Int} (hp : (prs T)[i]? = some p) (ho : okP snd p = true) : rsAt snd T (i + 1) = rsAt snd T i ++ [p] := by
  unfold rsAt
  rw [List.take_add_one, hp, List.filter_append]
  simp [ho]
theorem rsAt_no {snd : Int → Int → Int} {T i : Nat} {p : Int × List Int} (hp : (prs T)[i]? = some p) (ho : okP snd p = false) : rsAt snd T (i + 1) = rsAt snd T i := by
  unfold rsAt
  rw [List.take_add_one, hp, List.filter_append]
  simp [ho]
theorem prs_len (T : Nat) : (prs T).length = (allL T []).length + (allL T []).length := by unfold prs; simp
theorem rsAt_end {snd : Int → Int → Int} {T i : Nat} (h : (rsAt snd T i).length ≤ 64) (hi : (prs T).length ≤ i) : losRs snd T = rsAt snd T i := by
  unfold rsAt at h ⊢
  rw [List.take_of_length_le hi] at h ⊢
  rw [losRs_eq, List.take_of_length_le (by omega)]
theorem rsAt_over {snd : Int → Int → Int} {T i : Nat} (h : 64 < (rsAt snd T i).length) : 64 < (losRs snd T).length := by
  rw [losRs_eq, List.length_take]
  have : (rsAt snd T i).length ≤ ((prs T).filter (okP snd)).length := by
    unfold rsAt
    exact ((List.take_sublist i (prs T)).filter _).length_le
  omega
theorem prs_at {T i b : Nat} {l : List Int} (hb : b < 2) (hl : (allL T [])[i]? = some l) : (prs T)[b * (allL T []).length + i]? = some ((b : Int), l) := by
  have hi := (List.getElem?_eq_some_iff.1 hl).1
  unfold prs
  have h2 : b = 0 ∨ b = 1 := by omega
  rcases h2 with rfl | rfl
  · rw [Nat.zero_mul, Nat.zero_add, List.getElem?_append_left (by simpa using hi), List.getElem?_map, hl]; rfl
  · rw [Nat.one_mul, List.getElem?_append_right (by simp), List.getElem?_map, List.length_map, Nat.add_sub_cancel_left, hl]; rfl
end Go.Proofs.Ytgnkeecjaffnaaa
