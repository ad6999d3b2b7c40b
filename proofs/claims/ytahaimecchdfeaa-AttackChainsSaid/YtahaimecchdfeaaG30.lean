/-
  Texts of this claim, one after the other: what each proves is said at its head. No condition beyond those that its theorems name.
-/
import Derived.Test.YtahaimecchdfeaaProg
import Derived.Test.YtahaimecchdfeaaG01
import Derived.Test.YtahaimecchdfeaaG02
import Derived.Test.YtahaimecchdfeaaG10
import Derived.Test.YtahaimecchdfeaaG18
import Derived.Test.YtahaimecchdfeaaG20
import Derived.Test.YtahaimecchdfeaaG22
import Derived.Test.YtahaimecchdfeaaG23
import Derived.Test.YtahaimecchdfeaaG25

/-
  Plain lemmas: parameters that are slices of numbers, and slices of these, opened.
-/
namespace Go.Proofs.Ytahaimecchdfeaa
open Go.ChangeShapes Go.WideShapes Go.ChangeAt Go.RowKit Go.Deep Go.Joins

section
variable {H : Type} {enc : TypeId × Value → H} {P : Program} {w : World} {base : Nat} {spare : Nat → Bool} {held : Bool}
theorem open_i64s {t e : TypeId} {fuel : Nat} {cs : List Value} {x : DataW H × List MemPlace} (ht : P.underlying t = some (.slice e)) (he : P.underlying e = some (.int .i64)) (hc : P.cellsOf e = 1)
    (h : DataW.trod enc P w base spare held fuel t cs = some x) : ∃ A n c f, cs = [.slice A n c] ∧ n ≤ 9223372036854775807 ∧ I64s w A n f := by
  rcases open_ints ht he hc h with ⟨rfl, _⟩ | ⟨a, len, cap, zs, rfl, _, hl, hm, hz, _, hcell, hwf⟩
  · exact ⟨none, 0, 0, fun _ => 0, rfl, by omega, fun k hk => absurd hk (Nat.not_lt_zero _)⟩
  · have hlz : len ≤ zs.length := by rw [hz]; split <;> omega
    refine ⟨some a, len, cap, fun i => zs.getD i 0, rfl, Nat.le_trans hl (maxLen_val hm), fun k hk => ?_⟩
    have h1 := hcell k (by omega)
    have hsp := World.cell?_spot (hcell 0 (by omega))
    obtain ⟨b, off, sp⟩ := a
    have hsp' : sp = none := by simpa [Addr.add] using hsp
    subst hsp'
    rw [add_at] at h1
    have hmem : zs.getD k 0 ∈ zs := by
      rw [List.getD_eq_getElem?_getD, List.getElem?_eq_getElem (by omega)]; exact List.getElem_mem _
    obtain ⟨h2, h3⟩ := i64_of_wf (hwf _ hmem)
    exact ⟨b, off, rfl, h1, h2, h3⟩
theorem open_u64sV {r : Reach} {b0 : Nat} {t e : TypeId} {v : Value} {d : DataW H} {p : List MemPlace} (ht : P.underlying t = some (.slice e)) (he : P.underlying e = some (.int .u64)) (hc : P.cellsOf e = 1)
    (hv : Value.okWide P w r b0 t v) (h : DataW.Trod enc P w base spare held t v d p) : ∃ A n c f, v = .slice A n c ∧ n ≤ 9223372036854775807 ∧ U64s w A n f := by
  obtain ⟨a, len, cap, rfl⟩ := okWide_slice ht hv
  obtain ⟨fuel, hf⟩ := h
  obtain ⟨A, n, c, f, hcs, hn, hr⟩ := open_u64s ht he hc hf
  simp [Value.cells] at hcs
  obtain ⟨rfl, rfl, rfl⟩ := hcs
  exact ⟨_, _, _, f, rfl, hn, hr⟩
theorem open_i64sV {r : Reach} {b0 : Nat} {t e : TypeId} {v : Value} {d : DataW H} {p : List MemPlace} (ht : P.underlying t = some (.slice e)) (he : P.underlying e = some (.int .i64)) (hc : P.cellsOf e = 1)
    (hv : Value.okWide P w r b0 t v) (h : DataW.Trod enc P w base spare held t v d p) : ∃ A n c f, v = .slice A n c ∧ n ≤ 9223372036854775807 ∧ I64s w A n f := by
  obtain ⟨a, len, cap, rfl⟩ := okWide_slice ht hv
  obtain ⟨fuel, hf⟩ := h
  obtain ⟨A, n, c, f, hcs, hn, hr⟩ := open_i64s ht he hc hf
  simp [Value.cells] at hcs
  obtain ⟨rfl, rfl, rfl⟩ := hcs
  exact ⟨_, _, _, f, rfl, hn, hr⟩
theorem open_matV {r : Reach} {b0 : Nat} {t e u : TypeId} {v : Value} {d : DataW H} {p : List MemPlace} (ht : P.underlying t = some (.slice e)) (he : P.underlying e = some (.slice u)) (hu : P.underlying u = some (.int .u64)) (hc : P.cellsOf e = 1) (hcu : P.cellsOf u = 1)
    (hv : Value.okWide P w r b0 t v) (h : DataW.Trod enc P w base spare held t v d p) : ∃ A n c R m cc F, v = .slice A n c ∧ n ≤ 9223372036854775807 ∧ Mat w A n R m cc F := by
  obtain ⟨a, len, cap, rfl⟩ := okWide_slice ht hv
  obtain ⟨fuel, hf⟩ := h
  obtain ⟨A, n, c, R, m, cc, F, hcs, hn, hr⟩ := open_mat ht he hu hc hcu hf
  simp [Value.cells] at hcs
  obtain ⟨rfl, rfl, rfl⟩ := hcs
  exact ⟨_, _, _, R, m, cc, F, rfl, hn, hr⟩
end
end Go.Proofs.Ytahaimecchdfeaa

/-
  Plain facts: over a channel that may lose each message every point reaches a point of either bit.
-/
namespace Go.Proofs.Ytahaimecchdfeaa
open Go.RowKit

/-- A run of the list is that of a bit and of masks. -/
def RunIs (snd : Int → Int → Int) (T : Nat) (ps : List (Int × List Int)) (r : Nat) (b : Int) (l : Nat → Int) : Prop := r < ps.length ∧ (ppR ps r).1 = b ∧ ∀ k, k ≤ T → runS snd (ppR ps r).1 (lf (ppR ps r).2) k = runS snd b l k
theorem lf_map {T : Nat} {l : Nat → Int} {k : Nat} (h : k < T) : lf ((List.range T).map l) k = l k := by
  unfold lf
  rw [List.getD_eq_getElem?_getD, List.getElem?_map, List.getElem?_range h]
  rfl
theorem run_of {snd : Int → Int → Int} {T : Nat} (hs : ∀ a h, 0 ≤ snd a h ∧ snd a h ≤ 3) (h64 : (losRs snd T).length ≤ 64) {b : Int} (hb : b = 0 ∨ b = 1) {l : Nat → Int} (hl : ∀ k, 0 ≤ l k ∧ l k ≤ 3) : ∃ r, RunIs snd T (losRs snd T) r b l := by
  have e : losRs snd T = (prs T).filter (okP snd) := by
    rw [losRs_eq] at h64 ⊢
    rw [List.length_take] at h64
    exact List.take_of_length_le (by omega)
  obtain ⟨x, ex⟩ : ∃ x, x = (List.range T).map l := ⟨_, rfl⟩
  have hx : ∀ y, y ∈ x → 0 ≤ y ∧ y ≤ 3 := fun y hy => by
    rw [ex] at hy
    obtain ⟨k, -, rfl⟩ := List.mem_map.1 hy
    exact hl k
  have hxl : x.length = T := by rw [ex, List.length_map, List.length_range]
  have hm : (b, nrm snd b x) ∈ losRs snd T := by
    rw [e, List.mem_filter]
    refine ⟨prs_mem.2 ⟨hb, (allL_mem T [] _).2 ⟨nrm snd b x, rfl, by rw [nrm_len, hxl], fun y hy => ?_⟩⟩, nrm_ok hs (lf_in hx)⟩
    unfold nrm at hy
    obtain ⟨k, -, rfl⟩ := List.mem_map.1 hy
    exact (rst_facts (lf_in hx k) (runW_range snd b (lf x) k)).2.1
  obtain ⟨r, hr, er⟩ := List.getElem_of_mem hm
  refine ⟨r, hr, by rw [ppR_get hr, er], fun k hk => ?_⟩
  rw [ppR_get hr, er]
  show runS snd b (lf (nrm snd b x)) k = _
  rw [nrm_run hs (lf_in hx) k (by omega)]
  exact runS_congr k fun j hj => by rw [ex]; exact lf_map (by omega)
/-- What an agent has seen stays the same while all that it is sent is lost. -/
theorem stay1 {snd : Int → Int → Int} {b b' : Int} {l l' : Nat → Int} {j : Nat} (h : (runS snd b l j).1 = (runS snd b' l' j).1) : ∀ d, (∀ k, j ≤ k → k < j + d → losB (l k) 1 = true ∧ losB (l' k) 1 = true) → (runS snd b l (j + d)).1 = (runS snd b' l' (j + d)).1
  | 0, _ => h
  | d + 1, hk => by
    have ih := stay1 h d fun k h1 h2 => hk k h1 (by omega)
    have h2 := hk (j + d) (by omega) (by omega)
    show afV (runS snd b l (j + d)).1 (if losB (l (j + d)) 1 = true then 0 else _) = afV (runS snd b' l' (j + d)).1 (if losB (l' (j + d)) 1 = true then 0 else _)
    rw [ih, if_pos h2.1, if_pos h2.2]
theorem stay2 {snd : Int → Int → Int} {b b' : Int} {l l' : Nat → Int} {j : Nat} (h : (runS snd b l j).2 = (runS snd b' l' j).2) : ∀ d, (∀ k, j ≤ k → k < j + d → losB (l k) 0 = true ∧ losB (l' k) 0 = true) → (runS snd b l (j + d)).2 = (runS snd b' l' (j + d)).2
  | 0, _ => h
  | d + 1, hk => by
    have ih := stay2 h d fun k h1 h2 => hk k h1 (by omega)
    have h2 := hk (j + d) (by omega) (by omega)
    show afV (runS snd b l (j + d)).2 (if losB (l (j + d)) 0 = true then 0 else _) = afV (runS snd b' l' (j + d)).2 (if losB (l' (j + d)) 0 = true then 0 else _)
    rw [ih, if_pos h2.1, if_pos h2.2]
/-- Masks that lose all from a round on; and all but the first agent's at one. -/
def cutM (l : Nat → Int) (j : Nat) : Nat → Int := fun k => if k < j then l k else 3
def midM (l : Nat → Int) (j : Nat) (x : Int) : Nat → Int := fun k => if k < j then l k else if k = j then x else 3
theorem midM_range {l : Nat → Int} {j : Nat} {x : Int} (hl : ∀ k, 0 ≤ l k ∧ l k ≤ 3) (hx : 0 ≤ x ∧ x ≤ 3) : ∀ k, 0 ≤ midM l j x k ∧ midM l j x k ≤ 3 := fun k => by
  unfold midM
  split
  · exact hl k
  · split
    · exact hx
    · decide
theorem cutM_range {l : Nat → Int} {j : Nat} (hl : ∀ k, 0 ≤ l k ∧ l k ≤ 3) : ∀ k, 0 ≤ cutM l j k ∧ cutM l j k ≤ 3 := fun k => by
  unfold cutM
  split
  · exact hl k
  · decide
theorem midM_cut (l : Nat → Int) (j : Nat) : midM l j 3 = cutM l j := by
  funext k
  unfold midM cutM
  by_cases h : k < j
  · rw [if_pos h, if_pos h]
  · rw [if_neg h, if_neg h]
    split <;> rfl
theorem cutM_mid (l : Nat → Int) (j : Nat) : cutM l (j + 1) = midM l j (l j) := by
  funext k
  unfold midM cutM
  by_cases h : k < j
  · rw [if_pos h, if_pos (by omega)]
  · rw [if_neg h]
    by_cases h2 : k = j
    · rw [if_pos h2, if_pos (by omega), h2]
    · rw [if_neg h2, if_neg (by omega)]
theorem los3 : losB 3 0 = true ∧ losB 3 1 = true := by decide
theorem midM_past {l : Nat → Int} {j k : Nat} {x : Int} (h : j < k) : midM l j x k = 3 := by unfold midM; rw [if_neg (by omega), if_neg (by omega)]
theorem midM_at {l : Nat → Int} {j : Nat} {x : Int} : midM l j x j = x := by unfold midM; rw [if_neg (by omega), if_pos rfl]
theorem mid_same (snd : Int → Int → Int) (b : Int) (l : Nat → Int) (j : Nat) (x y : Int) : runS snd b (midM l j x) j = runS snd b (midM l j y) j := runS_congr j fun k hk => by unfold midM; rw [if_pos hk, if_pos hk]
theorem mid1 {snd : Int → Int → Int} {b : Int} {l : Nat → Int} {j t : Nat} {x y : Int} (ht : j < t) (h : losB x 1 = losB y 1) : (runS snd b (midM l j x) t).1 = (runS snd b (midM l j y) t).1 := by
  obtain ⟨d, rfl⟩ : ∃ d, t = (j + 1) + d := ⟨t - (j + 1), by omega⟩
  refine stay1 ?_ d fun k h1 _ => by rw [midM_past (by omega), midM_past (by omega)]; exact ⟨los3.2, los3.2⟩
  show afV (runS snd b (midM l j x) j).1 (if losB (midM l j x j) 1 then _ else _) = afV (runS snd b (midM l j y) j).1 (if losB (midM l j y j) 1 then _ else _)
  rw [mid_same snd b l j x y, midM_at, midM_at, h]
theorem mid2 {snd : Int → Int → Int} {b : Int} {l : Nat → Int} {j t : Nat} {x y : Int} (ht : j < t) (h : losB x 0 = losB y 0) : (runS snd b (midM l j x) t).2 = (runS snd b (midM l j y) t).2 := by
  obtain ⟨d, rfl⟩ : ∃ d, t = (j + 1) + d := ⟨t - (j + 1), by omega⟩
  refine stay2 ?_ d fun k h1 _ => by rw [midM_past (by omega), midM_past (by omega)]; exact ⟨los3.1, los3.1⟩
  show afV (runS snd b (midM l j x) j).2 (if losB (midM l j x j) 0 then _ else _) = afV (runS snd b (midM l j y) j).2 (if losB (midM l j y j) 0 then _ else _)
  rw [mid_same snd b l j x y, midM_at, midM_at, h]
theorem bits3 {x : Int} (h : 0 ≤ x ∧ x ≤ 3) : (losB x 1 = losB 1 1 ∧ losB 1 0 = losB 3 0) ∨ losB x 1 = losB 3 1 ∨ losB x 0 = losB 3 0 := by
  have : x = 0 ∨ x = 1 ∨ x = 2 ∨ x = 3 := by omega
  rcases this with rfl | rfl | rfl | rfl <;> decide
/-- A run is reached at a time. -/
def PrR (snd : Int → Int → Int) (T : Nat) (ps : List (Int × List Int)) (R : Nat → Nat → Bool) (i t : Nat) (b : Int) (l : Nat → Int) : Prop := ∃ r, RunIs snd T ps r b l ∧ Rch R i (r * (T + 1) + t)
theorem ak_run {snd : Int → Int → Int} {T t : Nat} {ps : List (Int × List Int)} {r r' : Nat} (ht : t ≤ T) (hr : r < ps.length) (hr' : r' < ps.length)
    (h : (runS snd (ppR ps r).1 (lf (ppR ps r).2) t).1 = (runS snd (ppR ps r').1 (lf (ppR ps r').2) t).1 ∨ (runS snd (ppR ps r).1 (lf (ppR ps r).2) t).2 = (runS snd (ppR ps r').1 (lf (ppR ps r').2) t).2) :
    akB 2 (psL snd ps) (ptL ps.length (T + 1)) (r * (T + 1) + t) (r' * (T + 1) + t) = true := by
  have hp := pos_lt (l := T + 1) (t := t) hr (by omega)
  have hp' := pos_lt (l := T + 1) (t := t) hr' (by omega)
  unfold akB
  rw [ptG_get hp, ptG_get hp', pos_div (by omega), pos_div (by omega), pos_mod (by omega), pos_mod (by omega), Bool.and_eq_true, decide_eq_true_eq, ptL_len]
  refine ⟨hp', ?_⟩
  rw [List.any_eq_true]
  rcases h with h | h
  · exact ⟨0, by simp, by rw [beq_iff_eq]; exact h.symm⟩
  · exact ⟨1, by simp, by rw [beq_iff_eq]; exact h.symm⟩
theorem PrR.step {snd : Int → Int → Int} {T t i : Nat} {b b' : Int} {l l' : Nat → Int} (hs : ∀ a h, 0 ≤ snd a h ∧ snd a h ≤ 3) (h64 : (losRs snd T).length ≤ 64) (ht : t ≤ T) (hb : b' = 0 ∨ b' = 1) (hl : ∀ k, 0 ≤ l' k ∧ l' k ≤ 3)
    (h : PrR snd T (losRs snd T) (akB 2 (psL snd (losRs snd T)) (ptL (losRs snd T).length (T + 1))) i t b l) (hk : (runS snd b l t).1 = (runS snd b' l' t).1 ∨ (runS snd b l t).2 = (runS snd b' l' t).2) :
    PrR snd T (losRs snd T) (akB 2 (psL snd (losRs snd T)) (ptL (losRs snd T).length (T + 1))) i t b' l' := by
  obtain ⟨r, ⟨hr, -, h3⟩, hR⟩ := h
  obtain ⟨r', hr', h2', h3'⟩ := run_of hs h64 hb hl
  refine ⟨r', ⟨hr', h2', h3'⟩, hR.step (ak_run ht hr hr' ?_)⟩
  rw [h3 t ht, h3' t ht]
  exact hk
theorem PrR.cut {snd : Int → Int → Int} {T t i : Nat} {b : Int} {l : Nat → Int} (hs : ∀ a h, 0 ≤ snd a h ∧ snd a h ≤ 3) (h64 : (losRs snd T).length ≤ 64) (ht : t ≤ T) (hb : b = 0 ∨ b = 1) (hl : ∀ k, 0 ≤ l k ∧ l k ≤ 3)
    (h : PrR snd T (losRs snd T) (akB 2 (psL snd (losRs snd T)) (ptL (losRs snd T).length (T + 1))) i t b l) : ∀ d, d ≤ t → PrR snd T (losRs snd T) (akB 2 (psL snd (losRs snd T)) (ptL (losRs snd T).length (T + 1))) i t b (cutM l (t - d))
  | 0, _ => h.step hs h64 ht hb (cutM_range hl) (.inl (by rw [runS_congr (l := l) (l' := cutM l (t - 0)) t fun k hk => by unfold cutM; rw [if_pos (by omega)]]))
  | d + 1, hd => by
    have ih := PrR.cut hs h64 ht hb hl h d (by omega)
    obtain ⟨j, hj⟩ : ∃ j, j = t - (d + 1) := ⟨_, rfl⟩
    rw [show t - d = j + 1 by omega, cutM_mid] at ih
    rw [← hj, ← midM_cut]
    rcases bits3 (hl j) with ⟨h1, h2⟩ | h1 | h1
    · exact (ih.step hs h64 ht hb (midM_range (x := 1) hl (by decide)) (.inl (mid1 (by omega) h1))).step hs h64 ht hb (midM_range (x := 3) hl (by decide)) (.inr (mid2 (by omega) h2))
    · exact ih.step hs h64 ht hb (midM_range (x := 3) hl (by decide)) (.inl (mid1 (by omega) h1))
    · exact ih.step hs h64 ht hb (midM_range (x := 3) hl (by decide)) (.inr (mid2 (by omega) h1))
/-- Every point reaches, at its time, a run of either bit. -/
theorem both_bits {snd : Int → Int → Int} {T t r : Nat} (hs : ∀ a h, 0 ≤ snd a h ∧ snd a h ≤ 3) (hT : T ≤ 4) (h64 : (losRs snd T).length ≤ 64) (ht : t ≤ T) (hr : r < (losRs snd T).length) {b : Int} (hb : b = 0 ∨ b = 1) :
    ∃ r', r' < (losRs snd T).length ∧ (ppR (losRs snd T) r').1 = b ∧ Rch (akB 2 (psL snd (losRs snd T)) (ptL (losRs snd T).length (T + 1))) (r * (T + 1) + t) (r' * (T + 1) + t) := by
  have g := (losP hs hT h64).good _ (ppR_mem hr)
  have h0 : PrR snd T (losRs snd T) (akB 2 (psL snd (losRs snd T)) (ptL (losRs snd T).length (T + 1))) (r * (T + 1) + t) t (ppR (losRs snd T) r).1 (lf (ppR (losRs snd T) r).2) :=
    ⟨r, ⟨hr, rfl, fun _ _ => rfl⟩, Rch.one (ak_run ht hr hr (.inl rfl))⟩
  have h1 := h0.cut hs h64 ht g.1 g.2.2 t (Nat.le_refl _)
  have h2 := h1.step (b' := b) (l' := cutM (lf (ppR (losRs snd T) r).2) (t - t)) hs h64 ht hb (cutM_range g.2.2) (.inr (by
    have h3 : ∀ k, cutM (lf (ppR (losRs snd T) r).2) (t - t) k = 3 := fun k => by unfold cutM; rw [if_neg (by omega)]
    have := stay2 (snd := snd) (b := (ppR (losRs snd T) r).1) (b' := b) (l := cutM (lf (ppR (losRs snd T) r).2) (t - t)) (l' := cutM (lf (ppR (losRs snd T) r).2) (t - t)) (j := 0) (by
      show stV 1 _ = stV 1 b
      unfold stV
      rcases g.1 with h | h <;> rcases hb with h' | h' <;> rw [h, h'] <;> rfl) t (fun k _ _ => by rw [h3 k]; exact ⟨los3.1, los3.1⟩)
    rwa [Nat.zero_add] at this))
  obtain ⟨r', ⟨h3, h4, -⟩, h5⟩ := h2
  exact ⟨r', h3, h4, h5⟩
/-- At no point of the lossy channel is the bit common knowledge. -/
theorem never' {snd : Int → Int → Int} {T : Nat} {ps : List (Int × List Int)} (eps : losRs snd T = ps) (hT : T ≤ 4) (hs : ∀ a h, 0 ≤ snd a h ∧ snd a h ≤ 3) (h64 : ps.length ≤ 64) (hc : lchk T ps) {r t : Nat} (hr : r < ps.length) (ht : t ≤ T) :
    comE 2 1 ((T : Int) + 1) ps.length (lT ps) (fun _ _ => 2) (lT ps) (lF ps) (r : Nat) (t : Nat) 0 = 0 ∧ comV 2 1 ((T : Int) + 1) ps.length (lT ps) (fun _ _ => 2) (psL snd ps) (lT ps) (lF ps) (r : Nat) (t : Nat) 0 = false := by
  have hE : comE 2 1 ((T : Int) + 1) ps.length (lT ps) (fun _ _ => 2) (lT ps) (lF ps) (r : Nat) (t : Nat) 0 = 0 := by
    unfold comE entE
    have hin : inP ps.length ((T : Int) + 1).toNat (r : Nat) (t : Nat) := ⟨⟨by omega, by omega⟩, by omega, by omega⟩
    unfold lchk at hc
    rw [if_pos hc, if_pos hin, if_pos rfl, if_pos (by decide)]
  refine ⟨hE, ?_⟩
  have hl : ((T : Int) + 1).toNat = T + 1 := by omega
  have hb := fun (b : Int) (h : b = 0 ∨ b = 1) => by
    have := both_bits (t := t) (r := r) hs hT (by rw [eps]; exact h64) ht (by rw [eps]; exact hr) h
    rw [eps] at this
    exact this
  have hf : ∀ r', r' < ps.length → facK (lF ps) ps.length ((T : Int) + 1) 0 (r' * (T + 1) + t) = (ppR ps r').1.toNat.testBit 0 := fun r' h => by
    unfold facK facB2 lF
    rw [hl, ptG_get (pos_lt h (by omega)), pos_div (by omega)]
  have hak : akS 2 ((T : Int) + 1) ps.length (psL snd ps) = akB 2 (psL snd ps) (ptL ps.length (T + 1)) := by
    unfold akS
    rw [hl]
    rfl
  have hpos : posP ((T : Int) + 1) (r : Nat) (t : Nat) = r * (T + 1) + t := by
    unfold posP
    rw [hl]
    rfl
  unfold comV
  rw [decide_eq_true hE, Bool.true_and, hak, hl, hpos, Bool.not_eq_false', List.any_eq_true]
  have pick : ∀ b : Int, b = 0 ∨ b = 1 → ∃ k, k ∈ cmpL (akB 2 (psL snd ps) (ptL ps.length (T + 1))) (ps.length * (T + 1)) (r * (T + 1) + t) ∧ facK (lF ps) ps.length ((T : Int) + 1) 0 k = b.toNat.testBit 0 := fun b h => by
    obtain ⟨r', h1, h2, h3⟩ := hb b h
    exact ⟨r' * (T + 1) + t, mem_cmpL.2 ⟨pos_lt h1 (by omega), h3⟩, by rw [hf r' h1, h2]⟩
  cases hg : facK (lF ps) ps.length ((T : Int) + 1) 0 ((cmpL (akB 2 (psL snd ps) (ptL ps.length (T + 1))) (ps.length * (T + 1)) (r * (T + 1) + t)).getD 0 0) with
  | true =>
    obtain ⟨k, h1, h2⟩ := pick 0 (.inl rfl)
    refine ⟨k, h1, ?_⟩
    show (facK (lF ps) ps.length ((T : Int) + 1) 0 k != facK (lF ps) ps.length ((T : Int) + 1) 0 _) = true
    rw [hg, h2]
    rfl
  | false =>
    obtain ⟨k, h1, h2⟩ := pick 1 (.inr rfl)
    refine ⟨k, h1, ?_⟩
    show (facK (lF ps) ps.length ((T : Int) + 1) 0 k != facK (lF ps) ps.length ((T : Int) + 1) 0 _) = true
    rw [hg, h2]
    rfl
theorem never {R : Int} {n : Nat} {fa fh fm : Nat → Int} (hR : 0 ≤ R ∧ R ≤ 4) (hs : ∀ a h, 0 ≤ sndV n fa fh fm a h ∧ sndV n fa fh fm a h ≤ 3) (h64 : (losRs (sndV n fa fh fm) R.toNat).length ≤ 64) (hc : lchk R (losRs (sndV n fa fh fm) R.toNat)) {r t : Nat} (hr : r < (losRs (sndV n fa fh fm) R.toNat).length) (ht : (t : Int) < R + 1) :
    comE 2 1 (R + 1) (losRs (sndV n fa fh fm) R.toNat).length (lT (losRs (sndV n fa fh fm) R.toNat)) (fun _ _ => 2) (lT (losRs (sndV n fa fh fm) R.toNat)) (lF (losRs (sndV n fa fh fm) R.toNat)) (r : Nat) (t : Nat) 0 = 0 ∧
    comV 2 1 (R + 1) (losRs (sndV n fa fh fm) R.toNat).length (lT (losRs (sndV n fa fh fm) R.toNat)) (fun _ _ => 2) (psL (sndV n fa fh fm) (losRs (sndV n fa fh fm) R.toNat)) (lT (losRs (sndV n fa fh fm) R.toNat)) (lF (losRs (sndV n fa fh fm) R.toNat)) (r : Nat) (t : Nat) 0 = false := by
  obtain ⟨T, rfl⟩ : ∃ T : Nat, R = (T : Int) := ⟨R.toNat, by omega⟩
  exact never' rfl (by omega) hs h64 hc hr (by omega)
end Go.Proofs.Ytahaimecchdfeaa

/-
  Plain facts: with the alternating protocol the depth of mutual knowledge is the number of messages delivered.
-/
namespace Go.Proofs.Ytahaimecchdfeaa
open Go.RowKit

def alA (k : Nat) (j : Nat) : Int := ((altS k).getD j (0, 0, 0)).1
def alH (k : Nat) (j : Nat) : Int := ((altS k).getD j (0, 0, 0)).2.1
def alM (k : Nat) (j : Nat) : Int := ((altS k).getD j (0, 0, 0)).2.2
def alS (k : Nat) : Int → Int → Int := sndV k (alA k) (alH k) (alM k)
def alPs (k : Nat) : List (Int × List Int) := losRs (alS k) k
def exactB (k : Nat) : Bool := (List.range (k + 2)).all fun r => (List.range (k + 1)).all fun t =>
  delF 2 1 ((k : Int) + 1) (k + 2) (lT (alPs k)) (fun _ _ => 2) (psL (alS k) (alPs k)) (lT (alPs k)) (lF (alPs k)) r t == 0 &&
  depE 2 1 ((k : Int) + 1) (k + 2) (lT (alPs k)) (fun _ _ => 2) (lT (alPs k)) (lF (alPs k)) r t 0 20 == 0 &&
  depV 2 1 ((k : Int) + 1) (k + 2) (lT (alPs k)) (fun _ _ => 2) (psL (alS k) (alPs k)) (lT (alPs k)) (lF (alPs k)) r t 0 20 == delV 2 1 ((k : Int) + 1) (k + 2) (lT (alPs k)) (fun _ _ => 2) (psL (alS k) (alPs k)) (lT (alPs k)) (lF (alPs k)) r t
set_option maxRecDepth 100000
def alB (k : Nat) : Bool := losE k k (alA k) (alH k) (alM k) == 0 && (altS k).length == k && (alPs k).length == k + 2
theorem al_all : (alB 0 && alB 1 && alB 2 && alB 3 && alB 4) = true := by kernel_rfl
theorem al_nums {k : Nat} (hk : k ≤ 4) : losE k k (alA k) (alH k) (alM k) = 0 ∧ (altS k).length = k ∧ (alPs k).length = k + 2 := by
  have h := al_all
  simp only [Bool.and_eq_true] at h
  have hb : alB k = true := by
    have : k = 0 ∨ k = 1 ∨ k = 2 ∨ k = 3 ∨ k = 4 := by omega
    rcases this with rfl | rfl | rfl | rfl | rfl
    · exact h.1.1.1.1
    · exact h.1.1.1.2
    · exact h.1.1.2
    · exact h.1.2
    · exact h.2
  unfold alB at hb
  simp only [Bool.and_eq_true, beq_iff_eq] at hb
  exact ⟨hb.1.1, hb.1.2, hb.2⟩
theorem exact0 : exactB 0 = true := by kernel_rfl
theorem exact1 : exactB 1 = true := by kernel_rfl
theorem exact2 : exactB 2 = true := by kernel_rfl
theorem exact3 : exactB 3 = true := by kernel_rfl
theorem exact4 : exactB 4 = true := by kernel_rfl
theorem exact_any {k : Nat} (hk : k ≤ 4) {r t : Nat} (hr : r < k + 2) (ht : t < k + 1) :
    delF 2 1 ((k : Int) + 1) (k + 2) (lT (alPs k)) (fun _ _ => 2) (psL (alS k) (alPs k)) (lT (alPs k)) (lF (alPs k)) r t = 0 ∧
    depE 2 1 ((k : Int) + 1) (k + 2) (lT (alPs k)) (fun _ _ => 2) (lT (alPs k)) (lF (alPs k)) r t 0 20 = 0 ∧
    depV 2 1 ((k : Int) + 1) (k + 2) (lT (alPs k)) (fun _ _ => 2) (psL (alS k) (alPs k)) (lT (alPs k)) (lF (alPs k)) r t 0 20 = delV 2 1 ((k : Int) + 1) (k + 2) (lT (alPs k)) (fun _ _ => 2) (psL (alS k) (alPs k)) (lT (alPs k)) (lF (alPs k)) r t := by
  have hb : exactB k = true := by
    have : k = 0 ∨ k = 1 ∨ k = 2 ∨ k = 3 ∨ k = 4 := by omega
    rcases this with rfl | rfl | rfl | rfl | rfl
    · exact exact0
    · exact exact1
    · exact exact2
    · exact exact3
    · exact exact4
  unfold exactB at hb
  have h1 := List.all_eq_true.1 hb r (List.mem_range.2 hr)
  have h2 := List.all_eq_true.1 h1 t (List.mem_range.2 ht)
  simp only [Bool.and_eq_true, beq_iff_eq] at h2
  exact ⟨h2.1.1, h2.1.2, h2.2⟩
end Go.Proofs.Ytahaimecchdfeaa
