/-
  Texts of this claim, one after the other: what each proves is said at its head. No condition beyond those that its theorems name.
-/
import Derived.Test.YtahaimecchdfeaaProg
import Derived.Deep.DeepCutAuto
import Derived.Deep.RegionHeld3
import Derived.Shelf.RegionOpenPlain
import Derived.Test.YtahaimecchdfeaaG01
import Derived.Test.YtahaimecchdfeaaG02

/-
  Walks: slices.Reverse of points.
-/
namespace Go.Proofs.Ytahaimecchdfeaa
open Go.RowKit

theorem own_put {w : World} {base e sz n g c k : Nat} {xs : List Value} (h : w.ownsRow base e sz (.slice (some ⟨g, 0, none⟩) n c) n xs) (x : Value) : (w.setCell ⟨g, k, none⟩ x).ownsRow base e sz (.slice (some ⟨g, 0, none⟩) n c) n (xs.set k x) := by
  refine ⟨by rw [List.length_set]; exact h.1, ?_⟩
  rcases h.2 with ⟨h1, _⟩ | ⟨g', cap, cur, e1, hg, hh, h3, h4, h5, h6⟩
  · cases h1
  · injection e1 with e1 e2 e3
    injection e1 with e1
    injection e1 with e4 e5
    subst e4 e3
    refine .inr ⟨g, c, cur.setIfInBounds k x, rfl, hg, Lib.heap_setCell_same hh x, h3, h4, by simpa using h5, ?_⟩
    rw [Array.toList_setIfInBounds, List.take_set, h6]
theorem crL_set : ∀ (l : List (Nat × Nat)) (t : Nat) (c : Nat × Nat), ((crL l).set (t * 2) (.int .i64 (c.1 : Nat))).set (t * 2 + 1) (.int .i64 (c.2 : Nat)) = crL (l.set t c)
  | [], t, c => by simp [crL]
  | d :: l, 0, c => rfl
  | d :: l, t + 1, c => by
    have ih := crL_set l t c
    have e : crL (d :: l) = .int .i64 (d.1 : Nat) :: .int .i64 (d.2 : Nat) :: crL l := rfl
    have e2 : crL (d :: l.set t c) = .int .i64 (d.1 : Nat) :: .int .i64 (d.2 : Nat) :: crL (l.set t c) := rfl
    rw [List.set_cons_succ, e2, e, show (t + 1) * 2 = t * 2 + 1 + 1 from by omega, ← ih]
    rfl
/-- A list, after so many swaps. -/
def rvP (l : List (Nat × Nat)) (i : Nat) : List (Nat × Nat) := (List.range l.length).map fun t => if t < i ∨ l.length - i ≤ t then l.getD (l.length - 1 - t) (0, 0) else l.getD t (0, 0)
theorem rvP_len (l : List (Nat × Nat)) (i : Nat) : (rvP l i).length = l.length := by unfold rvP; simp
theorem rvP_get {l : List (Nat × Nat)} {i t : Nat} (h : t < l.length) : (rvP l i)[t]? = some (if t < i ∨ l.length - i ≤ t then l.getD (l.length - 1 - t) (0, 0) else l.getD t (0, 0)) := by unfold rvP; simp [h]
theorem rvP_zero (l : List (Nat × Nat)) : rvP l 0 = l := by
  apply List.ext_getElem?
  intro t
  by_cases h : t < l.length
  · rw [rvP_get h, if_neg (by omega), List.getD_eq_getElem?_getD, List.getElem?_eq_getElem h]; rfl
  · rw [List.getElem?_eq_none_iff.2 (by rw [rvP_len]; omega), List.getElem?_eq_none_iff.2 (by omega)]
theorem rvP_end {l : List (Nat × Nat)} {i : Nat} (h : l.length ≤ 2 * i + 1) : rvP l i = l.reverse := by
  apply List.ext_getElem?
  intro t
  by_cases ht : t < l.length
  · rw [rvP_get ht, List.getElem?_reverse ht]
    by_cases hc : t < i ∨ l.length - i ≤ t
    · rw [if_pos hc, List.getD_eq_getElem?_getD, List.getElem?_eq_getElem (by omega)]; rfl
    · rw [if_neg hc, show l.length - 1 - t = t by omega, List.getD_eq_getElem?_getD, List.getElem?_eq_getElem ht]; rfl
  · rw [List.getElem?_eq_none_iff.2 (by rw [rvP_len]; omega), List.getElem?_eq_none_iff.2 (by rw [List.length_reverse]; omega)]
theorem rvP_step {l : List (Nat × Nat)} {i : Nat} (h : 2 * i + 1 < l.length) : ((rvP l i).set i (l.getD (l.length - 1 - i) (0, 0))).set (l.length - 1 - i) (l.getD i (0, 0)) = rvP l (i + 1) := by
  apply List.ext_getElem?
  intro t
  by_cases ht : t < l.length
  · rw [rvP_get ht, List.getElem?_set, List.getElem?_set, List.length_set, rvP_len]
    by_cases h1 : l.length - 1 - i = t
    · rw [if_pos h1, if_pos (by omega), if_pos (by omega), show l.length - 1 - t = i by omega]
    · rw [if_neg h1]
      by_cases h2 : i = t
      · rw [if_pos h2, if_pos (by omega), if_pos (by omega), h2]
      · rw [if_neg h2, rvP_get ht]
        by_cases h3 : t < i ∨ l.length - i ≤ t
        · rw [if_pos h3, if_pos (by omega)]
        · rw [if_neg h3, if_neg (by omega)]
  · rw [List.getElem?_eq_none_iff.2 (by rw [List.length_set, List.length_set, rvP_len]; omega), List.getElem?_eq_none_iff.2 (by rw [rvP_len]; omega)]
set_option maxHeartbeats 4000000 in
set_option maxRecDepth 100000 in
theorem Reverse_any (v : Value) (l : List (Nat × Nat)) (w : World) (base : Nat) (h : PnO w base v l) (_hb : base ≤ w.heap.size) (hl : l.length ≤ 65536) (hne : l ≠ []) :
    Calls Try.prog 63 #[v] w fun e w' => (∃ u, e = .returned u) ∧ PnO w' base v l.reverse ∧ Below base w w' := by
  have H := Lib.hid h
  obtain ⟨N, eN⟩ : ∃ N, N = l.length := ⟨_, rfl⟩
  have EN := Lib.hid eN
  have hN : 0 < N := by
    rcases Nat.eq_zero_or_pos N with h0 | h0
    · exact absurd (List.eq_nil_of_length_eq_zero (by rw [← eN]; exact h0)) hne
    · exact h0
  obtain ⟨g, c, rfl⟩ : ∃ g c, v = .slice (some ⟨g, 0, none⟩) l.length c := by
    obtain ⟨p, hp⟩ : ∃ p, l[0]? = some p := ⟨_, List.getElem?_eq_getElem (by omega)⟩
    obtain ⟨b, c, e, -⟩ := pnO_at h hp
    exact ⟨b, c, e⟩
  have hg : base ≤ g := (h.lt g rfl).1
  rw [← eN] at H hl ⊢
  have hw1 : IntKind.i64.wrap ((N : Int) - 1) = ((N - 1 : Nat) : Int) := by rw [IntKind.wrap_i64]; omega
  have hw2 : ((N : Int) - 1) = ((N - 1 : Nat) : Int) := by omega
  clear h eN hne
  have mixed : Try.prog.follows .mixedOrders = true := by kernel_rfl
  go_enter Try.func63, Try.ntmps63
  go_wp2_with fail
  obtain ⟨M, eM⟩ : ∃ M, M = N - 1 := ⟨_, rfl⟩
  rw [← eM]
  have EM := Lib.hid eM
  clear hw1 hw2 eM
  go_loopw [2, 3] (fun iv jv wr => ∃ i j : Nat, iv = .int .i64 i ∧ jv = .int .i64 j ∧ i + j + 1 = N ∧ i ≤ j + 1 ∧ PnO wr base (.slice (some ⟨g, 0, none⟩) N c) (rvP l i) ∧ Below base w wr) (fun iv jv _ => (intOf jv).toNat + 1 - (intOf iv).toNat)
  case atStart => exact ⟨0, M, rfl, rfl, by rw [EM.out]; omega, Nat.zero_le _, by rw [rvP_zero]; exact H.out, Below.refl _ _⟩
  case round =>
    obtain ⟨i, j, rfl, rfl, hij, hij2, hp, hbw⟩ := hrel
    have HP := Lib.hid hp
    have HBW := Lib.hid hbw
    by_cases hlt : i < j
    · have hii : (i : Int) < (j : Int) := by omega
      have hi1 : (i : Int) < (N : Int) := by omega
      have hj1 : (j : Int) < (N : Int) := by omega
      have hi0 : (0 : Int) ≤ (i : Int) := by omega
      have hj0 : (0 : Int) ≤ (j : Int) := by omega
      have hwj : IntKind.i64.wrap ((j : Int) - 1) = ((j - 1 : Nat) : Int) := by rw [IntKind.wrap_i64]; omega
      have hsj : ((j : Int) - 1) = ((j - 1 : Nat) : Int) := by omega
      have hlN := EN.out
      obtain ⟨p, hpi⟩ : ∃ p, p = l.getD i (0, 0) := ⟨_, rfl⟩
      obtain ⟨q, hqj⟩ : ∃ q, q = l.getD j (0, 0) := ⟨_, rfl⟩
      have gi : (rvP l i)[i]? = some p := by rw [rvP_get (by omega), if_neg (by omega), hpi]
      have gj : (rvP l i)[j]? = some q := by rw [rvP_get (by omega), if_neg (by omega), hqj]
      obtain ⟨g1, c1, e1, a0, a1⟩ := pnO_at hp gi
      injection e1 with e1 e2 e3
      injection e1 with e1
      injection e1 with e1 _
      subst e1
      obtain ⟨g2, c2, e4, b0, b1⟩ := pnO_at hp gj
      injection e4 with e4 e5 e6
      injection e4 with e4
      injection e4 with e4 _
      subst e4
      have hst : ((rvP l i).set i q).set j p = rvP l (i + 1) := by
        have := rvP_step (l := l) (i := i) (by omega)
        rw [show l.length - 1 - i = j by omega, ← hpi, ← hqj] at this
        exact this
      have HST := Lib.hid hst
      obtain ⟨cur, hcur, hsz⟩ : ∃ cur, Blk wr g 26 cur ∧ N * 2 ≤ cur.size := by
        rcases hp.2 with ⟨h1, _⟩ | ⟨g', cap, cur, e1, _, hh, h3, _, h5, _⟩
        · cases h1
        · injection e1 with e1 _ _
          injection e1 with e1
          injection e1 with e1 _
          subst e1
          exact ⟨cur, hh, by rw [h5]; rw [rvP_len, ← hlN] at h3; exact Nat.mul_le_mul_right 2 h3⟩
      obtain ⟨p1, p2⟩ := p
      obtain ⟨q1, q2⟩ := q
      dsimp only at a0 a1 b0 b1
      have k1 := hcur.set (i * 2) (.int .i64 q1)
      have k2 := k1.set (i * 2 + 1) (.int .i64 q2)
      have k2d : Blk (((wr.setCell ⟨g, i * 2, none⟩ (.int .i64 q1)).setCell ⟨g, i * 2 + 1, none⟩ (.int .i64 q2)).drew) g 26 ((cur.setIfInBounds (i * 2) (.int .i64 q1)).setIfInBounds (i * 2 + 1) (.int .i64 q2)) := k2
      have k3 := k2.set (j * 2) (.int .i64 p1)
      have k3d : Blk ((((wr.setCell ⟨g, i * 2, none⟩ (.int .i64 q1)).setCell ⟨g, i * 2 + 1, none⟩ (.int .i64 q2)).setCell ⟨g, j * 2, none⟩ (.int .i64 p1)).drew) g 26 (((cur.setIfInBounds (i * 2) (.int .i64 q1)).setIfInBounds (i * 2 + 1) (.int .i64 q2)).setIfInBounds (j * 2) (.int .i64 p1)) := k3
      obtain ⟨y1, hy1⟩ : ∃ y, (cur.setIfInBounds (i * 2) (.int .i64 q1))[i * 2 + 1]? = some y := ⟨_, Array.getElem?_eq_getElem (by simp; omega)⟩
      obtain ⟨y2, hy2⟩ : ∃ y, ((cur.setIfInBounds (i * 2) (.int .i64 q1)).setIfInBounds (i * 2 + 1) (.int .i64 q2))[j * 2]? = some y := ⟨_, Array.getElem?_eq_getElem (by simp; omega)⟩
      obtain ⟨y3, hy3⟩ : ∃ y, (((cur.setIfInBounds (i * 2) (.int .i64 q1)).setIfInBounds (i * 2 + 1) (.int .i64 q2)).setIfInBounds (j * 2) (.int .i64 p1))[j * 2 + 1]? = some y := ⟨_, Array.getElem?_eq_getElem (by simp; omega)⟩
      have s1 := k1.cell hy1
      have s2 := k2d.cell hy2
      have s3 := k3.cell hy3
      have s3' := k3d.cell hy3
      have f3' := k3d.frozen (k := j * 2 + 1)
      have s2' := k2.cell hy2
      have f2' := k2.frozen (k := j * 2)
      have f0 := hcur.frozen (k := i * 2)
      have f1 := k1.frozen (k := i * 2 + 1)
      have f2 := k2d.frozen (k := j * 2)
      have f3 := k3.frozen (k := j * 2 + 1)
      have HFIN : Hid (PnO ((((wr.drew.setCell ⟨g, i * 2, none⟩ (.int .i64 q1)).setCell ⟨g, i * 2 + 1, none⟩ (.int .i64 q2)).setCell ⟨g, j * 2, none⟩ (.int .i64 p1)).setCell ⟨g, j * 2 + 1, none⟩ (.int .i64 p2)) base (.slice (some ⟨g, 0, none⟩) N c) (rvP l (i + 1)) ∧ Below base w ((((wr.drew.setCell ⟨g, i * 2, none⟩ (.int .i64 q1)).setCell ⟨g, i * 2 + 1, none⟩ (.int .i64 q2)).setCell ⟨g, j * 2, none⟩ (.int .i64 p1)).setCell ⟨g, j * 2 + 1, none⟩ (.int .i64 p2))) := Lib.hid (by
        refine ⟨?_, ((((below_drew hbw).setCell (p := ⟨g, _, none⟩) hg _).setCell (p := ⟨g, _, none⟩) hg _).setCell (p := ⟨g, _, none⟩) hg _).setCell (p := ⟨g, _, none⟩) hg _⟩
        rw [← hst]
        unfold PnO
        rw [List.length_set, List.length_set, rvP_len, ← hlN, ← crL_set _ j (p1, p2), ← crL_set _ i (q1, q2)]
        have ho : wr.drew.ownsRow base 26 2 (.slice (some ⟨g, 0, none⟩) N c) N (crL (rvP l i)) := by
          have h := hp
          unfold PnO at h
          rw [rvP_len, ← hlN] at h
          exact h
        exact own_put (own_put (own_put (own_put ho _) _) _) _)
      clear hp hbw hcur hsz k1 k2 k2d k3 k3d hy1 hy2 hy3 hst hlN hpi hqj gi gj e2 e3 e5 e6
      go_wp2_with fail
      go_big_region_o
      all_goals go_wp2_with fail
      go_roundw
      case rel => exact ⟨i + 1, j - 1, by go_num, rfl, by omega, by omega, HFIN.out.1, HFIN.out.2⟩
      case measure => simp [intOf]; omega
    · have hii : ¬ (i : Int) < (j : Int) := by omega
      have HE := Lib.hid (rvP_end (l := l) (i := i) (by rw [← EN.out]; omega))
      clear hp hbw
      go_wp2_with fail
      go_end0
      refine ⟨⟨_, rfl⟩, ?_, HBW.out⟩
      rw [← HE.out]
      exact HP.out
end Go.Proofs.Ytahaimecchdfeaa
