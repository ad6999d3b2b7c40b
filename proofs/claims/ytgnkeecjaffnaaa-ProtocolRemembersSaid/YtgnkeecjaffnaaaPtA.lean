/-
  Walks of layer 54: Patterns.
-/
import Derived.Test.YtgnkeecjaffnaaaProg
import Derived.Test.YtgnkeecjaffnaaaBase
import Derived.Test.YtgnkeecjaffnaaaRow
import Derived.Test.YtgnkeecjaffnaaaRowsOf
import Derived.Test.YtgnkeecjaffnaaaPc
import Derived.Test.YtgnkeecjaffnaaaPd
import Derived.Test.YtgnkeecjaffnaaaPrH
import Derived.Test.YtgnkeecjaffnaaaPfQ
import Derived.Test.YtgnkeecjaffnaaaPtP
import Derived.Test.YtgnkeecjaffnaaaPtQ
import Derived.Deep.RegionHeld3
import Derived.Deep.AppendLies
namespace Go.Proofs.Ytgnkeecjaffnaaa
open Go.RowKit

theorem below_grow' {w x y : World} {e sz n : Nat} {v : Value} {xs : List Value} (h : Below w.heap.size w x) (hown : x.ownsRow w.heap.size e sz v n xs) (hg : x.grownBy y v.ownBlock) : Below w.heap.size w y := h.grown hg h.size (fun k hk => (hown.lt k hk).1)
set_option maxHeartbeats 1000000 in
theorem pat_full (w0 : World) (bO bN bF bR n R d left : Nat) (fv : Value) (ls : List (Nat × Nat)) (v : Value) (rs : List (List (Nat × Nat))) (w : World) (vO : Value) (hrs : rs.length = 65) (hI : PatI w0 w bO bN bF bR n R fv vO rs) :
    Calls Try.prog 57 #[v, .int .i64 left, .pointer (some ⟨bO, 0, none⟩), .pointer (some ⟨bN, 0, none⟩), .pointer (some ⟨bF, 0, none⟩), .pointer (some ⟨bR, 0, none⟩)] w (PatPost w0 w bO bN bF bR n R fv (pT n R d left ls rs)) := by
  obtain ⟨rows, ho, hr⟩ := hI.pats
  obtain ⟨AO, cO, rfl, -⟩ := own_form ho
  have HI := Lib.hid hI
  have d0 := hI.hO.cell (k := 0) rfl
  have t1 : decide (64 < (rs.length : Int)) = true := decide_eq_true (by omega)
  have t1' : decide (64 < rs.length) = true := decide_eq_true (by omega)
  have HG := Lib.hid (pT_full (n := n) (R := R) (d := d) (left := left) (l := ls) hrs)
  clear hI ho hr hrs
  go_enter Try.func57, Try.ntmps57
  go_wp2_with fail
  refine bodyPost_ret (results_none rfl _ _ _) rfl ?_
  refine ⟨rfl, ⟨.slice AO rs.length cO, ?_⟩, Keeps.refl _ _⟩
  rw [HG.out]
  exact HI.out
set_option maxHeartbeats 1000000 in
theorem pat_leaf (w0 : World) (bO bN bF bR n R left : Nat) (fv : Value) (ls : List (Nat × Nat)) (v : Value) (rs : List (List (Nat × Nat))) (w : World) (vO : Value) (hl : ls.length = n) (hn : n ≤ 65536) (hrs : rs.length ≤ 64) (hv : CrO w w0.heap.size v ls) (hI : PatI w0 w bO bN bF bR n R fv vO rs) :
    Calls Try.prog 57 #[v, .int .i64 left, .pointer (some ⟨bO, 0, none⟩), .pointer (some ⟨bN, 0, none⟩), .pointer (some ⟨bF, 0, none⟩), .pointer (some ⟨bR, 0, none⟩)] w (PatPost w0 w bO bN bF bR n R fv (pT n R 0 left ls rs)) := by
  subst hl
  obtain ⟨rows, ho, hr⟩ := hI.pats
  obtain ⟨AO, cO, rfl, -⟩ := own_form ho
  obtain ⟨Al, cl, rfl, -⟩ := own_form' hv
  have HI := Lib.hid hI
  have HO := Lib.hid ho
  have HR := Lib.hid hr
  have HV := Lib.hid hv
  have d0 := hI.hO.cell (k := 0) rfl
  have d1 := hI.hN.cell (k := 0) rfl
  have hge := hI.ge
  have hsz := hI.below.size
  have t1 : decide (64 < (rs.length : Int)) = false := decide_eq_false (by omega)
  have t1' : decide (64 < rs.length) = false := decide_eq_false (by omega)
  have t2 : ((ls.length : Int) == (ls.length : Int)) = true := by rw [beq_iff_eq]
  have HG := Lib.hid (pT_leaf (n := ls.length) (R := R) (left := left) (l := ls) hrs)
  clear hI ho hr hv
  go_enter Try.func57, Try.ntmps57
  go_wp2_with (at_builtin; obtain ⟨i0, hi, hz0, hz1, hz2⟩ := info_parts Try.infoCrashes; refine wpList_append_lies _ (by rfl) _ _ 55 (by rfl) w0.heap.size 26 i0 _ 1 24 Try.underlying55 hi hz0 hz1 hz2 rfl (by decide) (.slice AO rs.length cO) rs.length _ (by rfl) (own_alloc' HO.out _) ⟨w.heap.size, 0, none⟩ 1 1 [.slice Al ls.length cl] (by rfl) (by rfl) (World.news_of_block (cs := #[.slice Al ls.length cl]) (t := 26) (fr := (0, 0)) (heap_alloc_new w _)) (by simp [Value.oneCell']) (by decide) (by unfold maxLen; omega) (by omega) (by simp; omega) (w.heap.size + 1) (by simp) ?_; intro gf capF w7 hown7 hgrow7 _ _; obtain ⟨q3, f3⟩ := HI.out.box HO.out hgrow7; have HOW7 := Lib.hid hown7; have HG7 := Lib.hid hgrow7; clear hi hz0 hz1 hz2 hown7 hgrow7)
  refine bodyPost_ret (results_none rfl _ _ _) rfl ?_
  obtain ⟨h1, h2⟩ := HI.out.grow HO.out HR.out HV.out HOW7.out HG7.out
  refine ⟨rfl, ⟨.slice (some ⟨gf, 0, none⟩) (rs.length + 1) capF, ?_⟩, h2⟩
  rw [HG.out]
  exact h1
set_option maxHeartbeats 4000000 in
set_option maxRecDepth 100000 in
theorem pat_step (w0 : World) (bO bN bF bR n R d : Nat) (fv : Value) (hfv : fv = (.func (.func 57) #[] #[.pointer (some ⟨bO, 0, none⟩), .pointer (some ⟨bN, 0, none⟩), .pointer (some ⟨bF, 0, none⟩), .pointer (some ⟨bR, 0, none⟩)])) (hn : n ≤ 4) (hR : R ≤ 3)
    (ih : ∀ (left : Nat) (ls : List (Nat × Nat)) (v : Value) (rs : List (List (Nat × Nat))) (w : World) (vO : Value), ls.length + d = n → left ≤ 4 → rs.length ≤ 65 → CrO w w0.heap.size v ls → PatI w0 w bO bN bF bR n R fv vO rs →
      Calls Try.prog 57 #[v, .int .i64 left, .pointer (some ⟨bO, 0, none⟩), .pointer (some ⟨bN, 0, none⟩), .pointer (some ⟨bF, 0, none⟩), .pointer (some ⟨bR, 0, none⟩)] w (PatPost w0 w bO bN bF bR n R fv (pT n R d left ls rs)))
    (left : Nat) (ls : List (Nat × Nat)) (v : Value) (rs : List (List (Nat × Nat))) (wr : World) (vO : Value) (hl : ls.length + (d + 1) = n) (hle : left ≤ 4) (hrs : rs.length ≤ 64) (hv : CrO wr w0.heap.size v ls) (hI : PatI w0 wr bO bN bF bR n R fv vO rs) :
    Calls Try.prog 57 #[v, .int .i64 left, .pointer (some ⟨bO, 0, none⟩), .pointer (some ⟨bN, 0, none⟩), .pointer (some ⟨bF, 0, none⟩), .pointer (some ⟨bR, 0, none⟩)] wr (PatPost w0 wr bO bN bF bR n R fv (pT n R (d + 1) left ls rs)) := by
  subst hfv
  obtain ⟨rows, ho, hr⟩ := hI.pats
  obtain ⟨AO, cO, rfl, -⟩ := own_form ho
  obtain ⟨Al, cl, rfl, -⟩ := own_form' hv
  have HIH := Lib.hid ih
  have HIi := Lib.hid hI
  have HVi := Lib.hid hv
  have d0 := hI.hO.cell (k := 0) rfl
  have d1 := hI.hN.cell (k := 0) rfl
  have z0 := hI.hF.cell (k := 0) rfl
  have t1 : decide (64 < (rs.length : Int)) = false := decide_eq_false (by omega)
  have t1' : decide (64 < rs.length) = false := decide_eq_false (by omega)
  have t2 : ((ls.length : Int) == (n : Int)) = false := by rw [beq_eq_false_iff_ne]; omega
  have HKi := Lib.hid (Keeps.refl wr 37)
  have IH := Lib.hid (fun v W (hv : CrO W w0.heap.size v (ls ++ [(0, 0)])) (h : PatI w0 W bO bN bF bR n R (.func (.func 57) #[] #[.pointer (some ⟨bO, 0, none⟩), .pointer (some ⟨bN, 0, none⟩), .pointer (some ⟨bF, 0, none⟩), .pointer (some ⟨bR, 0, none⟩)]) (.slice AO rs.length cO) rs) => ih left (ls ++ [(0, 0)]) v rs W _ (by rw [List.length_append]; simp; omega) hle (by omega) hv h)
  have HLX := Lib.hid (show crL (ls ++ [(0, 0)]) = crL ls ++ [.int .i64 0, .int .i64 0] from crL_snoc ls (0, 0))
  have hb0 := below_drew (Below.refl wr.heap.size wr)
  have HRS := Lib.hid hrs
  have HL := Lib.hid hl
  clear hI ho hr hv ih
  go_enter Try.func57, Try.ntmps57
  go_upto_region 3 with (fail)
  clear t1 t1' t2 d0 d1
  go_cut [21] (fun _ wc => ∃ vOi, PatI w0 wc bO bN bF bR n R (.func (.func 57) #[] #[.pointer (some ⟨bO, 0, none⟩), .pointer (some ⟨bN, 0, none⟩), .pointer (some ⟨bF, 0, none⟩), .pointer (some ⟨bR, 0, none⟩)]) vOi (pT n R d left (ls ++ [(0, 0)]) rs) ∧ Keeps wr wc 37)
  case first =>
    go_region_held3 (fun z => z.cell? ⟨bF, 0, none⟩ = some (.func (.func 57) #[] #[.pointer (some ⟨bO, 0, none⟩), .pointer (some ⟨bN, 0, none⟩), .pointer (some ⟨bF, 0, none⟩), .pointer (some ⟨bR, 0, none⟩)])) (first | exact z0 | assumption | exact cell_below (below_alloc _ _) (by assumption)) (first | (go_at_call 58; refine (cloneC _ _ _ _ (by first | exact own_below' HVi.out hb0 (Nat.le_refl _) | exact own_below' HVi.out (below_more hb0 _) (Nat.le_refl _)) (by omega)).mono ?_; rintro e w1 ⟨v1, rfl, hown, HC1⟩; have HB1 : Below wr.heap.size wr w1 := below_trans (by first | exact hb0 | exact below_more hb0 _) HC1; have HOW1 : w1.ownsRow wr.heap.size 37 2 v1 ls.length (crL ls) := own_mono' hown (by first | exact hb0.size | exact (below_more hb0 _).size); have z0 := cell_below HB1 z0; clear hown) | (obtain ⟨i0, hi, hz0, hz1, hz2⟩ := info_parts Try.infoCrash; refine step_append_lies _ (by rfl) _ _ _ (by rfl) wr.heap.size 37 i0 _ 2 16 Try.underlying26 hi hz0 hz1 hz2 rfl (by decide) v1 ls.length (crL ls) (by rfl) (by first | exact HOW1 | exact own_alloc' HOW1 _) _ 1 1 [.int .i64 (0), .int .i64 (0)] (by rfl) (by rfl) (World.news_of_block (cs := #[.int .i64 (0), .int .i64 (0)]) (t := 37) (fr := (0, 0)) (by (repeat (first | exact Blk.new' _ _ _ _ (by first | (simp; done) | fail) | refine Blk.alloc ?_ _ | refine Blk.below ?_ HC1)); (first | done | fail))) (by simp [Value.oneCell']) (by decide) (by unfold maxLen; omega) (by omega) (by first | exact HB1.size | exact (below_more HB1 _).size) _ rfl ?_; intro g5 c5 w5 hown5 hgrow5 _ _; have HB5 : Below wr.heap.size wr w5 := below_grow' (by first | exact HB1 | exact below_more HB1 _) (by first | exact HOW1 | exact own_alloc' HOW1 _) hgrow5; have z0 := (HIi.out.keep HB5).hF.cell (k := 0) rfl; rw [← HLX.out] at hown5; have HOW5 := Lib.hid (own_mono' hown5 HIi.out.below.size); clear hi hz0 hz1 hz2 hown5 hgrow5) | (go_at_call 57; refine (IH.out _ _ (by unfold CrO; rw [List.length_append]; exact HOW5.out) (HIi.out.keep HB5)).mono ?_; rintro e w6 ⟨rfl, ⟨vR6, hI6⟩, hK6⟩; have z0 := hI6.hF.cell (k := 0) rfl; have HI6 := Lib.hid hI6; have HK6 := Lib.hid ((HKi.out.trans (Keeps.of_below HB5 _)).trans hK6); clear hI6 hK6) | fail)
    all_goals (
      go_wp2_with fail
      go_meet
      exact ⟨_, HI6.out, HK6.out⟩)
  case rest =>
    obtain ⟨vOi, hIi, hKi⟩ := hcut
    have HVc := Lib.hid (own_keeps HVi.out hKi)
    have HK0 := Lib.hid hKi
    have HI0 := Lib.hid hIi
    clear IH HLX hb0 z0 HIi HVi HKi hIi hKi
    by_cases hl0 : left = 0
    · subst hl0
      have t3 : (((0 : Nat) : Int) == 0) = true := rfl
      have HG := Lib.hid (pT_zero (n := n) (R := R) (d := d) (l := ls) (rs := rs))
      go_wp2_with fail
      refine bodyPost_ret (results_none rfl _ _ _) rfl ?_
      exact ⟨rfl, ⟨vOi, by rw [HG.out]; exact HI0.out⟩, HK0.out⟩
    · obtain ⟨lt, rfl⟩ : ∃ lt, left = lt + 1 := ⟨left - 1, by omega⟩
      have t3 : (((lt + 1 : Nat) : Int) == 0) = false := by rw [beq_eq_false_iff_ne]; omega
      have t3' : ((lt : Int) + 1 == 0) = false := by rw [beq_eq_false_iff_ne]; omega
      have HG := Lib.hid (pK_end (n := n) (R := R) (d := d) (left := lt + 1) (l := ls) (rs := rs) hl0)
      have HG0 := Lib.hid (pK_zero (n := n) (R := R) (d := d) (left := lt + 1) (l := ls) (rs := rs))
      obtain ⟨V, eV⟩ : ∃ V, wc = V := ⟨_, rfl⟩
      have HKw := Lib.hid (show Keeps wr V 37 by rw [← eV]; exact HK0.out)
      have HVV : Hid (CrO V w0.heap.size (.slice Al ls.length cl) ls) := by rw [← eV]; exact HVc
      have HIV : Hid (PatI w0 V bO bN bF bR n R (.func (.func 57) #[] #[.pointer (some ⟨bO, 0, none⟩), .pointer (some ⟨bN, 0, none⟩), .pointer (some ⟨bF, 0, none⟩), .pointer (some ⟨bR, 0, none⟩)]) vOi (pT n R d (lt + 1) (ls ++ [(0, 0)]) rs)) := by rw [← eV]; exact HI0
      rw [eV]
      clear eV hl0 HK0 HVc HI0
      go_wp2_with fail
      go_loopw [8] (fun rv wr => ∃ r : Nat, r ≤ R ∧ rv = .int .i64 ((r + 1 : Nat) : Int) ∧ ∃ vOi, PatI w0 wr bO bN bF bR n R (.func (.func 57) #[] #[.pointer (some ⟨bO, 0, none⟩), .pointer (some ⟨bN, 0, none⟩), .pointer (some ⟨bF, 0, none⟩), .pointer (some ⟨bR, 0, none⟩)]) vOi (pK n R d (lt + 1) ls rs r 0) ∧ Keeps V wr 37) (fun rv _ => 8 - (intOf rv).toNat)
      case atStart => exact ⟨0, Nat.zero_le _, rfl, vOi, by rw [HG0.out]; exact HIV.out, Keeps.refl _ _⟩
      case round =>
        clear HIV
        obtain ⟨r, hr, rfl, vOr, hIr, hKr⟩ := hrel
        have d0 := hIr.hR.cell (k := 0) rfl
        have d1 := hIr.hN.cell (k := 0) rfl
        have HIr := Lib.hid hIr
        have HKr := Lib.hid hKr
        clear hIr hKr
        by_cases hrl : r < R
        · have e1 : decide (((r + 1 : Nat) : Int) ≤ (R : Int)) = true := decide_eq_true (by omega)
          have e1' : decide (r + 1 ≤ R) = true := decide_eq_true (by omega)
          have e1'' : decide ((r : Int) + 1 ≤ (R : Int)) = true := decide_eq_true (by omega)
          have hw := wrap_pow (k := n) rfl hn
          go_wp2_with fail
          go_loopw [38] (fun uv wr => ∃ u : Nat, u ≤ 2 ^ n ∧ uv = .int .i64 u ∧ ∃ vOi, PatI w0 wr bO bN bF bR n R (.func (.func 57) #[] #[.pointer (some ⟨bO, 0, none⟩), .pointer (some ⟨bN, 0, none⟩), .pointer (some ⟨bF, 0, none⟩), .pointer (some ⟨bR, 0, none⟩)]) vOi (pK n R d (lt + 1) ls rs r u) ∧ Keeps V wr 37) (fun uv _ => 16 - (intOf uv).toNat)
          case atStart => exact ⟨0, Nat.zero_le _, rfl, vOr, HIr.out, HKr.out⟩
          case round =>
            clear HIr HKr d0 d1
            obtain ⟨u, hu, rfl, vOu, hIu, hKu⟩ := hrel
            have h16 : (2 : Nat) ^ n ≤ 16 := Nat.pow_le_pow_right (n := 2) (j := 4) (by decide) hn
            have hpw : ((2 ^ n : Nat) : Int) = (2 : Int) ^ n := by rw [Int.natCast_pow]; rfl
            by_cases hul : u < 2 ^ n
            · have hul' : (u : Int) < (2 : Int) ^ n := by rw [← hpw]; omega
              have hul2 : decide ((u : Int) < (2 : Int) ^ n) = true := decide_eq_true hul'
              have hb := i64_bit u ls.length (by omega)
              have HIi := Lib.hid hIu
              have HKi := Lib.hid hKu
              have HVi := Lib.hid (own_keeps HVV.out hKu)
              have z0 := hIu.hF.cell (k := 0) rfl
              have hl64 : ls.length ≤ 64 := by omega
              cases hbt : u.testBit ls.length
              · rw [hbt] at hb
                have hb' : (bits .and .i64 ((u : Int) / 2 ^ ls.length) 1 == 0) = true := by rw [hb]; rfl
                have HGY := Lib.hid (pK_yes (n := n) (R := R) (d := d) (left := lt + 1) (r := r) (rs := rs) hbt)
                have IH := Lib.hid (fun v W (hv : CrO W w0.heap.size v (ls ++ [(r + 1, u)])) (h : PatI w0 W bO bN bF bR n R (.func (.func 57) #[] #[.pointer (some ⟨bO, 0, none⟩), .pointer (some ⟨bN, 0, none⟩), .pointer (some ⟨bF, 0, none⟩), .pointer (some ⟨bR, 0, none⟩)]) vOu (pK n R d (lt + 1) ls rs r u)) => HIH.out lt (ls ++ [(r + 1, u)]) v _ W _ (by rw [List.length_append]; simp; omega) (by omega) (pK_le _ _ _ _ _ _ _ _) hv h)
                have HLX := Lib.hid (show crL (ls ++ [(r + 1, u)]) = crL ls ++ [.int .i64 ((r : Int) + 1), .int .i64 (u : Int)] from crL_snoc ls (r + 1, u))
                clear hIu hKu hb hbt hpw
                go_upto_region 12 with (fail)
                have hb0 := below_drew (Below.refl wr.heap.size wr)
                have hwl : IntKind.i64.wrap (lt : Int) = (lt : Int) := by rw [IntKind.wrap_i64]; omega
                have hu1 : u + 1 ≤ 2 ^ n := hul
                have hu16 : u < 16 := by omega
                clear hb' hul hul' hul2 hw
                go_region_held3 (fun z => z.cell? ⟨bF, 0, none⟩ = some (.func (.func 57) #[] #[.pointer (some ⟨bO, 0, none⟩), .pointer (some ⟨bN, 0, none⟩), .pointer (some ⟨bF, 0, none⟩), .pointer (some ⟨bR, 0, none⟩)])) (first | exact z0 | assumption | exact cell_below (below_alloc _ _) (by assumption)) (first | (go_at_call 58; refine (cloneC _ _ _ _ (by first | exact own_below' HVi.out hb0 (Nat.le_refl _) | exact own_below' HVi.out (below_more hb0 _) (Nat.le_refl _)) (by omega)).mono ?_; rintro e w1 ⟨v1, rfl, hown, HC1⟩; have HB1 : Below wr.heap.size wr w1 := below_trans (by first | exact hb0 | exact below_more hb0 _) HC1; have HOW1 : w1.ownsRow wr.heap.size 37 2 v1 ls.length (crL ls) := own_mono' hown (by first | exact hb0.size | exact (below_more hb0 _).size); have z0 := cell_below HB1 z0; clear hown) | (obtain ⟨i0, hi, hz0, hz1, hz2⟩ := info_parts Try.infoCrash; refine step_append_lies _ (by rfl) _ _ _ (by rfl) wr.heap.size 37 i0 _ 2 16 Try.underlying26 hi hz0 hz1 hz2 rfl (by decide) v1 ls.length (crL ls) (by rfl) (by first | exact HOW1 | exact own_alloc' HOW1 _) _ 1 1 [.int .i64 ((r : Int) + 1), .int .i64 ((u : Int))] (by rfl) (by rfl) (World.news_of_block (cs := #[.int .i64 ((r : Int) + 1), .int .i64 ((u : Int))]) (t := 37) (fr := (0, 0)) (by (repeat (first | exact Blk.new' _ _ _ _ (by first | (simp; done) | fail) | refine Blk.alloc ?_ _ | refine Blk.below ?_ HC1)); (first | done | fail))) (by simp [Value.oneCell']) (by decide) (by unfold maxLen; omega) (by omega) (by first | exact HB1.size | exact (below_more HB1 _).size) _ rfl ?_; intro g5 c5 w5 hown5 hgrow5 _ _; have HB5 : Below wr.heap.size wr w5 := below_grow' (by first | exact HB1 | exact below_more HB1 _) (by first | exact HOW1 | exact own_alloc' HOW1 _) hgrow5; have z0 := (HIi.out.keep HB5).hF.cell (k := 0) rfl; rw [← HLX.out] at hown5; have HOW5 := Lib.hid (own_mono' hown5 HIi.out.below.size); clear hi hz0 hz1 hz2 hown5 hgrow5) | (go_at_call 57; refine (IH.out _ _ (by unfold CrO; rw [List.length_append]; exact HOW5.out) (HIi.out.keep HB5)).mono ?_; rintro e w6 ⟨rfl, ⟨vR6, hI6⟩, hK6⟩; have z0 := hI6.hF.cell (k := 0) rfl; have HI6 := Lib.hid hI6; have HK6 := Lib.hid ((HKi.out.trans (Keeps.of_below HB5 _)).trans hK6); clear hI6 hK6) | fail)
                all_goals (
                  go_wp2_with fail
                  go_roundw
                  case rel => (repeat apply Exists.intro); exact ⟨⟨u + 1, hu1, by go_num, vR6, by rw [HGY.out]; exact HI6.out, HK6.out⟩, rfl⟩
                  case measure => simp [intOf]; omega)
              · rw [hbt] at hb
                have hb' : (bits .and .i64 ((u : Int) / 2 ^ ls.length) 1 == 0) = false := by rw [hb]; rfl
                have HGN := Lib.hid (pK_no (n := n) (R := R) (d := d) (left := lt + 1) (r := r) (rs := rs) hbt)
                clear hIu hKu hb hbt hpw
                go_wp2_with fail
                go_roundw
                case rel => exact ⟨u + 1, by omega, by go_num, vOu, by rw [HGN.out]; exact HIi.out, HKi.out⟩
                case measure => simp [intOf]; omega
            · have hue : u = 2 ^ n := by omega
              have hul' : ¬ (u : Int) < (2 : Int) ^ n := by rw [← hpw]; omega
              have hul2 : decide ((u : Int) < (2 : Int) ^ n) = false := decide_eq_false hul'
              have HGR := Lib.hid (pK_round (n := n) (R := R) (d := d) (left := lt + 1) (r := r) (l := ls) (rs := rs))
              rw [hue] at hIu
              have HIi := Lib.hid hIu
              have HKi := Lib.hid hKu
              clear hIu hKu hue hpw
              go_wp2_with fail
              go_roundw
              case rel => exact ⟨r + 1, by omega, by go_num, vOu, by rw [← HGR.out]; exact HIi.out, HKi.out⟩
              case measure => simp [intOf]; omega
        · obtain rfl : r = R := by omega
          have e1 : decide (((r + 1 : Nat) : Int) ≤ (r : Int)) = false := decide_eq_false (by omega)
          have e1' : decide (r + 1 ≤ r) = false := decide_eq_false (by omega)
          go_wp2_with fail
          refine bodyPost_ret (results_none rfl _ _ _) rfl ?_
          exact ⟨rfl, ⟨vOr, by rw [← HG.out]; exact HIr.out⟩, HKw.out.trans HKr.out⟩
theorem pat_any (w0 : World) (bO bN bF bR n R : Nat) (fv : Value) (hfv : fv = (.func (.func 57) #[] #[.pointer (some ⟨bO, 0, none⟩), .pointer (some ⟨bN, 0, none⟩), .pointer (some ⟨bF, 0, none⟩), .pointer (some ⟨bR, 0, none⟩)])) (hn : n ≤ 4) (hR : R ≤ 3) (d : Nat) :
    ∀ (left : Nat) (ls : List (Nat × Nat)) (v : Value) (rs : List (List (Nat × Nat))) (w : World) (vO : Value), ls.length + d = n → left ≤ 4 → rs.length ≤ 65 → CrO w w0.heap.size v ls → PatI w0 w bO bN bF bR n R fv vO rs →
      Calls Try.prog 57 #[v, .int .i64 left, .pointer (some ⟨bO, 0, none⟩), .pointer (some ⟨bN, 0, none⟩), .pointer (some ⟨bF, 0, none⟩), .pointer (some ⟨bR, 0, none⟩)] w (PatPost w0 w bO bN bF bR n R fv (pT n R d left ls rs)) := by
  induction d with
  | zero =>
    intro left ls v rs w vO hl hle hrs hv hI
    by_cases h65 : rs.length = 65
    · exact pat_full w0 bO bN bF bR n R 0 left fv ls v rs w vO h65 hI
    · exact pat_leaf w0 bO bN bF bR n R left fv ls v rs w vO (by omega) (by omega) (by omega) hv hI
  | succ d ih =>
    intro left ls v rs w vO hl hle hrs hv hI
    by_cases h65 : rs.length = 65
    · exact pat_full w0 bO bN bF bR n R (d + 1) left fv ls v rs w vO h65 hI
    · exact pat_step w0 bO bN bF bR n R d fv hfv hn hR ih left ls v rs w vO hl hle (by omega) hv hI
end Go.Proofs.Ytgnkeecjaffnaaa
