/-
  Texts of this claim, one after the other: what each proves is said at its head. No condition beyond those that its theorems name.
-/
import Derived.Test.YtahaimecchdfeaaProg
import Derived.Deep.RegionHeld3
import Derived.Deep.AppendLies
import Derived.Test.YtahaimecchdfeaaH01
import Derived.Test.YtahaimecchdfeaaH06
import Derived.Test.YtahaimecchdfeaaH09
import Derived.Test.YtahaimecchdfeaaH14

/-
  Walks of layer 54: the closure of Lossy.
-/
namespace Go.Proofs.Ytahaimecchdfeaa
open Go.RowKit

theorem Try.infoRun : (Try.prog.info? 69).map (fun i => (i.zero, i.size, i.bytes)) = some (some (.agg #[.slice none 0 0, .slice none 0 0]), 2, 48) := by kernel_rfl
theorem cloneL (v : Value) (n : Nat) (l : Nat → Int) (base : Nat) (w : World) (h : w.ownsRow base 3 1 v n (i64L l n)) (hn : n ≤ 65536) :
    Calls Try.prog 67 #[v] w fun e w' => ∃ v', e = .returned v' ∧ w'.ownsRow w.heap.size 3 1 v' n (i64L l n) ∧ Below w.heap.size w w' := by
  rcases h.2 with ⟨rfl, rfl⟩ | ⟨g, cap, cur, rfl, _⟩
  · refine (Try.slices_Clone_int_nil 0 0 w).mono ?_
    rintro e w' ⟨rfl, rfl⟩
    exact ⟨_, rfl, World.ownsRow_nil _ _ _ _, Below.refl _ _⟩
  · obtain ⟨A, c, he, hA⟩ := own_form h
    injection he with he1 _ _
    subst he1
    have hz : ((List.range n).map l).length = n := by simp
    refine (Try.slices_Clone_int g 0 n cap ((List.range n).map l) w (by omega) (by omega) (fun j hj => ?_)).mono ?_
    · have hj2 : j < n := by omega
      obtain ⟨b, e, _, _, hc⟩ := hA j hj2
      injection e with e
      injection e with e1 _ _
      subst e1
      rw [hc, i64L_get hj2]
      simp [List.getD_eq_getElem?_getD, hj2]
    · rintro e w' ⟨v', rfl, hown, _, hbl⟩
      refine ⟨v', rfl, ?_, hbl⟩
      have : ((List.map l (List.range n)).take n).map (Value.int .i64) = i64L l n := by
        rw [List.take_of_length_le (by omega), List.map_map]; rfl
      rw [← this]; exact hown
set_option maxHeartbeats 1000000 in
theorem list_full (w0 : World) (bS bE bF T : Nat) (eA fv : Value) (snd : Int → Int → Int) (bit : Int) (d : Nat) (ls : List Int) (v : Value) (rs : List (Int × List Int)) (w : World) (vR : Value) (hrs : rs.length = 65)
    (hI : LosI w0 w bS bE bF T eA fv vR (rs.map (mkR snd))) :
    Calls Try.prog 65 #[.int .i64 bit, v, .pointer (some ⟨bS, 0, none⟩), .pointer (some ⟨bE, 0, none⟩), .pointer (some ⟨bF, 0, none⟩)] w
      (ListPost w0 w bS bE bF T eA fv ((genT snd bit d ls rs).map (mkR snd))) := by
  obtain ⟨rows, ho, hr⟩ := hI.runs
  rw [List.length_map] at ho
  obtain ⟨AR, cR, rfl, -⟩ := own_form' ho
  have HI := Lib.hid hI
  have d3 := hI.hS.cell (k := 3) rfl
  have t1 : decide (64 < (rs.length : Int)) = true := decide_eq_true (by omega)
  have t1' : decide (64 < rs.length) = true := decide_eq_true (by omega)
  have HG := Lib.hid (genT_full (snd := snd) (bit := bit) (d := d) (l := ls) hrs)
  clear hI ho hr hrs
  go_enter Try.func65, Try.ntmps65
  go_wp2_with fail
  refine bodyPost_ret (results_none rfl _ _ _) rfl ?_
  refine ⟨rfl, ⟨.slice AR rs.length cR, ?_⟩, Keeps.refl _ _⟩
  rw [HG.out]
  exact HI.out
set_option maxHeartbeats 2000000 in
theorem list_leaf (w0 : World) (bS bE bF T : Nat) (A : Option Addr) (n c : Nat) (fa fh fm : Nat → Int) (fv : Value) (bit : Int) (hx : RuleS w0 A n fa fh fm) (hn : n ≤ 9223372036854775807) (hT : T ≤ 65536) (hb : 0 ≤ bit ∧ bit ≤ 1)
    (ls : List Int) (v : Value) (rs : List (Int × List Int)) (w : World) (vR : Value) (hj : ls.length = T) (hm : ∀ k, k < ls.length → 0 ≤ lf ls k ∧ lf ls k ≤ 3) (hrs : rs.length ≤ 64) (hv : w.ownsRow w0.heap.size 3 1 v ls.length (i64L (lf ls) ls.length))
    (hI : LosI w0 w bS bE bF T (.slice A n c) fv vR (rs.map (mkR (sndV n fa fh fm)))) :
    Calls Try.prog 65 #[.int .i64 bit, v, .pointer (some ⟨bS, 0, none⟩), .pointer (some ⟨bE, 0, none⟩), .pointer (some ⟨bF, 0, none⟩)] w
      (ListPost w0 w bS bE bF T (.slice A n c) fv ((genT (sndV n fa fh fm) bit 0 ls rs).map (mkR (sndV n fa fh fm)))) := by
  subst hj
  obtain ⟨rows, ho, hr⟩ := hI.runs
  rw [List.length_map] at ho
  obtain ⟨AR, cR, rfl, -⟩ := own_form' ho
  obtain ⟨Al, cl, rfl, -⟩ := own_form' hv
  have HI := Lib.hid hI
  have HO := Lib.hid ho
  have HR := Lib.hid hr
  have HV := Lib.hid hv
  have hbr : ∀ u, u < ls.length → -9223372036854775808 ≤ lf ls u ∧ lf ls u ≤ 9223372036854775807 := fun u hu => by have := hm u hu; omega
  have HL : Hid (I64s w Al ls.length (lf ls)) := by
    obtain ⟨A', c', he, hA⟩ := own_i64s hv hbr
    injection he with he1 _ _
    subst he1
    exact Lib.hid hA
  have HX := Lib.hid (hx.below hI.below)
  have HM := Lib.hid hm
  have d3 := hI.hS.cell (k := 3) rfl
  have x0 := hI.hE.cell (k := 0) rfl
  have x1 := hI.hE.cell (k := 1) rfl
  have t1 : decide (64 < (rs.length : Int)) = false := decide_eq_false (by omega)
  have t1' : decide (64 < rs.length) = false := decide_eq_false (by omega)
  have t2 : ((ls.length : Int) == (ls.length : Int)) = true := by rw [beq_iff_eq]
  have hlenm : (List.map (mkR (sndV n fa fh fm)) rs).length = rs.length := List.length_map _
  have HG := Lib.hid (genT_leaf (snd := sndV n fa fh fm) (bit := bit) (l := ls) hrs)
  clear hI ho hr hv hm hx hbr
  go_enter Try.func65, Try.ntmps65
  go_upto_region 3 with (go_at_call 66; refine (run_any _ _ _ _ _ _ _ _ _ _ _ (lf ls) _ (by exact HX.out) hn (by exact HL.out) (by omega) (by exact HM.out) hb).mono ?_; rintro e w1 ⟨v1, A1, c1, rfl, hrun, hsnd, hbl⟩; obtain ⟨AL, cL, AF, cF, rfl⟩ := hrun.shape; have HRUN := Lib.hid hrun; have HBL := Lib.hid hbl; clear hrun hsnd hbl)
  have hbx := below_alloc w1 (.cells #[.slice AL (ls.length + 1) cL, .slice AF (ls.length + 1) cF] 69)
  have hbk := Blk.new w1 #[.slice AL (ls.length + 1) cL, .slice AF (ls.length + 1) cF] 69
  have hI1 := (HI.out.keep HBL.out).keep hbx
  have hd1 : (mkR (sndV n fa fh fm) (bit, ls)).owned w1 w0.heap.size (.agg #[.slice AL (ls.length + 1) cL, .slice AF (ls.length + 1) cF]) := HRUN.out.mono HI.out.below.size
  have hd2 := RunO.below hd1 hbx
  have HK := Lib.hid ((Keeps.of_below HBL.out 3).trans (Keeps.of_below hbx 3))
  clear HI HO HR HV HL HX HM d3 x0 x1 HRUN HBL hd1 hbx t1 t1' t2 hn hb
  generalize w1.alloc (.cells #[.slice AL (ls.length + 1) cL, .slice AF (ls.length + 1) cF] 69) = V at hbk hI1 hd2 HK ⊢
  generalize w1.heap.size = br at hbk ⊢
  obtain ⟨rows1, ho1, hr1⟩ := hI1.runs
  have ho2 : V.ownsRow w0.heap.size 69 2 (.slice AR rs.length cR) rs.length rows1 := by rw [List.length_map] at ho1; exact ho1
  have hsz := hI1.below.size
  have HI := Lib.hid hI1
  have d3 := hI1.hS.cell (k := 3) rfl
  have k0 := hbk.cell (k := 0) rfl
  have k1 := hbk.cell (k := 1) rfl
  have HD := Lib.hid hd2
  have HR := Lib.hid hr1
  have HO := Lib.hid ho1
  clear hI1 hd2 hr1 ho1 hbk
  go_wp2_with (at_builtin; obtain ⟨i0, hi, hz0, hz1, hz2⟩ := info_parts Try.infoRun; refine wpList_append_lies _ (by rfl) _ _ 22 (by rfl) w0.heap.size 69 i0 _ 2 48 Try.underlying22 hi hz0 hz1 hz2 rfl (by decide) (.slice AR rs.length cR) rs.length rows1 (by rfl) (own_alloc' ho2 _) ⟨V.heap.size, 0, none⟩ 1 1 [.slice AL (ls.length + 1) cL, .slice AF (ls.length + 1) cF] (by rfl) (by rfl) (World.news_of_block (cs := #[.slice AL (ls.length + 1) cL, .slice AF (ls.length + 1) cF]) (t := 69) (fr := (0, 0)) (heap_alloc_new V _)) (by simp [Value.oneCell']) (by decide) (by unfold maxLen; omega) (by omega) (by simp; omega) (V.heap.size + 1) (by simp) ?_; intro gf capF w7 hown7 hgrow7 _ _; obtain ⟨q3, f3⟩ := HI.out.box ho2 hgrow7; have HOW7 := Lib.hid hown7; have HG7 := Lib.hid hgrow7; clear hi hz0 hz1 hz2 hown7 hgrow7)
  refine bodyPost_ret (results_none rfl _ _ _) rfl ?_
  have hh := HOW7.out
  have ho1 := HO.out
  obtain ⟨h1, h2⟩ := HI.out.grow ho1 HR.out HD.out (by rw [hlenm]; exact hh) HG7.out
  refine ⟨rfl, ⟨.slice (some ⟨gf, 0, none⟩) (rs.length + 1) capF, ?_⟩, HK.out.trans h2⟩
  rw [HG.out, List.map_append]
  exact h1
theorem own_read {w : World} {base n g c : Nat} {f : Nat → Int} (h : w.ownsRow base 3 1 (.slice (some ⟨g, 0, none⟩) n c) n (i64L f n)) (hf : ∀ u, u < n → -9223372036854775808 ≤ f u ∧ f u ≤ 9223372036854775807) : I64s w (some ⟨g, 0, none⟩) n f := by
  obtain ⟨A', c', he, hA⟩ := own_i64s h hf
  injection he with he1 _ _
  subst he1
  exact hA
theorem bound_of {n : Nat} {f : Nat → Int} (h : ∀ k, k < n → 0 ≤ f k ∧ f k ≤ 3) : ∀ u, u < n → -9223372036854775808 ≤ f u ∧ f u ≤ 9223372036854775807 := fun u hu => by have := h u hu; omega
/-- The masks in their order. -/
theorem mask_at {i : Nat} (hi : i < 4) : ∃ x : Int, ([0, 2, 1, 3] : List Int)[i]? = some x ∧ (#[.int .i64 0, .int .i64 2, .int .i64 1, .int .i64 3] : Array Value)[i]? = some (.int .i64 x) ∧ 0 ≤ x ∧ x ≤ 3 := by
  have h4 : i = 0 ∨ i = 1 ∨ i = 2 ∨ i = 3 := by omega
  rcases h4 with rfl | rfl | rfl | rfl
  · exact ⟨0, rfl, rfl, by omega, by omega⟩
  · exact ⟨2, rfl, rfl, by omega, by omega⟩
  · exact ⟨1, rfl, rfl, by omega, by omega⟩
  · exact ⟨3, rfl, rfl, by omega, by omega⟩
set_option maxHeartbeats 4000000 in
set_option maxRecDepth 100000 in
theorem list_step (w0 : World) (bS bE bF T : Nat) (A : Option Addr) (n c : Nat) (fa fh fm : Nat → Int) (fv : Value) (bit : Int) (hx : RuleS w0 A n fa fh fm) (hn : n ≤ 9223372036854775807) (hT : T ≤ 65536) (hb : 0 ≤ bit ∧ bit ≤ 1)
    (hfv : fv = .func (.func 65) #[] #[.pointer (some ⟨bS, 0, none⟩), .pointer (some ⟨bE, 0, none⟩), .pointer (some ⟨bF, 0, none⟩)]) (d : Nat)
    (ih : ∀ (ls : List Int) (v : Value) (rs : List (Int × List Int)) (w : World) (vR : Value), ls.length + d = T → (∀ k, k < ls.length → 0 ≤ lf ls k ∧ lf ls k ≤ 3) → rs.length ≤ 65 → w.ownsRow w0.heap.size 3 1 v ls.length (i64L (lf ls) ls.length) →
      LosI w0 w bS bE bF T (.slice A n c) fv vR (rs.map (mkR (sndV n fa fh fm))) →
      Calls Try.prog 65 #[.int .i64 bit, v, .pointer (some ⟨bS, 0, none⟩), .pointer (some ⟨bE, 0, none⟩), .pointer (some ⟨bF, 0, none⟩)] w
        (ListPost w0 w bS bE bF T (.slice A n c) fv ((genT (sndV n fa fh fm) bit d ls rs).map (mkR (sndV n fa fh fm)))))
    (ls : List Int) (v : Value) (rs : List (Int × List Int)) (w : World) (vR : Value) (hj : ls.length + (d + 1) = T) (hm : ∀ k, k < ls.length → 0 ≤ lf ls k ∧ lf ls k ≤ 3) (hrs : rs.length ≤ 64) (hv : w.ownsRow w0.heap.size 3 1 v ls.length (i64L (lf ls) ls.length))
    (hI : LosI w0 w bS bE bF T (.slice A n c) fv vR (rs.map (mkR (sndV n fa fh fm)))) :
    Calls Try.prog 65 #[.int .i64 bit, v, .pointer (some ⟨bS, 0, none⟩), .pointer (some ⟨bE, 0, none⟩), .pointer (some ⟨bF, 0, none⟩)] w
      (ListPost w0 w bS bE bF T (.slice A n c) fv ((genT (sndV n fa fh fm) bit (d + 1) ls rs).map (mkR (sndV n fa fh fm)))) := by
  have IH := Lib.hid ih
  obtain ⟨rows, ho, hr⟩ := hI.runs
  rw [List.length_map] at ho
  obtain ⟨AR, cR, rfl, -⟩ := own_form' ho
  obtain ⟨Al, cl, rfl, -⟩ := own_form' hv
  have HI := Lib.hid hI
  have HV := Lib.hid hv
  have HX := Lib.hid hx
  have HM := Lib.hid hm
  have HJ := Lib.hid hj
  have hl16 : ls.length < 65536 := by omega
  have d3 := hI.hS.cell (k := 3) rfl
  have x0 := hI.hE.cell (k := 0) rfl
  have x1 := hI.hE.cell (k := 1) rfl
  have t1 : decide (64 < (rs.length : Int)) = false := decide_eq_false (by omega)
  have t1' : decide (64 < rs.length) = false := decide_eq_false (by omega)
  have t2 : ((ls.length : Int) == (T : Int)) = false := by rw [beq_eq_false_iff_ne]; omega
  have HB : Hid (∀ k, k < ls.length + 1 → 0 ≤ lf (ls ++ [0]) k ∧ lf (ls ++ [0]) k ≤ 3) := Lib.hid (lf_snoc hm (by omega))
  have HLA := Lib.hid (lf_append ls 0)
  have hwsz := hI.below.size
  clear hI ho hr hv hm hx ih hj
  go_enter Try.func65, Try.ntmps65
  go_upto_region 4 with (fail)
  clear d3 t1 t1' t2
  have HSOF := Lib.hid (fun (y : World) (h : Below w.heap.size w y) => (⟨h, cell_below h x0, cell_below h x1⟩ : Below w.heap.size w y ∧ y.cell? ⟨bE, 0, none⟩ = some (.int .i64 T) ∧ y.cell? ⟨bE, 1, none⟩ = some (.slice A n c)))
  have hb0 := Below.refl w.heap.size w
  clear x0 x1
  go_cut [10] (fun s10 wc => ∃ A6 c6, s10 = .slice A6 (ls.length + 1) c6 ∧ wc.ownsRow w0.heap.size 3 1 s10 (ls.length + 1) (i64L (runW (sndV n fa fh fm) bit (lf (ls ++ [0]))) (ls.length + 1)) ∧ Below w.heap.size w wc)
  case first =>
    go_region_held3 (fun x => Below w.heap.size w x ∧ x.cell? ⟨bE, 0, none⟩ = some (.int .i64 T) ∧ x.cell? ⟨bE, 1, none⟩ = some (.slice A n c)) (first | exact HSOF.out _ (by assumption) | exact HSOF.out _ (below_drew hb0) | exact HSOF.out _ (below_more (And.left (by assumption)) _) | exact HSOF.out _ (below_more (by assumption) _) | (exact HSOF.out _ (below_put2 (by assumption) (by first | exact Nat.le_refl _ | (have := HB1.size; omega) | (have := HB5.size; omega)) _ _)))
      (first
        | (go_at_call 67; refine (cloneL _ _ _ _ _ (by exact own_below' HV.out (And.left (by assumption)) (Nat.le_refl _)) (by omega)).mono ?_; rintro e w1 ⟨v1, rfl, hown, HC1⟩; have HB1 := below_trans (And.left (by assumption)) HC1; have HOW1 := own_from (And.left (by assumption)) hown; clear hown)
        | (obtain ⟨i0, hi, hz0, hz1, hz2⟩ := info_parts Try.infoInt; refine step_append_lies _ (by rfl) _ _ _ (by rfl) w.heap.size 3 i0 _ 1 8 Try.underlying75 hi hz0 hz1 hz2 rfl (by decide) v1 ls.length (i64L (lf ls) ls.length) (by rfl) (by first | exact HOW1 | exact own_alloc' HOW1 _ | exact own_alloc' (own_alloc' HOW1 _) _) _ 1 1 [.int .i64 0] (by rfl) (by rfl) (World.news_of_block (cs := #[.int .i64 0]) (t := 3) (fr := (0, 0)) (by (repeat (first | exact Blk.new' _ _ _ _ (by first | (simp; done) | fail) | refine Blk.alloc ?_ _ | refine Blk.below ?_ HC1)); (first | done | fail))) (by simp [Value.oneCell']) (by decide) (by unfold maxLen; omega) (by omega) (And.left (by assumption : Below w.heap.size w _ ∧ _)).size _ rfl ?_; intro g5 c5 w5 hown5 hgrow5 _ _; have HC5 := hgrow5; have HB5 := below_grow (And.left (by assumption)) (by first | exact HOW1 | exact own_alloc' HOW1 _ | exact own_alloc' (own_alloc' HOW1 _) _) hgrow5; rw [← HLA.out] at hown5; have HOW5 := hown5; clear hi hz0 hz1 hz2 hown5 hgrow5)
        | (go_at_call 66; refine (run_any _ _ _ _ _ _ _ _ _ _ _ (lf (ls ++ [0])) _ (by exact HX.out.below (below_trans HI.out.below (And.left (by assumption)))) hn (by first | exact own_read HOW5 (bound_of HB.out) | exact own_read (own_alloc' HOW5 _) (bound_of HB.out)) (by omega) (by exact HB.out) hb).mono ?_; rintro e w6 ⟨v6, A6, c6, rfl, hrun, hsnd, HC6⟩; obtain ⟨AL, cL, AF, cF, rfl⟩ := hrun.shape; have HB6 := below_trans (And.left (by assumption)) HC6; have HSND := Lib.hid (own_mono' (own_from (And.left (by assumption)) hsnd) hwsz); clear hrun hsnd; (first | (have hbx : Blk w6 w.heap.size 69 #[.slice none 0 0, .slice none 0 0] := (by (repeat (first | exact Blk.new' _ _ _ _ (by first | (simp; done) | fail) | refine Blk.below ?_ HC6 | refine Blk.below ?_ HC1 | refine Blk.kept_row ?_ (by first | exact HOW1 | exact own_alloc' HOW1 _ | exact own_alloc' (own_alloc' HOW1 _) _) (by decide) HC5 | refine Blk.alloc ?_ _)); (first | done | fail)); have q0 := hbx.cell (k := 0) rfl; have q1 := hbx.cell (k := 1) rfl; have f0 := hbx.frozen (k := 0); have f1 := hbx.frozen (k := 1); have g1 := (hbx.set 0 (.slice AL (ls.length + 1 + 1) cL)).cell (k := 1) rfl; have g2 := (hbx.set 0 (.slice AL (ls.length + 1 + 1) cL)).frozen (k := 1)) | skip); (first | (have hbx : Blk w6 (w.heap.size + 1) 69 #[.slice none 0 0, .slice none 0 0] := (by (repeat (first | exact Blk.new' _ _ _ _ (by first | (simp; done) | fail) | refine Blk.below ?_ HC6 | refine Blk.below ?_ HC1 | refine Blk.kept_row ?_ (by first | exact HOW1 | exact own_alloc' HOW1 _ | exact own_alloc' (own_alloc' HOW1 _) _) (by decide) HC5 | refine Blk.alloc ?_ _)); (first | done | fail)); have q0 := hbx.cell (k := 0) rfl; have q1 := hbx.cell (k := 1) rfl; have f0 := hbx.frozen (k := 0); have f1 := hbx.frozen (k := 1); have g1 := (hbx.set 0 (.slice AL (ls.length + 1 + 1) cL)).cell (k := 1) rfl; have g2 := (hbx.set 0 (.slice AL (ls.length + 1 + 1) cL)).frozen (k := 1)) | skip); (first | (have hbx : Blk w6 w1.heap.size 69 #[.slice none 0 0, .slice none 0 0] := (by (repeat (first | exact Blk.new' _ _ _ _ (by first | (simp; done) | fail) | refine Blk.below ?_ HC6 | refine Blk.below ?_ HC1 | refine Blk.kept_row ?_ (by first | exact HOW1 | exact own_alloc' HOW1 _ | exact own_alloc' (own_alloc' HOW1 _) _) (by decide) HC5 | refine Blk.alloc ?_ _)); (first | done | fail)); have q0 := hbx.cell (k := 0) rfl; have q1 := hbx.cell (k := 1) rfl; have f0 := hbx.frozen (k := 0); have f1 := hbx.frozen (k := 1); have g1 := (hbx.set 0 (.slice AL (ls.length + 1 + 1) cL)).cell (k := 1) rfl; have g2 := (hbx.set 0 (.slice AL (ls.length + 1 + 1) cL)).frozen (k := 1)) | skip); (first | (have hbx : Blk w6 (w1.heap.size + 1) 69 #[.slice none 0 0, .slice none 0 0] := (by (repeat (first | exact Blk.new' _ _ _ _ (by first | (simp; done) | fail) | refine Blk.below ?_ HC6 | refine Blk.below ?_ HC1 | refine Blk.kept_row ?_ (by first | exact HOW1 | exact own_alloc' HOW1 _ | exact own_alloc' (own_alloc' HOW1 _) _) (by decide) HC5 | refine Blk.alloc ?_ _)); (first | done | fail)); have q0 := hbx.cell (k := 0) rfl; have q1 := hbx.cell (k := 1) rfl; have f0 := hbx.frozen (k := 0); have f1 := hbx.frozen (k := 1); have g1 := (hbx.set 0 (.slice AL (ls.length + 1 + 1) cL)).cell (k := 1) rfl; have g2 := (hbx.set 0 (.slice AL (ls.length + 1 + 1) cL)).frozen (k := 1)) | skip); (first | (have hbx : Blk w6 w5.heap.size 69 #[.slice none 0 0, .slice none 0 0] := (by (repeat (first | exact Blk.new' _ _ _ _ (by first | (simp; done) | fail) | refine Blk.below ?_ HC6 | refine Blk.below ?_ HC1 | refine Blk.kept_row ?_ (by first | exact HOW1 | exact own_alloc' HOW1 _ | exact own_alloc' (own_alloc' HOW1 _) _) (by decide) HC5 | refine Blk.alloc ?_ _)); (first | done | fail)); have q0 := hbx.cell (k := 0) rfl; have q1 := hbx.cell (k := 1) rfl; have f0 := hbx.frozen (k := 0); have f1 := hbx.frozen (k := 1); have g1 := (hbx.set 0 (.slice AL (ls.length + 1 + 1) cL)).cell (k := 1) rfl; have g2 := (hbx.set 0 (.slice AL (ls.length + 1 + 1) cL)).frozen (k := 1)) | skip))
        | fail)
    all_goals (go_wp2_with fail; go_meet; exact ⟨A6, c6, rfl, (by first | exact own_alloc' HSND.out _ | exact own_set' (own_set' HSND.out hbx (by decide) _ _) (hbx.set 0 _) (by decide) _ _), And.left (by assumption)⟩)
  case rest =>
    obtain ⟨A6, c6, rfl, hsn, hbc⟩ := hcut
    have HSN := Lib.hid hsn
    have HI1 := Lib.hid (HI.out.keep hbc)
    have HV1 := Lib.hid (own_keeps HV.out (Keeps.of_below hbc _))
    have HKC := Lib.hid (Keeps.of_below hbc 3)
    clear hsn hbc hb0 HSOF HI HV HB HLA HX
    go_upto_region 6 with (fail)
    obtain ⟨V, hVe⟩ : ∃ V, V = wc.alloc (.cells #[.int .i64 0, .int .i64 2, .int .i64 1, .int .i64 3] 3) := ⟨_, rfl⟩
    have hbm := Blk.new wc #[.int .i64 0, .int .i64 2, .int .i64 1, .int .i64 3] 3
    have hbv := below_alloc wc (.cells #[.int .i64 0, .int .i64 2, .int .i64 1, .int .i64 3] 3)
    have HSN := Lib.hid (own_keeps HSN.out (Keeps.of_below hbv _))
    have HI1 := Lib.hid (HI1.out.keep hbv)
    have HV1 := Lib.hid (own_keeps HV1.out (Keeps.of_below hbv _))
    have HKC := Lib.hid (HKC.out.trans (Keeps.of_below hbv 3))
    rw [← hVe] at hbm HSN HI1 HV1 HKC ⊢
    have HBM := Lib.hid hbm
    clear hbm hbv hVe
    generalize wc.heap.size = bm at HBM ⊢
    subst hfv
    have HMK := Lib.hid (fun x => lf_snoc (x := x) HM.out)
    have HJL := HJ.out
    go_loopw [47] (fun iv wr => ∃ i : Nat, i ≤ 4 ∧ iv = .int .i64 i ∧ ∃ vRi, LosI w0 wr bS bE bF T (.slice A n c) (.func (.func 65) #[] #[.pointer (some ⟨bS, 0, none⟩), .pointer (some ⟨bE, 0, none⟩), .pointer (some ⟨bF, 0, none⟩)]) vRi ((genK (sndV n fa fh fm) bit d ls rs i).map (mkR (sndV n fa fh fm))) ∧ Keeps V wr 3) (fun iv _ => 4 - (intOf iv).toNat)
    case atStart => exact ⟨0, Nat.zero_le _, rfl, _, by rw [genK_zero (by omega)]; exact HI1.out, Keeps.refl _ _⟩
    case round =>
      obtain ⟨i, hi4, rfl, vRi, hIi, hKi⟩ := hrel
      by_cases hlt : i < 4
      · obtain ⟨x, hx1, hx2, hx0, hx3⟩ := mask_at hlt
        have m0 := (hKi bm _ HBM.out).cell hx2
        obtain ⟨A6', c6', he6, hA6⟩ := own_form (own_keeps HSN.out hKi)
        injection he6 with he61 _ he63
        subst he61 he63
        obtain ⟨b6, rfl, -, -, hc6⟩ := hA6 ls.length (by omega)
        rw [i64L_get (by omega), Nat.zero_add] at hc6
        obtain ⟨y, ey⟩ : ∃ y, y = runW (sndV n fa fh fm) bit (lf (ls ++ [0])) ls.length := ⟨_, rfl⟩
        rw [← ey] at hc6
        have hll : ls.length < ls.length + 1 := by omega
        have HXX := Lib.hid (show 0 ≤ x ∧ x ≤ 3 from ⟨hx0, hx3⟩)
        have HIi := Lib.hid hIi
        have HKi := Lib.hid hKi
        have HVi := Lib.hid (own_keeps HV1.out hKi)
        have hii : (i : Int) < 4 := by omega
        have z0 := hIi.hF.cell (k := 0) rfl
        by_cases hbk : bitsOk x y = true
        · have t5 : (bits .andNot .i64 x y == 0) = true := hbk
          have HGK := Lib.hid (genK_yes (rs := rs) (d := d) hx1 (by rw [← ey]; exact hbk))
          clear hx1 hx2 hx0 hx3 hA6 ey hIi hKi hbk
          go_upto_region 9 with (fail)
          have hb0 := below_drew (Below.refl wr.heap.size wr)
          have HLX := Lib.hid (lf_append ls x)
          clear m0 hc6 t5 hii hll
          go_region_held3 (fun z => z.cell? ⟨bF, 0, none⟩ = some (.func (.func 65) #[] #[.pointer (some ⟨bS, 0, none⟩), .pointer (some ⟨bE, 0, none⟩), .pointer (some ⟨bF, 0, none⟩)])) (first | exact z0 | assumption | exact cell_below (below_alloc _ _) (by assumption))
            (first
              | (go_at_call 67; refine (cloneL _ _ _ _ _ (by first | exact own_below' HVi.out hb0 (Nat.le_refl _) | exact own_below' HVi.out (below_more hb0 _) (Nat.le_refl _)) (by omega)).mono ?_; rintro e w1 ⟨v1, rfl, hown, HC1⟩; have HB1 : Below wr.heap.size wr w1 := below_trans (by first | exact hb0 | exact below_more hb0 _) HC1; have HOW1 : w1.ownsRow wr.heap.size 3 1 v1 ls.length (i64L (lf ls) ls.length) := own_from (by first | exact hb0 | exact below_more hb0 _) hown; have z0 := cell_below HB1 z0; clear hown)
              | (obtain ⟨i0, hi, hz0, hz1, hz2⟩ := info_parts Try.infoInt; refine step_append_lies _ (by rfl) _ _ _ (by rfl) wr.heap.size 3 i0 _ 1 8 Try.underlying75 hi hz0 hz1 hz2 rfl (by decide) v1 ls.length (i64L (lf ls) ls.length) (by rfl) (by first | exact HOW1 | exact own_alloc' HOW1 _) _ 1 1 [.int .i64 x] (by rfl) (by rfl) (World.news_of_block (cs := #[.int .i64 x]) (t := 3) (fr := (0, 0)) (by (repeat (first | exact Blk.new' _ _ _ _ (by first | (simp; done) | fail) | refine Blk.alloc ?_ _ | refine Blk.below ?_ HC1)); (first | done | fail))) (by simp [Value.oneCell']) (by decide) (by unfold maxLen; omega) (by omega) (by first | exact HB1.size | exact (below_more HB1 _).size) _ rfl ?_; intro g5 c5 w5 hown5 hgrow5 _ _; have HB5 : Below wr.heap.size wr w5 := below_grow (by first | exact HB1 | exact below_more HB1 _) (by first | exact HOW1 | exact own_alloc' HOW1 _) hgrow5; have z0 := (HIi.out.keep HB5).hF.cell (k := 0) rfl; rw [← HLX.out] at hown5; have HOW5 := Lib.hid (own_mono' hown5 HIi.out.below.size); clear hi hz0 hz1 hz2 hown5 hgrow5)
              | (go_at_call 65; refine (IH.out (ls ++ [x]) _ (genK (sndV n fa fh fm) bit d ls rs i) _ vRi (by rw [List.length_append, ← HJ.out]; simp; omega) (by rw [List.length_append]; exact HMK.out x HXX.out) (genK_le _ _ _ _ _ _) (by rw [List.length_append]; exact HOW5.out) (HIi.out.keep HB5)).mono ?_; rintro e w6 ⟨rfl, ⟨vR6, hI6⟩, hK6⟩; have z0 := hI6.hF.cell (k := 0) rfl; have HI6 := Lib.hid hI6; have HK6 := Lib.hid ((HKi.out.trans (Keeps.of_below HB5 _)).trans hK6); clear hI6 hK6)
              | fail)
          all_goals (
            go_wp2_with fail
            go_roundw
            case rel => exact ⟨i + 1, by omega, by go_num, vR6, by rw [HGK.out]; exact HI6.out, HK6.out⟩
            case measure => simp [intOf]; omega)
        · have t5 : (bits .andNot .i64 x y == 0) = false := Bool.eq_false_iff.2 hbk
          have HGK := Lib.hid (genK_no (rs := rs) (d := d) hx1 (by rw [← ey]; exact Bool.eq_false_iff.2 hbk))
          clear hx1 hx2 hx0 hx3 hA6 ey hIi hKi hbk
          go_wp2_with fail
          go_roundw
          case rel => exact ⟨i + 1, by omega, by go_num, vRi, by rw [HGK.out]; exact HIi.out, HKi.out⟩
          case measure => simp [intOf]; omega
      · obtain rfl : i = 4 := by omega
        have HIi := Lib.hid hIi
        have HKi := Lib.hid hKi
        clear hIi hKi
        go_wp2_with fail
        go_end0
        exact ⟨rfl, ⟨vRi, HIi.out⟩, HKC.out.trans HKi.out⟩
theorem list_any (w0 : World) (bS bE bF T : Nat) (A : Option Addr) (n c : Nat) (fa fh fm : Nat → Int) (fv : Value) (bit : Int) (hx : RuleS w0 A n fa fh fm) (hn : n ≤ 9223372036854775807) (hT : T ≤ 65536) (hb : 0 ≤ bit ∧ bit ≤ 1)
    (hfv : fv = .func (.func 65) #[] #[.pointer (some ⟨bS, 0, none⟩), .pointer (some ⟨bE, 0, none⟩), .pointer (some ⟨bF, 0, none⟩)]) (d : Nat) :
    ∀ (ls : List Int) (v : Value) (rs : List (Int × List Int)) (w : World) (vR : Value), ls.length + d = T → (∀ k, k < ls.length → 0 ≤ lf ls k ∧ lf ls k ≤ 3) → rs.length ≤ 65 → w.ownsRow w0.heap.size 3 1 v ls.length (i64L (lf ls) ls.length) →
      LosI w0 w bS bE bF T (.slice A n c) fv vR (rs.map (mkR (sndV n fa fh fm))) →
      Calls Try.prog 65 #[.int .i64 bit, v, .pointer (some ⟨bS, 0, none⟩), .pointer (some ⟨bE, 0, none⟩), .pointer (some ⟨bF, 0, none⟩)] w
        (ListPost w0 w bS bE bF T (.slice A n c) fv ((genT (sndV n fa fh fm) bit d ls rs).map (mkR (sndV n fa fh fm)))) := by
  induction d with
  | zero =>
    intro ls v rs w vR hj hm hrs hv hI
    by_cases h65 : rs.length = 65
    · exact list_full w0 bS bE bF T _ fv _ bit 0 ls v rs w vR h65 hI
    · exact list_leaf w0 bS bE bF T A n c fa fh fm fv bit hx hn hT hb ls v rs w vR hj hm (by omega) hv hI
  | succ d ih =>
    intro ls v rs w vR hj hm hrs hv hI
    by_cases h65 : rs.length = 65
    · exact list_full w0 bS bE bF T _ fv _ bit (d + 1) ls v rs w vR h65 hI
    · exact list_step w0 bS bE bF T A n c fa fh fm fv bit hx hn hT hb hfv d ih ls v rs w vR hj hm (by omega) hv hI
end Go.Proofs.Ytahaimecchdfeaa
