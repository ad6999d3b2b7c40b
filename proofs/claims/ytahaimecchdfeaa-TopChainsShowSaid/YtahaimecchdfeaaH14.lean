/-
  Texts of this claim, one after the other: what each proves is said at its head. No condition beyond those that its theorems name.
-/
import Derived.Test.YtahaimecchdfeaaProg
import Derived.Deep.RegionHeld3
import Derived.Deep.RegionLaw
import Derived.Deep.AppendLies
import Derived.Test.YtahaimecchdfeaaH01
import Derived.Test.YtahaimecchdfeaaH06
import Derived.Test.YtahaimecchdfeaaH09
import Derived.Test.YtahaimecchdfeaaH11

/-
  Walks of layer 54: run of the program.
-/
namespace Go.Proofs.Ytahaimecchdfeaa
open Go.RowKit

theorem Try.infoInts : (Try.prog.info? 75).map (fun i => (i.zero, i.size, i.bytes)) = some (some (.slice none 0 0), 1, 24) := by kernel_rfl
theorem clone2 (b c : Nat) (x y : Int) (T : TypeId) (w : World) (h : Blk w b T #[.int .i64 x, .int .i64 y]) :
    Calls Try.prog 67 #[.slice (some ⟨b, 0, none⟩) 2 c] w fun e w' => ∃ g cap, e = .returned (.slice (some ⟨g, 0, none⟩) 2 cap) ∧ w'.ownsRow w.heap.size 3 1 (.slice (some ⟨g, 0, none⟩) 2 cap) 2 [.int .i64 x, .int .i64 y] ∧ Below w.heap.size w w' := by
  refine (Try.slices_Clone_int b 0 2 c [x, y] w (by show 2 ≤ 2; decide) (by decide) (fun j hj => ?_)).mono ?_
  · have hj2 : j < 2 := hj
    rw [Nat.zero_add]
    have h01 : j = 0 ∨ j = 1 := by omega
    rcases h01 with rfl | rfl
    · exact h.cell rfl
    · exact h.cell rfl
  · rintro e w' ⟨v', rfl, hown, hne, hbl⟩
    rcases hown.2 with ⟨h0, _⟩ | ⟨g, cap, cur, rfl, _⟩
    · exact absurd h0 hne
    · exact ⟨g, cap, rfl, hown, hbl⟩
theorem six_blocks (w : World) (x0 x1 x2 x3 x4 x5 : Array Value) (T0 T1 T2 T3 T4 T5 : TypeId) (W : World) (hW : W = (((((w.alloc (.cells x0 T0)).alloc (.cells x1 T1)).alloc (.cells x2 T2)).alloc (.cells x3 T3)).alloc (.cells x4 T4)).alloc (.cells x5 T5)) :
    Blk W w.heap.size T0 x0 ∧ Blk W (w.heap.size + 1) T1 x1 ∧ Blk W (w.heap.size + 1 + 1) T2 x2 ∧ Blk W (w.heap.size + 1 + 1 + 1) T3 x3 ∧ Blk W (w.heap.size + 1 + 1 + 1 + 1) T4 x4 ∧ Blk W (w.heap.size + 1 + 1 + 1 + 1 + 1) T5 x5 ∧ Below w.heap.size w W := by
  subst hW
  have k0 := Blk.new w x0 T0
  have s1 : (w.alloc (.cells x0 T0)).heap.size = w.heap.size + 1 := by simp
  have k1 := Blk.new (w.alloc (.cells x0 T0)) x1 T1
  have k2 := Blk.new ((w.alloc (.cells x0 T0)).alloc (.cells x1 T1)) x2 T2
  have k3 := Blk.new (((w.alloc (.cells x0 T0)).alloc (.cells x1 T1)).alloc (.cells x2 T2)) x3 T3
  have k4 := Blk.new ((((w.alloc (.cells x0 T0)).alloc (.cells x1 T1)).alloc (.cells x2 T2)).alloc (.cells x3 T3)) x4 T4
  have k5 := Blk.new (((((w.alloc (.cells x0 T0)).alloc (.cells x1 T1)).alloc (.cells x2 T2)).alloc (.cells x3 T3)).alloc (.cells x4 T4)) x5 T5
  have hb := (((((below_alloc w (.cells x0 T0)).alloc (by simp) (.cells x1 T1)).alloc (by simp; omega) (.cells x2 T2)).alloc (by simp; omega) (.cells x3 T3)).alloc (by simp; omega) (.cells x4 T4)).alloc (by simp; omega) (.cells x5 T5)
  simp only [World.size_alloc] at k1 k2 k3 k4 k5
  exact ⟨((((k0.alloc _).alloc _).alloc _).alloc _).alloc _, (((k1.alloc _).alloc _).alloc _).alloc _, ((k2.alloc _).alloc _).alloc _, (k3.alloc _).alloc _, k4.alloc _, k5, hb⟩
set_option maxHeartbeats 4000000 in
theorem run_any (R bit : Int) (A : Option Addr) (n c : Nat) (fa fh fm : Nat → Int) (B : Option Addr) (T d : Nat) (lost : Nat → Int) (w : World) (hx : RuleS w A n fa fh fm) (hn : n ≤ 9223372036854775807) (hl : I64s w B T lost) (hT : T ≤ 65536) (hm : ∀ k, k < T → 0 ≤ lost k ∧ lost k ≤ 3) (hb : 0 ≤ bit ∧ bit ≤ 1) :
    Calls Try.prog 66 #[.agg #[.int .i64 R, .slice A n c], .int .i64 bit, .slice B T d] w (RunPost w T (runL (sndV n fa fh fm) bit lost) bit.toNat (runW (sndV n fa fh fm) bit lost)) := by
  have HX := Lib.hid hx
  have HL := Lib.hid hl
  have HM := Lib.hid hm
  clear hx hl hm
  go_enter Try.func66, Try.ntmps66
  go_upto_region 1 with (fail)
  go_upto_region 2 with (go_at_call 68; refine (Start_any _ _ _).mono ?_; rintro e w' ⟨rfl, rfl⟩)
  obtain ⟨x0, ex0⟩ : ∃ x, x = stV 0 bit := ⟨_, rfl⟩
  obtain ⟨y0, ey0⟩ : ∃ x, x = stV 1 bit := ⟨_, rfl⟩
  rw [← ex0, ← ey0]
  have EX0 := Lib.hid ex0
  have EY0 := Lib.hid ey0
  clear ex0 ey0
  go_upto_region 3 with (fail)
  obtain ⟨W, hW⟩ : ∃ W, W = (((((w.alloc (.cells #[.int .i64 R, .slice A n c] 43)).alloc (.cells #[.slice none 0 0, .slice none 0 0] 69)).alloc (.cells #[.int .i64 x0, .int .i64 y0] 38)).alloc (.cells #[.slice (some ⟨w.heap.size + 1 + 1, 0, none⟩) 2 2] 75)).alloc (.cells #[.int .u64 bit] 121)).alloc (.cells #[.slice (some ⟨w.heap.size + 1 + 1 + 1, 0, none⟩) 1 1, .slice (some ⟨w.heap.size + 1 + 1 + 1 + 1, 0, none⟩) 1 1] 69) := ⟨_, rfl⟩
  rw [← hW]
  obtain ⟨hE, h6, hs, hL, hF, hr, hB⟩ := six_blocks w _ _ _ _ _ _ _ _ _ _ _ _ W hW
  have HE := Lib.hid hE
  have H6 := Lib.hid h6
  have HSB := Lib.hid hs
  have HLB := Lib.hid hL
  have HFB := Lib.hid hF
  have HRB := Lib.hid hr
  have HB := Lib.hid hB
  have d0 := hr.cell (k := 0) rfl
  have l0 := hL.cell (k := 0) rfl
  clear hE h6 hs hL hF hr hB hW
  go_region_held3 (fun x => x.cell? ⟨w.heap.size + 1 + 1 + 1 + 1 + 1, 0, none⟩ = some (.slice (some ⟨w.heap.size + 1 + 1 + 1, 0, none⟩) 1 1)) (first | exact d0 | assumption | (rw [World.cell?_setCell_other _ _ _ _ (by simp)]; assumption))
    (first | (go_at_call 67; refine (clone2 _ _ _ _ _ _ (by exact HSB.out)).mono ?_; rintro e w1 ⟨g, cap, rfl, hown, hb1⟩; have HB1 : Hid (Below W.heap.size W w1) := Lib.hid ⟨hb1.os, hb1.tape, hb1.output, hb1.size, hb1.block⟩; have d0 := cell_below HB1.out d0; have l0 := cell_below HB1.out l0; have f0 := (HLB.out.below HB1.out).frozen (k := 0); have HOWN := Lib.hid hown; clear hown hb1))
  have hsz1 := HB1.out.size
  have hRI : RunK w (w1.setCell ⟨w.heap.size + 1 + 1 + 1, 0, none⟩ (.slice (some ⟨g, 0, none⟩) 2 cap)) w.heap.size (w.heap.size + 1) (w.heap.size + 1 + 1) (w.heap.size + 1 + 1 + 1 + 1 + 1) (.int .i64 R) (.slice A n c) (sndV n fa fh fm) bit lost 0 (.slice none 0 0) := by
    have kE := HE.out.below HB1.out
    have k6 := H6.out.below HB1.out
    have ks := HSB.out.below HB1.out
    have kL := HLB.out.below HB1.out
    have kF := HFB.out.below HB1.out
    have kr := HRB.out.below HB1.out
    have kR := (kL.set 0 (.slice (some ⟨g, 0, none⟩) 2 cap))
    have hWs := HB.out.size
    have eb : ((bit.toNat : Nat) : Int) = bit := by omega
    refine ⟨.slice (some ⟨w.heap.size + 1 + 1 + 1, 0, none⟩) 1 1, .slice (some ⟨w.heap.size + 1 + 1 + 1 + 1, 0, none⟩) 1 1, [.slice (some ⟨g, 0, none⟩) 2 cap], ⟨(HB.out.trans (HB1.out.mono HB.out.size)).setCell (p := ⟨w.heap.size + 1 + 1 + 1, 0, none⟩) (by simp; omega) _, kE.set_ne (by omega) _ _, k6.set_ne (by omega) _ _, ?_, kr.set_ne (by omega) _ _,
      by omega, ⟨by omega, by omega, by omega, by omega⟩, own_one kR (by omega), fun i hi => ?_, ?_, World.ownsRow_nil _ _ _ _⟩⟩
    · have := ks.set_ne (by omega) 0 (.slice (some ⟨g, 0, none⟩) 2 cap) (b' := w.heap.size + 1 + 1 + 1)
      rw [EX0.out, EY0.out] at this
      exact this
    · obtain rfl : i = 0 := by omega
      refine ⟨_, rfl, ?_, .inr (by simp [Value.ownBlock])⟩
      have h1 := own_mono HOWN.out hWs
      rw [EX0.out, EY0.out] at h1
      exact own_set h1 kL (by decide) _
    · have := own_one (base := w.heap.size) (kF.set_ne (by omega) 0 (.slice (some ⟨g, 0, none⟩) 2 cap) (b' := w.heap.size + 1 + 1 + 1)) (by omega)
      rw [← eb] at this
      exact this
  generalize w1.setCell ⟨w.heap.size + 1 + 1 + 1, 0, none⟩ (.slice (some ⟨g, 0, none⟩) 2 cap) = V at hRI ⊢
  generalize w.heap.size + 1 + 1 + 1 + 1 + 1 = br at hRI ⊢
  generalize w.heap.size + 1 + 1 = bs at hRI ⊢
  generalize w.heap.size + 1 = b6 at hRI ⊢
  clear HOWN HB1 d0 l0 f0 hsz1 HE H6 HSB HLB HFB HRB HB EX0 EY0
  go_wp2_with fail
  go_loopw [10, 35] (fun sv iv wr => ∃ k : Nat, k ≤ T ∧ iv = .int .i64 k ∧ RunK w wr w.heap.size b6 bs br (.int .i64 R) (.slice A n c) (sndV n fa fh fm) bit lost k sv) (fun _ iv _ => T - (intOf iv).toNat)
  case atStart => exact ⟨0, Nat.zero_le _, rfl, hRI⟩
  case round =>
    obtain ⟨k, hk, rfl, hrk⟩ := hrel
    by_cases hlt : k < T
    · have HRK := Lib.hid hrk
      obtain ⟨vL, vF, rows, hri⟩ := hrk
      obtain ⟨b, off, rfl, c1, -⟩ := HL.out.below hri.below k hlt
      obtain ⟨hm0, hm3⟩ := HM.out k hlt
      have HXR := Lib.hid (HX.out.below hri.below)
      have HN0 := Lib.hid (fun w (hx : RuleS w A n fa fh fm) => sends_any R 0 (runS (sndV n fa fh fm) bit lost k).1 A n c fa fh fm w hx hn)
      have HN1 := Lib.hid (fun w (hx : RuleS w A n fa fh fm) => sends_any R 1 (runS (sndV n fa fh fm) bit lost k).2 A n c fa fh fm w hx hn)
      have HWK := Lib.hid (show runW (sndV n fa fh fm) bit lost k = whoV (sndV n fa fh fm 0 (runS (sndV n fa fh fm) bit lost k).1) (sndV n fa fh fm 1 (runS (sndV n fa fh fm) bit lost k).2) from rfl)
      have HX1 := Lib.hid (show (runS (sndV n fa fh fm) bit lost (k + 1)).1 = afV (runS (sndV n fa fh fm) bit lost k).1 (if losB (lost k) 1 then 0 else sndV n fa fh fm 1 (runS (sndV n fa fh fm) bit lost k).2) from rfl)
      have HY1 := Lib.hid (show (runS (sndV n fa fh fm) bit lost (k + 1)).2 = afV (runS (sndV n fa fh fm) bit lost k).2 (if losB (lost k) 0 then 0 else sndV n fa fh fm 0 (runS (sndV n fa fh fm) bit lost k).1) from rfl)
      obtain ⟨hxr, hyr⟩ := runS_range (sndV n fa fh fm) bit lost k
      obtain ⟨x, ex⟩ : ∃ x, x = (runS (sndV n fa fh fm) bit lost k).1 := ⟨_, rfl⟩
      obtain ⟨y, ey⟩ : ∃ x, x = (runS (sndV n fa fh fm) bit lost k).2 := ⟨_, rfl⟩
      rw [← ex, ← ey] at hri
      rw [← ex] at HN0 HX1 HY1 HWK hxr
      rw [← ey] at HN1 HX1 HY1 HWK hyr
      obtain ⟨p, ep⟩ : ∃ u, u = sndV n fa fh fm 0 x := ⟨_, rfl⟩
      obtain ⟨q, eq⟩ : ∃ u, u = sndV n fa fh fm 1 y := ⟨_, rfl⟩
      rw [← ep] at HN0 HY1 HWK
      rw [← eq] at HN1 HX1 HWK
      obtain ⟨m, em⟩ : ∃ u, u = lost k := ⟨_, rfl⟩
      rw [← em] at c1 hm0 hm3 HX1 HY1
      have HRI := Lib.hid hri
      have s0 := hri.hs.cell (k := 0) rfl
      have s1 := hri.hs.cell (k := 1) rfl
      have hbs := hri.hs.lt
      clear hri HRK ex ey ep eq em
      go_upto_region 9 with (fail)
      have hW2 := below_alloc wr (.cells #[.int .i64 x, .int .i64 y] 38)
      have hBN := Blk.new wr #[.int .i64 x, .int .i64 y] 38
      have hri := HRI.out.keep hW2
      have hc1 := cell_below hW2 c1
      have hXR2 := HXR.out.below hW2
      have hge : w.heap.size ≤ wr.heap.size := HRI.out.below.size
      have hbn : bs ≠ wr.heap.size := by omega
      clear HRI HXR s0 s1 hbs c1 hW2
      generalize wr.alloc (.cells #[.int .i64 x, .int .i64 y] 38) = W2 at hBN hri hc1 hXR2 ⊢
      generalize wr.heap.size = bn at hBN hge hbn ⊢
      have HXR := Lib.hid hXR2
      obtain ⟨x', ex'⟩ : ∃ u, u = afV x (if losB m 1 then 0 else q) := ⟨_, rfl⟩
      obtain ⟨y', ey'⟩ : ∃ u, u = afV y (if losB m 0 then 0 else p) := ⟨_, rfl⟩
      rw [← ex'] at HX1
      rw [← ey'] at HY1
      have EX := Lib.hid ex'
      have EY := Lib.hid ey'
      clear ex' ey' hXR2
      go_wp2_with fail
      go_loopw [14, 40] (fun sv iv wi => ∃ a : Nat, a ≤ 2 ∧ iv = .int .i64 a ∧ sv = .int .i64 (whoA p q a) ∧ RunI w wi w.heap.size b6 bs br (.int .i64 R) (.slice A n c) x y vL vF u10 rows (k + 1) (k + 1) k (runL (sndV n fa fh fm) bit lost) (fun _ => bit.toNat) (runW (sndV n fa fh fm) bit lost) ∧ Blk wi bn 38 (nxtA x y x' y' a)) (fun _ iv _ => 2 - (intOf iv).toNat)
      case atStart => exact ⟨0, by omega, rfl, rfl, hri, hBN⟩
      case round =>
        obtain ⟨a, ha, rfl, rfl, hri, hbn2⟩ := hrel
        have s0 := hri.hs.cell (k := 0) rfl
        have s1 := hri.hs.cell (k := 1) rfl
        have z0 := hri.hE.cell (k := 0) rfl
        have z1 := hri.hE.cell (k := 1) rfl
        have HRI := Lib.hid hri
        have HBN := Lib.hid hbn2
        have HXI := Lib.hid (HX.out.below hri.below)
        clear hri hbn2
        by_cases hlt2 : a < 2
        · have h01 : a = 0 ∨ a = 1 := by omega
          rcases h01 with rfl | rfl
          · rw [show ((0 : Nat) : Int) = 0 from rfl, show whoA p q 0 = 0 from rfl]
            clear hlt2 ha
            by_cases hp : 0 < p
            · have t1 : decide (0 < p) = true := decide_eq_true hp
              have HW : Hid (bits .or .i64 0 1 = whoA p q 1) := Lib.hid (by rw [show whoA p q 1 = 1 from if_pos hp]; rfl)
              clear hp
              go_upto_region 12 with (fail)
              go_region_held3 (fun v => v.cell? ⟨w.heap.size, 0, none⟩ = some (.int .i64 R) ∧ v.cell? ⟨w.heap.size, 1, none⟩ = some (.slice A n c) ∧ v.cell? ⟨bs, 0, none⟩ = some (.int .i64 x)) (first | exact ⟨z0, z1, s0⟩ | exact ⟨by assumption, by assumption, by assumption⟩)
                (first | (go_at_call 89; refine (HN0.out _ (by exact HXI.out)).mono ?_; rintro e w3 ⟨rfl, hb1⟩; have HB3 : Hid (Below wr.heap.size wr w3) := Lib.hid ⟨hb1.os, hb1.tape, hb1.output, hb1.size, hb1.block⟩; have z0 := cell_below HB3.out z0; have z1 := cell_below HB3.out z1; have s0 := cell_below HB3.out s0; have s1 := cell_below HB3.out s1; clear hb1))
              by_cases hmm : losB m 0 = true
              · have t2 : (bits .and .i64 m 1 == 1) = true := by have := hmm; unfold losB at this; rw [show m / 2 ^ 0 = m from by simp] at this; exact this
                have HT := Lib.hid (show y' = afV y 0 by rw [EY.out, if_pos hmm])
                have HA := Lib.hid (After_any y 0)
                have HRJ := Lib.hid (HRI.out.keep HB3.out)
                have hbj := HBN.out.below HB3.out
                have n0 := hbj.cell (k := 1) rfl
                have f0 := hbj.frozen (k := 1)
                have HBJ := Lib.hid hbj
                clear hmm hbj
                go_wp2_with (go_at_call 69; refine (HA.out _ (by omega)).mono ?_; rintro e w' ⟨rfl, rfl⟩)
                go_roundw
                case rel => exact ⟨1, by omega, by go_num, by rw [HW.out], HRJ.out.put_next HBJ.out hbn hge _ _, by have h5 := HBJ.out.set 1 (.int .i64 (afV y 0)); rw [show (nxtA x y x' y' 0).setIfInBounds 1 (.int .i64 (afV y 0)) = nxtA x y x' y' 1 from by rw [HT.out]; rfl] at h5; exact h5⟩
                case measure => simp [intOf]
              · have t2 : (bits .and .i64 m 1 == 1) = false := by have := hmm; unfold losB at this; rw [show m / 2 ^ 0 = m from by simp] at this; exact Bool.eq_false_iff.2 this
                have HT := Lib.hid (show y' = afV y p by rw [EY.out, if_neg hmm])
                have HA := Lib.hid (After_any y p)
                have HRJ := Lib.hid (HRI.out.keep HB3.out)
                have hbj := HBN.out.below HB3.out
                have n0 := hbj.cell (k := 1) rfl
                have f0 := hbj.frozen (k := 1)
                have HBJ := Lib.hid hbj
                clear hmm hbj
                go_wp2_with (go_at_call 69; refine (HA.out _ (by omega)).mono ?_; rintro e w' ⟨rfl, rfl⟩)
                go_roundw
                case rel => exact ⟨1, by omega, by go_num, by rw [HW.out], HRJ.out.put_next HBJ.out hbn hge _ _, by have h5 := HBJ.out.set 1 (.int .i64 (afV y p)); rw [show (nxtA x y x' y' 0).setIfInBounds 1 (.int .i64 (afV y p)) = nxtA x y x' y' 1 from by rw [HT.out]; rfl] at h5; exact h5⟩
                case measure => simp [intOf]
            · have t1 : decide (0 < p) = false := decide_eq_false hp
              have HW : Hid ((0 : Int) = whoA p q 1) := Lib.hid (by rw [show whoA p q 1 = 0 from if_neg hp])
              clear hp
              go_upto_region 12 with (fail)
              go_region_held3 (fun v => v.cell? ⟨w.heap.size, 0, none⟩ = some (.int .i64 R) ∧ v.cell? ⟨w.heap.size, 1, none⟩ = some (.slice A n c) ∧ v.cell? ⟨bs, 0, none⟩ = some (.int .i64 x)) (first | exact ⟨z0, z1, s0⟩ | exact ⟨by assumption, by assumption, by assumption⟩)
                (first | (go_at_call 89; refine (HN0.out _ (by exact HXI.out)).mono ?_; rintro e w3 ⟨rfl, hb1⟩; have HB3 : Hid (Below wr.heap.size wr w3) := Lib.hid ⟨hb1.os, hb1.tape, hb1.output, hb1.size, hb1.block⟩; have z0 := cell_below HB3.out z0; have z1 := cell_below HB3.out z1; have s0 := cell_below HB3.out s0; have s1 := cell_below HB3.out s1; clear hb1))
              by_cases hmm : losB m 0 = true
              · have t2 : (bits .and .i64 m 1 == 1) = true := by have := hmm; unfold losB at this; rw [show m / 2 ^ 0 = m from by simp] at this; exact this
                have HT := Lib.hid (show y' = afV y 0 by rw [EY.out, if_pos hmm])
                have HA := Lib.hid (After_any y 0)
                have HRJ := Lib.hid (HRI.out.keep HB3.out)
                have hbj := HBN.out.below HB3.out
                have n0 := hbj.cell (k := 1) rfl
                have f0 := hbj.frozen (k := 1)
                have HBJ := Lib.hid hbj
                clear hmm hbj
                go_wp2_with (go_at_call 69; refine (HA.out _ (by omega)).mono ?_; rintro e w' ⟨rfl, rfl⟩)
                go_roundw
                case rel => exact ⟨1, by omega, by go_num, by rw [HW.out], HRJ.out.put_next HBJ.out hbn hge _ _, by have h5 := HBJ.out.set 1 (.int .i64 (afV y 0)); rw [show (nxtA x y x' y' 0).setIfInBounds 1 (.int .i64 (afV y 0)) = nxtA x y x' y' 1 from by rw [HT.out]; rfl] at h5; exact h5⟩
                case measure => simp [intOf]
              · have t2 : (bits .and .i64 m 1 == 1) = false := by have := hmm; unfold losB at this; rw [show m / 2 ^ 0 = m from by simp] at this; exact Bool.eq_false_iff.2 this
                have HT := Lib.hid (show y' = afV y p by rw [EY.out, if_neg hmm])
                have HA := Lib.hid (After_any y p)
                have HRJ := Lib.hid (HRI.out.keep HB3.out)
                have hbj := HBN.out.below HB3.out
                have n0 := hbj.cell (k := 1) rfl
                have f0 := hbj.frozen (k := 1)
                have HBJ := Lib.hid hbj
                clear hmm hbj
                go_wp2_with (go_at_call 69; refine (HA.out _ (by omega)).mono ?_; rintro e w' ⟨rfl, rfl⟩)
                go_roundw
                case rel => exact ⟨1, by omega, by go_num, by rw [HW.out], HRJ.out.put_next HBJ.out hbn hge _ _, by have h5 := HBJ.out.set 1 (.int .i64 (afV y p)); rw [show (nxtA x y x' y' 0).setIfInBounds 1 (.int .i64 (afV y p)) = nxtA x y x' y' 1 from by rw [HT.out]; rfl] at h5; exact h5⟩
                case measure => simp [intOf]
          · rw [show ((1 : Nat) : Int) = 1 from rfl]
            clear hlt2 ha
            by_cases hp : 0 < q
            · have t1 : decide (0 < q) = true := decide_eq_true hp
              have HW : Hid (bits .or .i64 (whoA p q 1) 2 = whoA p q 2) := Lib.hid (by show bits .or .i64 (if 0 < p then 1 else 0) 2 = (if 0 < p then 1 else 0) + (if 0 < q then 2 else 0); rw [if_pos hp]; by_cases h : 0 < p <;> simp only [if_pos, if_neg, h, not_false_eq_true] <;> rfl)
              clear hp
              go_upto_region 12 with (fail)
              go_region_held3 (fun v => v.cell? ⟨w.heap.size, 0, none⟩ = some (.int .i64 R) ∧ v.cell? ⟨w.heap.size, 1, none⟩ = some (.slice A n c) ∧ v.cell? ⟨bs, 1, none⟩ = some (.int .i64 y)) (first | exact ⟨z0, z1, s1⟩ | exact ⟨by assumption, by assumption, by assumption⟩)
                (first | (go_at_call 89; refine (HN1.out _ (by exact HXI.out)).mono ?_; rintro e w3 ⟨rfl, hb1⟩; have HB3 : Hid (Below wr.heap.size wr w3) := Lib.hid ⟨hb1.os, hb1.tape, hb1.output, hb1.size, hb1.block⟩; have z0 := cell_below HB3.out z0; have z1 := cell_below HB3.out z1; have s0 := cell_below HB3.out s0; have s1 := cell_below HB3.out s1; clear hb1))
              by_cases hmm : losB m 1 = true
              · have t2 : (bits .and .i64 (m / 2) 1 == 1) = true := by have := hmm; unfold losB at this; rw [show m / 2 ^ 1 = (m / 2) from by simp] at this; exact this
                have HT := Lib.hid (show x' = afV x 0 by rw [EX.out, if_pos hmm])
                have HA := Lib.hid (After_any x 0)
                have HRJ := Lib.hid (HRI.out.keep HB3.out)
                have hbj := HBN.out.below HB3.out
                have n0 := hbj.cell (k := 0) rfl
                have f0 := hbj.frozen (k := 0)
                have HBJ := Lib.hid hbj
                clear hmm hbj
                go_wp2_with (go_at_call 69; refine (HA.out _ (by omega)).mono ?_; rintro e w' ⟨rfl, rfl⟩)
                go_roundw
                case rel => exact ⟨2, by omega, by go_num, by rw [HW.out], HRJ.out.put_next HBJ.out hbn hge _ _, by have h5 := HBJ.out.set 0 (.int .i64 (afV x 0)); rw [show (nxtA x y x' y' 1).setIfInBounds 0 (.int .i64 (afV x 0)) = nxtA x y x' y' 2 from by rw [HT.out]; rfl] at h5; exact h5⟩
                case measure => simp [intOf]
              · have t2 : (bits .and .i64 (m / 2) 1 == 1) = false := by have := hmm; unfold losB at this; rw [show m / 2 ^ 1 = (m / 2) from by simp] at this; exact Bool.eq_false_iff.2 this
                have HT := Lib.hid (show x' = afV x q by rw [EX.out, if_neg hmm])
                have HA := Lib.hid (After_any x q)
                have HRJ := Lib.hid (HRI.out.keep HB3.out)
                have hbj := HBN.out.below HB3.out
                have n0 := hbj.cell (k := 0) rfl
                have f0 := hbj.frozen (k := 0)
                have HBJ := Lib.hid hbj
                clear hmm hbj
                go_wp2_with (go_at_call 69; refine (HA.out _ (by omega)).mono ?_; rintro e w' ⟨rfl, rfl⟩)
                go_roundw
                case rel => exact ⟨2, by omega, by go_num, by rw [HW.out], HRJ.out.put_next HBJ.out hbn hge _ _, by have h5 := HBJ.out.set 0 (.int .i64 (afV x q)); rw [show (nxtA x y x' y' 1).setIfInBounds 0 (.int .i64 (afV x q)) = nxtA x y x' y' 2 from by rw [HT.out]; rfl] at h5; exact h5⟩
                case measure => simp [intOf]
            · have t1 : decide (0 < q) = false := decide_eq_false hp
              have HW : Hid (whoA p q 1 = whoA p q 2) := Lib.hid (by show (if 0 < p then 1 else 0) = (if 0 < p then 1 else 0) + (if 0 < q then 2 else 0); rw [if_neg hp, Int.add_zero])
              clear hp
              go_upto_region 12 with (fail)
              go_region_held3 (fun v => v.cell? ⟨w.heap.size, 0, none⟩ = some (.int .i64 R) ∧ v.cell? ⟨w.heap.size, 1, none⟩ = some (.slice A n c) ∧ v.cell? ⟨bs, 1, none⟩ = some (.int .i64 y)) (first | exact ⟨z0, z1, s1⟩ | exact ⟨by assumption, by assumption, by assumption⟩)
                (first | (go_at_call 89; refine (HN1.out _ (by exact HXI.out)).mono ?_; rintro e w3 ⟨rfl, hb1⟩; have HB3 : Hid (Below wr.heap.size wr w3) := Lib.hid ⟨hb1.os, hb1.tape, hb1.output, hb1.size, hb1.block⟩; have z0 := cell_below HB3.out z0; have z1 := cell_below HB3.out z1; have s0 := cell_below HB3.out s0; have s1 := cell_below HB3.out s1; clear hb1))
              by_cases hmm : losB m 1 = true
              · have t2 : (bits .and .i64 (m / 2) 1 == 1) = true := by have := hmm; unfold losB at this; rw [show m / 2 ^ 1 = (m / 2) from by simp] at this; exact this
                have HT := Lib.hid (show x' = afV x 0 by rw [EX.out, if_pos hmm])
                have HA := Lib.hid (After_any x 0)
                have HRJ := Lib.hid (HRI.out.keep HB3.out)
                have hbj := HBN.out.below HB3.out
                have n0 := hbj.cell (k := 0) rfl
                have f0 := hbj.frozen (k := 0)
                have HBJ := Lib.hid hbj
                clear hmm hbj
                go_wp2_with (go_at_call 69; refine (HA.out _ (by omega)).mono ?_; rintro e w' ⟨rfl, rfl⟩)
                go_roundw
                case rel => exact ⟨2, by omega, by go_num, by rw [HW.out], HRJ.out.put_next HBJ.out hbn hge _ _, by have h5 := HBJ.out.set 0 (.int .i64 (afV x 0)); rw [show (nxtA x y x' y' 1).setIfInBounds 0 (.int .i64 (afV x 0)) = nxtA x y x' y' 2 from by rw [HT.out]; rfl] at h5; exact h5⟩
                case measure => simp [intOf]
              · have t2 : (bits .and .i64 (m / 2) 1 == 1) = false := by have := hmm; unfold losB at this; rw [show m / 2 ^ 1 = (m / 2) from by simp] at this; exact Bool.eq_false_iff.2 this
                have HT := Lib.hid (show x' = afV x q by rw [EX.out, if_neg hmm])
                have HA := Lib.hid (After_any x q)
                have HRJ := Lib.hid (HRI.out.keep HB3.out)
                have hbj := HBN.out.below HB3.out
                have n0 := hbj.cell (k := 0) rfl
                have f0 := hbj.frozen (k := 0)
                have HBJ := Lib.hid hbj
                clear hmm hbj
                go_wp2_with (go_at_call 69; refine (HA.out _ (by omega)).mono ?_; rintro e w' ⟨rfl, rfl⟩)
                go_roundw
                case rel => exact ⟨2, by omega, by go_num, by rw [HW.out], HRJ.out.put_next HBJ.out hbn hge _ _, by have h5 := HBJ.out.set 0 (.int .i64 (afV x q)); rw [show (nxtA x y x' y' 1).setIfInBounds 0 (.int .i64 (afV x q)) = nxtA x y x' y' 2 from by rw [HT.out]; rfl] at h5; exact h5⟩
                case measure => simp [intOf]
        · obtain rfl : a = 2 := by omega
          have n0 : wr.cell? ⟨bn, 0, none⟩ = some (.int .i64 x') := HBN.out.cell (k := 0) rfl
          have n1 : wr.cell? ⟨bn, 1, none⟩ = some (.int .i64 y') := HBN.out.cell (k := 1) rfl
          have f0 := HRI.out.hs.frozen (k := 0)
          have f1 := HRI.out.hs.frozen (k := 1)
          rw [show whoA p q 2 = whoV p q from rfl, ← HWK.out]
          have g0 := (HRI.out.put 0 (.int .i64 x') x' y rfl).hs.cell (k := 1) rfl
          have g1 := (HRI.out.put 0 (.int .i64 x') x' y rfl).hs.frozen (k := 1)
          have HRJ := Lib.hid ((HRI.out.put 0 (.int .i64 x') x' y rfl).put 1 (.int .i64 y') x' y' rfl)
          clear HBN HXI ha hlt2
          go_upto_region 20 with (fail)
          generalize (wr.setCell ⟨bs, 0, none⟩ (.int .i64 x')).setCell ⟨bs, 1, none⟩ (.int .i64 y') = V3 at HRJ ⊢
          clear f0 f1 g0 g1 s0 s1 z0 z1 n0 n1 HRI
          have hg3 := HRJ.out.below.size
          go_upto_region 21 with (at_builtin; obtain ⟨i0, hi, hz0, hz1, hz2⟩ := info_parts Try.infoInt; refine wpList_append_own_at _ rfl _ _ 75 rfl w.heap.size 3 i0 (.int .i64 0) 1 8 Try.underlying75 hi hz0 hz1 hz2 rfl (by decide) _ _ _ rfl (HRJ.out.oS.alloc _) ⟨V3.heap.size, 0, none⟩ 1 1 [.int .i64 (runW (sndV n fa fh fm) bit lost k)] rfl rfl (cell_one_new _ _ _) (one_oneCell rfl) (by unfold maxLen; omega) (by omega) (by simp; omega) ?_; intro vS w3 hown' hgrow _ hat; have HR4 := Lib.hid (HRJ.out.senders hown' hgrow hat); clear hown' hgrow hat hi hz0 hz1 hz2)
          have q0 := HR4.out.hr.cell (k := 0) rfl
          have hg4 := HR4.out.below.size
          have hvs := HR4.out.oS.lt
          clear HRJ hg3
          go_region_law (first | (go_simp; go_at_call 67; refine (clone2 _ _ _ _ _ _ (by exact HR4.out.hs)).mono ?_; rintro e w4 ⟨g2, cap2, rfl, hown, hb1⟩; have HB4 : Hid (Below w3.heap.size w3 w4) := Lib.hid ⟨hb1.os, hb1.tape, hb1.output, hb1.size, hb1.block⟩; have q0 := cell_below HB4.out q0; have q2 := cell_below (below_alloc w4 (.cells #[.slice (some ⟨g2, 0, none⟩) 2 cap2] 75)) q0; have HR5 := Lib.hid (HR4.out.keep HB4.out); have HOWN := Lib.hid hown; have hg5 := HR5.out.below.size; clear hown hb1) | (obtain ⟨i0, hi, hz0, hz1, hz2⟩ := info_parts Try.infoInts; refine step_append_lies _ (by rfl) _ _ _ (by rfl) w.heap.size 75 i0 _ 1 24 Try.underlying66 hi hz0 hz1 hz2 rfl (by omega) vL (k + 1) rows (by rfl) (HR5.out.oL.alloc _) ⟨w4.heap.size, 0, none⟩ 1 1 [.slice (some ⟨g2, 0, none⟩) 2 cap2] (by rfl) (by rfl) (World.news_of_block (cs := #[.slice (some ⟨g2, 0, none⟩) 2 cap2]) (t := 75) (fr := (0, 0)) (heap_alloc_new w4 _)) (by simp [Value.oneCell']) (by omega) (by unfold maxLen; omega) (by omega) (by simp; omega) (w4.heap.size + 1) (by simp) ?_; intro gg capL w5 hown5 hgrow _ _; have HG5 : Hid ((w4.alloc (.cells #[.slice (some ⟨g2, 0, none⟩) 2 cap2] 75)).grownBy w5 vL.ownBlock) := Lib.hid ⟨hgrow.os, hgrow.tape, hgrow.output, hgrow.size, hgrow.block⟩; have q1 := ((HR5.out.hr.alloc _).kept HG5.out (HR5.out.hr.ne_row HR5.out.oL (by decide))).cell (k := 0) rfl; have f1 := ((HR5.out.hr.alloc _).kept HG5.out (HR5.out.hr.ne_row HR5.out.oL (by decide))).frozen (k := 0); have HOW5 := Lib.hid hown5; clear hi hz0 hz1 hz2 hown5 hgrow))
          all_goals (
            have HR6 := Lib.hid (HR5.out.local (rv := .slice (some ⟨g2, 0, none⟩) 2 cap2) (by have h1 := own_mono HOWN.out hg4; rw [← HX1.out, ← HY1.out] at h1; exact h1) (.inr (fun e => by
              have h1 : w3.heap.size ≤ g2 := (HOWN.out.lt g2 rfl).1
              have h2 : g2 < w3.heap.size := (hvs g2 (e.symm.trans rfl)).2
              omega)) HOW5.out HG5.out)
            generalize w5.setCell ⟨br, 0, none⟩ (.slice (some ⟨gg, 0, none⟩) (k + 1 + 1) capL) = V6 at HR6 ⊢
            clear HR5 HR4 HOWN HOW5 HG5 HB4 q0 q1 q2 f1 hvs hg4 hg5
            have hg6 := HR6.out.below.size
            have q3 := HR6.out.hr.cell (k := 1) rfl
            go_wp2_with (at_builtin; obtain ⟨i0, hi, hz0, hz1, hz2⟩ := info_parts Try.infoU64; refine wpList_append_lies _ rfl _ _ 67 rfl w.heap.size 121 i0 (.int .u64 0) 1 8 Try.underlying67 hi hz0 hz1 hz2 rfl (by decide) _ _ _ rfl (HR6.out.oF.alloc _) ⟨V6.heap.size, 0, none⟩ 1 1 [.int .u64 bit] rfl rfl (cell_one_new _ _ _) (one_oneCell rfl) (by omega) (by unfold maxLen; omega) (by omega) (by simp; omega) (V6.heap.size + 1) (by simp) ?_; intro gf capF w7 hown7 hgrow7 _ _; have q4 := ((HR6.out.hr.alloc _).kept hgrow7 (HR6.out.hr.ne_row HR6.out.oF (by decide))).cell (k := 1) rfl; have f4 := ((HR6.out.hr.alloc _).kept hgrow7 (HR6.out.hr.ne_row HR6.out.oF (by decide))).frozen (k := 1); have HOW7 := Lib.hid hown7; have HG7 := Lib.hid hgrow7; clear hi hz0 hz1 hz2 hown7 hgrow7)
            go_roundw
            case rel =>
              have h7 := HOW7.out
              rw [show (Value.int .u64 bit : Value) = .int .u64 ((bit.toNat : Nat) : Int) from by rw [show ((bit.toNat : Nat) : Int) = bit from by omega]] at h7
              have h8 := HR6.out.facts h7 HG7.out
              rw [← HX1.out, ← HY1.out] at h8
              exact ⟨k + 1, by omega, by go_num, _, _, _, h8⟩
            case measure => simp [intOf]; omega)
    · obtain rfl : k = T := by omega
      obtain ⟨vL, vF, rows, hri⟩ := hrk
      obtain ⟨gl, cl, rfl⟩ := own_succ hri.oL
      obtain ⟨gf, cf, rfl⟩ := own_succ hri.oF
      obtain ⟨AS, cS, rfl, -⟩ := own_form hri.oS
      have HRI := Lib.hid hri
      have r0 := hri.hr.cell (k := 0) rfl
      have r1 := hri.hr.cell (k := 1) rfl
      have s0 := hri.h6.cell (k := 0) rfl
      have s1 := hri.h6.cell (k := 1) rfl
      have f0 := hri.h6.frozen (k := 0)
      have f1 := hri.h6.frozen (k := 1)
      have hw1 := hri.h6.set 0 (.slice (some ⟨gl, 0, none⟩) (k + 1) cl)
      have g0 := hw1.cell (k := 1) rfl
      have g1 := hw1.frozen (k := 1)
      have hw2 := hw1.set 1 (.slice (some ⟨gf, 0, none⟩) (k + 1) cf)
      have q0 := hw2.cell (k := 0) rfl
      have q1 := hw2.cell (k := 1) rfl
      clear hri hw1 hw2 HL HM HX
      go_wp2_with fail
      obtain ⟨h1, h2, h3⟩ := HRI.out.done (.slice (some ⟨gl, 0, none⟩) (k + 1) cl) (.slice (some ⟨gf, 0, none⟩) (k + 1) cf)
      exact bodyPost_ret (v := .tuple #[.agg #[.slice (some ⟨gl, 0, none⟩) (k + 1) cl, .slice (some ⟨gf, 0, none⟩) (k + 1) cf], .slice AS k cS]) (by simp [results, Try.results66, go_sem, q0, q1]) rfl ⟨_, _, _, rfl, h1, h2, h3⟩
end Go.Proofs.Ytahaimecchdfeaa
