/-
  Walks: the law ProtocolRuns.
-/
import Derived.Test.YtgnkeecjaffnaaaProg
import Derived.Test.YtgnkeecjaffnaaaBase
import Derived.Test.YtgnkeecjaffnaaaRow
import Derived.Test.YtgnkeecjaffnaaaRowsOf
import Derived.Test.YtgnkeecjaffnaaaPc
import Derived.Test.YtgnkeecjaffnaaaPd
import Derived.Test.YtgnkeecjaffnaaaPrB
import Derived.Test.YtgnkeecjaffnaaaPrC
import Derived.Test.YtgnkeecjaffnaaaPrE
import Derived.Test.YtgnkeecjaffnaaaPrG
import Derived.Test.YtgnkeecjaffnaaaPrI
import Derived.Test.YtgnkeecjaffnaaaPrS
import Derived.Test.YtgnkeecjaffnaaaPfC
import Derived.Test.YtgnkeecjaffnaaaPkB
import Derived.Deep.DeepCutAuto
import Derived.Deep.RegionHeld3
namespace Go.Proofs.Ytgnkeecjaffnaaa
open Go.RowKit

theorem ruD_small (R bit : Int) (n m : Nat) (fa fh fm : Nat → Int) (lost : Nat → Int) : (ruD R n fa fh fm bit m lost).n ≤ 65536 ∧ (ruD R n fa fh fm bit m lost).k ≤ 65536 ∧ (∀ i, (ruD R n fa fh fm bit m lost).m i ≤ 9223372036854775807) ∧ (∀ i j, -9223372036854775808 ≤ (ruD R n fa fh fm bit m lost).L i j ∧ (ruD R n fa fh fm bit m lost).L i j ≤ 9223372036854775807) ∧ ∀ u, (ruD R n fa fh fm bit m lost).F u < 18446744073709551616 := by
  by_cases hE : ruE R n fa fh fm bit m lost = 0
  · have hD : ruD R n fa fh fm bit m lost = ⟨m + 1, fun _ => 2, runL (sndV n fa fh fm) bit lost, m + 1, fun _ => bit.toNat⟩ := if_pos hE
    unfold ruE at hE
    by_cases h0 : exErr R n fa fh fm = 0
    · rw [if_pos h0] at hE
      obtain ⟨h1, h2⟩ := exErr_R h0
      by_cases hb : 0 ≤ bit ∧ bit ≤ 1
      · rw [if_pos hb] at hE
        by_cases hm : (m : Int) = R
        · rw [hD]
          exact ⟨by show m + 1 ≤ 65536; omega, by show m + 1 ≤ 65536; omega, fun _ => by show 2 ≤ _; decide, fun i j => runL_range _ _ _ _ _, fun _ => by show bit.toNat < _; omega⟩
        · rw [if_neg hm] at hE; cases hE
      · rw [if_neg hb] at hE; cases hE
    · rw [if_neg h0] at hE; exact absurd hE h0
  · have hD : ruD R n fa fh fm bit m lost = RunD.none := if_neg hE
    rw [hD]
    exact ⟨by decide, by decide, fun _ => Nat.zero_le _, fun _ _ => ⟨by show (-9223372036854775808 : Int) ≤ 0; decide, by show (0 : Int) ≤ 9223372036854775807; decide⟩, fun _ => by show 0 < _; decide⟩
set_option maxHeartbeats 4000000 in
set_option maxRecDepth 100000 in
theorem runs_core (R a h bit : Int) (A : Option Addr) (n c : Nat) (fa fh fm : Nat → Int) (B : Option Addr) (m d : Nat) (lost : Nat → Int) (w : World) (hx : RuleS w A n fa fh fm) (hn : n ≤ 9223372036854775807) (hl : I64s w B m lost) (hm : m ≤ 9223372036854775807) (hh : -9223372036854775808 ≤ h ∧ h ≤ 9223372036854775807) :
    Calls Try.prog 8 #[.agg #[.int .i64 R, .slice A n c], .agg #[.int .i64 a, .int .i64 h, .int .i64 bit], .slice B m d] w fun e w' => e = .returned (.bool true) ∧ Below w.heap.size w w' := by
  obtain ⟨W, hW⟩ : ∃ W, W = (w.alloc (.cells #[.int .i64 R, .slice A n c] 41)).alloc (.cells #[.int .i64 a, .int .i64 h, .int .i64 bit] 51) := ⟨_, rfl⟩
  obtain ⟨hC0, h8, hB⟩ := two_boxes4 w _ _ _ _ W hW
  have HB := Lib.hid hB
  have HW := Lib.hid hW
  have z0 : W.cell? ⟨w.heap.size, 0, none⟩ = some (.int .i64 R) := hC0.cell rfl
  have z1 : W.cell? ⟨w.heap.size, 1, none⟩ = some (.slice A n c) := hC0.cell rfl
  have y0 : W.cell? ⟨w.heap.size + 1, 0, none⟩ = some (.int .i64 a) := h8.cell rfl
  have y1 : W.cell? ⟨w.heap.size + 1, 1, none⟩ = some (.int .i64 h) := h8.cell rfl
  have y2 : W.cell? ⟨w.heap.size + 1, 2, none⟩ = some (.int .i64 bit) := h8.cell rfl
  have HX := Lib.hid (hx.below hB)
  have HLS := Lib.hid (hl.below hB)
  clear hC0 h8 hB hW hx hl
  by_cases h200 : 200 < n
  · have t1 : decide (200 < n) = true := decide_eq_true h200
    have t1' : decide ((200 : Int) < (n : Int)) = true := decide_eq_true (by omega)
    clear h200
    go_enter Try.func8, Try.ntmps8
    go_upto_region 1 with (fail)
    rw [← HW.out]
    clear HW
    go_wp2_with (go_at_call 17; refine (awake_any _).mono ?_; rintro e w2 ⟨rfl, hst⟩; have HB := Lib.hid (HB.out.trans (hst.mono HB.out.size)); clear hst)
    go_ret
    exact ⟨rfl, HB.out⟩
  have t1 : decide (200 < n) = false := decide_eq_false h200
  have t1' : decide ((200 : Int) < (n : Int)) = false := decide_eq_false (by omega)
  by_cases h20 : 20 < m
  · have t2 : decide (20 < m) = true := decide_eq_true h20
    have t2' : decide ((20 : Int) < (m : Int)) = true := decide_eq_true (by omega)
    clear h200 h20
    go_enter Try.func8, Try.ntmps8
    go_upto_region 1 with (fail)
    rw [← HW.out]
    clear HW
    go_wp2_with (go_at_call 17; refine (awake_any _).mono ?_; rintro e w2 ⟨rfl, hst⟩; have HB := Lib.hid (HB.out.trans (hst.mono HB.out.size)); clear hst)
    go_ret
    exact ⟨rfl, HB.out⟩
  have t2 : decide (20 < m) = false := decide_eq_false h20
  have t2' : decide ((20 : Int) < (m : Int)) = false := decide_eq_false (by omega)
  have HS1 := Lib.hid (fun W (hW : RuleS W A n fa fh fm) => Sends_any R a h A n c fa fh fm W hW hn hh)
  have HS2 := Lib.hid (fun W (hW : RuleS W A n fa fh fm) => rSends_any R a h A n c fa fh fm W hW hn hh)
  have HR1 := Lib.hid (fun W (hW : RuleS W A n fa fh fm) (hl : I64s W B m lost) => Run_any R bit A n c fa fh fm B m d lost W hW hn hl hm)
  have HR2 := Lib.hid (fun W (hW : RuleS W A n fa fh fm) (hl : I64s W B m lost) => rRun_any R bit A n c fa fh fm B m d lost W hW hn hl hm)
  have HC1 := Lib.hid (fun W (hW : RuleS W A n fa fh fm) => Check_any R A n c fa fh fm W hW hn)
  have HC2 := Lib.hid (fun W (hW : RuleS W A n fa fh fm) => rCheck_any R A n c fa fh fm W hW hn)
  have HSM := Lib.hid (ruD_small R bit n m fa fh fm lost)
  obtain ⟨D, eD⟩ : ∃ D, D = ruD R n fa fh fm bit m lost := ⟨_, rfl⟩
  obtain ⟨E, eE⟩ : ∃ E, E = ruE R n fa fh fm bit m lost := ⟨_, rfl⟩
  obtain ⟨C, eC⟩ : ∃ E, E = exErr R n fa fh fm := ⟨_, rfl⟩
  obtain ⟨sv, esv⟩ : ∃ E, E = sdsV R n fa fh fm a h := ⟨_, rfl⟩
  obtain ⟨se, ese⟩ : ∃ E, E = sdsE R n fa fh fm a h := ⟨_, rfl⟩
  rw [← eD, ← eE] at HR1 HR2
  rw [← eD] at HSM
  rw [← eC] at HC1 HC2
  rw [← esv, ← ese] at HS1 HS2
  have b1 : ((C : Int) == (C : Int)) = true := by simp
  have b2 : (sv == sv) = true := by simp
  have b3 : ((se : Int) == (se : Int)) = true := by simp
  have b4 : ((E : Int) == (E : Int)) = true := by simp
  clear h200 h20 eD eE eC esv ese
  go_enter Try.func8, Try.ntmps8
  go_upto_region 1 with (fail)
  rw [← HW.out]
  clear HW
  go_upto_region 4 with (go_at_call 24; refine (HS1.out _ HX.out).mono ?_; rintro e w1 ⟨rfl, hb⟩; have z0 := cell_below hb z0; have z1 := cell_below hb z1; have y0 := cell_below hb y0; have y1 := cell_below hb y1; have y2 := cell_below hb y2; have HX := Lib.hid (HX.out.below hb); have HLS := Lib.hid (HLS.out.below hb); have HB := Lib.hid (HB.out.trans (hb.mono HB.out.size)); clear hb)
  go_upto_region 5 with (go_at_call 29; refine (HS2.out _ HX.out).mono ?_; rintro e w2 ⟨rfl, hb⟩; have z0 := cell_below hb z0; have z1 := cell_below hb z1; have y2 := cell_below hb y2; have HX := Lib.hid (HX.out.below hb); have HLS := Lib.hid (HLS.out.below hb); have HB := Lib.hid (HB.out.trans (hb.mono HB.out.size)); clear hb)
  clear y0 y1
  go_upto_region 6 with (go_at_call 30; refine (HR1.out _ HX.out HLS.out).mono ?_; rintro e w3 ⟨v, rfl, hd, hb⟩; obtain ⟨AL, cL, AF, cF, rfl⟩ := RunO.shape hd; have HD1 := Lib.hid hd; have HB1 := Lib.hid hb; clear hd hb)
  obtain ⟨V, hV⟩ : ∃ V, V = w3.alloc (.cells #[.slice AL D.n cL, .slice AF D.k cF] 30) := ⟨_, rfl⟩
  have hbl := below_alloc w3 (.cells #[.slice AL D.n cL, .slice AF D.k cF] 30)
  have hbk := Blk.new w3 #[.slice AL D.n cL, .slice AF D.k cF] 30
  rw [← hV] at hbl hbk ⊢
  have hb13 := HB1.out.trans (hbl.mono HB1.out.size)
  have z0 := cell_below hb13 z0
  have z1 := cell_below hb13 z1
  have y2 := cell_below hb13 y2
  have HX := Lib.hid (HX.out.below hb13)
  have HLS := Lib.hid (HLS.out.below hb13)
  have HB := Lib.hid (HB.out.trans (hb13.mono HB.out.size))
  have HRR1 := Lib.hid ((RunO.read HD1.out (fun i _ => HSM.out.2.2.1 i) (fun i j _ _ => HSM.out.2.2.2.1 i j) (fun u _ => HSM.out.2.2.2.2 u)).below hbl)
  have x0 : V.cell? ⟨w3.heap.size, 0, none⟩ = some (.slice AL D.n cL) := hbk.cell rfl
  have x1 : V.cell? ⟨w3.heap.size, 1, none⟩ = some (.slice AF D.k cF) := hbk.cell rfl
  generalize w3.heap.size = b3 at x0 x1 ⊢
  clear hV hbl hbk hb13 HB1 HD1
  go_upto_region 7 with (go_at_call 31; refine (HR2.out _ HX.out HLS.out).mono ?_; rintro e w4 ⟨v, rfl, hd, hb⟩; obtain ⟨AL4, cL4, AF4, cF4, rfl⟩ := RunO.shape hd; have HD2 := Lib.hid hd; have HB1 := Lib.hid hb; clear hd hb)
  obtain ⟨V4, hV⟩ : ∃ V4, V4 = w4.alloc (.cells #[.slice AL4 D.n cL4, .slice AF4 D.k cF4] 30) := ⟨_, rfl⟩
  have hbl := below_alloc w4 (.cells #[.slice AL4 D.n cL4, .slice AF4 D.k cF4] 30)
  have hbk := Blk.new w4 #[.slice AL4 D.n cL4, .slice AF4 D.k cF4] 30
  rw [← hV] at hbl hbk ⊢
  have hb13 := HB1.out.trans (hbl.mono HB1.out.size)
  have z0 := cell_below hb13 z0
  have z1 := cell_below hb13 z1
  have x0 := cell_below hb13 x0
  have x1 := cell_below hb13 x1
  have HX := Lib.hid (HX.out.below hb13)
  have HB := Lib.hid (HB.out.trans (hb13.mono HB.out.size))
  have HRR1 := Lib.hid (HRR1.out.below hb13)
  have HRR2 := Lib.hid ((RunO.read HD2.out (fun i _ => HSM.out.2.2.1 i) (fun i j _ _ => HSM.out.2.2.2.1 i j) (fun u _ => HSM.out.2.2.2.2 u)).below hbl)
  have u0 : V4.cell? ⟨w4.heap.size, 0, none⟩ = some (.slice AL4 D.n cL4) := hbk.cell rfl
  have u1 : V4.cell? ⟨w4.heap.size, 1, none⟩ = some (.slice AF4 D.k cF4) := hbk.cell rfl
  generalize w4.heap.size = b4 at u0 u1 ⊢
  clear hV hbl hbk hb13 HB1 HD2 HLS y2
  have HSME := Lib.hid (fun X (hX : Below V4.heap.size V4 X) => SameRun_any _ _ D.n D.n D.k D.k _ _ _ _ _ _ X (HRR1.out.below hX) (HRR2.out.below hX) HSM.out.1 HSM.out.2.1 true ⟨fun _ => ⟨rfl, rfl, fun t _ => ⟨rfl, fun _ _ => rfl⟩, fun _ _ => rfl⟩, fun _ => rfl⟩)
  have HSOF := Lib.hid (fun (y : World) (h : Below V4.heap.size V4 y) => (⟨h, cell_below h z0, cell_below h z1, cell_below h x0, cell_below h x1, cell_below h u0, cell_below h u1⟩ : Below V4.heap.size V4 y ∧ y.cell? ⟨w.heap.size, 0, none⟩ = some (.int .i64 R) ∧ y.cell? ⟨w.heap.size, 1, none⟩ = some (.slice A n c) ∧ y.cell? ⟨b3, 0, none⟩ = some (.slice AL D.n cL) ∧ y.cell? ⟨b3, 1, none⟩ = some (.slice AF D.k cF) ∧ y.cell? ⟨b4, 0, none⟩ = some (.slice AL4 D.n cL4) ∧ y.cell? ⟨b4, 1, none⟩ = some (.slice AF4 D.k cF4)))
  have hb0 := Below.refl V4.heap.size V4
  clear z0 z1 x0 x1 u0 u1
  go_region_held3 (fun y => Below V4.heap.size V4 y ∧ y.cell? ⟨w.heap.size, 0, none⟩ = some (.int .i64 R) ∧ y.cell? ⟨w.heap.size, 1, none⟩ = some (.slice A n c) ∧ y.cell? ⟨b3, 0, none⟩ = some (.slice AL D.n cL) ∧ y.cell? ⟨b3, 1, none⟩ = some (.slice AF D.k cF) ∧ y.cell? ⟨b4, 0, none⟩ = some (.slice AL4 D.n cL4) ∧ y.cell? ⟨b4, 1, none⟩ = some (.slice AF4 D.k cF4)) (first | exact HSOF.out _ (by assumption) | exact HSOF.out _ (below_drew hb0) | exact HSOF.out _ (below_trans (And.left (by assumption)) (by assumption)))
    (first
      | (go_at_call 32; refine (HC1.out _ (by exact HX.out.below (And.left (by assumption)))).mono ?_; rintro e w5 ⟨rfl, hb1⟩; have HB5 := below_trans (And.left (by assumption)) hb1; clear hb1)
      | (go_at_call 33; refine (HC2.out _ (by exact HX.out.below (And.left (by assumption)))).mono ?_; rintro e w6 ⟨rfl, hb1⟩; have HB6 := below_trans (And.left (by assumption)) hb1; clear hb1)
      | (go_at_call 20; refine (HSME.out _ (And.left (by assumption))).mono ?_; rintro e w7 ⟨rfl, hb1⟩; have HB7 := below_trans (And.left (by assumption)) hb1; clear hb1)
      | (go_at_call 17; refine (awake_any _).mono ?_; rintro e w8 ⟨rfl, hb1⟩; have HB8 := below_trans (And.left (by assumption)) hb1; clear hb1)
      | fail)
  all_goals (
    go_wp2_with fail
    go_ret
    exact ⟨rfl, HB.out.trans (Below.mono (And.left (by assumption : Below V4.heap.size V4 _ ∧ _)) HB.out.size)⟩)
end Go.Proofs.Ytgnkeecjaffnaaa
