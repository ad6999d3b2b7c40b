/-
  Walks of layer 54: the examples (awake).
-/
import Derived.Test.YtgnkeecjaffnaaaProg
import Derived.Test.YtgnkeecjaffnaaaBase
import Derived.Test.YtgnkeecjaffnaaaRow
import Derived.Test.YtgnkeecjaffnaaaRowsOf
import Derived.Test.YtgnkeecjaffnaaaPc
import Derived.Test.YtgnkeecjaffnaaaPd
import Derived.Test.YtgnkeecjaffnaaaPrP
import Derived.Test.YtgnkeecjaffnaaaPrA
import Derived.Test.YtgnkeecjaffnaaaPrB
import Derived.Test.YtgnkeecjaffnaaaPrC
import Derived.Test.YtgnkeecjaffnaaaPrE
import Derived.Test.YtgnkeecjaffnaaaPrG
import Derived.Test.YtgnkeecjaffnaaaPrI
import Derived.Test.YtgnkeecjaffnaaaPrN
import Derived.Test.YtgnkeecjaffnaaaPfA
import Derived.Test.YtgnkeecjaffnaaaPfB
import Derived.Test.YtgnkeecjaffnaaaPfC
import Derived.Test.YtgnkeecjaffnaaaPtB
import Derived.Test.YtgnkeecjaffnaaaPkA
import Derived.Deep.DeepCutAuto
namespace Go.Proofs.Ytgnkeecjaffnaaa
open Go.RowKit

theorem five_blocks (w : World) (x0 x1 x2 x3 x4 : Array Value) (T0 T1 T2 T3 T4 : TypeId) (W : World) (hW : W = ((((w.alloc (.cells x0 T0)).alloc (.cells x1 T1)).alloc (.cells x2 T2)).alloc (.cells x3 T3)).alloc (.cells x4 T4)) :
    Blk W w.heap.size T0 x0 ∧ Blk W (w.heap.size + 1) T1 x1 ∧ Blk W (w.heap.size + 1 + 1) T2 x2 ∧ Blk W (w.heap.size + 1 + 1 + 1) T3 x3 ∧ Blk W (w.heap.size + 1 + 1 + 1 + 1) T4 x4 ∧ Below w.heap.size w W := by
  obtain ⟨k0, k1, k2, k3, hb⟩ := four_blocks w x0 x1 x2 x3 T0 T1 T2 T3 _ rfl
  subst hW
  have k4 := Blk.new ((((w.alloc (.cells x0 T0)).alloc (.cells x1 T1)).alloc (.cells x2 T2)).alloc (.cells x3 T3)) x4 T4
  simp only [World.size_alloc] at k4
  exact ⟨k0.alloc _, k1.alloc _, k2.alloc _, k3.alloc _, k4, hb.alloc (by simp; omega) _⟩
/-- A run of two times is held against one that is written out. -/
theorem same2 (V : World) (v : Value) (ls : List (Int × Int)) (fs : List Nat) (L : Nat → Nat → Int) (F : Nat → Nat) (hr : RunR V v 2 (fun _ => 2) L 2 F) (hL : ∀ t, t < 2 → ∀ i, i < 2 → L t i = litL ls t i) (hF : ∀ t, t < 2 → F t = litF fs t)
    (hb : ∀ i, i < 2 → (-9223372036854775808 ≤ litL ls i 0 ∧ litL ls i 0 ≤ 9223372036854775807) ∧ (-9223372036854775808 ≤ litL ls i 1 ∧ litL ls i 1 ≤ 9223372036854775807)) (hf : ∀ k, k < 2 → litF fs k < 18446744073709551616) (a b c d f g : Int) (ha : litL ls 0 0 = a) (hb' : litL ls 0 1 = b) (hc : litL ls 1 0 = c) (hd : litL ls 1 1 = d) (hf' : (litF fs 0 : Nat) = f) (hg : (litF fs 1 : Nat) = g) (X : World)
    (hX : X = (((V.alloc (.cells #[.int .i64 a, .int .i64 b] 3)).alloc (.cells #[.int .i64 c, .int .i64 d] 3)).alloc (.cells #[.slice (some ⟨V.heap.size, 0, none⟩) 2 2, .slice (some ⟨V.heap.size + 1, 0, none⟩) 2 2] 38)).alloc (.cells #[.int .u64 f, .int .u64 g] 64)) :
    Calls Try.prog 20 #[v, .agg #[.slice (some ⟨V.heap.size + 1 + 1, 0, none⟩) 2 2, .slice (some ⟨V.heap.size + 1 + 1 + 1, 0, none⟩) 2 2]] X fun e w' => e = .returned (.bool true) ∧ Below V.heap.size V w' := by
  subst ha hb' hc hd hf' hg
  obtain ⟨k0, k1, k2, k3, hbl⟩ := four_blocks V _ _ _ _ _ _ _ _ X hX
  have hlit := run_lit (w := X) (n := 2) (fun i => if i = 0 then V.heap.size else V.heap.size + 1) (litL ls) (litF fs) _ _ (fun i hi => by
      have h3 : i = 0 ∨ i = 1 := by omega
      rcases h3 with rfl | rfl
      · exact k0
      · exact k1) k2 (fun i hi => by
      have h3 : i = 0 ∨ i = 1 := by omega
      rcases h3 with rfl | rfl <;> rfl) k3 (fun i hi => by
      have h3 : i = 0 ∨ i = 1 := by omega
      rcases h3 with rfl | rfl <;> rfl) hb hf
  refine (SameRun_any _ _ 2 2 2 2 _ _ _ _ _ _ X (hr.below hbl) hlit (by decide) (by decide) true ⟨fun _ => ⟨rfl, rfl, fun t ht => ⟨rfl, fun i hi => hL t ht i hi⟩, fun t ht => hF t ht⟩, fun _ => rfl⟩).mono ?_
  rintro e w' ⟨rfl, hb2⟩
  exact ⟨rfl, hbl.trans (hb2.mono hbl.size)⟩
set_option maxHeartbeats 4000000 in
set_option maxRecDepth 100000 in
theorem awake_any (w : World) : Calls Try.prog 17 #[] w fun e w' => e = .returned (.bool true) ∧ Below w.heap.size w w' := by
  have hmk := Try.makeCr
  go_enter Try.func17, Try.ntmps17
  go_upto_region 2 with (first | (go_at_call 42; refine (example_any _).mono ?_; rintro e w1 ⟨A, c, rfl, hr, hb⟩; have HR := Lib.hid hr; have HB := Lib.hid hb; clear hr hb) | (go_at_call 23; refine (ex_lossy _ _ _ HR.out).mono ?_; rintro e w2 ⟨b, cR, u, v, rfl, hu, hv, hr, hb⟩; have HR2 := Lib.hid hr; have HB := Lib.hid (HB.out.trans (hb.mono HB.out.size)); clear hr hb))
  clear HR
  obtain ⟨V, hV⟩ : ∃ V, V = w2.alloc (.cells #[.int .i64 2, .int .i64 1, .int .i64 3, .slice (some ⟨b, 0, none⟩) 4 cR] 44) := ⟨_, rfl⟩
  have hbl := below_alloc w2 (.cells #[.int .i64 2, .int .i64 1, .int .i64 3, .slice (some ⟨b, 0, none⟩) 4 cR] 44)
  have hbk := Blk.new w2 #[.int .i64 2, .int .i64 1, .int .i64 3, .slice (some ⟨b, 0, none⟩) 4 cR] 44
  rw [← hV] at hbl hbk ⊢
  have hu := cell_below hbl hu
  have hv := cell_below hbl hv
  have d2 : V.cell? ⟨w2.heap.size, 2, none⟩ = some (.int .i64 3) := hbk.cell rfl
  have d3 : V.cell? ⟨w2.heap.size, 3, none⟩ = some (.slice (some ⟨b, 0, none⟩) 4 cR) := hbk.cell rfl
  have HR2 := Lib.hid (HR2.out.below hbl)
  have HB := Lib.hid (HB.out.trans (hbl.mono HB.out.size))
  generalize w2.heap.size = bs at d2 d3 ⊢
  clear hV hbl hbk
  have HSAME := Lib.hid (fun (X : World) (hX : X = ((((V.alloc (.cells #[.int .i64 5, .int .i64 4] 3)).alloc (.cells #[.int .i64 20, .int .i64 17] 3)).alloc (.cells #[.int .i64 80, .int .i64 68] 3)).alloc (.cells #[.slice (some ⟨V.heap.size, 0, none⟩) 2 2, .slice (some ⟨V.heap.size + 1, 0, none⟩) 2 2, .slice (some ⟨V.heap.size + 1 + 1, 0, none⟩) 2 2] 38)).alloc (.cells #[.int .u64 1, .int .u64 1, .int .u64 1] 64)) =>
    (show Calls Try.prog 20 #[.agg #[u, v], .agg #[.slice (some ⟨V.heap.size + 1 + 1 + 1, 0, none⟩) 3 3, .slice (some ⟨V.heap.size + 1 + 1 + 1 + 1, 0, none⟩) 3 3]] X fun e w' => e = .returned (.bool true) ∧ Below V.heap.size V w' from by
      obtain ⟨k0, k1, k2, k3, k4, hb⟩ := five_blocks V _ _ _ _ _ _ _ _ _ _ X hX
      have hlit := run_lit (w := X) (n := 3) (fun i => if i = 0 then V.heap.size else if i = 1 then V.heap.size + 1 else V.heap.size + 1 + 1) (litL [(5, 4), (20, 17), (80, 68)]) (litF [1, 1, 1]) _ _ (fun i hi => by
          have h3 : i = 0 ∨ i = 1 ∨ i = 2 := by omega
          rcases h3 with rfl | rfl | rfl
          · exact k0
          · exact k1
          · exact k2) k3 (fun i hi => by
          have h3 : i = 0 ∨ i = 1 ∨ i = 2 := by omega
          rcases h3 with rfl | rfl | rfl <;> rfl) k4 (fun i hi => by
          have h3 : i = 0 ∨ i = 1 ∨ i = 2 := by omega
          rcases h3 with rfl | rfl | rfl <;> rfl) (by decide +kernel) (by decide +kernel)
      refine (SameRun_any _ _ 3 3 3 3 _ _ _ _ _ _ X (HR2.out.below hb) hlit (by decide) (by decide) true ⟨fun _ => ⟨rfl, rfl, fun t ht => ⟨rfl, fun i hi => ex_L t ht i hi⟩, fun t ht => ?_⟩, fun _ => rfl⟩).mono ?_
      · have h3 : t = 0 ∨ t = 1 ∨ t = 2 := by omega
        rcases h3 with rfl | rfl | rfl <;> rfl
      · rintro e w' ⟨rfl, hb2⟩
        exact ⟨rfl, hb.trans (hb2.mono hb.size)⟩))
  go_upto_region 4 with (go_at_call 20; refine (HSAME.out _ (by rfl)).mono ?_; rintro e w3 ⟨rfl, hb⟩; have HB := Lib.hid (HB.out.trans (hb.mono HB.out.size)); clear hb)
  clear HSAME HR2 hu hv d2 d3
  go_upto_region 5 with (go_at_call 18; refine (ex_flood (fun _ => 0) ex_F0 _ _ _ (crS_zero (Blk.new _ _ _))).mono ?_; rintro e w4 ⟨AL, cL, AF, cF, rfl, hr, hb⟩; have HR4 := Lib.hid hr; have HB4 := Lib.hid (HB.out.trans (((below_alloc w3 _).trans (hb.mono (below_alloc w3 _).size)).mono HB.out.size)); clear hr hb)
  clear HB
  obtain ⟨V4, hV4⟩ : ∃ V4, V4 = w4.alloc (.cells #[.slice AL 2 cL, .slice AF 2 cF] 30) := ⟨_, rfl⟩
  have hbl := below_alloc w4 (.cells #[.slice AL 2 cL, .slice AF 2 cF] 30)
  have hbk := Blk.new w4 #[.slice AL 2 cL, .slice AF 2 cF] 30
  rw [← hV4] at hbl hbk ⊢
  have HR4 := Lib.hid (HR4.out.below hbl)
  have HB := Lib.hid (HB4.out.trans (hbl.mono HB4.out.size))
  have HK4 := Lib.hid hbk
  generalize w4.heap.size = b4 at HK4 ⊢
  clear hV4 hbl hbk HB4
  go_upto_region 6 with (go_at_call 18; refine (ex_flood exR ex_F1 _ _ _ (crS_one (Blk.new _ _ _))).mono ?_; rintro e w5 ⟨AL5, cL5, AF5, cF5, rfl, hr, hb⟩; have HR5 := Lib.hid hr; have hb45 := ((below_alloc V4 _).trans (hb.mono (below_alloc V4 _).size)); have HR4 := Lib.hid (HR4.out.below hb45); have HK4 := Lib.hid (HK4.out.below hb45); have HB := Lib.hid (HB.out.trans (hb45.mono HB.out.size)); clear hr hb hb45)
  obtain ⟨V5, hV5⟩ : ∃ V5, V5 = w5.alloc (.cells #[.slice AL5 2 cL5, .slice AF5 2 cF5] 30) := ⟨_, rfl⟩
  have hbl := below_alloc w5 (.cells #[.slice AL5 2 cL5, .slice AF5 2 cF5] 30)
  have hbk := Blk.new w5 #[.slice AL5 2 cL5, .slice AF5 2 cF5] 30
  rw [← hV5] at hbl hbk ⊢
  have HR4 := Lib.hid (HR4.out.below hbl)
  have HR5 := Lib.hid (HR5.out.below hbl)
  have HK4 := Lib.hid (HK4.out.below hbl)
  have HB := Lib.hid (HB.out.trans (hbl.mono HB.out.size))
  have HK5 := Lib.hid hbk
  generalize w5.heap.size = b5 at HK5 ⊢
  clear hV5 hbl hbk
  go_upto_region 7 with (go_at_call 34; refine (ex_patterns _).mono ?_; rintro e w6 ⟨A6, c6, rfl, hb⟩; have HR4 := Lib.hid (HR4.out.below hb); have HR5 := Lib.hid (HR5.out.below hb); have HK4 := Lib.hid (HK4.out.below hb); have HK5 := Lib.hid (HK5.out.below hb); have HB := Lib.hid (HB.out.trans (hb.mono HB.out.size)); clear hb)
  have HS4 := Lib.hid (same2 w6 _ [(3, 4), (15, 15)] [13, 13] _ _ HR4.out ex_FL0 ex_FF0 (by decide +kernel) (by decide +kernel) 3 4 15 15 13 13 rfl rfl rfl rfl rfl rfl)
  have d0 : w6.cell? ⟨b4, 0, none⟩ = some (.slice AL 2 cL) := HK4.out.cell rfl
  have d1 : w6.cell? ⟨b4, 1, none⟩ = some (.slice AF 2 cF) := HK4.out.cell rfl
  have e0 : w6.cell? ⟨b5, 0, none⟩ = some (.slice AL5 2 cL5) := HK5.out.cell rfl
  have e1 : w6.cell? ⟨b5, 1, none⟩ = some (.slice AF5 2 cF5) := HK5.out.cell rfl
  clear HK4
  have HA1 := Lib.hid (fun (w : World) => (show Calls Try.prog 13 #[.int .i64 4, .int .i64 1] w fun e w' => e = .returned (.int .i64 17) ∧ w = w' from by
    have := After_any 4 1 w (by decide)
    rwa [show afV 4 1 = 17 from by decide +kernel] at this))
  have ht1 : tmV 1 17 = 1 := by decide +kernel
  have ht2 : tmV 1 20 = -1 := by decide +kernel
  have HS1 := Lib.hid (fun (w : World) => (show Calls Try.prog 11 #[.int .i64 0, .int .i64 1] w fun e w' => e = .returned (.int .i64 5) ∧ w = w' from by
    have := Start_any 0 1 w
    rwa [show stV 0 1 = 5 from by decide +kernel] at this))
  have HCL := Lib.hid (fun (w : World) (A : Option Addr) (c : Nat) (h : CrS w A 2 (fun _ => 0) (fun _ => 0)) => (show Calls Try.prog 21 #[.int .i64 1, .slice A 2 c] w fun e w' => e = .returned (.int .i64 1) ∧ Below w.heap.size w w' from by
    have := Clean_any 1 A 2 c (fun _ => 0) (fun _ => 0) w h (by decide)
    rwa [ex_clean] at this))
  go_upto_region 9 with (first | (go_at_call 20; refine (HS4.out _ (by rfl)).mono ?_; rintro e w7 ⟨rfl, hb⟩; have e0 := cell_below hb e0; have e1 := cell_below hb e1; have HS5 := Lib.hid (same2 w7 _ [(3, 4), (0, 13)] [13, 9] _ _ (HR5.out.below hb) ex_FL1 ex_FF1 (by decide +kernel) (by decide +kernel) 3 4 0 13 13 9 rfl rfl rfl rfl rfl rfl); have HB := Lib.hid (HB.out.trans (hb.mono HB.out.size)); clear hb HS4) | (go_at_call 20; refine (HS5.out _ (by rfl)).mono ?_; rintro e w8 ⟨rfl, hb⟩; have HB := Lib.hid (HB.out.trans (hb.mono HB.out.size)); clear hb HS5))
  clear d0 d1 e0 e1 HR4 HR5 HK5
  go_wp2_with (first | (go_at_call 13; refine (HA1.out _).mono ?_; rintro e w' ⟨rfl, rfl⟩) | (go_at_call 15; refine (Time_any _ _ _ (by decide)).mono ?_; rintro e w' ⟨rfl, rfl⟩) | (go_at_call 11; refine (HS1.out _).mono ?_; rintro e w' ⟨rfl, rfl⟩) | (go_at_call 21; refine (HCL.out _ _ _ (crS_zero (Blk.new _ _ _))).mono ?_; rintro e w9 ⟨rfl, hb⟩; have HB := Lib.hid (HB.out.trans (((below_alloc w8 _).trans (hb.mono (below_alloc w8 _).size)).mono HB.out.size)); clear hb))
  go_ret
  exact ⟨rfl, HB.out⟩
end Go.Proofs.Ytgnkeecjaffnaaa
