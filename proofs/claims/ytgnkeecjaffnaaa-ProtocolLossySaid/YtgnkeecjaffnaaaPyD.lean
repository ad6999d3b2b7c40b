/-
  Walks of layer 54: Reliable of the reference.
-/
import Derived.Test.YtgnkeecjaffnaaaProg
import Derived.Test.YtgnkeecjaffnaaaBase
import Derived.Test.YtgnkeecjaffnaaaRow
import Derived.Test.YtgnkeecjaffnaaaRowU
import Derived.Test.YtgnkeecjaffnaaaRowsOf
import Derived.Test.YtgnkeecjaffnaaaPc
import Derived.Test.YtgnkeecjaffnaaaPd
import Derived.Test.YtgnkeecjaffnaaaPrB
import Derived.Test.YtgnkeecjaffnaaaPrC
import Derived.Test.YtgnkeecjaffnaaaPrF
import Derived.Test.YtgnkeecjaffnaaaPrI
import Derived.Test.YtgnkeecjaffnaaaPrN
import Derived.Test.YtgnkeecjaffnaaaPrQ
import Derived.Test.YtgnkeecjaffnaaaPrR
import Derived.Test.YtgnkeecjaffnaaaPfC
import Derived.Test.YtgnkeecjaffnaaaPyP
import Derived.Test.YtgnkeecjaffnaaaPyC
import Derived.Deep.RegionHeld3
import Derived.Deep.AppendLies
import Derived.Deep.DeepCutAuto
namespace Go.Proofs.Ytgnkeecjaffnaaa
open Go.RowKit

/-- Two runs laid out in a block. -/
theorem two_runs {w : World} {b base T : Nat} {snd : Int → Int → Int} {x0 y0 x1 y1 : Value} (h0 : RunO w base (.agg #[x0, y0]) (T + 1) (fun _ => 2) (runL snd 0 (fun _ => 0)) (T + 1) (fun _ => (0 : Int).toNat)) (h1 : RunO w base (.agg #[x1, y1]) (T + 1) (fun _ => 2) (runL snd 1 (fun _ => 0)) (T + 1) (fun _ => (1 : Int).toNat))
    (hb : Blk w b 30 #[x0, y0, x1, y1]) (hge : base ≤ b) : RunsO w base (.slice (some ⟨b, 0, none⟩) 2 2) ((relB T 2).map (mkR snd)) := by
  refine ⟨[x0, y0, x1, y1], ⟨rfl, .inr ⟨b, 2, _, rfl, hge, hb, Nat.le_refl _, by decide, rfl, rfl⟩⟩, fun i d hd => ?_⟩
  have hi : i = 0 ∨ i = 1 := by
    have := (List.getElem?_eq_some_iff.1 hd).1
    simp [relB] at this
    omega
  rcases hi with rfl | rfl
  · have : mkR snd (0, zs T) = d := by simpa [relB] using hd
    subst this
    refine ⟨x0, y0, rfl, rfl, ?_⟩
    show RunO w base _ ((zs T).length + 1) (fun _ => 2) (runL snd 0 (lf (zs T))) ((zs T).length + 1) (fun _ => (0 : Int).toNat)
    rw [zs_len, lf_zs]; exact h0
  · have : mkR snd (1, zs T) = d := by simpa [relB] using hd
    subst this
    refine ⟨x1, y1, rfl, rfl, ?_⟩
    show RunO w base _ ((zs T).length + 1) (fun _ => 2) (runL snd 1 (lf (zs T))) ((zs T).length + 1) (fun _ => (1 : Int).toNat)
    rw [zs_len, lf_zs]; exact h1
theorem rel_keep {w x y : World} {b0 gz T : Nat} {u0 u1 : Value} (h : Below w.heap.size w x ∧ x.cell? ⟨b0, 0, none⟩ = some u0 ∧ x.cell? ⟨b0, 1, none⟩ = some u1 ∧ I64s x (some ⟨gz, 0, none⟩) T (fun _ => 0)) (hb : Below x.heap.size x y) :
    Below w.heap.size w y ∧ y.cell? ⟨b0, 0, none⟩ = some u0 ∧ y.cell? ⟨b0, 1, none⟩ = some u1 ∧ I64s y (some ⟨gz, 0, none⟩) T (fun _ => 0) :=
  ⟨below_trans h.1 hb, cell_below hb h.2.1, cell_below hb h.2.2.1, h.2.2.2.below hb⟩
theorem i64s_set {w : World} {gz T b k : Nat} {f : Nat → Int} (h : I64s w (some ⟨gz, 0, none⟩) T f) (hne : gz ≠ b) (v : Value) : I64s (w.setCell ⟨b, k, none⟩ v) (some ⟨gz, 0, none⟩) T f := fun j hj => by
  obtain ⟨b', off, e, hc, hf⟩ := h j hj
  injection e with e
  injection e with e1 e2 _
  subst e1 e2
  exact ⟨gz, 0, rfl, by rw [World.cell?_setCell_other _ _ _ _ (fun e => by injection e with e1; exact hne e1.symm)]; exact hc, hf⟩
theorem rel_fin {w x : World} {gz T : Nat} {u0 u1 z0 z1 z2 z3 : Value} (h : Below w.heap.size w x ∧ x.cell? ⟨w.heap.size, 0, none⟩ = some u0 ∧ x.cell? ⟨w.heap.size, 1, none⟩ = some u1 ∧ I64s x (some ⟨gz, 0, none⟩) T (fun _ => 0))
    (hE : Blk x w.heap.size 41 #[u0, u1]) (h2 : Blk x (w.heap.size + 1) 44 #[z0, z1, z2, z3]) (hgz : gz ≠ w.heap.size + 1) (o : Obj) (y0 y1 y2 y3 : Value) :
    Below w.heap.size w (((((x.alloc o).setCell ⟨w.heap.size + 1, 0, none⟩ y0).setCell ⟨w.heap.size + 1, 1, none⟩ y1).setCell ⟨w.heap.size + 1, 2, none⟩ y2).setCell ⟨w.heap.size + 1, 3, none⟩ y3) ∧
    (((((x.alloc o).setCell ⟨w.heap.size + 1, 0, none⟩ y0).setCell ⟨w.heap.size + 1, 1, none⟩ y1).setCell ⟨w.heap.size + 1, 2, none⟩ y2).setCell ⟨w.heap.size + 1, 3, none⟩ y3).cell? ⟨w.heap.size, 0, none⟩ = some u0 ∧
    (((((x.alloc o).setCell ⟨w.heap.size + 1, 0, none⟩ y0).setCell ⟨w.heap.size + 1, 1, none⟩ y1).setCell ⟨w.heap.size + 1, 2, none⟩ y2).setCell ⟨w.heap.size + 1, 3, none⟩ y3).cell? ⟨w.heap.size, 1, none⟩ = some u1 ∧
    I64s (((((x.alloc o).setCell ⟨w.heap.size + 1, 0, none⟩ y0).setCell ⟨w.heap.size + 1, 1, none⟩ y1).setCell ⟨w.heap.size + 1, 2, none⟩ y2).setCell ⟨w.heap.size + 1, 3, none⟩ y3) (some ⟨gz, 0, none⟩) T (fun _ => 0) := by
  have hk := Keeps.put4 (h2.alloc o) (T' := 41) (by decide) y0 y1 y2 y3
  have hE4 := hk _ _ (hE.alloc o)
  exact ⟨below_put4 (below_more h.1 o) (by omega) _ _ _ _, hE4.cell rfl, hE4.cell rfl, i64s_set (i64s_set (i64s_set (i64s_set (h.2.2.2.below (below_alloc _ _)) hgz _) hgz _) hgz _) hgz _⟩
set_option maxHeartbeats 4000000 in
set_option maxRecDepth 100000 in
theorem rReliable_any (R : Int) (A : Option Addr) (n c : Nat) (fa fh fm : Nat → Int) (w : World) (hx : RuleS w A n fa fh fm) (hn : n ≤ 9223372036854775807) :
    Calls Try.prog 27 #[.agg #[.int .i64 R, .slice A n c]] w (SysPost w (relD R n fa fh fm) (exErr R n fa fh fm)) := by
  have HX := Lib.hid hx
  have hC := fun w (h : RuleS w A n fa fh fm) => rCheck_any R A n c fa fh fm w h hn
  by_cases hE : exErr R n fa fh fm = 0
  case neg =>
    have hd : relD R n fa fh fm = SysD.none := if_neg hE
    rw [hd]
    obtain ⟨E, eE⟩ : ∃ E, E = exErr R n fa fh fm := ⟨_, rfl⟩
    rw [← eE] at hC hE ⊢
    have HC := Lib.hid hC
    have t1 : ((E : Int) != 0) = true := by rw [bne_iff_ne]; omega
    clear hC hx hd eE
    go_enter Try.func27, Try.ntmps27
    go_upto_region 1 with (fail)
    obtain ⟨W, hW⟩ : ∃ W, W = (w.alloc (.cells #[.int .i64 R, .slice A n c] 41)).alloc (.cells #[.int .i64 0, .int .i64 0, .int .i64 0, .slice none 0 0] 44) := ⟨_, rfl⟩
    rw [← hW]
    obtain ⟨hk0, hk1, hB⟩ := two_boxes4 w _ _ _ _ W hW
    have x0 := hk0.cell (k := 0) rfl
    have x1 := hk0.cell (k := 1) rfl
    have HXW := Lib.hid (HX.out.below hB)
    have HB := Lib.hid hB
    have HK1 := Lib.hid hk1
    clear hW hk0 hk1 hB HX
    go_upto_region 2 with (go_at_call 33; refine (HC.out _ (by exact HXW.out)).mono ?_; rintro e w1 ⟨rfl, hb1⟩; have HB1 := Lib.hid hb1; clear hb1)
    have hB2 := HB.out.trans (HB1.out.mono HB.out.size)
    obtain ⟨⟨c0, f0, c1, f1, c2, f2, c3, f3⟩, hk2⟩ := (HK1.out.below HB1.out).put4 (.int .i64 0) (.int .i64 0) (.int .i64 0) (.slice none 0 0)
    have q0 := hk2.cell (k := 0) rfl
    have q1 := hk2.cell (k := 1) rfl
    have q2 := hk2.cell (k := 2) rfl
    have q3 := hk2.cell (k := 3) rfl
    have HB2 := Lib.hid hB2
    clear hB2 hk2 HB1 HB HK1 HXW x0 x1
    go_wp2_with fail
    exact bodyPost_ret (v := .tuple #[.agg #[.int .i64 0, .int .i64 0, .int .i64 0, .slice none 0 0], .int .i64 E]) (by simp [results, Try.results27, go_sem, q0, q1, q2, q3]) rfl ⟨_, rfl, SysD.none_owned _ _, below_put4 HB2.out (by omega) _ _ _ _⟩
  case pos =>
    obtain ⟨hR0, hR4⟩ := exErr_R hE
    obtain ⟨T, rfl⟩ : ∃ T : Nat, R = T := ⟨R.toNat, by omega⟩
    have hT4 : T ≤ 4 := by omega
    have hs := snd_range hE
    obtain ⟨snd, esnd⟩ : ∃ snd, snd = sndV n fa fh fm := ⟨_, rfl⟩
    have HRUN := Lib.hid (fun (b : Int) (hb : 0 ≤ b ∧ b ≤ 1) (B : Option Addr) (d : Nat) (W : World) (hW : RuleS W A n fa fh fm) (hl : I64s W B T (fun _ => 0)) => rrun_any b A n c fa fh fm B T d (fun _ => 0) W hW hn hl hT4 (fun _ _ => by show (0 : Int) ≤ 0 ∧ (0 : Int) ≤ 3; omega) hb hs)
    have HDD := Lib.hid (show relD T n fa fh fm = ⟨2, 1, (T : Int) + 1, (relB T 2).map (mkR snd)⟩ by unfold relD; rw [if_pos hE, Int.toNat_natCast, esnd])
    rw [← esnd] at HRUN
    rw [hE] at hC
    have HC := Lib.hid hC
    have HE := Lib.hid hE
    have hmk := fun w1 => run_make_row' (P := Try.prog) (w := w1) 38 3 (.int .i64 0) 8 Try.underlying38 Try.infoInt rfl .i64 .i64 T (by omega) (by omega)
    clear hC hE hx esnd hs
    go_enter Try.func27, Try.ntmps27
    go_upto_region 1 with (fail)
    obtain ⟨W, hW⟩ : ∃ W, W = (w.alloc (.cells #[.int .i64 T, .slice A n c] 41)).alloc (.cells #[.int .i64 0, .int .i64 0, .int .i64 0, .slice none 0 0] 44) := ⟨_, rfl⟩
    rw [← hW]
    obtain ⟨hk0, hk1, hB⟩ := two_boxes4 w _ _ _ _ W hW
    have x0 := hk0.cell (k := 0) rfl
    have x1 := hk0.cell (k := 1) rfl
    have HXW := Lib.hid (HX.out.below hB)
    have HB := Lib.hid hB
    have HK0 := Lib.hid hk0
    have HK1 := Lib.hid hk1
    clear hW hk0 hk1 hB
    go_upto_region 4 with (go_at_call 33; refine (HC.out _ (by exact HXW.out)).mono ?_; rintro e w1 ⟨rfl, hb1⟩; have HB1 := Lib.hid hb1; clear hb1)
    have HB2 := Lib.hid (HB.out.trans (HB1.out.mono HB.out.size))
    have HK0 := Lib.hid (HK0.out.below HB1.out)
    have HK1 := Lib.hid (HK1.out.below HB1.out)
    have x0 := HK0.out.cell (k := 0) rfl
    have hlt2 := HK1.out.lt
    clear HB HB1 HXW x1
    go_upto_region 5 with (fail)
    have hB3 := below_alloc w1 (.cells (madeCells #[.int .i64 0] T) 3)
    have HZ := Lib.hid (made_zero w1 T)
    have HK0 := Lib.hid (HK0.out.below hB3)
    have HK1 := Lib.hid (HK1.out.below hB3)
    have HB2 := Lib.hid (HB2.out.trans (hB3.mono HB2.out.size))
    generalize w1.alloc (.cells (madeCells #[.int .i64 0] T) 3) = V1 at HZ HK0 HK1 HB2 ⊢
    have hgz : w1.heap.size ≠ w.heap.size + 1 := by omega
    generalize w1.heap.size = gz at HZ hgz ⊢
    clear hlt2
    have x0 := HK0.out.cell (k := 0) rfl
    have x1 := HK0.out.cell (k := 1) rfl
    clear hB3 hmk HC
    have hz0 := HZ.out
    have hS0 : Below w.heap.size w V1 ∧ V1.cell? ⟨w.heap.size, 0, none⟩ = some (.int .i64 T) ∧ V1.cell? ⟨w.heap.size, 1, none⟩ = some (.slice A n c) ∧ I64s V1 (some ⟨gz, 0, none⟩) T (fun _ => 0) := ⟨HB2.out, x0, x1, hz0⟩
    have hw1 : IntKind.i64.wrap ((T : Int) + 1) = (T : Int) + 1 := by rw [IntKind.wrap_i64]; omega
    have HS0 := Lib.hid hS0
    clear x0 x1 hz0 hS0 HZ HB2
    go_region_held3 (fun x => Below w.heap.size w x ∧ x.cell? ⟨w.heap.size, 0, none⟩ = some (.int .i64 T) ∧ x.cell? ⟨w.heap.size, 1, none⟩ = some (.slice A n c) ∧ I64s x (some ⟨gz, 0, none⟩) T (fun _ => 0)) (first | exact HS0.out | exact rel_keep HS0.out (below_drew (Below.refl _ _)) | assumption | exact rel_keep hS6 (below_alloc _ _) | exact HF1.out | exact HF2.out)
      (first
        | (go_at_call 54; refine (HRUN.out _ (by omega) _ _ _ (by exact HX.out.below (And.left (by assumption))) (by exact (And.right (And.right (And.right (by assumption)))))).mono ?_; rintro e w6 ⟨v6, rfl, hrun, HC6⟩;
            (first
              | (have HRA2 := Lib.hid (RunO.below HRA.out ⟨HC6.os, HC6.tape, HC6.output, HC6.size, HC6.block⟩); obtain ⟨ALb, cALb, AFb, cFb, rfl⟩ := hrun.shape; have hS6 := rel_keep (by assumption) HC6; have HRB := Lib.hid (runO_from' (And.left (by assumption)) hrun); clear hrun;
                 have HKB := Lib.hid (HKA.out.below ⟨HC6.os, HC6.tape, HC6.output, HC6.size, HC6.block⟩); have HEB := Lib.hid (HEA.out.below ⟨HC6.os, HC6.tape, HC6.output, HC6.size, HC6.block⟩);
                 obtain ⟨⟨c0, f0, c1, f1, c2, f2, c3, f3⟩, hk2⟩ := (HKB.out.alloc (.cells #[.slice ALa (T + 1) cALa, .slice AFa (T + 1) cFa, .slice ALb (T + 1) cALb, .slice AFb (T + 1) cFb] 30)).put4 (.int .i64 2) (.int .i64 1) (.int .i64 ((T : Int) + 1)) (.slice (some ⟨w6.heap.size, 0, none⟩) 2 2);
                 obtain ⟨⟨d0, g0, d1, g1, d2, g2, d3, g3⟩, hk3⟩ := (HKB.out.alloc (.cells #[.slice ALb (T + 1) cALb, .slice AFb (T + 1) cFb, .slice ALa (T + 1) cALa, .slice AFa (T + 1) cFa] 30)).put4 (.int .i64 2) (.int .i64 1) (.int .i64 ((T : Int) + 1)) (.slice (some ⟨w6.heap.size, 0, none⟩) 2 2);
                 have HF1 := Lib.hid (rel_fin hS6 HEB.out HKB.out hgz (.cells #[.slice ALa (T + 1) cALa, .slice AFa (T + 1) cFa, .slice ALb (T + 1) cALb, .slice AFb (T + 1) cFb] 30) (.int .i64 2) (.int .i64 1) (.int .i64 ((T : Int) + 1)) (.slice (some ⟨w6.heap.size, 0, none⟩) 2 2));
                 have HF2 := Lib.hid (rel_fin hS6 HEB.out HKB.out hgz (.cells #[.slice ALb (T + 1) cALb, .slice AFb (T + 1) cFb, .slice ALa (T + 1) cALa, .slice AFa (T + 1) cFa] 30) (.int .i64 2) (.int .i64 1) (.int .i64 ((T : Int) + 1)) (.slice (some ⟨w6.heap.size, 0, none⟩) 2 2));
                 have HCB := Lib.hid hS6.1; have HK2 := Lib.hid hk2; have HK3 := Lib.hid hk3; clear hk2 hk3)
              | (obtain ⟨ALa, cALa, AFa, cFa, rfl⟩ := hrun.shape; have hS6 := rel_keep (by assumption) HC6; have HKA := Lib.hid (HK1.out.below ⟨HC6.os, HC6.tape, HC6.output, HC6.size, HC6.block⟩); have HEA := Lib.hid (HK0.out.below ⟨HC6.os, HC6.tape, HC6.output, HC6.size, HC6.block⟩); have HRA := Lib.hid (runO_from' (And.left (by assumption)) hrun); clear hrun)))
        | fail)
    all_goals (first
      | (have q0 := HK2.out.cell (k := 0) rfl
         have q1 := HK2.out.cell (k := 1) rfl
         have q2 := HK2.out.cell (k := 2) rfl
         have q3 := HK2.out.cell (k := 3) rfl
         have HRU := Lib.hid (two_runs (RunO.keeps (RunO.below HRA2.out (below_alloc w6 (.cells #[.slice ALa (T + 1) cALa, .slice AFa (T + 1) cFa, .slice ALb (T + 1) cALb, .slice AFb (T + 1) cFb] 30))) (Keeps.put4 (HKB.out.alloc _) (by decide) _ _ _ _) (Keeps.put4 (HKB.out.alloc _) (by decide) _ _ _ _) (Keeps.put4 (HKB.out.alloc _) (by decide) _ _ _ _)) (RunO.keeps (RunO.below HRB.out (below_alloc w6 (.cells #[.slice ALa (T + 1) cALa, .slice AFa (T + 1) cFa, .slice ALb (T + 1) cALb, .slice AFb (T + 1) cFb] 30))) (Keeps.put4 (HKB.out.alloc _) (by decide) _ _ _ _) (Keeps.put4 (HKB.out.alloc _) (by decide) _ _ _ _) (Keeps.put4 (HKB.out.alloc _) (by decide) _ _ _ _)) (Keeps.put4 (HKB.out.alloc _) (by decide) (.int .i64 2) (.int .i64 1) (.int .i64 ((T : Int) + 1)) (.slice (some ⟨w6.heap.size, 0, none⟩) 2 2) _ _ (Blk.new w6 #[.slice ALa (T + 1) cALa, .slice AFa (T + 1) cFa, .slice ALb (T + 1) cALb, .slice AFb (T + 1) cFb] 30)) HCB.out.size)
         go_wp2_with fail
         exact bodyPost_ret (v := .tuple #[.agg #[.int .i64 2, .int .i64 1, .int .i64 ((T : Int) + 1), .slice (some ⟨w6.heap.size, 0, none⟩) 2 2], .int .i64 0]) (by simp [results, Try.results27, go_sem, q0, q1, q2, q3]) rfl (show SysPost w (relD T n fa fh fm) (exErr T n fa fh fm) _ _ from by rw [HDD.out, HE.out]; exact ⟨_, rfl, ⟨_, rfl, HRU.out⟩, HF1.out.1⟩))
      | (have q0 := HK3.out.cell (k := 0) rfl
         have q1 := HK3.out.cell (k := 1) rfl
         have q2 := HK3.out.cell (k := 2) rfl
         have q3 := HK3.out.cell (k := 3) rfl
         have HRU := Lib.hid (two_runs (RunO.keeps (RunO.below HRB.out (below_alloc w6 (.cells #[.slice ALb (T + 1) cALb, .slice AFb (T + 1) cFb, .slice ALa (T + 1) cALa, .slice AFa (T + 1) cFa] 30))) (Keeps.put4 (HKB.out.alloc _) (by decide) _ _ _ _) (Keeps.put4 (HKB.out.alloc _) (by decide) _ _ _ _) (Keeps.put4 (HKB.out.alloc _) (by decide) _ _ _ _)) (RunO.keeps (RunO.below HRA2.out (below_alloc w6 (.cells #[.slice ALb (T + 1) cALb, .slice AFb (T + 1) cFb, .slice ALa (T + 1) cALa, .slice AFa (T + 1) cFa] 30))) (Keeps.put4 (HKB.out.alloc _) (by decide) _ _ _ _) (Keeps.put4 (HKB.out.alloc _) (by decide) _ _ _ _) (Keeps.put4 (HKB.out.alloc _) (by decide) _ _ _ _)) (Keeps.put4 (HKB.out.alloc _) (by decide) (.int .i64 2) (.int .i64 1) (.int .i64 ((T : Int) + 1)) (.slice (some ⟨w6.heap.size, 0, none⟩) 2 2) _ _ (Blk.new w6 #[.slice ALb (T + 1) cALb, .slice AFb (T + 1) cFb, .slice ALa (T + 1) cALa, .slice AFa (T + 1) cFa] 30)) HCB.out.size)
         go_wp2_with fail
         exact bodyPost_ret (v := .tuple #[.agg #[.int .i64 2, .int .i64 1, .int .i64 ((T : Int) + 1), .slice (some ⟨w6.heap.size, 0, none⟩) 2 2], .int .i64 0]) (by simp [results, Try.results27, go_sem, q0, q1, q2, q3]) rfl (show SysPost w (relD T n fa fh fm) (exErr T n fa fh fm) _ _ from by rw [HDD.out, HE.out]; exact ⟨_, rfl, ⟨_, rfl, HRU.out⟩, HF2.out.1⟩)))
end Go.Proofs.Ytgnkeecjaffnaaa
