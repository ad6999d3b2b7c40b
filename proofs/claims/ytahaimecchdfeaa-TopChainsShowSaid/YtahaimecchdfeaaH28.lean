/-
  Texts of this claim, one after the other: what each proves is said at its head. No condition beyond those that its theorems name.
-/
import Derived.Test.YtahaimecchdfeaaProg
import Derived.Deep.RegionHeld3
import Derived.Deep.AppendLies
import Derived.Deep.DeepCutAuto
import Derived.Test.YtahaimecchdfeaaH01
import Derived.Test.YtahaimecchdfeaaH02
import Derived.Test.YtahaimecchdfeaaH06
import Derived.Test.YtahaimecchdfeaaH09
import Derived.Test.YtahaimecchdfeaaH11
import Derived.Test.YtahaimecchdfeaaH14
import Derived.Test.YtahaimecchdfeaaH18
import Derived.Test.YtahaimecchdfeaaH23
import Derived.Test.YtahaimecchdfeaaH27

/-
  Walks of layer 54: Reliable of the program.
-/
namespace Go.Proofs.Ytahaimecchdfeaa
open Go.RowKit

/-- Nothing lost. -/
def zs (T : Nat) : List Int := List.replicate T 0
theorem lf_zs (T : Nat) : lf (zs T) = fun _ => 0 := by
  funext k
  unfold lf zs
  rw [List.getD_eq_getElem?_getD, List.getElem?_replicate]
  split <;> rfl
theorem zs_len (T : Nat) : (zs T).length = T := List.length_replicate
def relB (T b : Nat) : List (Int × List Int) := (List.range b).map fun (k : Nat) => ((k : Int), zs T)
theorem relB_succ (T b : Nat) : relB T (b + 1) = relB T b ++ [((b : Int), zs T)] := by unfold relB; rw [List.range_succ, List.map_append]; rfl
def relD (R : Int) (n : Nat) (fa fh fm : Nat → Int) : SysD := if exErr R n fa fh fm = 0 then ⟨2, 1, R + 1, (relB R.toNat 2).map (mkR (sndV n fa fh fm))⟩ else SysD.none
/-- What the walk of Reliable holds. -/
structure RelI (w0 w : World) (b2 bE bS T : Nat) (eA vR : Value) (ps : List RunD) : Prop where
  below : Below w0.heap.size w0 w
  h2 : Blk w b2 24 #[.int .i64 0, .int .i64 0, .int .i64 0, .slice none 0 0]
  hE : Blk w bE 43 #[.int .i64 T, eA]
  hS : Blk w bS 24 #[.int .i64 2, .int .i64 1, .int .i64 ((T : Int) + 1), vR]
  ne : b2 ≠ bS
  ge : w0.heap.size ≤ b2 ∧ w0.heap.size ≤ bS
  runs : RunsO w w0.heap.size vR ps
section
variable {w0 w w1 : World} {b2 bE bS T : Nat} {eA vR : Value} {ps : List RunD}
theorem RelI.keep (h : RelI w0 w b2 bE bS T eA vR ps) (hb : Below w.heap.size w w1) : RelI w0 w1 b2 bE bS T eA vR ps :=
  ⟨h.below.trans (hb.mono h.below.size), h.h2.below hb, h.hE.below hb, h.hS.below hb, h.ne, h.ge, h.runs.below hb⟩
theorem RelI.box (h : RelI w0 w b2 bE bS T eA vR ps) {rows : List Value} {N : Nat} {o : Obj} (ho : w.ownsRow w0.heap.size 69 2 vR N rows) (hg : (w.alloc o).grownBy w1 vR.ownBlock) :
    w1.cell? ⟨bS, 3, none⟩ = some vR ∧ w1.frozen? ⟨bS, 3, none⟩ = false := by
  have hb := below_alloc w o
  have hS1 := (h.hS.below hb).kept hg ((h.hS.below hb).ne_row' (own_alloc' ho o) (by decide))
  exact ⟨hS1.cell rfl, hS1.frozen⟩
theorem RelI.grow (h : RelI w0 w b2 bE bS T eA vR ps) {rows : List Value} {x y v' : Value} {d : RunD} {o : Obj} (ho : w.ownsRow w0.heap.size 69 2 vR ps.length rows)
    (hr : ∀ i d, ps[i]? = some d → ∃ x y, rows[i * 2]? = some x ∧ rows[i * 2 + 1]? = some y ∧ d.owned w w0.heap.size (.agg #[x, y])) (hd : d.owned w w0.heap.size (.agg #[x, y]))
    (hown : w1.ownsRow w0.heap.size 69 2 v' (ps.length + 1) (rows ++ [x, y])) (hg : (w.alloc o).grownBy w1 vR.ownBlock) :
    RelI w0 (w1.setCell ⟨bS, 3, none⟩ v') b2 bE bS T eA v' (ps ++ [d]) := by
  have hb := below_alloc w o
  have ho1 := own_alloc' ho o
  have hlt := ho1.lt
  have hsz : (w.alloc o).heap.size = w.heap.size + 1 := by simp
  have hS1 := (h.hS.below hb).kept hg ((h.hS.below hb).ne_row' ho1 (by decide))
  have h21 := (h.h2.below hb).kept hg ((h.h2.below hb).ne_row' ho1 (by decide))
  have hE1 := (h.hE.below hb).kept hg ((h.hE.below hb).ne_row' ho1 (by decide))
  have hR1 := RunsO.push ho hr hd hown hg
  exact ⟨((h.below.alloc h.below.size o).grown hg (by have := h.below.size; omega) (fun k hk => (hlt k hk).1)).setCell (p := ⟨bS, 3, none⟩) h.ge.2 _, h21.set_ne h.ne _ _, hE1.set_ne (hE1.ne hS1 (by decide)) _ _, hS1.set 3 v', h.ne, h.ge,
    hR1.keeps (.of_set hS1 (by decide) _ _) (.of_set hS1 (by decide) _ _) (.of_set hS1 (by decide) _ _) (.of_set hS1 (by decide) _ _)⟩
end
theorem runO_from' {w x y : World} {v : Value} {n k : Nat} {m : Nat → Nat} {L : Nat → Nat → Int} {F : Nat → Nat} (h : Below w.heap.size w x) (hr : RunO y x.heap.size v n m L k F) : RunO y w.heap.size v n m L k F := RunO.mono hr h.size
theorem made_zero (w : World) (N : Nat) : I64s (w.alloc (.cells (madeCells #[.int .i64 0] N) 3)) (some ⟨w.heap.size, 0, none⟩) N (fun _ => 0) := (RowI.made w N _).i64s (fun _ => by decide)
theorem made_zero' (w : World) (N b : Nat) (hb : b = w.heap.size) : I64s (w.alloc (.cells (madeCells #[.int .i64 0] N) 3)) (some ⟨b, 0, none⟩) N (fun _ => 0) := by subst hb; exact made_zero w N
theorem i64s_drew {w : World} {A : Option Addr} {n : Nat} {f : Nat → Int} (h : I64s w A n f) : I64s w.drew A n f := h
set_option maxHeartbeats 4000000 in
set_option maxRecDepth 100000 in
theorem Reliable_any (R : Int) (A : Option Addr) (n c : Nat) (fa fh fm : Nat → Int) (w : World) (hx : RuleS w A n fa fh fm) (hn : n ≤ 9223372036854775807) :
    Calls Try.prog 33 #[.agg #[.int .i64 R, .slice A n c]] w (SysPost w (relD R n fa fh fm) (exErr R n fa fh fm)) := by
  have HX := Lib.hid hx
  have hC := fun w (h : RuleS w A n fa fh fm) => Check_any R A n c fa fh fm w h hn
  by_cases hE : exErr R n fa fh fm = 0
  case neg =>
    have hd : relD R n fa fh fm = SysD.none := if_neg hE
    rw [hd]
    obtain ⟨E, eE⟩ : ∃ E, E = exErr R n fa fh fm := ⟨_, rfl⟩
    rw [← eE] at hC hE ⊢
    have HC := Lib.hid hC
    have t1 : ((E : Int) != 0) = true := by rw [bne_iff_ne]; omega
    clear hC hx hd eE
    go_enter Try.func33, Try.ntmps33
    go_upto_region 1 with (fail)
    obtain ⟨W, hW⟩ : ∃ W, W = (w.alloc (.cells #[.int .i64 R, .slice A n c] 43)).alloc (.cells #[.int .i64 0, .int .i64 0, .int .i64 0, .slice none 0 0] 24) := ⟨_, rfl⟩
    rw [← hW]
    obtain ⟨hk0, hk1, hB⟩ := two_boxes4 w _ _ _ _ W hW
    have x0 := hk0.cell (k := 0) rfl
    have x1 := hk0.cell (k := 1) rfl
    have HXW := Lib.hid (HX.out.below hB)
    have HB := Lib.hid hB
    have HK1 := Lib.hid hk1
    clear hW hk0 hk1 hB HX
    go_upto_region 2 with (go_at_call 64; refine (HC.out _ (by exact HXW.out)).mono ?_; rintro e w1 ⟨rfl, hb1⟩; have HB1 := Lib.hid hb1; clear hb1)
    have hB2 := HB.out.trans (HB1.out.mono HB.out.size)
    obtain ⟨⟨c0, f0, c1, f1, c2, f2, c3, f3⟩, hk2⟩ := (HK1.out.below HB1.out).put4 (.int .i64 0) (.int .i64 0) (.int .i64 0) (.slice none 0 0)
    have q0 := hk2.cell (k := 0) rfl
    have q1 := hk2.cell (k := 1) rfl
    have q2 := hk2.cell (k := 2) rfl
    have q3 := hk2.cell (k := 3) rfl
    have HB2 := Lib.hid hB2
    clear hB2 hk2 HB1 HB HK1 HXW x0 x1
    go_wp2_with fail
    exact bodyPost_ret (v := .tuple #[.agg #[.int .i64 0, .int .i64 0, .int .i64 0, .slice none 0 0], .int .i64 E]) (by simp [results, Try.results33, go_sem, q0, q1, q2, q3]) rfl ⟨_, rfl, SysD.none_owned _ _, below_put4 HB2.out (by omega) _ _ _ _⟩
  case pos =>
    obtain ⟨hR0, hR4⟩ := exErr_R hE
    obtain ⟨T, rfl⟩ : ∃ T : Nat, R = T := ⟨R.toNat, by omega⟩
    have hT4 : T ≤ 4 := by omega
    obtain ⟨snd, esnd⟩ : ∃ snd, snd = sndV n fa fh fm := ⟨_, rfl⟩
    have HRUN := Lib.hid (fun (b : Int) (hb : 0 ≤ b ∧ b ≤ 1) (B : Option Addr) (d : Nat) (W : World) (hW : RuleS W A n fa fh fm) (hl : I64s W B T (fun _ => 0)) => run_any T b A n c fa fh fm B T d (fun _ => 0) W hW hn hl (by omega) (fun _ _ => by show (0 : Int) ≤ 0 ∧ (0 : Int) ≤ 3; omega) hb)
    have HDD := Lib.hid (show relD T n fa fh fm = ⟨2, 1, (T : Int) + 1, (relB T 2).map (mkR snd)⟩ by unfold relD; rw [if_pos hE, Int.toNat_natCast, esnd])
    rw [← esnd] at HRUN
    rw [hE] at hC
    have HC := Lib.hid hC
    have HE := Lib.hid hE
    have hmk := fun w1 => run_make_row' (P := Try.prog) (w := w1) 75 3 (.int .i64 0) 8 Try.underlying75 Try.infoInt rfl .i64 .i64 T (by omega) (by omega)
    clear hC hE hx esnd
    go_enter Try.func33, Try.ntmps33
    go_upto_region 1 with (fail)
    obtain ⟨W, hW⟩ : ∃ W, W = (w.alloc (.cells #[.int .i64 T, .slice A n c] 43)).alloc (.cells #[.int .i64 0, .int .i64 0, .int .i64 0, .slice none 0 0] 24) := ⟨_, rfl⟩
    rw [← hW]
    obtain ⟨hk0, hk1, hB⟩ := two_boxes4 w _ _ _ _ W hW
    have x0 := hk0.cell (k := 0) rfl
    have x1 := hk0.cell (k := 1) rfl
    have HXW := Lib.hid (HX.out.below hB)
    have HB := Lib.hid hB
    have HK0 := Lib.hid hk0
    have HK1 := Lib.hid hk1
    clear hW hk0 hk1 hB
    go_upto_region 4 with (go_at_call 64; refine (HC.out _ (by exact HXW.out)).mono ?_; rintro e w1 ⟨rfl, hb1⟩; have HB1 := Lib.hid hb1; clear hb1)
    have HB2 := Lib.hid (HB.out.trans (HB1.out.mono HB.out.size))
    have HK0 := Lib.hid (HK0.out.below HB1.out)
    have HK1 := Lib.hid (HK1.out.below HB1.out)
    have x0 := HK0.out.cell (k := 0) rfl
    have hlt2 := HK1.out.lt
    have hlts := HB2.out.size
    clear HB HB1 HXW
    go_upto_region 5 with (fail)
    have hB3 := below_alloc w1 (.cells #[.int .i64 2, .int .i64 1, .int .i64 ((T : Int) + 1), .slice none 0 0] 24)
    have hS := Blk.new w1 #[.int .i64 2, .int .i64 1, .int .i64 ((T : Int) + 1), .slice none 0 0] 24
    have hI0 : RelI w (w1.alloc (.cells #[.int .i64 2, .int .i64 1, .int .i64 ((T : Int) + 1), .slice none 0 0] 24)) (w.heap.size + 1) w.heap.size w1.heap.size T (.slice A n c) (.slice none 0 0) ((relB T 0).map (mkR snd)) :=
      ⟨HB2.out.trans (hB3.mono HB2.out.size), HK1.out.below hB3, HK0.out.below hB3, hS, by omega, ⟨by omega, by omega⟩, RunsO.nil _ _⟩
    have HI := Lib.hid hI0
    generalize w1.alloc (.cells #[.int .i64 2, .int .i64 1, .int .i64 ((T : Int) + 1), .slice none 0 0] 24) = V at HI ⊢
    obtain ⟨bS, ebS⟩ : ∃ b, b = w1.heap.size := ⟨_, rfl⟩
    rw [← ebS] at HI ⊢
    clear ebS hI0 hS hB3 HB2 HK0 HK1 x0 hlt2 hlts
    go_wp2_with fail
    go_loopw [19] (fun bv wr => ∃ b : Nat, b ≤ 2 ∧ bv = .int .i64 b ∧ ∃ vR, RelI w wr (w.heap.size + 1) w.heap.size bS T (.slice A n c) vR ((relB T b).map (mkR snd))) (fun bv _ => 2 - (intOf bv).toNat)
    case atStart => exact ⟨0, Nat.zero_le _, rfl, _, HI.out⟩
    case round =>
      clear HI
      obtain ⟨b, hb2, rfl, vR, hI⟩ := hrel
      have HI := Lib.hid hI
      by_cases hlb : b < 2
      · have hib : (b : Int) < 2 := by omega
        have hb01 : 0 ≤ (b : Int) ∧ (b : Int) ≤ 1 := by omega
        have x0 := hI.hE.cell (k := 0) rfl
        have x1 := hI.hE.cell (k := 1) rfl
        have HXV := Lib.hid (HX.out.below hI.below)
        have HRN := Lib.hid (fun B d W hW hl => HRUN.out (b : Int) hb01 B d W hW hl)
        obtain ⟨V0, eW⟩ : ∃ V0, V0 = wr := ⟨_, rfl⟩
        subst eW
        clear hI
        go_upto_region 8 with (fail)
        have HSOF := Lib.hid (fun (y : World) (h : Below V0.heap.size V0 y) => (⟨h, cell_below h x0, cell_below h x1⟩ : Below V0.heap.size V0 y ∧ y.cell? ⟨w.heap.size, 0, none⟩ = some (.int .i64 T) ∧ y.cell? ⟨w.heap.size, 1, none⟩ = some (.slice A n c)))
        have hb0 := Below.refl V0.heap.size V0
        clear x0 x1
        go_cut [7] (fun s7 wc => ∃ bR AL cL AF cF, s7 = .pointer (some ⟨bR, 0, none⟩) ∧ V0.heap.size ≤ bR ∧ Blk wc bR 69 #[.slice AL (T + 1) cL, .slice AF (T + 1) cF] ∧ RunO wc V0.heap.size (.agg #[.slice AL (T + 1) cL, .slice AF (T + 1) cF]) (T + 1) (fun _ => 2) (runL snd b (fun _ => 0)) (T + 1) (fun _ => (b : Int).toNat) ∧ Below V0.heap.size V0 wc)
        case first =>
          go_region_held3 (fun x => Below V0.heap.size V0 x ∧ x.cell? ⟨w.heap.size, 0, none⟩ = some (.int .i64 T) ∧ x.cell? ⟨w.heap.size, 1, none⟩ = some (.slice A n c)) (first | exact HSOF.out _ (by assumption) | exact HSOF.out _ (below_drew hb0) | exact HSOF.out _ (below_more (And.left (by assumption)) _) | exact HSOF.out _ (below_more (by assumption) _) | (exact HSOF.out _ (below_put2 (by assumption) (by first | exact Nat.le_refl _ | (have := HB6.size; omega)) _ _)))
            (first
              | (go_at_call 66; refine (HRN.out _ _ _ (by exact HXV.out.below (And.left (by assumption))) (by first | exact made_zero' _ _ _ (by first | rfl | (simp; done)) | exact i64s_drew (made_zero' _ _ _ (by first | rfl | (simp; done))) | exact i64s_drew ((made_zero' _ _ _ (by first | rfl | (simp; done))).below (below_alloc _ _)) | exact (made_zero' _ _ _ (by first | rfl | (simp; done))).below (below_alloc _ _))).mono ?_; rintro e w6 ⟨v6, A6, c6, rfl, hrun, hsnd, HC6⟩; obtain ⟨AL, cAL, AF, cF, rfl⟩ := hrun.shape; have HB6 := below_trans (And.left (by assumption)) HC6; have HR6 := Lib.hid (runO_from' (And.left (by assumption)) hrun); clear hrun hsnd; (first | (have hbx : Blk w6 V0.heap.size 69 #[.slice none 0 0, .slice none 0 0] := (by (repeat (first | exact Blk.new' _ _ _ _ (by first | (simp; done) | fail) | refine Blk.below ?_ HC6 | refine Blk.alloc ?_ _)); (first | done | fail)); have q0 := hbx.cell (k := 0) rfl; have q1 := hbx.cell (k := 1) rfl; have f0 := hbx.frozen (k := 0); have f1 := hbx.frozen (k := 1); have g1 := (hbx.set 0 (.slice AL (T + 1) cAL)).cell (k := 1) rfl; have g2 := (hbx.set 0 (.slice AL (T + 1) cAL)).frozen (k := 1)) | skip); (first | (have hbx : Blk w6 (V0.heap.size + 1) 69 #[.slice none 0 0, .slice none 0 0] := (by (repeat (first | exact Blk.new' _ _ _ _ (by first | (simp; done) | fail) | refine Blk.below ?_ HC6 | refine Blk.alloc ?_ _)); (first | done | fail)); have q0 := hbx.cell (k := 0) rfl; have q1 := hbx.cell (k := 1) rfl; have f0 := hbx.frozen (k := 0); have f1 := hbx.frozen (k := 1); have g1 := (hbx.set 0 (.slice AL (T + 1) cAL)).cell (k := 1) rfl; have g2 := (hbx.set 0 (.slice AL (T + 1) cAL)).frozen (k := 1)) | skip))
              | fail)
          all_goals (go_wp2_with fail; go_meet; (first | exact ⟨_, AL, cAL, AF, cF, rfl, HB6.size, Blk.new _ _ _, RunO.below HR6.out (below_alloc _ _), And.left (by assumption)⟩ | exact ⟨_, AL, cAL, AF, cF, rfl, by omega, (hbx.set 0 _).set 1 _, RunO.put2 HR6.out hbx _ _, And.left (by assumption)⟩))
        case rest =>
          obtain ⟨bR, AL, cAL, AF, cF, rfl, hge, hbR, hrun, hbc⟩ := hcut
          have hI2 := HI.out.keep hbc
          have HD0 : Hid ((mkR snd ((b : Int), zs T)).owned wc w.heap.size (.agg #[.slice AL (T + 1) cAL, .slice AF (T + 1) cF])) := Lib.hid (by
            show RunO wc w.heap.size _ ((zs T).length + 1) (fun _ => 2) (runL snd b (lf (zs T))) ((zs T).length + 1) (fun _ => (b : Int).toNat)
            rw [zs_len, lf_zs]
            exact RunO.mono hrun HI.out.below.size)
          obtain ⟨rows1, ho1, hr1⟩ := hI2.runs
          have hlenm : (List.map (mkR snd) (relB T b)).length = b := by simp [relB]
          have ho2 : wc.ownsRow w.heap.size 69 2 vR b rows1 := by rw [hlenm] at ho1; exact ho1
          obtain ⟨AR, cR, rfl, -⟩ := own_form' ho2
          have s3 := hI2.hS.cell (k := 3) rfl
          have hsz := hI2.below.size
          have HI2 := Lib.hid hI2
          have HR := Lib.hid hr1
          have HO := Lib.hid ho1
          have r0 := hbR.cell (k := 0) rfl
          have r1 := hbR.cell (k := 1) rfl
          have HLM := Lib.hid hlenm
          clear hI2 hr1 ho1 hlenm hrun hbR hbc HI HRN HSOF hb0 HXV hmk
          go_wp2_with (at_builtin; obtain ⟨i0, hi, hz0, hz1, hz2⟩ := info_parts Try.infoRun; refine wpList_append_lies _ (by rfl) _ _ 22 (by rfl) w.heap.size 69 i0 _ 2 48 Try.underlying22 hi hz0 hz1 hz2 rfl (by decide) (.slice AR b cR) b rows1 (by rfl) (own_alloc' ho2 _) ⟨wc.heap.size, 0, none⟩ 1 1 [.slice AL (T + 1) cAL, .slice AF (T + 1) cF] (by rfl) (by rfl) (World.news_of_block (cs := #[.slice AL (T + 1) cAL, .slice AF (T + 1) cF]) (t := 69) (fr := (0, 0)) (heap_alloc_new wc _)) (by simp [Value.oneCell']) (by decide) (by unfold maxLen; omega) (by omega) (by simp; omega) (wc.heap.size + 1) (by simp) ?_; intro gf capF w7 hown7 hgrow7 _ _; obtain ⟨q3, f3⟩ := HI2.out.box ho2 hgrow7; have HOW7 := Lib.hid hown7; have HG7 := Lib.hid hgrow7; clear hi hz0 hz1 hz2 hown7 hgrow7)
          go_roundw
          case rel =>
            have hh := HOW7.out
            exact ⟨b + 1, by omega, by go_num, _, by rw [relB_succ, List.map_append]; exact HI2.out.grow HO.out HR.out HD0.out (by rw [HLM.out]; exact hh) HG7.out⟩
          case measure => simp [intOf]; omega
      · obtain rfl : b = 2 := by omega
        obtain ⟨rows, ho, -⟩ := hI.runs
        rw [show (List.map (mkR snd) (relB T 2)).length = 2 from rfl] at ho
        obtain ⟨AR, cR, rfl, -⟩ := own_form' ho
        have d0 := hI.hS.cell (k := 0) rfl
        have d1 := hI.hS.cell (k := 1) rfl
        have d2 := hI.hS.cell (k := 2) rfl
        have d3 := hI.hS.cell (k := 3) rfl
        obtain ⟨⟨c0, f0, c1, f1, c2, f2, c3, f3⟩, hk2⟩ := hI.h2.put4 (.int .i64 2) (.int .i64 1) (.int .i64 ((T : Int) + 1)) (.slice AR 2 cR)
        have q0 := hk2.cell (k := 0) rfl
        have q1 := hk2.cell (k := 1) rfl
        have q2 := hk2.cell (k := 2) rfl
        have q3 := hk2.cell (k := 3) rfl
        have HB3 := Lib.hid hI.below
        have HRU := Lib.hid (hI.runs.keeps (Keeps.put4 hI.h2 (by decide) (.int .i64 2) (.int .i64 1) (.int .i64 ((T : Int) + 1)) (.slice AR 2 cR)) (Keeps.put4 hI.h2 (by decide) _ _ _ _) (Keeps.put4 hI.h2 (by decide) _ _ _ _) (Keeps.put4 hI.h2 (by decide) _ _ _ _))
        clear hI hk2 ho HI hmk
        go_wp2_with fail
        exact bodyPost_ret (v := .tuple #[.agg #[.int .i64 2, .int .i64 1, .int .i64 ((T : Int) + 1), .slice AR 2 cR], .int .i64 0]) (by simp [results, Try.results33, go_sem, q0, q1, q2, q3]) rfl (show SysPost w (relD T n fa fh fm) (exErr T n fa fh fm) _ _ from by rw [HDD.out, HE.out]; exact ⟨_, rfl, ⟨_, rfl, HRU.out⟩, below_put4 HB3.out (by omega) _ _ _ _⟩)
end Go.Proofs.Ytahaimecchdfeaa
