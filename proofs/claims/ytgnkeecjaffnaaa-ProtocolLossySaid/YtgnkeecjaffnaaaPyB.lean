/-
  Walks of layer 54: Lossy of the reference.
-/
import Derived.Test.YtgnkeecjaffnaaaProg
import Derived.Test.YtgnkeecjaffnaaaBase
import Derived.Test.YtgnkeecjaffnaaaRow
import Derived.Test.YtgnkeecjaffnaaaRowU
import Derived.Test.YtgnkeecjaffnaaaRowsOf
import Derived.Test.YtgnkeecjaffnaaaPc
import Derived.Test.YtgnkeecjaffnaaaPd
import Derived.Test.YtgnkeecjaffnaaaPrB
import Derived.Test.YtgnkeecjaffnaaaPrC
import Derived.Test.YtgnkeecjaffnaaaPrF
import Derived.Test.YtgnkeecjaffnaaaPrG
import Derived.Test.YtgnkeecjaffnaaaPrI
import Derived.Test.YtgnkeecjaffnaaaPrM
import Derived.Test.YtgnkeecjaffnaaaPrN
import Derived.Test.YtgnkeecjaffnaaaPrQ
import Derived.Test.YtgnkeecjaffnaaaPrR
import Derived.Test.YtgnkeecjaffnaaaPfC
import Derived.Test.YtgnkeecjaffnaaaPyP
import Derived.Test.YtgnkeecjaffnaaaPyA
import Derived.Deep.RegionHeld3
import Derived.Deep.AppendLies
import Derived.Deep.DeepCutAuto
namespace Go.Proofs.Ytgnkeecjaffnaaa
open Go.RowKit

/-- What the walk of the reference's Lossy holds: the boxes of the result, the protocol, the system; the runs, the masks. -/
structure RlI (w0 w : World) (b2 bE bS T : Nat) (eA lv vR : Value) (ps : List RunD) : Prop where
  below : Below w0.heap.size w0 w
  h2 : Blk w b2 44 #[.int .i64 0, .int .i64 0, .int .i64 0, .slice none 0 0]
  hE : Blk w bE 41 #[.int .i64 T, eA]
  hS : Blk w bS 44 #[.int .i64 2, .int .i64 1, .int .i64 ((T : Int) + 1), vR]
  ne : b2 ≠ bS
  ge : w0.heap.size ≤ b2 ∧ w0.heap.size ≤ bS
  runs : RunsO w w0.heap.size vR ps
  masks : LsO w w0.heap.size lv (allL T [])
section
variable {w0 w w1 : World} {b2 bE bS T : Nat} {eA lv vR : Value} {ps : List RunD}
theorem RlI.keep (h : RlI w0 w b2 bE bS T eA lv vR ps) (hb : Below w.heap.size w w1) : RlI w0 w1 b2 bE bS T eA lv vR ps :=
  ⟨h.below.trans (hb.mono h.below.size), h.h2.below hb, h.hE.below hb, h.hS.below hb, h.ne, h.ge, h.runs.below hb, h.masks.below hb⟩
theorem RlI.box (h : RlI w0 w b2 bE bS T eA lv vR ps) {rows : List Value} {N : Nat} {o : Obj} (ho : w.ownsRow w0.heap.size 30 2 vR N rows) (hg : (w.alloc o).grownBy w1 vR.ownBlock) :
    w1.cell? ⟨bS, 3, none⟩ = some vR ∧ w1.frozen? ⟨bS, 3, none⟩ = false := by
  have hb := below_alloc w o
  have hS1 := (h.hS.below hb).kept hg ((h.hS.below hb).ne_row' (own_alloc' ho o) (by decide))
  exact ⟨hS1.cell rfl, hS1.frozen⟩
theorem RlI.grow (h : RlI w0 w b2 bE bS T eA lv vR ps) {rows : List Value} {x y v' : Value} {d : RunD} {o : Obj} (ho : w.ownsRow w0.heap.size 30 2 vR ps.length rows)
    (hr : ∀ i d, ps[i]? = some d → ∃ x y, rows[i * 2]? = some x ∧ rows[i * 2 + 1]? = some y ∧ d.owned w w0.heap.size (.agg #[x, y])) (hd : d.owned w w0.heap.size (.agg #[x, y]))
    (hown : w1.ownsRow w0.heap.size 30 2 v' (ps.length + 1) (rows ++ [x, y])) (hg : (w.alloc o).grownBy w1 vR.ownBlock) :
    RlI w0 (w1.setCell ⟨bS, 3, none⟩ v') b2 bE bS T eA lv v' (ps ++ [d]) := by
  have hb := below_alloc w o
  have ho1 := own_alloc' ho o
  have hlt := ho1.lt
  have hsz : (w.alloc o).heap.size = w.heap.size + 1 := by simp
  have hS1 := (h.hS.below hb).kept hg ((h.hS.below hb).ne_row' ho1 (by decide))
  have h21 := (h.h2.below hb).kept hg ((h.h2.below hb).ne_row' ho1 (by decide))
  have hE1 := (h.hE.below hb).kept hg ((h.hE.below hb).ne_row' ho1 (by decide))
  have hR1 := RunsO.push ho hr hd hown hg
  have K : ∀ t : TypeId, t ≠ 30 → t ≠ 44 → Keeps w (w1.setCell ⟨bS, 3, none⟩ v') t := fun t h1 h2 => ((Keeps.of_below hb _).trans (Keeps.of_grown hg ho1 h1)).trans (.of_set hS1 h2 _ _)
  exact ⟨((h.below.alloc h.below.size o).grown hg (by have := h.below.size; omega) (fun k hk => (hlt k hk).1)).setCell (p := ⟨bS, 3, none⟩) h.ge.2 _, h21.set_ne h.ne _ _, hE1.set_ne (hE1.ne hS1 (by decide)) _ _, hS1.set 3 v', h.ne, h.ge,
    hR1.keeps (.of_set hS1 (by decide) _ _) (.of_set hS1 (by decide) _ _) (.of_set hS1 (by decide) _ _) (.of_set hS1 (by decide) _ _), h.masks.keeps (K _ (by decide) (by decide)) (K _ (by decide) (by decide))⟩
end
theorem runO_from {w x y : World} {v : Value} {n k : Nat} {m : Nat → Nat} {L : Nat → Nat → Int} {F : Nat → Nat} (h : Below w.heap.size w x) (hr : RunO y x.heap.size v n m L k F) : RunO y w.heap.size v n m L k F := RunO.mono hr h.size
theorem take_any {α : Type} {rs : List α} {k : Nat} {P : α → Prop} {q : α} (hq : rs[k]? = some q) : (∃ x, x ∈ rs.take (k + 1) ∧ P x) ↔ (∃ x, x ∈ rs.take k ∧ P x) ∨ P q := by
  rw [List.take_add_one, hq]
  constructor
  · rintro ⟨x, hx, hp⟩
    rcases List.mem_append.1 hx with h | h
    · exact .inl ⟨x, h, hp⟩
    · have : x = q := by simpa using h
      subst this; exact .inr hp
  · rintro (⟨x, hx, hp⟩ | hp)
    · exact ⟨x, List.mem_append.2 (.inl hx), hp⟩
    · exact ⟨q, List.mem_append.2 (.inr (by simp)), hp⟩
theorem ppR_at {ps : List (Int × List Int)} {i : Nat} (h : i < ps.length) : ps[i]? = some (ppR ps i) := by
  unfold ppR; rw [List.getD_eq_getElem?_getD, List.getElem?_eq_getElem h]; rfl
theorem rsAt_mem {snd : Int → Int → Int} {T i : Nat} {p : Int × List Int} (h : p ∈ rsAt snd T i) : (p.1 = 0 ∨ p.1 = 1) ∧ p.2.length = T ∧ ∀ k, 0 ≤ lf p.2 k ∧ lf p.2 k ≤ 3 := by
  have h1 := prs_mem.1 (List.mem_of_mem_take (List.mem_filter.1 h).1)
  exact ⟨h1.1, all_mem h1.2⟩
/-- The runs so far, kept with the bound on their number. -/
def RlK (w wr : World) (b2 bE bS T : Nat) (eA lv : Value) (snd : Int → Int → Int) (i : Nat) : Prop := (rsAt snd T i).length ≤ 64 ∧ ∃ vR, RlI w wr b2 bE bS T eA lv vR ((rsAt snd T i).map (mkR snd))
set_option maxHeartbeats 4000000 in
set_option maxRecDepth 100000 in
theorem rLossy_any (R : Int) (A : Option Addr) (n c : Nat) (fa fh fm : Nat → Int) (w : World) (hx : RuleS w A n fa fh fm) (hn : n ≤ 9223372036854775807) :
    Calls Try.prog 25 #[.agg #[.int .i64 R, .slice A n c]] w (SysPost w (losD R n fa fh fm) (losE R n fa fh fm)) := by
  have HX := Lib.hid hx
  have hC := fun w (h : RuleS w A n fa fh fm) => rCheck_any R A n c fa fh fm w h hn
  by_cases hE : exErr R n fa fh fm = 0
  case neg =>
    have hl : losE R n fa fh fm = exErr R n fa fh fm := if_neg hE
    have hd : losD R n fa fh fm = SysD.none := by unfold losD; rw [hl, if_neg hE]
    rw [hl, hd]
    obtain ⟨E, eE⟩ : ∃ E, E = exErr R n fa fh fm := ⟨_, rfl⟩
    rw [← eE] at hC hE ⊢
    have HC := Lib.hid hC
    have t1 : ((E : Int) != 0) = true := by rw [bne_iff_ne]; omega
    clear hC hx hl hd eE
    go_enter Try.func25, Try.ntmps25
    go_upto_region 1 with (fail)
    obtain ⟨W, hW⟩ : ∃ W, W = (w.alloc (.cells #[.int .i64 R, .slice A n c] 41)).alloc (.cells #[.int .i64 0, .int .i64 0, .int .i64 0, .slice none 0 0] 44) := ⟨_, rfl⟩
    rw [← hW]
    obtain ⟨hk0, hk1, hB⟩ := two_boxes4 w _ _ _ _ W hW
    have x0 := hk0.cell (k := 0) rfl
    have x1 := hk0.cell (k := 1) rfl
    have HXW := Lib.hid (HX.out.below hB)
    have HB := Lib.hid hB
    have HK1 := Lib.hid hk1
    clear hW hk0 hk1 hB HX
    go_upto_region 2 with (go_at_call 33; refine (HC.out _ (by exact HXW.out)).mono ?_; rintro e w1 ⟨rfl, hb1⟩; have HB1 := Lib.hid hb1; clear hb1)
    have hB2 := HB.out.trans (HB1.out.mono HB.out.size)
    obtain ⟨⟨c0, f0, c1, f1, c2, f2, c3, f3⟩, hk2⟩ := (HK1.out.below HB1.out).put4 (.int .i64 0) (.int .i64 0) (.int .i64 0) (.slice none 0 0)
    have q0 := hk2.cell (k := 0) rfl
    have q1 := hk2.cell (k := 1) rfl
    have q2 := hk2.cell (k := 2) rfl
    have q3 := hk2.cell (k := 3) rfl
    have HB2 := Lib.hid hB2
    clear hB2 hk2 HB1 HB HK1 HXW x0 x1
    go_wp2_with fail
    exact bodyPost_ret (v := .tuple #[.agg #[.int .i64 0, .int .i64 0, .int .i64 0, .slice none 0 0], .int .i64 E]) (by simp [results, Try.results25, go_sem, q0, q1, q2, q3]) rfl ⟨_, rfl, SysD.none_owned _ _, below_put4 HB2.out (by omega) _ _ _ _⟩
  case pos =>
    obtain ⟨hR0, hR4⟩ := exErr_R hE
    obtain ⟨T, rfl⟩ : ∃ T : Nat, R = T := ⟨R.toNat, by omega⟩
    have hT4 : T ≤ 4 := by omega
    have hs := snd_range hE
    obtain ⟨snd, esnd⟩ : ∃ snd, snd = sndV n fa fh fm := ⟨_, rfl⟩
    have HRUN := Lib.hid (fun (b : Int) (hb : 0 ≤ b ∧ b ≤ 1) (B : Option Addr) (d : Nat) (l : Nat → Int) (W : World) (hW : RuleS W A n fa fh fm) (hl : I64s W B T l) (hm : ∀ k, k < T → 0 ≤ l k ∧ l k ≤ 3) => rrun_any b A n c fa fh fm B T d l W hW hn hl hT4 hm hb hs)
    rw [← esnd] at hs HRUN
    rw [hE] at hC
    have HC := Lib.hid hC
    have HE := Lib.hid hE
    have HS := Lib.hid hs
    have ESND := Lib.hid esnd
    clear hC hE hx hs esnd
    go_enter Try.func25, Try.ntmps25
    go_upto_region 1 with (fail)
    obtain ⟨W, hW⟩ : ∃ W, W = (w.alloc (.cells #[.int .i64 T, .slice A n c] 41)).alloc (.cells #[.int .i64 0, .int .i64 0, .int .i64 0, .slice none 0 0] 44) := ⟨_, rfl⟩
    rw [← hW]
    obtain ⟨hk0, hk1, hB⟩ := two_boxes4 w _ _ _ _ W hW
    have x0 := hk0.cell (k := 0) rfl
    have x1 := hk0.cell (k := 1) rfl
    have HXW := Lib.hid (HX.out.below hB)
    have HB := Lib.hid hB
    have HK0 := Lib.hid hk0
    have HK1 := Lib.hid hk1
    clear hW hk0 hk1 hB
    go_upto_region 4 with (go_at_call 33; refine (HC.out _ (by exact HXW.out)).mono ?_; rintro e w1 ⟨rfl, hb1⟩; have HB1 := Lib.hid hb1; clear hb1)
    have HB2 := Lib.hid (HB.out.trans (HB1.out.mono HB.out.size))
    have HK0 := Lib.hid (HK0.out.below HB1.out)
    have HK1 := Lib.hid (HK1.out.below HB1.out)
    have x0 := HK0.out.cell (k := 0) rfl
    have hlt2 := HK1.out.lt
    have hlts := HB2.out.size
    clear HB HB1 HXW
    go_upto_region 5 with (fail)
    have hB3 := below_alloc w1 (.cells #[.int .i64 2, .int .i64 1, .int .i64 ((T : Int) + 1), .slice none 0 0] 44)
    have hS := Blk.new w1 #[.int .i64 2, .int .i64 1, .int .i64 ((T : Int) + 1), .slice none 0 0] 44
    have x0 := cell_below hB3 x0
    have HK0 := Lib.hid (HK0.out.below hB3)
    have HK1 := Lib.hid (HK1.out.below hB3)
    have HB2 := Lib.hid (HB2.out.trans (hB3.mono HB2.out.size))
    have HKS := Lib.hid hS
    clear hS hB3
    generalize w1.alloc (.cells #[.int .i64 2, .int .i64 1, .int .i64 ((T : Int) + 1), .slice none 0 0] 44) = V at x0 HK0 HK1 HB2 HKS ⊢
    obtain ⟨bS, ebS⟩ : ∃ b, b = w1.heap.size := ⟨_, rfl⟩
    rw [← ebS] at HKS hlt2 hlts ⊢
    clear ebS
    go_upto_region 6 with (go_at_call 53; refine (Losses_any T _ hT4).mono ?_; rintro e w2 ⟨lv, rfl, hls, hb1⟩; have HLS := Lib.hid hls; have HB1 := Lib.hid hb1; clear hls hb1)
    have hI0 : RlI w w2 (w.heap.size + 1) w.heap.size bS T (.slice A n c) lv (.slice none 0 0) ((rsAt snd T 0).map (mkR snd)) :=
      ⟨HB2.out.trans (HB1.out.mono HB2.out.size), HK1.out.below HB1.out, HK0.out.below HB1.out, HKS.out.below HB1.out, by omega, ⟨by omega, by omega⟩, RunsO.nil _ _, HLS.out.mono HB2.out.size⟩
    obtain ⟨gL, cL, elv⟩ : ∃ g c, lv = .slice (some ⟨g, 0, none⟩) (allL T []).length c := by
      have hp : 0 < (allL T []).length := by rw [allL_len]; exact Nat.pow_pos (by decide)
      obtain ⟨b, c', rv, e, -⟩ := hI0.masks.at (List.getElem?_eq_getElem hp)
      exact ⟨b, c', e⟩
    have hNL : (allL T []).length ≤ 256 := by rw [allL_len]; exact four_le hT4
    obtain ⟨NL, eNL⟩ : ∃ n, n = (allL T []).length := ⟨_, rfl⟩
    rw [← eNL] at elv hNL
    subst elv
    have HI := Lib.hid hI0
    have ENL := Lib.hid eNL
    clear hI0 eNL HLS HB1 HB2 HK0 HK1 HKS x0 hlt2 hlts
    go_wp2_with fail
    go_loopw [7] (fun bv wr => ∃ b : Nat, b ≤ 2 ∧ bv = .int .i64 b ∧ RlK w wr (w.heap.size + 1) w.heap.size bS T (.slice A n c) (.slice (some ⟨gL, 0, none⟩) NL cL) snd (b * NL)) (fun bv _ => 2 - (intOf bv).toNat)
    case atStart => exact ⟨0, Nat.zero_le _, rfl, by rw [Nat.zero_mul]; exact ⟨Nat.zero_le _, _, HI.out⟩⟩
    case round =>
      clear HI
      obtain ⟨b, hb2, rfl, hk⟩ := hrel
      have HK := Lib.hid hk
      clear hk
      by_cases hlb : b < 2
      · have hib : (b : Int) < 2 := by omega
        have hb01 : 0 ≤ (b : Int) ∧ (b : Int) ≤ 1 := by omega
        go_wp2_with fail
        go_loopw [8] (fun iv wr => ∃ i : Nat, i ≤ NL ∧ iv = .int .i64 i ∧ RlK w wr (w.heap.size + 1) w.heap.size bS T (.slice A n c) (.slice (some ⟨gL, 0, none⟩) NL cL) snd (b * NL + i)) (fun iv _ => NL - (intOf iv).toNat)
        case atStart => exact ⟨0, Nat.zero_le _, rfl, HK.out⟩
        case round =>
          clear HK
          obtain ⟨i, hi, rfl, hle, vR, hI⟩ := hrel
          have HI := Lib.hid hI
          by_cases hli : i < NL
          · have hii : (i : Int) < (NL : Int) := by omega
            obtain ⟨l, hl⟩ : ∃ l, (allL T [])[i]? = some l := ⟨_, List.getElem?_eq_getElem (by rw [← ENL.out]; exact hli)⟩
            have hp := prs_at hlb hl
            rw [← ENL.out] at hp
            have HLA := Lib.hid (los_at HS.out hT4 hp)
            have HP := Lib.hid hp
            obtain ⟨hlen, hmr⟩ := all_mem (List.mem_of_getElem? hl)
            obtain ⟨bb, cc', rv, eO, cl0, hrow⟩ := hI.masks.at hl
            injection eO with eO1 eO2 eO3
            injection eO1 with eO1
            injection eO1 with eO1 _ _
            subst eO1
            rw [hlen] at hrow
            obtain ⟨Ar, cr, rfl, hL⟩ := own_i64s hrow (fun k _ => by have := hmr k; omega)
            have HL := Lib.hid hL
            have x0 := hI.hE.cell (k := 0) rfl
            have x1 := hI.hE.cell (k := 1) rfl
            have HXV := Lib.hid (HX.out.below hI.below)
            have HLEN := Lib.hid hlen
            have HRN := Lib.hid (fun W hW hl => HRUN.out (b : Int) hb01 Ar cr (lf l) W hW hl (fun k _ => hmr k))
            have HMR := Lib.hid hmr
            obtain ⟨V0, eW⟩ : ∃ V0, V0 = wr := ⟨_, rfl⟩
            subst eW
            clear hl hp hlen hrow hL hI eO2 eO3 hmr
            go_upto_region 12 with (fail)
            have HSOF := Lib.hid (fun (y : World) (h : Below V0.heap.size V0 y) => (⟨h, cell_below h x0, cell_below h x1, cell_below h cl0⟩ : Below V0.heap.size V0 y ∧ y.cell? ⟨w.heap.size, 0, none⟩ = some (.int .i64 T) ∧ y.cell? ⟨w.heap.size, 1, none⟩ = some (.slice A n c) ∧ y.cell? ⟨gL, i, none⟩ = some (.slice Ar T cr)))
            have hb0 := Below.refl V0.heap.size V0
            clear x0 x1 cl0
            go_cut [9] (fun s9 wc => ∃ bR AL cL AF cF, s9 = .pointer (some ⟨bR, 0, none⟩) ∧ V0.heap.size ≤ bR ∧ Blk wc bR 30 #[.slice AL (T + 1) cL, .slice AF (T + 1) cF] ∧ RunO wc V0.heap.size (.agg #[.slice AL (T + 1) cL, .slice AF (T + 1) cF]) (T + 1) (fun _ => 2) (runL snd b (lf l)) (T + 1) (fun _ => (b : Int).toNat) ∧ Below V0.heap.size V0 wc)
            case first =>
              go_region_held3 (fun x => Below V0.heap.size V0 x ∧ x.cell? ⟨w.heap.size, 0, none⟩ = some (.int .i64 T) ∧ x.cell? ⟨w.heap.size, 1, none⟩ = some (.slice A n c) ∧ x.cell? ⟨gL, i, none⟩ = some (.slice Ar T cr)) (first | exact HSOF.out _ (by assumption) | exact HSOF.out _ (below_drew hb0) | exact HSOF.out _ (below_more (And.left (by assumption)) _) | exact HSOF.out _ (below_more (by assumption) _) | (exact HSOF.out _ (below_put2 (by assumption) (by first | exact Nat.le_refl _ | (have := HB6.size; omega)) _ _)))
                (first
                  | (go_at_call 54; refine (HRN.out _ (by exact HXV.out.below (And.left (by assumption))) (by exact HL.out.below (And.left (by assumption)))).mono ?_; rintro e w6 ⟨v6, rfl, hrun, HC6⟩; obtain ⟨AL, cAL, AF, cF, rfl⟩ := hrun.shape; have HB6 := below_trans (And.left (by assumption)) HC6; have HR6 := Lib.hid (runO_from (And.left (by assumption)) hrun); clear hrun; (first | (have hbx : Blk w6 V0.heap.size 30 #[.slice none 0 0, .slice none 0 0] := (by (repeat (first | exact Blk.new' _ _ _ _ (by first | (simp; done) | fail) | refine Blk.below ?_ HC6 | refine Blk.alloc ?_ _)); (first | done | fail)); have q0 := hbx.cell (k := 0) rfl; have q1 := hbx.cell (k := 1) rfl; have f0 := hbx.frozen (k := 0); have f1 := hbx.frozen (k := 1); have g1 := (hbx.set 0 (.slice AL (T + 1) cAL)).cell (k := 1) rfl; have g2 := (hbx.set 0 (.slice AL (T + 1) cAL)).frozen (k := 1)) | skip))
                  | fail)
              all_goals (go_wp2_with fail; go_meet; (first | exact ⟨_, AL, cAL, AF, cF, rfl, HB6.size, Blk.new _ _ _, RunO.below HR6.out (below_alloc _ _), And.left (by assumption)⟩ | exact ⟨_, AL, cAL, AF, cF, rfl, Nat.le_refl _, (hbx.set 0 _).set 1 _, RunO.put2 HR6.out hbx _ _, And.left (by assumption)⟩))
            case rest =>
              obtain ⟨bR, AL, cAL, AF, cF, rfl, hge, hbR, hrun, hbc⟩ := hcut
              have hI := HI.out.keep hbc
              obtain ⟨rs, ers⟩ : ∃ rs, rs = rsAt snd T (b * NL + i) := ⟨_, rfl⟩
              have hla : (∃ q, q ∈ rs ∧ SamR snd q ((b : Int), l)) ↔ okP snd ((b : Int), l) = false := by rw [ers]; exact HLA.out
              rw [← ers] at hle hI
              obtain ⟨AR, cR, evR, hRR⟩ := los_read hI.runs (fun p hp => by
                rw [ers] at hp
                have := rsAt_mem hp
                exact ⟨by rw [this.2.1]; omega, by rcases this.1 with h | h <;> rw [h] <;> decide⟩)
              subst evR
              have hrd : RunR wc (.agg #[.slice AL (T + 1) cAL, .slice AF (T + 1) cF]) (T + 1) (fun _ => 2) (runL snd b (lf l)) (T + 1) (fun _ => (b : Int).toNat) := RunO.read hrun (fun _ _ => by decide) (fun t j _ _ => runL_range _ _ _ _ _) (fun _ _ => by show (b : Int).toNat < _; omega)
              have S3 := Lib.hid (hI.hS.cell (k := 3) rfl)
              have R0 := Lib.hid (hbR.cell (k := 0) rfl)
              have R1 := Lib.hid (hbR.cell (k := 1) rfl)
              have HI1 := Lib.hid hI
              have HRR := Lib.hid hRR
              have HRD := Lib.hid hrd
              have HRU := Lib.hid (RunO.mono hrun HI.out.below.size)
              have HLA1 := Lib.hid hla
              have ERS := Lib.hid ers
              obtain ⟨V1, eW⟩ : ∃ V1, V1 = wc := ⟨_, rfl⟩
              subst eW
              clear hI hla hRR hrd hrun hbR hbc ers HLA HI HSOF hb0 HRN HL HXV
              go_wp2_with fail
              go_loopw [10, 11] (fun fv kv wx => ∃ k : Nat, k ≤ rs.length ∧ kv = .int .i64 k ∧ ∃ f : Bool, fv = .bool f ∧ Hid (f = true ↔ ∃ q, q ∈ rs.take k ∧ SamR snd q ((b : Int), l)) ∧ Below V1.heap.size V1 wx) (fun _ kv _ => rs.length - (intOf kv).toNat)
              case atStart => exact ⟨0, Nat.zero_le _, rfl, false, rfl, Lib.hid (by simp), Below.refl _ _⟩
              case round =>
                obtain ⟨k, hk, rfl, f, rfl, HF, hbx⟩ := hrel
                have HBX := Lib.hid hbx
                have s3 := cell_below hbx S3.out
                by_cases hlk : k < rs.length
                · obtain ⟨bb, off, u, v, rfl, e0, e1, hT1, hK1, hr⟩ := HRR.out.below hbx k hlk
                  have r0 := cell_below hbx R0.out
                  have r1 := cell_below hbx R1.out
                  have hkk : (k : Int) < (rs.length : Int) := by omega
                  have hk0 : (0 : Int) ≤ (k : Int) := by omega
                  have HTK := Lib.hid (take_any (P := fun q => SamR snd q ((b : Int), l)) (ppR_at hlk))
                  cases f
                  · obtain ⟨Bk, hBk⟩ : ∃ Bk : Bool, Bk = true ↔ SamR snd (ppR rs k) ((b : Int), l) := by
                      by_cases hs : SamR snd (ppR rs k) ((b : Int), l)
                      · exact ⟨true, ⟨fun _ => hs, fun _ => rfl⟩⟩
                      · exact ⟨false, ⟨fun h => (by cases h), fun h => absurd h hs⟩⟩
                    have hsm := hBk
                    unfold SamR at hsm
                    have eT : (mkR snd ((b : Int), l)).n = T + 1 := by show l.length + 1 = T + 1; rw [HLEN.out]
                    have eK : (mkR snd ((b : Int), l)).k = T + 1 := by show l.length + 1 = T + 1; rw [HLEN.out]
                    rw [eT, eK] at hsm
                    have HSM := Lib.hid (fun W (h1 : RunR W (.agg #[u, v]) ((ppR rs k).2.length + 1) (fun _ => 2) (runL snd (ppR rs k).1 (lf (ppR rs k).2)) ((ppR rs k).2.length + 1) (fun _ => (ppR rs k).1.toNat)) (h2 : RunR W (.agg #[.slice AL (T + 1) cAL, .slice AF (T + 1) cF]) (T + 1) (fun _ => 2) (runL snd b (lf l)) (T + 1) (fun _ => (b : Int).toNat)) => SameRun_any _ _ _ _ _ _ _ _ _ _ _ _ W h1 h2 hT1 hK1 Bk hsm)
                    have HR1 := Lib.hid hr
                    have HR2 := Lib.hid (HRD.out.below hbx)
                    have HFN : Hid (Bk = true ↔ ∃ q, q ∈ rs.take (k + 1) ∧ SamR snd q ((b : Int), l)) := Lib.hid (by
                      rw [HTK.out]
                      constructor
                      · exact fun h => .inr (hBk.1 h)
                      · rintro (h | h)
                        · exact absurd (HF.out.2 h) (by simp)
                        · exact hBk.2 h)
                    clear hBk hsm eT eK hr hbx HF HTK hT1 hK1
                    go_wp2_with fail
                    go_region_held3 (fun x => x.cell? ⟨bS, 3, none⟩ = some (.slice (some ⟨bb, off, none⟩) rs.length cR) ∧ x.cell? ⟨bb, off + k * 2, none⟩ = some u ∧ x.cell? ⟨bb, off + k * 2 + 1, none⟩ = some v ∧ x.cell? ⟨bR, 0, none⟩ = some (.slice AL (T + 1) cAL) ∧ x.cell? ⟨bR, 1, none⟩ = some (.slice AF (T + 1) cF)) (first | exact ⟨s3, e0, e1, r0, r1⟩ | exact ⟨by assumption, by assumption, by assumption, by assumption, by assumption⟩)
                      (first | (go_at_call 20; refine (HSM.out _ (by exact HR1.out) (by exact HR2.out)).mono ?_; rintro e w3 ⟨rfl, hb1⟩; have HB3 : Hid (Below wr.heap.size wr w3) := Lib.hid ⟨hb1.os, hb1.tape, hb1.output, hb1.size, hb1.block⟩; have s3 := cell_below HB3.out s3; have e0 := cell_below HB3.out e0; have e1 := cell_below HB3.out e1; have r0 := cell_below HB3.out r0; have r1 := cell_below HB3.out r1; clear hb1))
                    have HB4 := Lib.hid (below_trans HBX.out HB3.out)
                    clear HBX HB3 HSM HR1 HR2 e0 e1 r0 r1
                    go_wp2_with fail
                    go_roundw
                    case rel => exact ⟨k + 1, by omega, by go_num, Bk, rfl, HFN, HB4.out⟩
                    case measure => simp [intOf]; omega
                  · have HFN : Hid (true = true ↔ ∃ q, q ∈ rs.take (k + 1) ∧ SamR snd q ((b : Int), l)) := Lib.hid (by
                      rw [HTK.out]
                      exact ⟨fun h => .inl (HF.out.1 h), fun _ => rfl⟩)
                    clear hr hbx HF HTK hT1 hK1
                    go_wp2_with fail
                    go_quiet (fail)
                    go_wp2_with fail
                    go_roundw
                    case rel => exact ⟨k + 1, by omega, by go_num, true, rfl, Lib.hid (by simpa using HFN.out), below_drewN HBX.out _⟩
                    case measure => simp [intOf]; omega
                · obtain rfl : k = rs.length := by omega
                  have HF2 := HF.out
                  rw [List.take_length, HLA1.out] at HF2
                  have hI2 := HI1.out.keep hbx
                  have R0 := Lib.hid (cell_below hbx R0.out)
                  have R1 := Lib.hid (cell_below hbx R1.out)
                  have HD0 : Hid ((mkR snd ((b : Int), l)).owned wr w.heap.size (.agg #[.slice AL (T + 1) cAL, .slice AF (T + 1) cF])) := Lib.hid (by
                    show RunO wr w.heap.size _ (l.length + 1) (fun _ => 2) (runL snd b (lf l)) (l.length + 1) (fun _ => (b : Int).toNat)
                    rw [HLEN.out]
                    exact RunO.below HRU.out hbx)
                  clear hbx HF HRR HRD S3 HRU HI1
                  have s3 := hI2.hS.cell (k := 3) rfl
                  cases f
                  · have hok : okP snd ((b : Int), l) = true := by
                      cases h : okP snd ((b : Int), l)
                      · exact absurd (HF2.2 h) (by simp)
                      · rfl
                    have HST := Lib.hid (rsAt_yes HP.out hok)
                    rw [← ERS.out] at HST
                    obtain ⟨rows1, ho1, hr1⟩ := hI2.runs
                    have ho2 : wr.ownsRow w.heap.size 30 2 (.slice AR rs.length cR) rs.length rows1 := by rw [List.length_map] at ho1; exact ho1
                    have hsz := hI2.below.size
                    have HI2 := Lib.hid hI2
                    have HR := Lib.hid hr1
                    have HO := Lib.hid ho1
                    have r0 := R0.out
                    have r1 := R1.out
                    have hlenm : (List.map (mkR snd) rs).length = rs.length := List.length_map _
                    have HLM := Lib.hid hlenm
                    clear hI2 hr1 ho1 HF2 hok hlenm R0 R1 HLA1
                    go_upto_region 20 with (at_builtin; obtain ⟨i0, hi, hz0, hz1, hz2⟩ := info_parts Try.infoRun; refine wpList_append_lies _ (by rfl) _ _ 42 (by rfl) w.heap.size 30 i0 _ 2 48 Try.underlying42 hi hz0 hz1 hz2 rfl (by decide) (.slice AR rs.length cR) rs.length rows1 (by rfl) (own_alloc' ho2 _) ⟨wr.heap.size, 0, none⟩ 1 1 [.slice AL (T + 1) cAL, .slice AF (T + 1) cF] (by rfl) (by rfl) (World.news_of_block (cs := #[.slice AL (T + 1) cAL, .slice AF (T + 1) cF]) (t := 30) (fr := (0, 0)) (heap_alloc_new wr _)) (by simp [Value.oneCell']) (by decide) (by unfold maxLen; omega) (by omega) (by simp; omega) (wr.heap.size + 1) (by simp) ?_; intro gf capF w7 hown7 hgrow7 _ _; obtain ⟨q3, f3⟩ := HI2.out.box ho2 hgrow7; have HOW7 := Lib.hid hown7; have HG7 := Lib.hid hgrow7; clear hi hz0 hz1 hz2 hown7 hgrow7)
                    have hh := HOW7.out
                    have hI3 := HI2.out.grow HO.out HR.out HD0.out (by rw [HLM.out]; exact hh) HG7.out
                    have s4 := hI3.hS.cell (k := 3) rfl
                    have HI3 : Hid (RlI w (w7.setCell ⟨bS, 3, none⟩ (.slice (some ⟨gf, 0, none⟩) (rs.length + 1) capF)) (w.heap.size + 1) w.heap.size bS T (.slice A n c) (.slice (some ⟨gL, 0, none⟩) NL cL) (.slice (some ⟨gf, 0, none⟩) (rs.length + 1) capF) ((rsAt snd T (b * NL + i + 1)).map (mkR snd))) := Lib.hid (by
                      rw [HST.out, List.map_append]; exact hI3)
                    generalize w7.setCell ⟨bS, 3, none⟩ (.slice (some ⟨gf, 0, none⟩) (rs.length + 1) capF) = V8 at s4 HI3 ⊢
                    clear hI3 hh HOW7 HG7 HI2 HR HO HD0 ho2 q3 f3 r0 r1 s3 hsz
                    by_cases h64 : rs.length = 64
                    · have hov : 64 < (losRs snd T).length := rsAt_over (i := b * NL + i + 1) (by rw [HST.out, List.length_append, h64]; show 64 < 64 + 1; decide)
                      have hE8 : losE T n fa fh fm = 8 := by
                        unfold losE; rw [if_pos HE.out, Int.toNat_natCast, ← ESND.out, if_pos hov]
                      have HED := Lib.hid hE8
                      have HDD := Lib.hid (show losD T n fa fh fm = SysD.none by unfold losD; rw [hE8]; rfl)
                      have tov : decide ((64 : Int) < ((rs.length + 1 : Nat) : Int)) = true := decide_eq_true (by omega)
                      have tov1 : decide ((64 : Int) < (rs.length : Int) + 1) = true := decide_eq_true (by omega)
                      have tov2 : decide (64 < rs.length + 1) = true := decide_eq_true (by omega)
                      obtain ⟨⟨c0, f0, c1, f1, c2, f2, c3, f3⟩, hk2⟩ := HI3.out.h2.put4 (.int .i64 0) (.int .i64 0) (.int .i64 0) (.slice none 0 0)
                      have q0 := hk2.cell (k := 0) rfl
                      have q1 := hk2.cell (k := 1) rfl
                      have q2 := hk2.cell (k := 2) rfl
                      have q3 := hk2.cell (k := 3) rfl
                      have HB3 := Lib.hid HI3.out.below
                      clear hk2 HI3 h64 hov hE8 hle
                      go_wp2_with fail
                      exact bodyPost_ret (v := .tuple #[.agg #[.int .i64 0, .int .i64 0, .int .i64 0, .slice none 0 0], .int .i64 8]) (by simp [results, Try.results25, go_sem, q0, q1, q2, q3]) rfl (show SysPost w (losD T n fa fh fm) (losE T n fa fh fm) _ _ from by rw [HDD.out, HED.out]; exact ⟨_, rfl, SysD.none_owned _ _, below_put4 HB3.out (by omega) _ _ _ _⟩)
                    · have tov : decide ((64 : Int) < ((rs.length + 1 : Nat) : Int)) = false := decide_eq_false (by omega)
                      have tov1 : decide ((64 : Int) < (rs.length : Int) + 1) = false := decide_eq_false (by omega)
                      have tov2 : decide (64 < rs.length + 1) = false := decide_eq_false (by omega)
                      have HLE := Lib.hid (show (rsAt snd T (b * NL + i + 1)).length ≤ 64 by rw [HST.out, List.length_append]; show rs.length + 1 ≤ 64; omega)
                      clear h64 hle
                      go_wp2_with fail
                      go_roundw
                      case rel => exact ⟨i + 1, by omega, by go_num, HLE.out, _, HI3.out⟩
                      case measure => simp [intOf]; omega
                  · have hok := HF2.1 rfl
                    have HST := Lib.hid (rsAt_no HP.out hok)
                    rw [← ERS.out] at HST
                    have HI3 : Hid (RlI w wr (w.heap.size + 1) w.heap.size bS T (.slice A n c) (.slice (some ⟨gL, 0, none⟩) NL cL) (.slice AR rs.length cR) ((rsAt snd T (b * NL + i + 1)).map (mkR snd))) := Lib.hid (by rw [HST.out]; exact hI2)
                    have HLE := Lib.hid (show (rsAt snd T (b * NL + i + 1)).length ≤ 64 by rw [HST.out]; exact hle)
                    have tov : decide ((64 : Int) < (rs.length : Int)) = false := decide_eq_false (by omega)
                    have tov2 : decide (64 < rs.length) = false := decide_eq_false (by omega)
                    clear hI2 HF2 hok R0 R1 HLA1 HD0 hle
                    go_wp2_with fail
                    go_roundw
                    case rel => exact ⟨i + 1, by omega, by go_num, HLE.out, _, HI3.out⟩
                    case measure => simp [intOf]; omega
          · obtain rfl : i = NL := by omega
            have HK2 : Hid (RlK w wr (w.heap.size + 1) w.heap.size bS T (.slice A n c) (.slice (some ⟨gL, 0, none⟩) i cL) snd ((b + 1) * i)) := Lib.hid (by rw [Nat.succ_mul]; exact ⟨hle, vR, HI.out⟩)
            clear hI hle
            go_wp2_with fail
            go_roundw
            case rel => exact ⟨b + 1, by omega, by go_num, HK2.out⟩
            case measure => simp [intOf]; omega
      · obtain rfl : b = 2 := by omega
        obtain ⟨hle, vR, hI⟩ := HK.out
        have hend := rsAt_end hle (by rw [prs_len, ← ENL.out]; omega)
        obtain ⟨rs, ers⟩ : ∃ rs, rs = rsAt snd T (2 * NL) := ⟨_, rfl⟩
        rw [← ers] at hle hI hend
        have hE0 : losE T n fa fh fm = 0 := by
          unfold losE; rw [if_pos HE.out, Int.toNat_natCast, ← ESND.out, hend, if_neg (by omega)]
        have HED := Lib.hid hE0
        have HDD := Lib.hid (show losD T n fa fh fm = ⟨2, 1, (T : Int) + 1, rs.map (mkR snd)⟩ by
          unfold losD; rw [hE0, if_pos rfl, Int.toNat_natCast, ← ESND.out, hend])
        obtain ⟨rows, ho, -⟩ := hI.runs
        obtain ⟨AR, cR, rfl, -⟩ := own_form' ho
        rw [List.length_map] at hI
        have d0 := hI.hS.cell (k := 0) rfl
        have d1 := hI.hS.cell (k := 1) rfl
        have d2 := hI.hS.cell (k := 2) rfl
        have d3 := hI.hS.cell (k := 3) rfl
        obtain ⟨⟨c0, f0, c1, f1, c2, f2, c3, f3⟩, hk2⟩ := hI.h2.put4 (.int .i64 2) (.int .i64 1) (.int .i64 ((T : Int) + 1)) (.slice AR rs.length cR)
        have q0 := hk2.cell (k := 0) rfl
        have q1 := hk2.cell (k := 1) rfl
        have q2 := hk2.cell (k := 2) rfl
        have q3 := hk2.cell (k := 3) rfl
        have HB3 := Lib.hid hI.below
        have HRU := Lib.hid (hI.runs.keeps (Keeps.put4 hI.h2 (by decide) (.int .i64 2) (.int .i64 1) (.int .i64 ((T : Int) + 1)) (.slice AR rs.length cR)) (Keeps.put4 hI.h2 (by decide) _ _ _ _) (Keeps.put4 hI.h2 (by decide) _ _ _ _) (Keeps.put4 hI.h2 (by decide) _ _ _ _))
        clear hI hk2 ho hE0 HK hend ers hle
        go_wp2_with fail
        exact bodyPost_ret (v := .tuple #[.agg #[.int .i64 2, .int .i64 1, .int .i64 ((T : Int) + 1), .slice AR rs.length cR], .int .i64 0]) (by simp [results, Try.results25, go_sem, q0, q1, q2, q3]) rfl (show SysPost w (losD T n fa fh fm) (losE T n fa fh fm) _ _ from by rw [HDD.out, HED.out]; exact ⟨_, rfl, ⟨_, rfl, HRU.out⟩, below_put4 HB3.out (by omega) _ _ _ _⟩)
end Go.Proofs.Ytgnkeecjaffnaaa
