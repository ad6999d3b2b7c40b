/-
  Texts of this claim, one after the other: what each proves is said at its head. No condition beyond those that its theorems name.
-/
import Derived.Test.YtahaimecchdfeaaProg
import Derived.Deep.RegionHeld3
import Derived.Deep.AppendLies
import Derived.Deep.DeepCutAuto
import Derived.Laws.AppendOwnNone
import Derived.Laws.OwnMore
import Derived.Test.YtahaimecchdfeaaG01
import Derived.Test.YtahaimecchdfeaaG02
import Derived.Test.YtahaimecchdfeaaG04
import Derived.Test.YtahaimecchdfeaaG06
import Derived.Test.YtahaimecchdfeaaG07
import Derived.Test.YtahaimecchdfeaaG09
import Derived.Test.YtahaimecchdfeaaG11
import Derived.Test.YtahaimecchdfeaaG15
import Derived.Test.YtahaimecchdfeaaG16
import Derived.Test.YtahaimecchdfeaaG20
import Derived.Test.YtahaimecchdfeaaG22
import Derived.Test.YtahaimecchdfeaaG23
import Derived.Test.YtahaimecchdfeaaG24
import Derived.Test.YtahaimecchdfeaaG32

/-
  Walks of layer 54: run of the reference.
-/
namespace Go.Proofs.Ytahaimecchdfeaa
open Go.RowKit

/-- What the walk of the reference's run holds: the boxes of the protocol, the result, the run; the rows of the states, the facts. -/
structure RrI (w0 w : World) (bC b8 br : Nat) (e0 vC vL vF : Value) (rows : List Value) (n nL nF : Nat) (L : Nat → Nat → Int) (F : Nat → Nat) : Prop where
  below : Below w0.heap.size w0 w
  hC : Blk w bC 43 #[e0, vC]
  h8 : Blk w b8 69 #[.slice none 0 0, .slice none 0 0]
  hr : Blk w br 69 #[vL, vF]
  ne : b8 ≠ br
  ge : w0.heap.size ≤ b8 ∧ w0.heap.size ≤ br
  oL : w.ownsRow w0.heap.size 75 1 vL nL rows
  oR : ∀ i, i < nL → ∃ rv, rows[i]? = some rv ∧ w.ownsRow w0.heap.size 3 1 rv n (i64L (L i) n)
  oF : w.ownsRow w0.heap.size 121 1 vF nF (u64L F nF)
section
variable {w0 w w1 : World} {bC b8 br : Nat} {e0 vC vL vF : Value} {rows : List Value} {n nL nF : Nat} {L : Nat → Nat → Int} {F : Nat → Nat}
theorem RrI.keep (h : RrI w0 w bC b8 br e0 vC vL vF rows n nL nF L F) (hb : Below w.heap.size w w1) : RrI w0 w1 bC b8 br e0 vC vL vF rows n nL nF L F :=
  ⟨h.below.trans (hb.mono h.below.size), h.hC.below hb, h.h8.below hb, h.hr.below hb, h.ne, h.ge, own_below h.oL hb (Nat.le_refl _), fun i hi => let ⟨rv, h1, h2⟩ := h.oR i hi; ⟨rv, h1, own_below h2 hb (Nat.le_refl _)⟩, own_below h.oF hb (Nat.le_refl _)⟩
/-- The run gets a row of states. -/
theorem RrI.local (h : RrI w0 w bC b8 br e0 vC vL vF rows n nL nF L F) {vL' rv : Value} {o : Obj} (hrow : w.ownsRow w0.heap.size 3 1 rv n (i64L (L nL) n))
    (hown : w1.ownsRow w0.heap.size 75 1 vL' (nL + 1) (rows ++ [rv])) (hgrow : (w.alloc o).grownBy w1 vL.ownBlock) :
    RrI w0 (w1.setCell ⟨br, 0, none⟩ vL') bC b8 br e0 vC vL' vF (rows ++ [rv]) n (nL + 1) nF L F ∧ Keeps w (w1.setCell ⟨br, 0, none⟩ vL') 3 := by
  have hlt := h.oL.lt
  have hsz : (w.alloc o).heap.size = w.heap.size + 1 := by simp
  have hlen := h.oL.1
  have hr1 := (h.hr.alloc o).kept hgrow (h.hr.ne_row h.oL (by decide))
  have hC1 := (h.hC.alloc o).kept hgrow (h.hC.ne_row h.oL (by decide))
  have h81 := (h.h8.alloc o).kept hgrow (h.h8.ne_row h.oL (by decide))
  refine ⟨⟨((h.below.alloc h.below.size o).grown hgrow (by have := h.below.size; omega) (fun k hk => (hlt k hk).1)).setCell (p := ⟨br, 0, none⟩) h.ge.2 _, hC1.set_ne (hC1.ne hr1 (by decide)) _ _, h81.set_ne h.ne _ _, hr1.set 0 vL',
    h.ne, h.ge, own_set hown hr1 (by decide) _, fun i hi => ?_, own_set ((h.oF.alloc o).kept hgrow (own_ne h.oF h.oL (by decide))) hr1 (by decide) _⟩, ((Keeps.of_below (below_alloc w o) _).trans (Keeps.of_grown hgrow (own_alloc' h.oL o) (by decide))).trans (.of_set hr1 (by decide) _ _)⟩
  rcases Nat.lt_succ_iff_lt_or_eq.1 hi with h1 | rfl
  · obtain ⟨u, hu, hu2⟩ := h.oR i h1
    exact ⟨u, by rw [List.getElem?_append_left (by omega)]; exact hu, own_set ((hu2.alloc o).kept hgrow (own_ne hu2 h.oL (by decide))) hr1 (by decide) _⟩
  · exact ⟨rv, by rw [List.getElem?_append_right (by omega)]; simp [hlen], own_set ((hrow.alloc o).kept hgrow (own_ne hrow h.oL (by decide))) hr1 (by decide) _⟩
/-- The run gets its facts at a time. -/
theorem RrI.facts (h : RrI w0 w bC b8 br e0 vC vL vF rows n nL nF L F) {vF' : Value} {o : Obj} (hown : w1.ownsRow w0.heap.size 121 1 vF' (nF + 1) (u64L F nF ++ [.int .u64 (F nF : Nat)])) (hgrow : (w.alloc o).grownBy w1 vF.ownBlock) :
    RrI w0 (w1.setCell ⟨br, 1, none⟩ vF') bC b8 br e0 vC vL vF' rows n nL (nF + 1) L F ∧ Keeps w (w1.setCell ⟨br, 1, none⟩ vF') 3 := by
  have hlt := h.oF.lt
  have hsz : (w.alloc o).heap.size = w.heap.size + 1 := by simp
  have hr1 := (h.hr.alloc o).kept hgrow (h.hr.ne_row h.oF (by decide))
  have hC1 := (h.hC.alloc o).kept hgrow (h.hC.ne_row h.oF (by decide))
  have h81 := (h.h8.alloc o).kept hgrow (h.h8.ne_row h.oF (by decide))
  rw [← u64L_succ] at hown
  refine ⟨⟨((h.below.alloc h.below.size o).grown hgrow (by have := h.below.size; omega) (fun k hk => (hlt k hk).1)).setCell (p := ⟨br, 1, none⟩) h.ge.2 _, hC1.set_ne (hC1.ne hr1 (by decide)) _ _, h81.set_ne h.ne _ _, hr1.set 1 vF',
    h.ne, h.ge, own_set ((h.oL.alloc o).kept hgrow (own_ne h.oL h.oF (by decide))) hr1 (by decide) _, fun i hi => ?_, own_set hown hr1 (by decide) _⟩, ((Keeps.of_below (below_alloc w o) _).trans (Keeps.of_grown hgrow (own_alloc' h.oF o) (by decide))).trans (.of_set hr1 (by decide) _ _)⟩
  obtain ⟨u, hu, hu2⟩ := h.oR i hi
  exact ⟨u, hu, own_set ((hu2.alloc o).kept hgrow (own_ne hu2 h.oF (by decide))) hr1 (by decide) _⟩
/-- What is left at the end: the result's box is written; the run is owned. -/
theorem RrI.done {k : Nat} (h : RrI w0 w bC b8 br e0 vC vL vF rows n k k L F) (u0 u1 : Value) :
    RunO ((w.setCell ⟨b8, 0, none⟩ u0).setCell ⟨b8, 1, none⟩ u1) w0.heap.size (.agg #[vL, vF]) k (fun _ => n) L k F ∧ Below w0.heap.size w0 ((w.setCell ⟨b8, 0, none⟩ u0).setCell ⟨b8, 1, none⟩ u1) := by
  have h81 := h.h8.set 0 u0
  have hB := (h.below.setCell (p := ⟨b8, 0, none⟩) h.ge.1 u0).setCell (p := ⟨b8, 1, none⟩) h.ge.1 u1
  refine ⟨⟨vL, vF, rows, rfl, own_set (k := 1) (own_set (k := 0) h.oL h.h8 (by decide) u0) h81 (by decide) u1, fun i hi => ?_, own_set (k := 1) (own_set (k := 0) h.oF h.h8 (by decide) u0) h81 (by decide) u1⟩, hB⟩
  obtain ⟨rv, h1, h2⟩ := h.oR i hi
  exact ⟨rv, h1, own_set (k := 1) (own_set (k := 0) h2 h.h8 (by decide) u0) h81 (by decide) u1⟩
end
/-- The steps of a run, for messages in range. -/
theorem run_step {snd : Int → Int → Int} {bit : Int} {lost : Nat → Int} {T k : Nat} (hs : ∀ a h, 0 ≤ snd a h ∧ snd a h ≤ 3) (hb : 0 ≤ bit ∧ bit ≤ 1) (hl : ∀ k, k < T → 0 ≤ lost k ∧ lost k ≤ 3) (hk : k < T) (hT : T ≤ 4) :
    (runS snd bit lost (k + 1)).1 = 4 * (runS snd bit lost k).1 + (if lost k / 2 = 1 then 0 else snd 1 (runS snd bit lost k).2) ∧ (runS snd bit lost (k + 1)).2 = 4 * (runS snd bit lost k).2 + (if lost k % 2 = 1 then 0 else snd 0 (runS snd bit lost k).1) := by
  rw [(run_same hs hb hl (k + 1) hk (by omega)).1, (run_same hs hb hl k (by omega) (by omega)).1]
  exact ⟨rfl, rfl⟩
set_option maxHeartbeats 4000000 in
set_option maxRecDepth 100000 in
theorem rrun_any (bit : Int) (A : Option Addr) (n c : Nat) (fa fh fm : Nat → Int) (B : Option Addr) (T d : Nat) (lost : Nat → Int) (w : World) (hx : RuleS w A n fa fh fm) (hn : n ≤ 9223372036854775807) (hl : I64s w B T lost) (hT : T ≤ 4) (hm : ∀ k, k < T → 0 ≤ lost k ∧ lost k ≤ 3) (hb : 0 ≤ bit ∧ bit ≤ 1)
    (hs : ∀ a h, 0 ≤ sndV n fa fh fm a h ∧ sndV n fa fh fm a h ≤ 3) :
    Calls Try.prog 87 #[.agg #[.int .i64 T, .slice A n c], .int .i64 bit, .slice B T d] w fun e w' => ∃ v, e = .returned v ∧ RunO w' w.heap.size v (T + 1) (fun _ => 2) (runL (sndV n fa fh fm) bit lost) (T + 1) (fun _ => bit.toNat) ∧ Below w.heap.size w w' := by
  have HX := Lib.hid hx
  have HL := Lib.hid hl
  have HM := Lib.hid hm
  have HRS := Lib.hid (fun a h w (hx : RuleS w A n fa fh fm) => rsends_any T a h A n c fa fh fm w hx hn)
  have HST := Lib.hid (fun k (hk : k < T) => run_step (k := k) hs hb hm hk hT)
  have HS := Lib.hid hs
  have h00 : (runS (sndV n fa fh fm) bit lost 0).1 = 4 + bit := by
    show stV 0 bit = 4 + bit
    have hp : (0 : Int) ≤ 0 ∧ (0 : Int) ≤ 1 ∧ 0 ≤ bit ∧ bit ≤ 1 := by omega
    unfold stV; rw [if_pos hp]; rfl
  have h01 : (runS (sndV n fa fh fm) bit lost 0).2 = 4 := by
    show stV 1 bit = 4
    have hp : (0 : Int) ≤ 1 ∧ (1 : Int) ≤ 1 ∧ 0 ≤ bit ∧ bit ≤ 1 := by omega
    unfold stV; rw [if_pos hp]; rfl
  have H00 := Lib.hid h00
  have H01 := Lib.hid h01
  have eb : ((bit.toNat : Nat) : Int) = bit := by omega
  have EB := Lib.hid eb
  clear hx hl hm hs h00 h01 eb
  go_enter Try.func87, Try.ntmps87
  go_upto_region 2 with (fail)
  obtain ⟨W, hW⟩ : ∃ W, W = (w.alloc (.cells #[.int .i64 T, .slice A n c] 43)).alloc (.cells #[.slice none 0 0, .slice none 0 0] 69) := ⟨_, rfl⟩
  rw [← hW]
  obtain ⟨hC, h8, hB⟩ := two_boxes4 w _ _ _ _ W hW
  have HC := Lib.hid hC
  have H8 := Lib.hid h8
  have HB := Lib.hid hB
  clear hC h8 hB hW
  go_upto_region 3 with (fail)
  obtain ⟨V, hV⟩ : ∃ V, V = (((W.alloc (.cells #[.int .i64 (4 + bit), .int .i64 4] 3)).alloc (.cells #[.slice (some ⟨W.heap.size, 0, none⟩) 2 2] 75)).alloc (.cells #[.int .u64 bit] 121)).alloc (.cells #[.slice (some ⟨W.heap.size + 1, 0, none⟩) 1 1, .slice (some ⟨W.heap.size + 1 + 1, 0, none⟩) 1 1] 69) := ⟨_, rfl⟩
  rw [← hV]
  obtain ⟨k0, k1, k2, k3, hBV⟩ := four_blocks W _ _ _ _ _ _ _ _ V hV
  have hWs := HB.out.size
  have h8s := H8.out.lt
  have hRI : RrI w V w.heap.size (w.heap.size + 1) (W.heap.size + 1 + 1 + 1) (.int .i64 T) (.slice A n c) (.slice (some ⟨W.heap.size + 1, 0, none⟩) 1 1) (.slice (some ⟨W.heap.size + 1 + 1, 0, none⟩) 1 1) [.slice (some ⟨W.heap.size, 0, none⟩) 2 2] 2 1 1 (runL (sndV n fa fh fm) bit lost) (fun _ => bit.toNat) := by
    refine ⟨HB.out.trans (hBV.mono HB.out.size), HC.out.below hBV, H8.out.below hBV, k3, by omega, ⟨by omega, by omega⟩, own_one k1 (by omega), fun i hi => ?_, ?_⟩
    · obtain rfl : i = 0 := by omega
      refine ⟨_, rfl, ⟨rfl, .inr ⟨W.heap.size, 2, #[.int .i64 (4 + bit), .int .i64 4], rfl, by omega, k0, by decide, by decide, rfl, ?_⟩⟩⟩
      show _ = [Value.int .i64 (runS (sndV n fa fh fm) bit lost 0).1, Value.int .i64 (runS (sndV n fa fh fm) bit lost 0).2]
      rw [H00.out, H01.out]; rfl
    · have := own_one (base := w.heap.size) k2 (by omega)
      rw [← EB.out] at this
      exact this
  have HRI := Lib.hid hRI
  generalize W.heap.size + 1 + 1 + 1 = br at HRI ⊢
  generalize w.heap.size + 1 = b8 at HRI H8 h8s ⊢
  clear hRI k0 k1 k2 k3 hBV hV hWs h8s HC H8 HB
  go_wp2_with fail
  go_loopw [7, 8, 10] (fun av bv iv wr => ∃ k : Nat, k ≤ T ∧ iv = .int .i64 k ∧ av = .int .i64 (runS (sndV n fa fh fm) bit lost k).1 ∧ bv = .int .i64 (runS (sndV n fa fh fm) bit lost k).2 ∧ ∃ vL vF rows, RrI w wr w.heap.size b8 br (.int .i64 T) (.slice A n c) vL vF rows 2 (k + 1) (k + 1) (runL (sndV n fa fh fm) bit lost) (fun _ => bit.toNat)) (fun _ _ iv _ => T - (intOf iv).toNat)
  case atStart => exact ⟨0, Nat.zero_le _, rfl, by rw [H00.out], by rw [H01.out], _, _, _, HRI.out⟩
  case round =>
    clear HRI
    obtain ⟨k, hk, rfl, rfl, rfl, vL, vF, rows, hri⟩ := hrel
    have z0 : wr.cell? ⟨w.heap.size, 0, none⟩ = some (.int .i64 T) := hri.hC.cell rfl
    have z1 : wr.cell? ⟨w.heap.size, 1, none⟩ = some (.slice A n c) := hri.hC.cell rfl
    by_cases hlt : k < T
    · obtain ⟨hxr, hyr⟩ := runS_range (sndV n fa fh fm) bit lost k
      obtain ⟨s1, s2⟩ := HST.out k hlt
      obtain ⟨x, ex⟩ : ∃ x, x = (runS (sndV n fa fh fm) bit lost k).1 := ⟨_, rfl⟩
      obtain ⟨y, ey⟩ : ∃ x, x = (runS (sndV n fa fh fm) bit lost k).2 := ⟨_, rfl⟩
      rw [← ex, ← ey] at s1 s2 ⊢
      rw [← ex] at hxr
      rw [← ey] at hyr
      have hp := HS.out 0 x
      have hq := HS.out 1 y
      have HR0 := Lib.hid (HRS.out 0 x)
      have HR1 := Lib.hid (HRS.out 1 y)
      obtain ⟨p, ep⟩ : ∃ u, u = sndV n fa fh fm 0 x := ⟨_, rfl⟩
      obtain ⟨q, eq⟩ : ∃ u, u = sndV n fa fh fm 1 y := ⟨_, rfl⟩
      rw [← ep] at s2 hp HR0
      rw [← eq] at s1 hq HR1
      obtain ⟨x', ex'⟩ : ∃ u, u = (runS (sndV n fa fh fm) bit lost (k + 1)).1 := ⟨_, rfl⟩
      obtain ⟨y', ey'⟩ : ∃ u, u = (runS (sndV n fa fh fm) bit lost (k + 1)).2 := ⟨_, rfl⟩
      rw [← ex'] at s1
      rw [← ey'] at s2
      have EX := Lib.hid ex'
      have EY := Lib.hid ey'
      obtain ⟨b, off, rfl, c1, -⟩ := HL.out.below hri.below k hlt
      have hm := HM.out k hlt
      have HXr := Lib.hid (HX.out.below hri.below)
      have HRI := Lib.hid hri
      obtain ⟨V0, eW⟩ : ∃ V0, V0 = wr := ⟨_, rfl⟩
      subst eW
      have HSOF := Lib.hid (fun (y : World) (h : Below V0.heap.size V0 y) => (⟨h, cell_below h z0, cell_below h z1⟩ : Below V0.heap.size V0 y ∧ y.cell? ⟨w.heap.size, 0, none⟩ = some (.int .i64 T) ∧ y.cell? ⟨w.heap.size, 1, none⟩ = some (.slice A n c)))
      have hb0 := Below.refl V0.heap.size V0
      clear hri ex ey ep eq ex' ey'
      have hkT : (k : Int) < (T : Int) := by omega
      go_upto_region 6 with (fail)
      go_cut [11, 12] (fun pv qv wx => pv = .int .i64 p ∧ qv = .int .i64 q ∧ Below V0.heap.size V0 wx)
      case first =>
        clear s1 s2 hp hq hxr hyr c1 hm z0 z1
        go_region_held3 (fun x => Below V0.heap.size V0 x ∧ x.cell? ⟨w.heap.size, 0, none⟩ = some (.int .i64 T) ∧ x.cell? ⟨w.heap.size, 1, none⟩ = some (.slice A n c)) (first | exact HSOF.out _ (by assumption) | exact HSOF.out _ (below_drew hb0) | exact HSOF.out _ (below_trans (And.left (by assumption)) (by assumption)))
          (first | (go_at_call 125; refine (HR0.out _ (by exact HXr.out.below (And.left (by assumption)))).mono ?_; rintro e w3 ⟨rfl, hb1⟩; have HB3 := below_trans (And.left (by assumption)) hb1; clear HR0 hb1) | (go_at_call 125; refine (HR1.out _ (by exact HXr.out.below (And.left (by assumption)))).mono ?_; rintro e w3 ⟨rfl, hb1⟩; have HB3 := below_trans (And.left (by assumption)) hb1; clear HR1 hb1) | fail)
        all_goals (
          go_wp2_with fail
          go_meet
          exact ⟨rfl, rfl, And.left (by assumption)⟩)
      case rest =>
        obtain ⟨rfl, rfl, hbx⟩ := hcut
        have hri := HRI.out.keep hbx
        have c1 := cell_below hbx c1
        have hrow0 := Blk.new wc #[.int .i64 x', .int .i64 y'] 3
        have hba := below_alloc wc (.cells #[.int .i64 x', .int .i64 y'] 3)
        have hwz := hri.below.size
        have HRW : Hid ((wc.alloc (.cells #[.int .i64 x', .int .i64 y'] 3)).ownsRow w.heap.size 3 1 (.slice (some ⟨wc.heap.size, 0, none⟩) 2 2) 2 (i64L (runL (sndV n fa fh fm) bit lost (k + 1)) 2)) := Lib.hid ⟨rfl, .inr ⟨wc.heap.size, 2, _, rfl, hwz, hrow0, by decide, by decide, rfl, by
          show _ = [Value.int .i64 (runS (sndV n fa fh fm) bit lost (k + 1)).1, Value.int .i64 (runS (sndV n fa fh fm) bit lost (k + 1)).2]
          rw [← EX.out, ← EY.out]; rfl⟩⟩
        have HRU := Lib.hid (hri.keep hba)
        have HOL := Lib.hid hri.oL
        obtain ⟨AL, cL, rfl, -⟩ := own_form HOL.out
        have HCN := Lib.hid (by
          have := cell_one_new (wc.alloc (.cells #[.int .i64 x', .int .i64 y'] 3)) (.slice (some ⟨wc.heap.size, 0, none⟩) 2 2) 75
          rw [World.size_alloc] at this
          exact this)
        have q0 : wc.cell? ⟨br, 0, none⟩ = some (.slice AL (k + 1) cL) := hri.hr.cell rfl
        obtain ⟨m, em⟩ : ∃ m, m = lost k := ⟨_, rfl⟩
        rw [← em] at c1 hm s1 s2
        clear em HRI hbx hri hrow0 hba z0 z1 hb0 HSOF HXr
        have h4 : m = 0 ∨ m = 1 ∨ m = 2 ∨ m = 3 := by omega
        clear hm
        rcases h4 with rfl | rfl | rfl | rfl
        · have hx' : x' = 4 * x + q := by rw [s1, if_neg (by decide)]
          have hy' : y' = 4 * y + p := by rw [s2, if_neg (by decide)]
          clear s1 s2
          go_upto_region 12 with (fail)
          rw [← hx', ← hy']
          clear hx' hy'
          go_upto_region 13 with (at_builtin; obtain ⟨i0, hi, hz0, hz1, hz2⟩ := info_parts Try.infoInts; refine wpList_append_lies _ rfl _ _ 66 rfl w.heap.size 75 i0 (.slice none 0 0) 1 24 Try.underlying66 hi hz0 hz1 hz2 rfl (by decide) _ _ _ rfl (own_alloc' (own_alloc' HOL.out _) _) ⟨wc.heap.size + 1, 0, none⟩ 1 1 [.slice (some ⟨wc.heap.size, 0, none⟩) 2 2] rfl rfl HCN.out (one_oneCell rfl) (by omega) (by unfold maxLen; omega) (by omega) (by simp; omega) (wc.heap.size + 1 + 1) (by simp) ?_; intro gg capL w5 hown5 hgrow5 _ _; have q1 := ((HRU.out.hr.alloc _).kept hgrow5 (HRU.out.hr.ne_row HRU.out.oL (by decide))).cell (k := 0) rfl; have f1 := ((HRU.out.hr.alloc _).kept hgrow5 (HRU.out.hr.ne_row HRU.out.oL (by decide))).frozen (k := 0); have HOW5 := Lib.hid hown5; have HG5 := Lib.hid hgrow5; clear hi hz0 hz1 hz2 hown5 hgrow5)
          obtain ⟨h6, -⟩ := HRU.out.local HRW.out HOW5.out HG5.out
          generalize w5.setCell ⟨br, 0, none⟩ (.slice (some ⟨gg, 0, none⟩) (k + 1 + 1) capL) = V6 at h6 ⊢
          have hg6 := h6.below.size
          have q3 := h6.hr.cell (k := 1) rfl
          have HOF := Lib.hid h6.oF
          obtain ⟨AF, cF, rfl, -⟩ := own_form HOF.out
          have HR6 := Lib.hid h6
          clear h6 HRU HRW HOW5 HG5 q0 q1 f1 HOL HCN
          go_wp2_with (at_builtin; obtain ⟨i0, hi, hz0, hz1, hz2⟩ := info_parts Try.infoU64; refine wpList_append_lies _ rfl _ _ 67 rfl w.heap.size 121 i0 (.int .u64 0) 1 8 Try.underlying67 hi hz0 hz1 hz2 rfl (by decide) _ _ _ rfl (HOF.out.alloc _) ⟨V6.heap.size, 0, none⟩ 1 1 [.int .u64 bit] rfl rfl (cell_one_new _ _ _) (one_oneCell rfl) (by omega) (by unfold maxLen; omega) (by omega) (by simp; omega) (V6.heap.size + 1) (by simp) ?_; intro gf capF w7 hown7 hgrow7 _ _; have q4 := ((HR6.out.hr.alloc _).kept hgrow7 (HR6.out.hr.ne_row HR6.out.oF (by decide))).cell (k := 1) rfl; have f4 := ((HR6.out.hr.alloc _).kept hgrow7 (HR6.out.hr.ne_row HR6.out.oF (by decide))).frozen (k := 1); have HOW7 := Lib.hid hown7; have HG7 := Lib.hid hgrow7; clear hi hz0 hz1 hz2 hown7 hgrow7)
          go_roundw
          case rel =>
            have h7 := HOW7.out
            rw [show (Value.int .u64 bit : Value) = .int .u64 ((bit.toNat : Nat) : Int) from by rw [EB.out]] at h7
            obtain ⟨h8, -⟩ := HR6.out.facts h7 HG7.out
            exact ⟨k + 1, by omega, by go_num, by rw [← EX.out], by rw [← EY.out], _, _, _, h8⟩
          case measure => simp [intOf]; omega
        · have hx' : x' = 4 * x + q := by rw [s1, if_neg (by decide)]
          have hy' : y' = 4 * y := by rw [s2, if_pos (by decide)]; omega
          clear s1 s2
          go_upto_region 12 with (fail)
          rw [← hx', ← hy']
          clear hx' hy'
          go_upto_region 13 with (at_builtin; obtain ⟨i0, hi, hz0, hz1, hz2⟩ := info_parts Try.infoInts; refine wpList_append_lies _ rfl _ _ 66 rfl w.heap.size 75 i0 (.slice none 0 0) 1 24 Try.underlying66 hi hz0 hz1 hz2 rfl (by decide) _ _ _ rfl (own_alloc' (own_alloc' HOL.out _) _) ⟨wc.heap.size + 1, 0, none⟩ 1 1 [.slice (some ⟨wc.heap.size, 0, none⟩) 2 2] rfl rfl HCN.out (one_oneCell rfl) (by omega) (by unfold maxLen; omega) (by omega) (by simp; omega) (wc.heap.size + 1 + 1) (by simp) ?_; intro gg capL w5 hown5 hgrow5 _ _; have q1 := ((HRU.out.hr.alloc _).kept hgrow5 (HRU.out.hr.ne_row HRU.out.oL (by decide))).cell (k := 0) rfl; have f1 := ((HRU.out.hr.alloc _).kept hgrow5 (HRU.out.hr.ne_row HRU.out.oL (by decide))).frozen (k := 0); have HOW5 := Lib.hid hown5; have HG5 := Lib.hid hgrow5; clear hi hz0 hz1 hz2 hown5 hgrow5)
          obtain ⟨h6, -⟩ := HRU.out.local HRW.out HOW5.out HG5.out
          generalize w5.setCell ⟨br, 0, none⟩ (.slice (some ⟨gg, 0, none⟩) (k + 1 + 1) capL) = V6 at h6 ⊢
          have hg6 := h6.below.size
          have q3 := h6.hr.cell (k := 1) rfl
          have HOF := Lib.hid h6.oF
          obtain ⟨AF, cF, rfl, -⟩ := own_form HOF.out
          have HR6 := Lib.hid h6
          clear h6 HRU HRW HOW5 HG5 q0 q1 f1 HOL HCN
          go_wp2_with (at_builtin; obtain ⟨i0, hi, hz0, hz1, hz2⟩ := info_parts Try.infoU64; refine wpList_append_lies _ rfl _ _ 67 rfl w.heap.size 121 i0 (.int .u64 0) 1 8 Try.underlying67 hi hz0 hz1 hz2 rfl (by decide) _ _ _ rfl (HOF.out.alloc _) ⟨V6.heap.size, 0, none⟩ 1 1 [.int .u64 bit] rfl rfl (cell_one_new _ _ _) (one_oneCell rfl) (by omega) (by unfold maxLen; omega) (by omega) (by simp; omega) (V6.heap.size + 1) (by simp) ?_; intro gf capF w7 hown7 hgrow7 _ _; have q4 := ((HR6.out.hr.alloc _).kept hgrow7 (HR6.out.hr.ne_row HR6.out.oF (by decide))).cell (k := 1) rfl; have f4 := ((HR6.out.hr.alloc _).kept hgrow7 (HR6.out.hr.ne_row HR6.out.oF (by decide))).frozen (k := 1); have HOW7 := Lib.hid hown7; have HG7 := Lib.hid hgrow7; clear hi hz0 hz1 hz2 hown7 hgrow7)
          go_roundw
          case rel =>
            have h7 := HOW7.out
            rw [show (Value.int .u64 bit : Value) = .int .u64 ((bit.toNat : Nat) : Int) from by rw [EB.out]] at h7
            obtain ⟨h8, -⟩ := HR6.out.facts h7 HG7.out
            exact ⟨k + 1, by omega, by go_num, by rw [← EX.out], by rw [← EY.out], _, _, _, h8⟩
          case measure => simp [intOf]; omega
        · have hx' : x' = 4 * x := by rw [s1, if_pos (by decide)]; omega
          have hy' : y' = 4 * y + p := by rw [s2, if_neg (by decide)]
          clear s1 s2
          go_upto_region 12 with (fail)
          rw [← hx', ← hy']
          clear hx' hy'
          go_upto_region 13 with (at_builtin; obtain ⟨i0, hi, hz0, hz1, hz2⟩ := info_parts Try.infoInts; refine wpList_append_lies _ rfl _ _ 66 rfl w.heap.size 75 i0 (.slice none 0 0) 1 24 Try.underlying66 hi hz0 hz1 hz2 rfl (by decide) _ _ _ rfl (own_alloc' (own_alloc' HOL.out _) _) ⟨wc.heap.size + 1, 0, none⟩ 1 1 [.slice (some ⟨wc.heap.size, 0, none⟩) 2 2] rfl rfl HCN.out (one_oneCell rfl) (by omega) (by unfold maxLen; omega) (by omega) (by simp; omega) (wc.heap.size + 1 + 1) (by simp) ?_; intro gg capL w5 hown5 hgrow5 _ _; have q1 := ((HRU.out.hr.alloc _).kept hgrow5 (HRU.out.hr.ne_row HRU.out.oL (by decide))).cell (k := 0) rfl; have f1 := ((HRU.out.hr.alloc _).kept hgrow5 (HRU.out.hr.ne_row HRU.out.oL (by decide))).frozen (k := 0); have HOW5 := Lib.hid hown5; have HG5 := Lib.hid hgrow5; clear hi hz0 hz1 hz2 hown5 hgrow5)
          obtain ⟨h6, -⟩ := HRU.out.local HRW.out HOW5.out HG5.out
          generalize w5.setCell ⟨br, 0, none⟩ (.slice (some ⟨gg, 0, none⟩) (k + 1 + 1) capL) = V6 at h6 ⊢
          have hg6 := h6.below.size
          have q3 := h6.hr.cell (k := 1) rfl
          have HOF := Lib.hid h6.oF
          obtain ⟨AF, cF, rfl, -⟩ := own_form HOF.out
          have HR6 := Lib.hid h6
          clear h6 HRU HRW HOW5 HG5 q0 q1 f1 HOL HCN
          go_wp2_with (at_builtin; obtain ⟨i0, hi, hz0, hz1, hz2⟩ := info_parts Try.infoU64; refine wpList_append_lies _ rfl _ _ 67 rfl w.heap.size 121 i0 (.int .u64 0) 1 8 Try.underlying67 hi hz0 hz1 hz2 rfl (by decide) _ _ _ rfl (HOF.out.alloc _) ⟨V6.heap.size, 0, none⟩ 1 1 [.int .u64 bit] rfl rfl (cell_one_new _ _ _) (one_oneCell rfl) (by omega) (by unfold maxLen; omega) (by omega) (by simp; omega) (V6.heap.size + 1) (by simp) ?_; intro gf capF w7 hown7 hgrow7 _ _; have q4 := ((HR6.out.hr.alloc _).kept hgrow7 (HR6.out.hr.ne_row HR6.out.oF (by decide))).cell (k := 1) rfl; have f4 := ((HR6.out.hr.alloc _).kept hgrow7 (HR6.out.hr.ne_row HR6.out.oF (by decide))).frozen (k := 1); have HOW7 := Lib.hid hown7; have HG7 := Lib.hid hgrow7; clear hi hz0 hz1 hz2 hown7 hgrow7)
          go_roundw
          case rel =>
            have h7 := HOW7.out
            rw [show (Value.int .u64 bit : Value) = .int .u64 ((bit.toNat : Nat) : Int) from by rw [EB.out]] at h7
            obtain ⟨h8, -⟩ := HR6.out.facts h7 HG7.out
            exact ⟨k + 1, by omega, by go_num, by rw [← EX.out], by rw [← EY.out], _, _, _, h8⟩
          case measure => simp [intOf]; omega
        · have hx' : x' = 4 * x := by rw [s1, if_pos (by decide)]; omega
          have hy' : y' = 4 * y := by rw [s2, if_pos (by decide)]; omega
          clear s1 s2
          go_upto_region 12 with (fail)
          rw [← hx', ← hy']
          clear hx' hy'
          go_upto_region 13 with (at_builtin; obtain ⟨i0, hi, hz0, hz1, hz2⟩ := info_parts Try.infoInts; refine wpList_append_lies _ rfl _ _ 66 rfl w.heap.size 75 i0 (.slice none 0 0) 1 24 Try.underlying66 hi hz0 hz1 hz2 rfl (by decide) _ _ _ rfl (own_alloc' (own_alloc' HOL.out _) _) ⟨wc.heap.size + 1, 0, none⟩ 1 1 [.slice (some ⟨wc.heap.size, 0, none⟩) 2 2] rfl rfl HCN.out (one_oneCell rfl) (by omega) (by unfold maxLen; omega) (by omega) (by simp; omega) (wc.heap.size + 1 + 1) (by simp) ?_; intro gg capL w5 hown5 hgrow5 _ _; have q1 := ((HRU.out.hr.alloc _).kept hgrow5 (HRU.out.hr.ne_row HRU.out.oL (by decide))).cell (k := 0) rfl; have f1 := ((HRU.out.hr.alloc _).kept hgrow5 (HRU.out.hr.ne_row HRU.out.oL (by decide))).frozen (k := 0); have HOW5 := Lib.hid hown5; have HG5 := Lib.hid hgrow5; clear hi hz0 hz1 hz2 hown5 hgrow5)
          obtain ⟨h6, -⟩ := HRU.out.local HRW.out HOW5.out HG5.out
          generalize w5.setCell ⟨br, 0, none⟩ (.slice (some ⟨gg, 0, none⟩) (k + 1 + 1) capL) = V6 at h6 ⊢
          have hg6 := h6.below.size
          have q3 := h6.hr.cell (k := 1) rfl
          have HOF := Lib.hid h6.oF
          obtain ⟨AF, cF, rfl, -⟩ := own_form HOF.out
          have HR6 := Lib.hid h6
          clear h6 HRU HRW HOW5 HG5 q0 q1 f1 HOL HCN
          go_wp2_with (at_builtin; obtain ⟨i0, hi, hz0, hz1, hz2⟩ := info_parts Try.infoU64; refine wpList_append_lies _ rfl _ _ 67 rfl w.heap.size 121 i0 (.int .u64 0) 1 8 Try.underlying67 hi hz0 hz1 hz2 rfl (by decide) _ _ _ rfl (HOF.out.alloc _) ⟨V6.heap.size, 0, none⟩ 1 1 [.int .u64 bit] rfl rfl (cell_one_new _ _ _) (one_oneCell rfl) (by omega) (by unfold maxLen; omega) (by omega) (by simp; omega) (V6.heap.size + 1) (by simp) ?_; intro gf capF w7 hown7 hgrow7 _ _; have q4 := ((HR6.out.hr.alloc _).kept hgrow7 (HR6.out.hr.ne_row HR6.out.oF (by decide))).cell (k := 1) rfl; have f4 := ((HR6.out.hr.alloc _).kept hgrow7 (HR6.out.hr.ne_row HR6.out.oF (by decide))).frozen (k := 1); have HOW7 := Lib.hid hown7; have HG7 := Lib.hid hgrow7; clear hi hz0 hz1 hz2 hown7 hgrow7)
          go_roundw
          case rel =>
            have h7 := HOW7.out
            rw [show (Value.int .u64 bit : Value) = .int .u64 ((bit.toNat : Nat) : Int) from by rw [EB.out]] at h7
            obtain ⟨h8, -⟩ := HR6.out.facts h7 HG7.out
            exact ⟨k + 1, by omega, by go_num, by rw [← EX.out], by rw [← EY.out], _, _, _, h8⟩
          case measure => simp [intOf]; omega
    · obtain rfl : k = T := by omega
      obtain ⟨gl, cl, rfl⟩ := own_succ hri.oL
      obtain ⟨gf, cf, rfl⟩ := own_succ hri.oF
      have HRI := Lib.hid hri
      have r0 := hri.hr.cell (k := 0) rfl
      have r1 := hri.hr.cell (k := 1) rfl
      have s0 := hri.h8.cell (k := 0) rfl
      have s1 := hri.h8.cell (k := 1) rfl
      have f0 := hri.h8.frozen (k := 0)
      have hw1 := hri.h8.set 0 (.slice (some ⟨gl, 0, none⟩) (k + 1) cl)
      have g0 := hw1.cell (k := 1) rfl
      have g1 := hw1.frozen (k := 1)
      have hw2 := hw1.set 1 (.slice (some ⟨gf, 0, none⟩) (k + 1) cf)
      have q0 := hw2.cell (k := 0) rfl
      have q1 := hw2.cell (k := 1) rfl
      clear hri hw1 hw2 HL HM HX
      go_wp2_with fail
      obtain ⟨h1, h3⟩ := HRI.out.done (.slice (some ⟨gl, 0, none⟩) (k + 1) cl) (.slice (some ⟨gf, 0, none⟩) (k + 1) cf)
      exact bodyPost_ret (v := .agg #[.slice (some ⟨gl, 0, none⟩) (k + 1) cl, .slice (some ⟨gf, 0, none⟩) (k + 1) cf]) (by simp [results, Try.results87, go_sem, q0, q1]) rfl ⟨_, rfl, h1, h3⟩
end Go.Proofs.Ytahaimecchdfeaa

/-
  Walks of layer 54: Losses of the reference; rows of ints that a call owns; an append of a row.
-/
namespace Go.Proofs.Ytahaimecchdfeaa
open Go.RowKit

/-- Append of all that a row of the call's own holds, nil or not. -/
theorem wpList_append_row {P : Program} {w : World} {ops : Array Oper} {rest : List Oper} {o : Oper} {a : Act} {Q : Exit → Act → World → Prop} (hgd : o.guard = none) (s x : Operand) (t : TypeId)
    (ho : o.op = .call { callee := .builtin .append, args := #[s, x], argTypes := #[t, t] })
    (base : Nat) (e : TypeId) (i : TypeInfo) (z : Value) (size bytes : Nat) (ht : P.underlying t = some (.slice e)) (hi : P.info? e = some i) (hz : i.zero = some z)
    (hsize : i.size = size) (hby : i.bytes = bytes) (hzs : z.cells.size = size) (hsz : 0 < size)
    (v : Value) (n : Nat) (xs : List Value) (hs : a.eval s = v) (hown : w.ownsRow base e size v n xs)
    (base' : Nat) (rv : Value) (m : Nat) (ys : List Value) (hx : a.eval x = rv) (hrow : w.ownsRow base' e size rv m ys) (h1 : ∀ u ∈ ys, u.oneCell' = true)
    (h63 : n + m ≤ maxLen) (hbytes : (n + m) * bytes ≤ 140737488355328) (hbase : base ≤ w.heap.size)
    (h : ∀ v' w', w'.ownsRow base e size v' (n + m) (xs ++ ys) → w.grownBy w' v.ownBlock → wpList P ops Q rest (a.put o.dst v') w') :
    wpList P ops Q (o :: rest) a w := by
  rcases hrow.2 with ⟨h0, hm0⟩ | ⟨g, cap, cur, h0, -⟩
  · subst hm0
    have hy : ys = [] := List.eq_nil_of_length_eq_zero (by rw [hrow.1, Nat.zero_mul])
    subst hy
    refine wpList_append_own_none hgd s x t ho base e i size ht hi v n xs hs hown (hx.trans h0) (h v w ?_ ⟨rfl, rfl, rfl, Nat.le_refl _, fun _ _ _ => rfl⟩)
    rw [List.append_nil]; exact hown
  · subst h0
    exact wpList_append_own_at w hgd s x t ho base e i z size bytes ht hi hz hsize hby hzs hsz v n xs hs hown ⟨g, 0, none⟩ m cap ys hx hrow.1 (hrow.cells (g := g) rfl) h1 h63 hbytes hbase fun v' w' a1 a2 _ _ => h v' w' a1 a2
theorem i64_one (f : Nat → Int) (n : Nat) : ∀ u ∈ i64L f n, u.oneCell' = true := by
  intro u hu
  unfold i64L at hu
  obtain ⟨k, _, rfl⟩ := List.mem_map.1 hu
  rfl
theorem own_zero (w : World) (e : TypeId) {base : Nat} (hb : base ≤ w.heap.size) : (w.alloc (.cells #[] e)).ownsRow base e 1 (.slice (some ⟨w.heap.size, 0, none⟩) 0 0) 0 [] :=
  ⟨rfl, .inr ⟨w.heap.size, 0, #[], rfl, hb, heap_alloc_new w _, Nat.le_refl _, by decide, rfl, rfl⟩⟩
/-- Rows of ints, owned. -/
def LsO (w : World) (base : Nat) (v : Value) (ls : List (List Int)) : Prop :=
  ∃ rows, w.ownsRow base 75 1 v ls.length rows ∧ ∀ (i : Nat) (l : List Int), ls[i]? = some l → ∃ rv, rows[i]? = some rv ∧ w.ownsRow base 3 1 rv l.length (i64L (lf l) l.length)
section
variable {w w1 : World} {base : Nat} {v v' : Value} {ls : List (List Int)}
theorem LsO.nil (w : World) (base : Nat) : LsO w base (.slice none 0 0) [] := ⟨[], World.ownsRow_nil _ _ _ _, fun i d h => by simp at h⟩
theorem LsO.keeps (h : LsO w base v ls) (h0 : Keeps w w1 75) (h1 : Keeps w w1 3) : LsO w1 base v ls := by
  obtain ⟨rows, ho, hr⟩ := h
  exact ⟨rows, own_keeps ho h0, fun i d hi => let ⟨x, e1, h⟩ := hr i d hi; ⟨x, e1, own_keeps h h1⟩⟩
theorem LsO.below (h : LsO w base v ls) (hb : Below w.heap.size w w1) : LsO w1 base v ls := h.keeps (.of_below hb _) (.of_below hb _)
theorem LsO.mono {base' : Nat} (h : LsO w base v ls) (hb : base' ≤ base) : LsO w base' v ls := by
  obtain ⟨rows, ho, hr⟩ := h
  exact ⟨rows, own_mono' ho hb, fun i d hi => let ⟨x, e1, h⟩ := hr i d hi; ⟨x, e1, own_mono' h hb⟩⟩
theorem LsO.push {rows : List Value} {rv : Value} {l : List Int} {o : Obj} (ho : w.ownsRow base 75 1 v ls.length rows)
    (hr : ∀ (i : Nat) (l : List Int), ls[i]? = some l → ∃ rv, rows[i]? = some rv ∧ w.ownsRow base 3 1 rv l.length (i64L (lf l) l.length)) (hd : w.ownsRow base 3 1 rv l.length (i64L (lf l) l.length))
    (hown : w1.ownsRow base 75 1 v' (ls.length + 1) (rows ++ [rv])) (hg : (w.alloc o).grownBy w1 v.ownBlock) : LsO w1 base v' (ls ++ [l]) := by
  have hb := below_alloc w o
  have K : Keeps w w1 3 := (Keeps.of_below hb _).trans (Keeps.of_grown hg (own_alloc' ho o) (by decide))
  have hlen := ho.1
  refine ⟨rows ++ [rv], by rw [List.length_append]; exact hown, fun i d' hi => ?_⟩
  by_cases h1 : i < ls.length
  · rw [List.getElem?_append_left h1] at hi
    obtain ⟨x', e1, h⟩ := hr i d' hi
    exact ⟨x', by rw [List.getElem?_append_left (by omega)]; exact e1, own_keeps h K⟩
  · rw [List.getElem?_append_right (by omega)] at hi
    have h2 : i = ls.length := by
      have := (List.getElem?_eq_some_iff.1 hi).1
      simp at this
      omega
    subst h2
    simp at hi
    subst hi
    exact ⟨rv, by rw [List.getElem?_append_right (by omega)]; simp [hlen], own_keeps hd K⟩
/-- A row, and the cell that holds it. -/
theorem LsO.at (h : LsO w base v ls) {i : Nat} {l : List Int} (hi : ls[i]? = some l) : ∃ b c rv, v = .slice (some ⟨b, 0, none⟩) ls.length c ∧ w.cell? ⟨b, i, none⟩ = some rv ∧ w.ownsRow base 3 1 rv l.length (i64L (lf l) l.length) := by
  obtain ⟨rows, ho, hr⟩ := h
  obtain ⟨rv, h1, h2⟩ := hr i l hi
  obtain ⟨A, c, rfl, hA⟩ := own_form ho
  obtain ⟨b, rfl, _, _, hc⟩ := hA i (List.getElem?_eq_some_iff.1 hi).1
  rw [Nat.zero_add] at hc
  exact ⟨b, c, rv, rfl, hc.trans h1, h2⟩
end
/-- The lists that the loop over the lists of t masks has made. -/
def nxt (T i m : Nat) : List (List Int) := (((allL T []).take i).flatMap fun x => ([0, 2, 1, 3] : List Int).map fun y => x ++ [y]) ++ ((([0, 2, 1, 3] : List Int).take m).map fun y => ((allL T []).getD i []) ++ [y])
theorem nxt_start (T i : Nat) : nxt T i 0 = ((allL T []).take i).flatMap fun x => ([0, 2, 1, 3] : List Int).map fun y => x ++ [y] := by unfold nxt; simp
theorem nxt_step {T i m : Nat} {l : List Int} {x : Int} (hl : (allL T [])[i]? = some l) (hx : ([0, 2, 1, 3] : List Int)[m]? = some x) : nxt T i (m + 1) = nxt T i m ++ [l ++ [x]] := by
  unfold nxt
  rw [List.take_add_one, hx, List.map_append, ← List.append_assoc, List.getD_eq_getElem?_getD, hl]; rfl
theorem nxt_four {T i : Nat} {l : List Int} (hl : (allL T [])[i]? = some l) : nxt T i 4 = nxt T (i + 1) 0 := by
  rw [nxt_start, List.take_add_one, hl, List.flatMap_append]
  unfold nxt
  rw [List.getD_eq_getElem?_getD, hl]; simp
theorem nxt_end (T : Nat) : nxt T (allL T []).length 0 = allL (T + 1) [] := by
  rw [nxt_start, allL_snoc, List.take_of_length_le (Nat.le_refl _)]
theorem allL_len : ∀ (d : Nat) (l : List Int), (allL d l).length = 4 ^ d
  | 0, _ => rfl
  | d + 1, l => by
    simp only [allL, List.flatMap_cons, List.flatMap_nil, List.length_append, List.length_nil, allL_len d]
    rw [Nat.pow_succ]; omega
theorem four_le {T : Nat} (h : T ≤ 4) : 4 ^ T ≤ 256 := Nat.pow_le_pow_right (n := 4) (j := 4) (by decide) h
theorem nxt_len {T i m : Nat} (hT : T ≤ 4) (hm : m ≤ 4) : (nxt T i m).length ≤ 1028 := by
  unfold nxt
  rw [List.length_append, List.length_flatMap, List.length_map, List.length_take]
  have h1 : (((allL T []).take i).map fun x => ((([0, 2, 1, 3] : List Int).map fun y => x ++ [y]).length)).sum = 4 * ((allL T []).take i).length := by
    generalize (allL T []).take i = zs
    induction zs with
    | nil => rfl
    | cons z zs ih => rw [List.map_cons, List.sum_cons, ih, List.length_cons]; simp; omega
  rw [h1, List.length_take, allL_len]
  have := four_le hT
  omega
/-- The start: the nil list alone. -/
theorem LsO.one (w : World) (base : Nat) (hb : base ≤ w.heap.size) : LsO (w.alloc (.cells #[.slice none 0 0] 75)) base (.slice (some ⟨w.heap.size, 0, none⟩) 1 1) [[]] :=
  ⟨[.slice none 0 0], own_one (Blk.new w _ _) hb, fun i l h => by
    have hi : i = 0 := by
      have := (List.getElem?_eq_some_iff.1 h).1
      simp at this; omega
    subst hi
    have : l = [] := by simpa using h.symm
    subst this
    exact ⟨_, rfl, World.ownsRow_nil _ _ _ _⟩⟩
set_option maxHeartbeats 4000000 in
theorem Losses_any (T : Nat) (w : World) (hT : T ≤ 4) : Calls Try.prog 86 #[.int .i64 T] w fun e w' => ∃ v, e = .returned v ∧ LsO w' w.heap.size v (allL T []) ∧ Below w.heap.size w w' := by
  go_enter Try.func86, Try.ntmps86
  go_upto_region 2 with (fail)
  have HL := Lib.hid (LsO.one w w.heap.size (Nat.le_refl _))
  have HB := Lib.hid (below_alloc w (.cells #[.slice none 0 0] 75))
  generalize w.alloc (.cells #[.slice none 0 0] 75) = W at HL HB ⊢
  have hw0 := HB.out.size
  generalize Value.slice (some ⟨w.heap.size, 0, none⟩) 1 1 = ov0 at HL ⊢
  go_wp2_with fail
  go_loopw [3, 4] (fun uv tv wr => ∃ t : Nat, t ≤ T ∧ tv = .int .i64 t ∧ LsO wr w.heap.size uv (allL t []) ∧ Below w.heap.size w wr) (fun _ tv _ => T - (intOf tv).toNat)
  case atStart => exact ⟨0, Nat.zero_le _, rfl, HL.out, HB.out⟩
  case round =>
    clear HL HB hw0
    obtain ⟨t, ht, rfl, hls, hbl⟩ := hrel
    have HLS := Lib.hid hls
    have HBL := Lib.hid hbl
    by_cases hlt : t < T
    · have ht4 : t ≤ 4 := by omega
      have hpw := four_le ht4
      have hlen := allL_len t []
      obtain ⟨gO, cO, rfl⟩ : ∃ g c, u3 = .slice (some ⟨g, 0, none⟩) (allL t []).length c := by
        have h0 : 0 < 4 ^ t := Nat.pow_pos (by decide)
        obtain ⟨l, hl⟩ : ∃ l, (allL t [])[0]? = some l := ⟨_, List.getElem?_eq_getElem (by omega)⟩
        obtain ⟨b, c, _, e, _⟩ := hls.at hl
        exact ⟨b, c, e⟩
      obtain ⟨NL, eNL⟩ : ∃ n, n = (allL t []).length := ⟨_, rfl⟩
      rw [← eNL] at HLS hlen ⊢
      have ENL := Lib.hid eNL
      have hNL : NL ≤ 256 := by omega
      clear hlen hpw
      have hsV := hbl.size
      obtain ⟨V0, eW⟩ : ∃ V0, V0 = wr := ⟨_, rfl⟩
      subst eW
      clear hls hbl eNL
      go_wp2_with fail
      go_loopw [5, 6] (fun nv iv wx => ∃ i : Nat, i ≤ NL ∧ iv = .int .i64 i ∧ LsO wx V0.heap.size nv (nxt t i 0) ∧ Below V0.heap.size V0 wx) (fun _ iv _ => NL - (intOf iv).toNat)
      case atStart => exact ⟨0, Nat.zero_le _, rfl, LsO.nil _ _, Below.refl _ _⟩
      case round =>
        obtain ⟨i, hi, rfl, hnx, hbx⟩ := hrel
        by_cases hlti : i < NL
        · obtain ⟨l, hl⟩ : ∃ l, (allL t [])[i]? = some l := ⟨_, List.getElem?_eq_getElem (by rw [← ENL.out]; exact hlti)⟩
          have hlt4 : l.length ≤ 4 := by rw [(all_mem (List.mem_of_getElem? hl)).1]; exact ht4
          have HLL := Lib.hid hl
          obtain ⟨V1, eV1⟩ : ∃ V1, V1 = wr := ⟨_, rfl⟩
          subst eV1
          have HNX := Lib.hid hnx
          have HBX := Lib.hid hbx
          have hii : (i : Int) < (NL : Int) := by omega
          clear hnx hbx hl
          go_upto_region 10 with (fail)
          obtain ⟨V, hVe⟩ : ∃ V, V = V1.alloc (.cells #[.int .i64 0, .int .i64 2, .int .i64 1, .int .i64 3] 3) := ⟨_, rfl⟩
          have hbm := Blk.new V1 #[.int .i64 0, .int .i64 2, .int .i64 1, .int .i64 3] 3
          have hbv := below_alloc V1 (.cells #[.int .i64 0, .int .i64 2, .int .i64 1, .int .i64 3] 3)
          have HNX := Lib.hid (HNX.out.below hbv)
          have HBX := Lib.hid (below_trans HBX.out hbv)
          rw [← hVe] at hbm HNX HBX ⊢
          have HBM := Lib.hid hbm
          clear hbm hbv hVe
          generalize V1.heap.size = bm at HBM ⊢
          go_loopw [5, 23] (fun nv mv wx => ∃ m : Nat, m ≤ 4 ∧ mv = .int .i64 m ∧ LsO wx V0.heap.size nv (nxt t i m) ∧ Blk wx bm 3 #[.int .i64 0, .int .i64 2, .int .i64 1, .int .i64 3] ∧ Below V0.heap.size V0 wx) (fun _ mv _ => 4 - (intOf mv).toNat)
          case atStart => exact ⟨0, Nat.zero_le _, rfl, HNX.out, HBM.out, HBX.out⟩
          case round =>
            clear HNX HBM HBX
            obtain ⟨m, hm, rfl, hnx, hbm, hbz⟩ := hrel
            have hnl := nxt_len (i := i) (m := m) ht4 hm
            by_cases hlm : m < 4
            · obtain ⟨x, hx1, hx2, hx0, hx3⟩ := mask_at hlm
              have m0 := hbm.cell hx2
              have hLO := HLS.out.below hbz
              obtain ⟨bO, cO', rv, eO, cl0, hrow⟩ := hLO.at HLL.out
              injection eO with eO1 eO2 eO3
              injection eO1 with eO1
              injection eO1 with eO1 _ _
              subst eO1
              clear eO2 eO3
              obtain ⟨rows, ho, hr⟩ := hnx
              have hmm : (m : Int) < 4 := by omega
              have hsz := hbz.size
              have HROW := Lib.hid hrow
              have HO := Lib.hid ho
              have HR := Lib.hid hr
              have HBZ := Lib.hid hbz
              have HBM := Lib.hid hbm
              have HST := Lib.hid (nxt_step HLL.out hx1)
              obtain ⟨AN, cN, rfl, -⟩ := own_form ho
              have cl1 := cell_below (below_alloc wr (.cells #[] 3)) cl0
              clear hx1 hx2 hx0 hx3 hbz hLO hrow ho hr hbm
              go_wp2_with (first
                | (have hq := HOW2.out; at_builtin; obtain ⟨i0, hi, hz0, hz1, hz2⟩ := info_parts Try.infoInts; refine wpList_append_own_at _ rfl _ _ 66 rfl V0.heap.size 75 i0 (.slice none 0 0) 1 24 Try.underlying66 hi hz0 hz1 hz2 rfl (by decide) _ _ _ rfl (own_alloc' HO2.out _) ⟨w2.heap.size, 0, none⟩ 1 1 [.slice A2 (l.length + 1) c2] rfl rfl (cell_one_new _ _ _) (one_oneCell rfl) (by unfold maxLen; omega) (by omega) (by simp; omega) ?_; intro v3 w3 hown3 hg3 _ _; have HOW3 := Lib.hid hown3; have HG3 := Lib.hid hg3; clear hown3 hg3 hq hi hz0 hz1 hz2)
                | (have hq := HOW1.out; at_builtin; obtain ⟨i0, hi, hz0, hz1, hz2⟩ := info_parts Try.infoInt; refine wpList_append_own_at _ rfl _ _ 75 rfl wr.heap.size 3 i0 (.int .i64 0) 1 8 Try.underlying75 hi hz0 hz1 hz2 rfl (by decide) v1 l.length _ rfl (own_alloc' hq _) ⟨w1.heap.size, 0, none⟩ 1 1 [.int .i64 x] rfl rfl (cell_one_new _ _ _) (one_oneCell rfl) (by unfold maxLen; omega) (by omega) (by simp; omega) ?_; intro v2 w2 hown2 hg2 _ _; rw [← lf_append] at hown2; obtain ⟨A2, c2, rfl, -⟩ := own_form hown2; have HOW2 := Lib.hid hown2; have HB2 := Lib.hid (below_append HB1.out rfl hq hg2); have hs2 := HB2.out.size; have HO2 := Lib.hid (own_below' HO.out HB2.out (Nat.le_refl _)); clear hown2 hg2 hq hi hz0 hz1 hz2)
                | (at_builtin; obtain ⟨i0, hi, hz0, hz1, hz2⟩ := info_parts Try.infoInt; refine wpList_append_row rfl _ _ 75 rfl wr.heap.size 3 i0 (.int .i64 0) 1 8 Try.underlying75 hi hz0 hz1 hz2 rfl (by decide) _ 0 [] rfl (own_zero wr 3 (Nat.le_refl _)) w.heap.size rv l.length (i64L (lf l) l.length) rfl (own_alloc' HROW.out _) (i64_one _ _) (by unfold maxLen; omega) (by omega) (by simp) ?_; intro v1 w1 hown1 hg1; rw [Nat.zero_add, List.nil_append] at hown1; have HOW1 := Lib.hid hown1; have HB1 := Lib.hid (below_grow (below_alloc wr _) (own_zero wr 3 (Nat.le_refl _)) hg1); have hs1 := HB1.out.size; clear hown1 hg1 hi hz0 hz1 hz2))
              go_roundw
              case rel =>
                exact ⟨m + 1, by omega, by go_num, by rw [HST.out]; exact LsO.push HO2.out (fun k l' hk => let ⟨z, h1, h2⟩ := HR.out k l' hk; ⟨z, h1, own_below' h2 HB2.out (Nat.le_refl _)⟩) (by rw [List.length_append]; exact own_mono' HOW2.out hsz) HOW3.out HG3.out, ((HBM.out.below HB2.out).alloc _).kept_row (own_alloc' HO2.out _) (by decide) HG3.out, below_append (below_trans HBZ.out HB2.out) rfl HO2.out HG3.out⟩
              case measure => simp [intOf]; omega
            · obtain rfl : m = 4 := by omega
              rw [nxt_four HLL.out] at hnx
              have HNX := Lib.hid hnx
              have HBZ := Lib.hid hbz
              clear hnx hbz hbm
              go_wp2_with fail
              go_roundw
              case rel => exact ⟨i + 1, by omega, by go_num, HNX.out, HBZ.out⟩
              case measure => simp [intOf]; omega
        · obtain rfl : i = NL := by omega
          rw [ENL.out, nxt_end] at hnx
          have HNX := Lib.hid hnx
          have HBX := Lib.hid (below_trans HBL.out hbx)
          clear hnx hbx
          go_wp2_with fail
          go_roundw
          case rel => exact ⟨t + 1, by omega, by go_num, HNX.out.mono hsV, HBX.out⟩
          case measure => simp [intOf]; omega
    · obtain rfl : t = T := by omega
      clear hls hbl
      go_wp2_with fail
      go_ret
      exact ⟨_, rfl, HLS.out, HBL.out⟩
end Go.Proofs.Ytahaimecchdfeaa

/-
  Walks of layer 54: Lossy of the reference.
-/
namespace Go.Proofs.Ytahaimecchdfeaa
open Go.RowKit

/-- What the walk of the reference's Lossy holds: the boxes of the result, the protocol, the system; the runs, the masks. -/
structure RlI (w0 w : World) (b2 bE bS T : Nat) (eA lv vR : Value) (ps : List RunD) : Prop where
  below : Below w0.heap.size w0 w
  h2 : Blk w b2 24 #[.int .i64 0, .int .i64 0, .int .i64 0, .slice none 0 0]
  hE : Blk w bE 43 #[.int .i64 T, eA]
  hS : Blk w bS 24 #[.int .i64 2, .int .i64 1, .int .i64 ((T : Int) + 1), vR]
  ne : b2 ≠ bS
  ge : w0.heap.size ≤ b2 ∧ w0.heap.size ≤ bS
  runs : RunsO w w0.heap.size vR ps
  masks : LsO w w0.heap.size lv (allL T [])
section
variable {w0 w w1 : World} {b2 bE bS T : Nat} {eA lv vR : Value} {ps : List RunD}
theorem RlI.keep (h : RlI w0 w b2 bE bS T eA lv vR ps) (hb : Below w.heap.size w w1) : RlI w0 w1 b2 bE bS T eA lv vR ps :=
  ⟨h.below.trans (hb.mono h.below.size), h.h2.below hb, h.hE.below hb, h.hS.below hb, h.ne, h.ge, h.runs.below hb, h.masks.below hb⟩
theorem RlI.box (h : RlI w0 w b2 bE bS T eA lv vR ps) {rows : List Value} {N : Nat} {o : Obj} (ho : w.ownsRow w0.heap.size 69 2 vR N rows) (hg : (w.alloc o).grownBy w1 vR.ownBlock) :
    w1.cell? ⟨bS, 3, none⟩ = some vR ∧ w1.frozen? ⟨bS, 3, none⟩ = false := by
  have hb := below_alloc w o
  have hS1 := (h.hS.below hb).kept hg ((h.hS.below hb).ne_row' (own_alloc' ho o) (by decide))
  exact ⟨hS1.cell rfl, hS1.frozen⟩
theorem RlI.grow (h : RlI w0 w b2 bE bS T eA lv vR ps) {rows : List Value} {x y v' : Value} {d : RunD} {o : Obj} (ho : w.ownsRow w0.heap.size 69 2 vR ps.length rows)
    (hr : ∀ i d, ps[i]? = some d → ∃ x y, rows[i * 2]? = some x ∧ rows[i * 2 + 1]? = some y ∧ d.owned w w0.heap.size (.agg #[x, y])) (hd : d.owned w w0.heap.size (.agg #[x, y]))
    (hown : w1.ownsRow w0.heap.size 69 2 v' (ps.length + 1) (rows ++ [x, y])) (hg : (w.alloc o).grownBy w1 vR.ownBlock) :
    RlI w0 (w1.setCell ⟨bS, 3, none⟩ v') b2 bE bS T eA lv v' (ps ++ [d]) := by
  have hb := below_alloc w o
  have ho1 := own_alloc' ho o
  have hlt := ho1.lt
  have hsz : (w.alloc o).heap.size = w.heap.size + 1 := by simp
  have hS1 := (h.hS.below hb).kept hg ((h.hS.below hb).ne_row' ho1 (by decide))
  have h21 := (h.h2.below hb).kept hg ((h.h2.below hb).ne_row' ho1 (by decide))
  have hE1 := (h.hE.below hb).kept hg ((h.hE.below hb).ne_row' ho1 (by decide))
  have hR1 := RunsO.push ho hr hd hown hg
  have K : ∀ t : TypeId, t ≠ 69 → t ≠ 24 → Keeps w (w1.setCell ⟨bS, 3, none⟩ v') t := fun t h1 h2 => ((Keeps.of_below hb _).trans (Keeps.of_grown hg ho1 h1)).trans (.of_set hS1 h2 _ _)
  exact ⟨((h.below.alloc h.below.size o).grown hg (by have := h.below.size; omega) (fun k hk => (hlt k hk).1)).setCell (p := ⟨bS, 3, none⟩) h.ge.2 _, h21.set_ne h.ne _ _, hE1.set_ne (hE1.ne hS1 (by decide)) _ _, hS1.set 3 v', h.ne, h.ge,
    hR1.keeps (.of_set hS1 (by decide) _ _) (.of_set hS1 (by decide) _ _) (.of_set hS1 (by decide) _ _) (.of_set hS1 (by decide) _ _), h.masks.keeps (K _ (by decide) (by decide)) (K _ (by decide) (by decide))⟩
end
theorem runO_from {w x y : World} {v : Value} {n k : Nat} {m : Nat → Nat} {L : Nat → Nat → Int} {F : Nat → Nat} (h : Below w.heap.size w x) (hr : RunO y x.heap.size v n m L k F) : RunO y w.heap.size v n m L k F := RunO.mono hr h.size
theorem take_any {α : Type} {rs : List α} {k : Nat} {P : α → Prop} {q : α} (hq : rs[k]? = some q) : (∃ x, x ∈ rs.take (k + 1) ∧ P x) ↔ (∃ x, x ∈ rs.take k ∧ P x) ∨ P q := by
  rw [List.take_add_one, hq]
  constructor
  · rintro ⟨x, hx, hp⟩
    rcases List.mem_append.1 hx with h | h
    · exact .inl ⟨x, h, hp⟩
    · have : x = q := by simpa using h
      subst this; exact .inr hp
  · rintro (⟨x, hx, hp⟩ | hp)
    · exact ⟨x, List.mem_append.2 (.inl hx), hp⟩
    · exact ⟨q, List.mem_append.2 (.inr (by simp)), hp⟩
theorem ppR_at {ps : List (Int × List Int)} {i : Nat} (h : i < ps.length) : ps[i]? = some (ppR ps i) := by
  unfold ppR; rw [List.getD_eq_getElem?_getD, List.getElem?_eq_getElem h]; rfl
theorem rsAt_mem {snd : Int → Int → Int} {T i : Nat} {p : Int × List Int} (h : p ∈ rsAt snd T i) : (p.1 = 0 ∨ p.1 = 1) ∧ p.2.length = T ∧ ∀ k, 0 ≤ lf p.2 k ∧ lf p.2 k ≤ 3 := by
  have h1 := prs_mem.1 (List.mem_of_mem_take (List.mem_filter.1 h).1)
  exact ⟨h1.1, all_mem h1.2⟩
/-- The runs so far, kept with the bound on their number. -/
def RlK (w wr : World) (b2 bE bS T : Nat) (eA lv : Value) (snd : Int → Int → Int) (i : Nat) : Prop := (rsAt snd T i).length ≤ 64 ∧ ∃ vR, RlI w wr b2 bE bS T eA lv vR ((rsAt snd T i).map (mkR snd))
set_option maxHeartbeats 4000000 in
set_option maxRecDepth 100000 in
theorem rLossy_any (R : Int) (A : Option Addr) (n c : Nat) (fa fh fm : Nat → Int) (w : World) (hx : RuleS w A n fa fh fm) (hn : n ≤ 9223372036854775807) :
    Calls Try.prog 61 #[.agg #[.int .i64 R, .slice A n c]] w (SysPost w (losD R n fa fh fm) (losE R n fa fh fm)) := by
  have HX := Lib.hid hx
  have hC := fun w (h : RuleS w A n fa fh fm) => rCheck_any R A n c fa fh fm w h hn
  by_cases hE : exErr R n fa fh fm = 0
  case neg =>
    have hl : losE R n fa fh fm = exErr R n fa fh fm := if_neg hE
    have hd : losD R n fa fh fm = SysD.none := by unfold losD; rw [hl, if_neg hE]
    rw [hl, hd]
    obtain ⟨E, eE⟩ : ∃ E, E = exErr R n fa fh fm := ⟨_, rfl⟩
    rw [← eE] at hC hE ⊢
    have HC := Lib.hid hC
    have t1 : ((E : Int) != 0) = true := by rw [bne_iff_ne]; omega
    clear hC hx hl hd eE
    go_enter Try.func61, Try.ntmps61
    go_upto_region 1 with (fail)
    obtain ⟨W, hW⟩ : ∃ W, W = (w.alloc (.cells #[.int .i64 R, .slice A n c] 43)).alloc (.cells #[.int .i64 0, .int .i64 0, .int .i64 0, .slice none 0 0] 24) := ⟨_, rfl⟩
    rw [← hW]
    obtain ⟨hk0, hk1, hB⟩ := two_boxes4 w _ _ _ _ W hW
    have x0 := hk0.cell (k := 0) rfl
    have x1 := hk0.cell (k := 1) rfl
    have HXW := Lib.hid (HX.out.below hB)
    have HB := Lib.hid hB
    have HK1 := Lib.hid hk1
    clear hW hk0 hk1 hB HX
    go_upto_region 2 with (go_at_call 85; refine (HC.out _ (by exact HXW.out)).mono ?_; rintro e w1 ⟨rfl, hb1⟩; have HB1 := Lib.hid hb1; clear hb1)
    have hB2 := HB.out.trans (HB1.out.mono HB.out.size)
    obtain ⟨⟨c0, f0, c1, f1, c2, f2, c3, f3⟩, hk2⟩ := (HK1.out.below HB1.out).put4 (.int .i64 0) (.int .i64 0) (.int .i64 0) (.slice none 0 0)
    have q0 := hk2.cell (k := 0) rfl
    have q1 := hk2.cell (k := 1) rfl
    have q2 := hk2.cell (k := 2) rfl
    have q3 := hk2.cell (k := 3) rfl
    have HB2 := Lib.hid hB2
    clear hB2 hk2 HB1 HB HK1 HXW x0 x1
    go_wp2_with fail
    exact bodyPost_ret (v := .tuple #[.agg #[.int .i64 0, .int .i64 0, .int .i64 0, .slice none 0 0], .int .i64 E]) (by simp [results, Try.results61, go_sem, q0, q1, q2, q3]) rfl ⟨_, rfl, SysD.none_owned _ _, below_put4 HB2.out (by omega) _ _ _ _⟩
  case pos =>
    obtain ⟨hR0, hR4⟩ := exErr_R hE
    obtain ⟨T, rfl⟩ : ∃ T : Nat, R = T := ⟨R.toNat, by omega⟩
    have hT4 : T ≤ 4 := by omega
    have hs := snd_range hE
    obtain ⟨snd, esnd⟩ : ∃ snd, snd = sndV n fa fh fm := ⟨_, rfl⟩
    have HRUN := Lib.hid (fun (b : Int) (hb : 0 ≤ b ∧ b ≤ 1) (B : Option Addr) (d : Nat) (l : Nat → Int) (W : World) (hW : RuleS W A n fa fh fm) (hl : I64s W B T l) (hm : ∀ k, k < T → 0 ≤ l k ∧ l k ≤ 3) => rrun_any b A n c fa fh fm B T d l W hW hn hl hT4 hm hb hs)
    rw [← esnd] at hs HRUN
    rw [hE] at hC
    have HC := Lib.hid hC
    have HE := Lib.hid hE
    have HS := Lib.hid hs
    have ESND := Lib.hid esnd
    clear hC hE hx hs esnd
    go_enter Try.func61, Try.ntmps61
    go_upto_region 1 with (fail)
    obtain ⟨W, hW⟩ : ∃ W, W = (w.alloc (.cells #[.int .i64 T, .slice A n c] 43)).alloc (.cells #[.int .i64 0, .int .i64 0, .int .i64 0, .slice none 0 0] 24) := ⟨_, rfl⟩
    rw [← hW]
    obtain ⟨hk0, hk1, hB⟩ := two_boxes4 w _ _ _ _ W hW
    have x0 := hk0.cell (k := 0) rfl
    have x1 := hk0.cell (k := 1) rfl
    have HXW := Lib.hid (HX.out.below hB)
    have HB := Lib.hid hB
    have HK0 := Lib.hid hk0
    have HK1 := Lib.hid hk1
    clear hW hk0 hk1 hB
    go_upto_region 4 with (go_at_call 85; refine (HC.out _ (by exact HXW.out)).mono ?_; rintro e w1 ⟨rfl, hb1⟩; have HB1 := Lib.hid hb1; clear hb1)
    have HB2 := Lib.hid (HB.out.trans (HB1.out.mono HB.out.size))
    have HK0 := Lib.hid (HK0.out.below HB1.out)
    have HK1 := Lib.hid (HK1.out.below HB1.out)
    have x0 := HK0.out.cell (k := 0) rfl
    have hlt2 := HK1.out.lt
    have hlts := HB2.out.size
    clear HB HB1 HXW
    go_upto_region 5 with (fail)
    have hB3 := below_alloc w1 (.cells #[.int .i64 2, .int .i64 1, .int .i64 ((T : Int) + 1), .slice none 0 0] 24)
    have hS := Blk.new w1 #[.int .i64 2, .int .i64 1, .int .i64 ((T : Int) + 1), .slice none 0 0] 24
    have x0 := cell_below hB3 x0
    have HK0 := Lib.hid (HK0.out.below hB3)
    have HK1 := Lib.hid (HK1.out.below hB3)
    have HB2 := Lib.hid (HB2.out.trans (hB3.mono HB2.out.size))
    have HKS := Lib.hid hS
    clear hS hB3
    generalize w1.alloc (.cells #[.int .i64 2, .int .i64 1, .int .i64 ((T : Int) + 1), .slice none 0 0] 24) = V at x0 HK0 HK1 HB2 HKS ⊢
    obtain ⟨bS, ebS⟩ : ∃ b, b = w1.heap.size := ⟨_, rfl⟩
    rw [← ebS] at HKS hlt2 hlts ⊢
    clear ebS
    go_upto_region 6 with (go_at_call 86; refine (Losses_any T _ hT4).mono ?_; rintro e w2 ⟨lv, rfl, hls, hb1⟩; have HLS := Lib.hid hls; have HB1 := Lib.hid hb1; clear hls hb1)
    have hI0 : RlI w w2 (w.heap.size + 1) w.heap.size bS T (.slice A n c) lv (.slice none 0 0) ((rsAt snd T 0).map (mkR snd)) :=
      ⟨HB2.out.trans (HB1.out.mono HB2.out.size), HK1.out.below HB1.out, HK0.out.below HB1.out, HKS.out.below HB1.out, by omega, ⟨by omega, by omega⟩, RunsO.nil _ _, HLS.out.mono HB2.out.size⟩
    obtain ⟨gL, cL, elv⟩ : ∃ g c, lv = .slice (some ⟨g, 0, none⟩) (allL T []).length c := by
      have hp : 0 < (allL T []).length := by rw [allL_len]; exact Nat.pow_pos (by decide)
      obtain ⟨b, c', rv, e, -⟩ := hI0.masks.at (List.getElem?_eq_getElem hp)
      exact ⟨b, c', e⟩
    have hNL : (allL T []).length ≤ 256 := by rw [allL_len]; exact four_le hT4
    obtain ⟨NL, eNL⟩ : ∃ n, n = (allL T []).length := ⟨_, rfl⟩
    rw [← eNL] at elv hNL
    subst elv
    have HI := Lib.hid hI0
    have ENL := Lib.hid eNL
    clear hI0 eNL HLS HB1 HB2 HK0 HK1 HKS x0 hlt2 hlts
    go_wp2_with fail
    go_loopw [7] (fun bv wr => ∃ b : Nat, b ≤ 2 ∧ bv = .int .i64 b ∧ RlK w wr (w.heap.size + 1) w.heap.size bS T (.slice A n c) (.slice (some ⟨gL, 0, none⟩) NL cL) snd (b * NL)) (fun bv _ => 2 - (intOf bv).toNat)
    case atStart => exact ⟨0, Nat.zero_le _, rfl, by rw [Nat.zero_mul]; exact ⟨Nat.zero_le _, _, HI.out⟩⟩
    case round =>
      clear HI
      obtain ⟨b, hb2, rfl, hk⟩ := hrel
      have HK := Lib.hid hk
      clear hk
      by_cases hlb : b < 2
      · have hib : (b : Int) < 2 := by omega
        have hb01 : 0 ≤ (b : Int) ∧ (b : Int) ≤ 1 := by omega
        go_wp2_with fail
        go_loopw [8] (fun iv wr => ∃ i : Nat, i ≤ NL ∧ iv = .int .i64 i ∧ RlK w wr (w.heap.size + 1) w.heap.size bS T (.slice A n c) (.slice (some ⟨gL, 0, none⟩) NL cL) snd (b * NL + i)) (fun iv _ => NL - (intOf iv).toNat)
        case atStart => exact ⟨0, Nat.zero_le _, rfl, HK.out⟩
        case round =>
          clear HK
          obtain ⟨i, hi, rfl, hle, vR, hI⟩ := hrel
          have HI := Lib.hid hI
          by_cases hli : i < NL
          · have hii : (i : Int) < (NL : Int) := by omega
            obtain ⟨l, hl⟩ : ∃ l, (allL T [])[i]? = some l := ⟨_, List.getElem?_eq_getElem (by rw [← ENL.out]; exact hli)⟩
            have hp := prs_at hlb hl
            rw [← ENL.out] at hp
            have HLA := Lib.hid (los_at HS.out hT4 hp)
            have HP := Lib.hid hp
            obtain ⟨hlen, hmr⟩ := all_mem (List.mem_of_getElem? hl)
            obtain ⟨bb, cc', rv, eO, cl0, hrow⟩ := hI.masks.at hl
            injection eO with eO1 eO2 eO3
            injection eO1 with eO1
            injection eO1 with eO1 _ _
            subst eO1
            rw [hlen] at hrow
            obtain ⟨Ar, cr, rfl, hL⟩ := own_i64s hrow (fun k _ => by have := hmr k; omega)
            have HL := Lib.hid hL
            have x0 := hI.hE.cell (k := 0) rfl
            have x1 := hI.hE.cell (k := 1) rfl
            have HXV := Lib.hid (HX.out.below hI.below)
            have HLEN := Lib.hid hlen
            have HRN := Lib.hid (fun W hW hl => HRUN.out (b : Int) hb01 Ar cr (lf l) W hW hl (fun k _ => hmr k))
            have HMR := Lib.hid hmr
            obtain ⟨V0, eW⟩ : ∃ V0, V0 = wr := ⟨_, rfl⟩
            subst eW
            clear hl hp hlen hrow hL hI eO2 eO3 hmr
            go_upto_region 12 with (fail)
            have HSOF := Lib.hid (fun (y : World) (h : Below V0.heap.size V0 y) => (⟨h, cell_below h x0, cell_below h x1, cell_below h cl0⟩ : Below V0.heap.size V0 y ∧ y.cell? ⟨w.heap.size, 0, none⟩ = some (.int .i64 T) ∧ y.cell? ⟨w.heap.size, 1, none⟩ = some (.slice A n c) ∧ y.cell? ⟨gL, i, none⟩ = some (.slice Ar T cr)))
            have hb0 := Below.refl V0.heap.size V0
            clear x0 x1 cl0
            go_cut [9] (fun s9 wc => ∃ bR AL cL AF cF, s9 = .pointer (some ⟨bR, 0, none⟩) ∧ V0.heap.size ≤ bR ∧ Blk wc bR 69 #[.slice AL (T + 1) cL, .slice AF (T + 1) cF] ∧ RunO wc V0.heap.size (.agg #[.slice AL (T + 1) cL, .slice AF (T + 1) cF]) (T + 1) (fun _ => 2) (runL snd b (lf l)) (T + 1) (fun _ => (b : Int).toNat) ∧ Below V0.heap.size V0 wc)
            case first =>
              go_region_held3 (fun x => Below V0.heap.size V0 x ∧ x.cell? ⟨w.heap.size, 0, none⟩ = some (.int .i64 T) ∧ x.cell? ⟨w.heap.size, 1, none⟩ = some (.slice A n c) ∧ x.cell? ⟨gL, i, none⟩ = some (.slice Ar T cr)) (first | exact HSOF.out _ (by assumption) | exact HSOF.out _ (below_drew hb0) | exact HSOF.out _ (below_more (And.left (by assumption)) _) | exact HSOF.out _ (below_more (by assumption) _) | (exact HSOF.out _ (below_put2 (by assumption) (by first | exact Nat.le_refl _ | (have := HB6.size; omega)) _ _)))
                (first
                  | (go_at_call 87; refine (HRN.out _ (by exact HXV.out.below (And.left (by assumption))) (by exact HL.out.below (And.left (by assumption)))).mono ?_; rintro e w6 ⟨v6, rfl, hrun, HC6⟩; obtain ⟨AL, cAL, AF, cF, rfl⟩ := hrun.shape; have HB6 := below_trans (And.left (by assumption)) HC6; have HR6 := Lib.hid (runO_from (And.left (by assumption)) hrun); clear hrun; (first | (have hbx : Blk w6 V0.heap.size 69 #[.slice none 0 0, .slice none 0 0] := (by (repeat (first | exact Blk.new' _ _ _ _ (by first | (simp; done) | fail) | refine Blk.below ?_ HC6 | refine Blk.alloc ?_ _)); (first | done | fail)); have q0 := hbx.cell (k := 0) rfl; have q1 := hbx.cell (k := 1) rfl; have f0 := hbx.frozen (k := 0); have f1 := hbx.frozen (k := 1); have g1 := (hbx.set 0 (.slice AL (T + 1) cAL)).cell (k := 1) rfl; have g2 := (hbx.set 0 (.slice AL (T + 1) cAL)).frozen (k := 1)) | skip))
                  | fail)
              all_goals (go_wp2_with fail; go_meet; (first | exact ⟨_, AL, cAL, AF, cF, rfl, HB6.size, Blk.new _ _ _, RunO.below HR6.out (below_alloc _ _), And.left (by assumption)⟩ | exact ⟨_, AL, cAL, AF, cF, rfl, Nat.le_refl _, (hbx.set 0 _).set 1 _, RunO.put2 HR6.out hbx _ _, And.left (by assumption)⟩))
            case rest =>
              obtain ⟨bR, AL, cAL, AF, cF, rfl, hge, hbR, hrun, hbc⟩ := hcut
              have hI := HI.out.keep hbc
              obtain ⟨rs, ers⟩ : ∃ rs, rs = rsAt snd T (b * NL + i) := ⟨_, rfl⟩
              have hla : (∃ q, q ∈ rs ∧ SamR snd q ((b : Int), l)) ↔ okP snd ((b : Int), l) = false := by rw [ers]; exact HLA.out
              rw [← ers] at hle hI
              obtain ⟨AR, cR, evR, hRR⟩ := los_read hI.runs (fun p hp => by
                rw [ers] at hp
                have := rsAt_mem hp
                exact ⟨by rw [this.2.1]; omega, by rcases this.1 with h | h <;> rw [h] <;> decide⟩)
              subst evR
              have hrd : RunR wc (.agg #[.slice AL (T + 1) cAL, .slice AF (T + 1) cF]) (T + 1) (fun _ => 2) (runL snd b (lf l)) (T + 1) (fun _ => (b : Int).toNat) := RunO.read hrun (fun _ _ => by decide) (fun t j _ _ => runL_range _ _ _ _ _) (fun _ _ => by show (b : Int).toNat < _; omega)
              have S3 := Lib.hid (hI.hS.cell (k := 3) rfl)
              have R0 := Lib.hid (hbR.cell (k := 0) rfl)
              have R1 := Lib.hid (hbR.cell (k := 1) rfl)
              have HI1 := Lib.hid hI
              have HRR := Lib.hid hRR
              have HRD := Lib.hid hrd
              have HRU := Lib.hid (RunO.mono hrun HI.out.below.size)
              have HLA1 := Lib.hid hla
              have ERS := Lib.hid ers
              obtain ⟨V1, eW⟩ : ∃ V1, V1 = wc := ⟨_, rfl⟩
              subst eW
              clear hI hla hRR hrd hrun hbR hbc ers HLA HI HSOF hb0 HRN HL HXV
              go_wp2_with fail
              go_loopw [10, 11] (fun fv kv wx => ∃ k : Nat, k ≤ rs.length ∧ kv = .int .i64 k ∧ ∃ f : Bool, fv = .bool f ∧ Hid (f = true ↔ ∃ q, q ∈ rs.take k ∧ SamR snd q ((b : Int), l)) ∧ Below V1.heap.size V1 wx) (fun _ kv _ => rs.length - (intOf kv).toNat)
              case atStart => exact ⟨0, Nat.zero_le _, rfl, false, rfl, Lib.hid (by simp), Below.refl _ _⟩
              case round =>
                obtain ⟨k, hk, rfl, f, rfl, HF, hbx⟩ := hrel
                have HBX := Lib.hid hbx
                have s3 := cell_below hbx S3.out
                by_cases hlk : k < rs.length
                · obtain ⟨bb, off, u, v, rfl, e0, e1, hT1, hK1, hr⟩ := HRR.out.below hbx k hlk
                  have r0 := cell_below hbx R0.out
                  have r1 := cell_below hbx R1.out
                  have hkk : (k : Int) < (rs.length : Int) := by omega
                  have hk0 : (0 : Int) ≤ (k : Int) := by omega
                  have HTK := Lib.hid (take_any (P := fun q => SamR snd q ((b : Int), l)) (ppR_at hlk))
                  cases f
                  · obtain ⟨Bk, hBk⟩ : ∃ Bk : Bool, Bk = true ↔ SamR snd (ppR rs k) ((b : Int), l) := by
                      by_cases hs : SamR snd (ppR rs k) ((b : Int), l)
                      · exact ⟨true, ⟨fun _ => hs, fun _ => rfl⟩⟩
                      · exact ⟨false, ⟨fun h => (by cases h), fun h => absurd h hs⟩⟩
                    have hsm := hBk
                    unfold SamR at hsm
                    have eT : (mkR snd ((b : Int), l)).n = T + 1 := by show l.length + 1 = T + 1; rw [HLEN.out]
                    have eK : (mkR snd ((b : Int), l)).k = T + 1 := by show l.length + 1 = T + 1; rw [HLEN.out]
                    rw [eT, eK] at hsm
                    have HSM := Lib.hid (fun W (h1 : RunR W (.agg #[u, v]) ((ppR rs k).2.length + 1) (fun _ => 2) (runL snd (ppR rs k).1 (lf (ppR rs k).2)) ((ppR rs k).2.length + 1) (fun _ => (ppR rs k).1.toNat)) (h2 : RunR W (.agg #[.slice AL (T + 1) cAL, .slice AF (T + 1) cF]) (T + 1) (fun _ => 2) (runL snd b (lf l)) (T + 1) (fun _ => (b : Int).toNat)) => SameRun_any _ _ _ _ _ _ _ _ _ _ _ _ W h1 h2 hT1 hK1 Bk hsm)
                    have HR1 := Lib.hid hr
                    have HR2 := Lib.hid (HRD.out.below hbx)
                    have HFN : Hid (Bk = true ↔ ∃ q, q ∈ rs.take (k + 1) ∧ SamR snd q ((b : Int), l)) := Lib.hid (by
                      rw [HTK.out]
                      constructor
                      · exact fun h => .inr (hBk.1 h)
                      · rintro (h | h)
                        · exact absurd (HF.out.2 h) (by simp)
                        · exact hBk.2 h)
                    clear hBk hsm eT eK hr hbx HF HTK hT1 hK1
                    go_wp2_with fail
                    go_region_held3 (fun x => x.cell? ⟨bS, 3, none⟩ = some (.slice (some ⟨bb, off, none⟩) rs.length cR) ∧ x.cell? ⟨bb, off + k * 2, none⟩ = some u ∧ x.cell? ⟨bb, off + k * 2 + 1, none⟩ = some v ∧ x.cell? ⟨bR, 0, none⟩ = some (.slice AL (T + 1) cAL) ∧ x.cell? ⟨bR, 1, none⟩ = some (.slice AF (T + 1) cF)) (first | exact ⟨s3, e0, e1, r0, r1⟩ | exact ⟨by assumption, by assumption, by assumption, by assumption, by assumption⟩)
                      (first | (go_at_call 88; refine (HSM.out _ (by exact HR1.out) (by exact HR2.out)).mono ?_; rintro e w3 ⟨rfl, hb1⟩; have HB3 : Hid (Below wr.heap.size wr w3) := Lib.hid ⟨hb1.os, hb1.tape, hb1.output, hb1.size, hb1.block⟩; have s3 := cell_below HB3.out s3; have e0 := cell_below HB3.out e0; have e1 := cell_below HB3.out e1; have r0 := cell_below HB3.out r0; have r1 := cell_below HB3.out r1; clear hb1))
                    have HB4 := Lib.hid (below_trans HBX.out HB3.out)
                    clear HBX HB3 HSM HR1 HR2 e0 e1 r0 r1
                    go_wp2_with fail
                    go_roundw
                    case rel => exact ⟨k + 1, by omega, by go_num, Bk, rfl, HFN, HB4.out⟩
                    case measure => simp [intOf]; omega
                  · have HFN : Hid (true = true ↔ ∃ q, q ∈ rs.take (k + 1) ∧ SamR snd q ((b : Int), l)) := Lib.hid (by
                      rw [HTK.out]
                      exact ⟨fun h => .inl (HF.out.1 h), fun _ => rfl⟩)
                    clear hr hbx HF HTK hT1 hK1
                    go_wp2_with fail
                    go_quiet (fail)
                    go_wp2_with fail
                    go_roundw
                    case rel => exact ⟨k + 1, by omega, by go_num, true, rfl, Lib.hid (by simpa using HFN.out), below_drewN HBX.out _⟩
                    case measure => simp [intOf]; omega
                · obtain rfl : k = rs.length := by omega
                  have HF2 := HF.out
                  rw [List.take_length, HLA1.out] at HF2
                  have hI2 := HI1.out.keep hbx
                  have R0 := Lib.hid (cell_below hbx R0.out)
                  have R1 := Lib.hid (cell_below hbx R1.out)
                  have HD0 : Hid ((mkR snd ((b : Int), l)).owned wr w.heap.size (.agg #[.slice AL (T + 1) cAL, .slice AF (T + 1) cF])) := Lib.hid (by
                    show RunO wr w.heap.size _ (l.length + 1) (fun _ => 2) (runL snd b (lf l)) (l.length + 1) (fun _ => (b : Int).toNat)
                    rw [HLEN.out]
                    exact RunO.below HRU.out hbx)
                  clear hbx HF HRR HRD S3 HRU HI1
                  have s3 := hI2.hS.cell (k := 3) rfl
                  cases f
                  · have hok : okP snd ((b : Int), l) = true := by
                      cases h : okP snd ((b : Int), l)
                      · exact absurd (HF2.2 h) (by simp)
                      · rfl
                    have HST := Lib.hid (rsAt_yes HP.out hok)
                    rw [← ERS.out] at HST
                    obtain ⟨rows1, ho1, hr1⟩ := hI2.runs
                    have ho2 : wr.ownsRow w.heap.size 69 2 (.slice AR rs.length cR) rs.length rows1 := by rw [List.length_map] at ho1; exact ho1
                    have hsz := hI2.below.size
                    have HI2 := Lib.hid hI2
                    have HR := Lib.hid hr1
                    have HO := Lib.hid ho1
                    have r0 := R0.out
                    have r1 := R1.out
                    have hlenm : (List.map (mkR snd) rs).length = rs.length := List.length_map _
                    have HLM := Lib.hid hlenm
                    clear hI2 hr1 ho1 HF2 hok hlenm R0 R1 HLA1
                    go_upto_region 20 with (at_builtin; obtain ⟨i0, hi, hz0, hz1, hz2⟩ := info_parts Try.infoRun; refine wpList_append_lies _ (by rfl) _ _ 22 (by rfl) w.heap.size 69 i0 _ 2 48 Try.underlying22 hi hz0 hz1 hz2 rfl (by decide) (.slice AR rs.length cR) rs.length rows1 (by rfl) (own_alloc' ho2 _) ⟨wr.heap.size, 0, none⟩ 1 1 [.slice AL (T + 1) cAL, .slice AF (T + 1) cF] (by rfl) (by rfl) (World.news_of_block (cs := #[.slice AL (T + 1) cAL, .slice AF (T + 1) cF]) (t := 69) (fr := (0, 0)) (heap_alloc_new wr _)) (by simp [Value.oneCell']) (by decide) (by unfold maxLen; omega) (by omega) (by simp; omega) (wr.heap.size + 1) (by simp) ?_; intro gf capF w7 hown7 hgrow7 _ _; obtain ⟨q3, f3⟩ := HI2.out.box ho2 hgrow7; have HOW7 := Lib.hid hown7; have HG7 := Lib.hid hgrow7; clear hi hz0 hz1 hz2 hown7 hgrow7)
                    have hh := HOW7.out
                    have hI3 := HI2.out.grow HO.out HR.out HD0.out (by rw [HLM.out]; exact hh) HG7.out
                    have s4 := hI3.hS.cell (k := 3) rfl
                    have HI3 : Hid (RlI w (w7.setCell ⟨bS, 3, none⟩ (.slice (some ⟨gf, 0, none⟩) (rs.length + 1) capF)) (w.heap.size + 1) w.heap.size bS T (.slice A n c) (.slice (some ⟨gL, 0, none⟩) NL cL) (.slice (some ⟨gf, 0, none⟩) (rs.length + 1) capF) ((rsAt snd T (b * NL + i + 1)).map (mkR snd))) := Lib.hid (by
                      rw [HST.out, List.map_append]; exact hI3)
                    generalize w7.setCell ⟨bS, 3, none⟩ (.slice (some ⟨gf, 0, none⟩) (rs.length + 1) capF) = V8 at s4 HI3 ⊢
                    clear hI3 hh HOW7 HG7 HI2 HR HO HD0 ho2 q3 f3 r0 r1 s3 hsz
                    by_cases h64 : rs.length = 64
                    · have hov : 64 < (losRs snd T).length := rsAt_over (i := b * NL + i + 1) (by rw [HST.out, List.length_append, h64]; show 64 < 64 + 1; decide)
                      have hE8 : losE T n fa fh fm = 8 := by
                        unfold losE; rw [if_pos HE.out, Int.toNat_natCast, ← ESND.out, if_pos hov]
                      have HED := Lib.hid hE8
                      have HDD := Lib.hid (show losD T n fa fh fm = SysD.none by unfold losD; rw [hE8]; rfl)
                      have tov : decide ((64 : Int) < ((rs.length + 1 : Nat) : Int)) = true := decide_eq_true (by omega)
                      have tov1 : decide ((64 : Int) < (rs.length : Int) + 1) = true := decide_eq_true (by omega)
                      have tov2 : decide (64 < rs.length + 1) = true := decide_eq_true (by omega)
                      obtain ⟨⟨c0, f0, c1, f1, c2, f2, c3, f3⟩, hk2⟩ := HI3.out.h2.put4 (.int .i64 0) (.int .i64 0) (.int .i64 0) (.slice none 0 0)
                      have q0 := hk2.cell (k := 0) rfl
                      have q1 := hk2.cell (k := 1) rfl
                      have q2 := hk2.cell (k := 2) rfl
                      have q3 := hk2.cell (k := 3) rfl
                      have HB3 := Lib.hid HI3.out.below
                      clear hk2 HI3 h64 hov hE8 hle
                      go_wp2_with fail
                      exact bodyPost_ret (v := .tuple #[.agg #[.int .i64 0, .int .i64 0, .int .i64 0, .slice none 0 0], .int .i64 8]) (by simp [results, Try.results61, go_sem, q0, q1, q2, q3]) rfl (show SysPost w (losD T n fa fh fm) (losE T n fa fh fm) _ _ from by rw [HDD.out, HED.out]; exact ⟨_, rfl, SysD.none_owned _ _, below_put4 HB3.out (by omega) _ _ _ _⟩)
                    · have tov : decide ((64 : Int) < ((rs.length + 1 : Nat) : Int)) = false := decide_eq_false (by omega)
                      have tov1 : decide ((64 : Int) < (rs.length : Int) + 1) = false := decide_eq_false (by omega)
                      have tov2 : decide (64 < rs.length + 1) = false := decide_eq_false (by omega)
                      have HLE := Lib.hid (show (rsAt snd T (b * NL + i + 1)).length ≤ 64 by rw [HST.out, List.length_append]; show rs.length + 1 ≤ 64; omega)
                      clear h64 hle
                      go_wp2_with fail
                      go_roundw
                      case rel => exact ⟨i + 1, by omega, by go_num, HLE.out, _, HI3.out⟩
                      case measure => simp [intOf]; omega
                  · have hok := HF2.1 rfl
                    have HST := Lib.hid (rsAt_no HP.out hok)
                    rw [← ERS.out] at HST
                    have HI3 : Hid (RlI w wr (w.heap.size + 1) w.heap.size bS T (.slice A n c) (.slice (some ⟨gL, 0, none⟩) NL cL) (.slice AR rs.length cR) ((rsAt snd T (b * NL + i + 1)).map (mkR snd))) := Lib.hid (by rw [HST.out]; exact hI2)
                    have HLE := Lib.hid (show (rsAt snd T (b * NL + i + 1)).length ≤ 64 by rw [HST.out]; exact hle)
                    have tov : decide ((64 : Int) < (rs.length : Int)) = false := decide_eq_false (by omega)
                    have tov2 : decide (64 < rs.length) = false := decide_eq_false (by omega)
                    clear hI2 HF2 hok R0 R1 HLA1 HD0 hle
                    go_wp2_with fail
                    go_roundw
                    case rel => exact ⟨i + 1, by omega, by go_num, HLE.out, _, HI3.out⟩
                    case measure => simp [intOf]; omega
          · obtain rfl : i = NL := by omega
            have HK2 : Hid (RlK w wr (w.heap.size + 1) w.heap.size bS T (.slice A n c) (.slice (some ⟨gL, 0, none⟩) i cL) snd ((b + 1) * i)) := Lib.hid (by rw [Nat.succ_mul]; exact ⟨hle, vR, HI.out⟩)
            clear hI hle
            go_wp2_with fail
            go_roundw
            case rel => exact ⟨b + 1, by omega, by go_num, HK2.out⟩
            case measure => simp [intOf]; omega
      · obtain rfl : b = 2 := by omega
        obtain ⟨hle, vR, hI⟩ := HK.out
        have hend := rsAt_end hle (by rw [prs_len, ← ENL.out]; omega)
        obtain ⟨rs, ers⟩ : ∃ rs, rs = rsAt snd T (2 * NL) := ⟨_, rfl⟩
        rw [← ers] at hle hI hend
        have hE0 : losE T n fa fh fm = 0 := by
          unfold losE; rw [if_pos HE.out, Int.toNat_natCast, ← ESND.out, hend, if_neg (by omega)]
        have HED := Lib.hid hE0
        have HDD := Lib.hid (show losD T n fa fh fm = ⟨2, 1, (T : Int) + 1, rs.map (mkR snd)⟩ by
          unfold losD; rw [hE0, if_pos rfl, Int.toNat_natCast, ← ESND.out, hend])
        obtain ⟨rows, ho, -⟩ := hI.runs
        obtain ⟨AR, cR, rfl, -⟩ := own_form' ho
        rw [List.length_map] at hI
        have d0 := hI.hS.cell (k := 0) rfl
        have d1 := hI.hS.cell (k := 1) rfl
        have d2 := hI.hS.cell (k := 2) rfl
        have d3 := hI.hS.cell (k := 3) rfl
        obtain ⟨⟨c0, f0, c1, f1, c2, f2, c3, f3⟩, hk2⟩ := hI.h2.put4 (.int .i64 2) (.int .i64 1) (.int .i64 ((T : Int) + 1)) (.slice AR rs.length cR)
        have q0 := hk2.cell (k := 0) rfl
        have q1 := hk2.cell (k := 1) rfl
        have q2 := hk2.cell (k := 2) rfl
        have q3 := hk2.cell (k := 3) rfl
        have HB3 := Lib.hid hI.below
        have HRU := Lib.hid (hI.runs.keeps (Keeps.put4 hI.h2 (by decide) (.int .i64 2) (.int .i64 1) (.int .i64 ((T : Int) + 1)) (.slice AR rs.length cR)) (Keeps.put4 hI.h2 (by decide) _ _ _ _) (Keeps.put4 hI.h2 (by decide) _ _ _ _) (Keeps.put4 hI.h2 (by decide) _ _ _ _))
        clear hI hk2 ho hE0 HK hend ers hle
        go_wp2_with fail
        exact bodyPost_ret (v := .tuple #[.agg #[.int .i64 2, .int .i64 1, .int .i64 ((T : Int) + 1), .slice AR rs.length cR], .int .i64 0]) (by simp [results, Try.results61, go_sem, q0, q1, q2, q3]) rfl (show SysPost w (losD T n fa fh fm) (losE T n fa fh fm) _ _ from by rw [HDD.out, HED.out]; exact ⟨_, rfl, ⟨_, rfl, HRU.out⟩, below_put4 HB3.out (by omega) _ _ _ _⟩)
end Go.Proofs.Ytahaimecchdfeaa

/-
  Walks: the reference's point, fact and alike, of a system that is read.
-/
namespace Go.Proofs.Ytahaimecchdfeaa
open Go.RowKit

theorem rshr_bit (Z k : Nat) : (((Z : Int) / 2 ^ k).tmod 2 == 1) = Z.testBit k := by
  have e : ((Z : Int) / 2 ^ k) = ((Z / 2 ^ k : Nat) : Int) := by rw [Int.natCast_ediv, Int.natCast_pow]; rfl
  rw [e, Nat.testBit_eq_decide_div_mod_eq]
  generalize Z / 2 ^ k = q
  show (((q % 2 : Nat) : Int) == 1) = _
  rw [Bool.eq_iff_iff, beq_iff_eq, decide_eq_true_eq]
  omega
theorem sys_below {w w' : World} {x : Value} {a f l : Int} {n : Nat} {T : Nat → Nat} {m : Nat → Nat → Nat} {L : Nat → Nat → Nat → Int} {K : Nat → Nat} {F : Nat → Nat → Nat} (h : SysR w x a f l n T m L K F) (hb : Below w.heap.size w w') : SysR w' x a f l n T m L K F := by
  obtain ⟨A, c, e, hr⟩ := h
  exact ⟨A, c, e, hr.below hb⟩
set_option maxHeartbeats 2000000 in
theorem rpoint_any (x : Value) (a f l : Int) (n : Nat) (T : Nat → Nat) (m : Nat → Nat → Nat) (L : Nat → Nat → Nat → Int) (K : Nat → Nat) (F : Nat → Nat → Nat) (r t : Int) (w : World) (h : SysR w x a f l n T m L K F) :
    Calls Try.prog 44 #[x, .agg #[.int .i64 r, .int .i64 t]] w fun e w' => e = .returned (.bool (decide (inP n l.toNat r t))) ∧ Below w.heap.size w w' := by
  obtain ⟨A, c, rfl, -⟩ := h
  obtain ⟨W, hW⟩ : ∃ W, W = (w.alloc (.cells #[.int .i64 a, .int .i64 f, .int .i64 l, .slice A n c] 24)).alloc (.cells #[.int .i64 r, .int .i64 t] 26) := ⟨_, rfl⟩
  obtain ⟨k0, k1, hB⟩ := two_boxes4 w _ _ _ _ W hW
  have q2 := k0.cell (k := 2) rfl
  have q3 := k0.cell (k := 3) rfl
  have p0 := k1.cell (k := 0) rfl
  have p1 := k1.cell (k := 1) rfl
  obtain ⟨V, eV⟩ : ∃ V, V = decide (inP n l.toNat r t) := ⟨_, rfl⟩
  rw [← eV]
  have HV : Hid (V = (decide (0 ≤ r) && decide (r < (n : Int)) && decide (0 ≤ t) && decide (t < l))) := Lib.hid (by
    rw [eV, Bool.eq_iff_iff, decide_eq_true_eq]
    simp only [Bool.and_eq_true, decide_eq_true_eq]
    unfold inP
    constructor
    · rintro ⟨⟨h1, h2⟩, h3, h4⟩
      exact ⟨⟨⟨h1, h2⟩, h3⟩, by omega⟩
    · rintro ⟨⟨⟨h1, h2⟩, h3⟩, h4⟩
      exact ⟨⟨h1, h2⟩, h3, by omega⟩)
  clear eV k0 k1
  go_enter Try.func44, Try.ntmps44
  go_upto_region 1 with (fail)
  rw [← hW]
  clear hW
  by_cases h1 : 0 ≤ r
  case neg =>
    have t1 : decide (r ≥ 0) = false := decide_eq_false h1
    have t1' : decide (0 ≤ r) = false := decide_eq_false h1
    go_wp2_with fail
    go_ret
    exact ⟨by rw [HV.out, t1']; rfl, hB⟩
  have t1 : decide (r ≥ 0) = true := decide_eq_true h1
  have t1' : decide (0 ≤ r) = true := decide_eq_true h1
  by_cases h2 : r < (n : Int)
  case neg =>
    have t2 : decide (r < (n : Int)) = false := decide_eq_false h2
    go_wp2_with fail
    go_ret
    exact ⟨by rw [HV.out, t1', t2]; rfl, hB⟩
  have t2 : decide (r < (n : Int)) = true := decide_eq_true h2
  by_cases h3 : 0 ≤ t
  case neg =>
    have t3 : decide (t ≥ 0) = false := decide_eq_false h3
    have t3' : decide (0 ≤ t) = false := decide_eq_false h3
    go_wp2_with fail
    go_ret
    exact ⟨by rw [HV.out, t1', t2, t3']; rfl, hB⟩
  have t3 : decide (t ≥ 0) = true := decide_eq_true h3
  have t3' : decide (0 ≤ t) = true := decide_eq_true h3
  by_cases h4 : t < l
  case neg =>
    have t4 : decide (t < l) = false := decide_eq_false h4
    go_wp2_with fail
    go_ret
    exact ⟨by rw [HV.out, t1', t2, t3', t4]; rfl, hB⟩
  have t4 : decide (t < l) = true := decide_eq_true h4
  go_wp2_with fail
  go_ret
  exact ⟨by rw [HV.out, t1', t2, t3', t4]; rfl, hB⟩
set_option maxHeartbeats 2000000 in
theorem rfact_any (x : Value) (a f l : Int) (n : Nat) (T : Nat → Nat) (m : Nat → Nat → Nat) (L : Nat → Nat → Nat → Int) (K : Nat → Nat) (F : Nat → Nat → Nat) (r t fc : Nat) (w : World) (h : SysR w x a f l n T m L K F) (hr : r < n) (ht : t < K r) (hfc : fc ≤ 8) :
    Calls Try.prog 50 #[x, .agg #[.int .i64 r, .int .i64 t], .int .i64 fc] w fun e w' => e = .returned (.bool (facB2 F (r, t) fc)) ∧ Below w.heap.size w w' := by
  obtain ⟨A, c, rfl, hR⟩ := h
  obtain ⟨g4, o4, rfl⟩ : ∃ g o, A = some ⟨g, o, none⟩ := by
    obtain ⟨g, o, _, _, e, -⟩ := hR r hr
    exact ⟨g, o, e⟩
  obtain ⟨W, hW⟩ : ∃ W, W = (w.alloc (.cells #[.int .i64 a, .int .i64 f, .int .i64 l, .slice (some ⟨g4, o4, none⟩) n c] 24)).alloc (.cells #[.int .i64 r, .int .i64 t] 26) := ⟨_, rfl⟩
  obtain ⟨k0, k1, hB⟩ := two_boxes4 w _ _ _ _ W hW
  have q3 := k0.cell (k := 3) rfl
  have p0 := k1.cell (k := 0) rfl
  have p1 := k1.cell (k := 1) rfl
  obtain ⟨Ax, cx, Bx, dx, y0, y1, -, hU⟩ := runs_at (hR.below hB) hr
  obtain ⟨gb, gf, rfl, f0, hf0⟩ := hU t ht
  obtain ⟨Z, eZ⟩ : ∃ Z, Z = F r t := ⟨_, rfl⟩
  have hE : facB2 F (r, t) fc = Z.testBit fc := by rw [eZ]; rfl
  rw [hE]
  rw [← eZ] at f0 hf0
  obtain ⟨KX, eKX⟩ : ∃ q, q = K r := ⟨_, rfl⟩
  rw [← eKX] at y1 ht
  have htK1 : (t : Int) < (KX : Int) := by omega
  have hr1 : (r : Int) < (n : Int) := by omega
  have HB := Lib.hid hB
  have hbit := rshr_bit Z fc
  have HBT := Lib.hid hbit
  clear hbit hU hR eZ eKX hE k0 k1 hB y0
  go_enter Try.func50, Try.ntmps50
  go_upto_region 1 with (fail)
  rw [← hW]
  clear hW
  go_quiet (fail)
  go_wp2_with fail
  go_ret
  exact ⟨congrArg (fun b => Ending.returned (Value.bool b)) HBT.out, below_drewN HB.out _⟩
/-- Some agent sees the same at two points. -/
def ralk (a : Nat) (L : Nat → Nat → Nat → Int) (r t r' t' : Nat) : Bool := (List.range a).any fun g => L r t g == L r' t' g
theorem three_boxes (w : World) (xs ys zs : Array Value) (T T' T'' : TypeId) (W : World) (hW : W = ((w.alloc (.cells xs T)).alloc (.cells ys T')).alloc (.cells zs T'')) : Blk W w.heap.size T xs ∧ Blk W (w.heap.size + 1) T' ys ∧ Blk W (w.heap.size + 1 + 1) T'' zs ∧ Below w.heap.size w W := by
  obtain ⟨V, eV⟩ : ∃ V, V = (w.alloc (.cells xs T)).alloc (.cells ys T') := ⟨_, rfl⟩
  obtain ⟨h1, h2, h3⟩ := two_boxes4 w xs ys T T' V eV
  rw [← eV] at hW
  subst hW
  have hb := below_alloc V (.cells zs T'')
  have hs : V.heap.size = w.heap.size + 1 + 1 := by rw [eV]; simp only [World.alloc, Array.size_push]
  exact ⟨h1.below hb, h2.below hb, by have := Blk.new V zs T''; rwa [hs] at this, below_trans h3 hb⟩
/-- A state of an agent, as it lies. -/
theorem loc_at {w : World} {g4 o4 n : Nat} {T : Nat → Nat} {m : Nat → Nat → Nat} {L : Nat → Nat → Nat → Int} {K : Nat → Nat} {F : Nat → Nat → Nat} (hR : RunsR w (some ⟨g4, o4, none⟩) n T m L K F) {r t g : Nat} (hr : r < n) (ht : t < T r) (hg : g < m r t) :
    ∃ gx ox cx ge oe ce, w.cell? ⟨g4, o4 + r * 2, none⟩ = some (.slice (some ⟨gx, ox, none⟩) (T r) cx) ∧ w.cell? ⟨gx, ox + t, none⟩ = some (.slice (some ⟨ge, oe, none⟩) (m r t) ce) ∧ w.cell? ⟨ge, oe + g, none⟩ = some (.int .i64 (L r t g)) := by
  obtain ⟨Ax, cx, Bx, dx, y0, y1, ⟨R, cc, hM⟩, -⟩ := runs_at hR hr
  obtain ⟨gx, ox, rfl, z0, -, hI⟩ := hM t ht
  obtain ⟨ge, oe, e, z1, -, -⟩ := hI g hg
  rw [e] at z0
  exact ⟨gx, ox, cx, ge, oe, cc t, y0, z0, z1⟩
set_option maxHeartbeats 4000000 in
theorem ralike_any (x : Value) (a : Nat) (f l : Int) (n : Nat) (T : Nat → Nat) (m : Nat → Nat → Nat) (L : Nat → Nat → Nat → Int) (K : Nat → Nat) (F : Nat → Nat → Nat) (r t r' t' : Nat) (w : World) (h : SysR w x a f l n T m L K F) (ha : a ≤ 65536) (hr : r < n) (ht : t < T r) (hr' : r' < n) (ht' : t' < T r') (hm : a ≤ m r t) (hm' : a ≤ m r' t') :
    Calls Try.prog 62 #[x, .agg #[.int .i64 r, .int .i64 t], .agg #[.int .i64 r', .int .i64 t']] w fun e w' => e = .returned (.bool (ralk a L r t r' t')) ∧ Below w.heap.size w w' := by
  obtain ⟨A, c, rfl, hR⟩ := h
  obtain ⟨g4, o4, rfl⟩ : ∃ g o, A = some ⟨g, o, none⟩ := by
    obtain ⟨g, o, _, _, e, -⟩ := hR r hr
    exact ⟨g, o, e⟩
  obtain ⟨W, hW⟩ : ∃ W, W = ((w.alloc (.cells #[.int .i64 a, .int .i64 f, .int .i64 l, .slice (some ⟨g4, o4, none⟩) n c] 24)).alloc (.cells #[.int .i64 r, .int .i64 t] 26)).alloc (.cells #[.int .i64 r', .int .i64 t'] 26) := ⟨_, rfl⟩
  obtain ⟨k0, k1, k2, hB⟩ := three_boxes w _ _ _ _ _ _ W hW
  have HK0 := Lib.hid k0
  have HK1 := Lib.hid k1
  have HK2 := Lib.hid k2
  have HR := Lib.hid (hR.below hB)
  have HB := Lib.hid hB
  have hr1 : (r : Int) < (n : Int) := by omega
  have hr1' : (r' : Int) < (n : Int) := by omega
  have HLO := Lib.hid (fun (z : World) (hz : Below W.heap.size W z) (g : Nat) (hg : g < a) => loc_at (HR.out.below hz) hr ht (g := g) (by omega))
  have HLO' := Lib.hid (fun (z : World) (hz : Below W.heap.size W z) (g : Nat) (hg : g < a) => loc_at (HR.out.below hz) hr' ht' (g := g) (by omega))
  obtain ⟨TX, eTX⟩ : ∃ q, q = T r := ⟨_, rfl⟩
  obtain ⟨TY, eTY⟩ : ∃ q, q = T r' := ⟨_, rfl⟩
  obtain ⟨MX, eMX⟩ : ∃ q, q = m r t := ⟨_, rfl⟩
  obtain ⟨MY, eMY⟩ : ∃ q, q = m r' t' := ⟨_, rfl⟩
  obtain ⟨P, eP⟩ : ∃ q : Nat → Int, q = fun g => L r t g := ⟨_, rfl⟩
  obtain ⟨Q, eQ⟩ : ∃ q : Nat → Int, q = fun g => L r' t' g := ⟨_, rfl⟩
  have hV : ralk a L r t r' t' = (List.range a).any fun g => P g == Q g := by rw [eP, eQ]; rfl
  have HP : Hid (∀ g, L r t g = P g) := Lib.hid (fun g => by rw [eP])
  have HQ : Hid (∀ g, L r' t' g = Q g) := Lib.hid (fun g => by rw [eQ])
  rw [hV]
  rw [← eTX, ← eMX] at HLO
  rw [← eTY, ← eMY] at HLO'
  rw [← eTX] at ht
  rw [← eTY] at ht'
  rw [← eMX] at hm
  rw [← eMY] at hm'
  have ht1 : (t : Int) < (TX : Int) := by omega
  have ht1' : (t' : Int) < (TY : Int) := by omega
  clear eTX eTY eMX eMY eP eQ hV hR k0 k1 k2 hB
  go_enter Try.func62, Try.ntmps62
  go_upto_region 1 with (fail)
  rw [← hW]
  obtain ⟨b0, eb0⟩ : ∃ b, b = w.heap.size := ⟨_, rfl⟩
  obtain ⟨b1, eb1⟩ : ∃ b, b = w.heap.size + 1 := ⟨_, rfl⟩
  obtain ⟨b2, eb2⟩ : ∃ b, b = w.heap.size + 1 + 1 := ⟨_, rfl⟩
  rw [← eb2, ← eb1, ← eb0]
  rw [← eb0] at HK0
  rw [← eb1] at HK1
  rw [← eb2] at HK2
  clear hW eb0 eb1 eb2
  go_wp2_with fail
  go_loopw [7] (fun iv wr => ∃ i : Nat, i ≤ a ∧ iv = .int .i64 i ∧ Hid (∀ g, g < i → P g ≠ Q g) ∧ Below W.heap.size W wr) (fun iv _ => a - (intOf iv).toNat)
  case atStart => exact ⟨0, Nat.zero_le _, rfl, Lib.hid fun u hu => absurd hu (Nat.not_lt_zero _), Below.refl _ _⟩
  case round =>
    obtain ⟨i, hi, rfl, HN, hbl⟩ := hrel
    have HBL := Lib.hid hbl
    have q0 := (HK0.out.below hbl).cell (k := 0) rfl
    by_cases hlt : i < a
    · obtain ⟨gx, ox, cx, ge, oe, ce, x0, x1, x2⟩ := HLO.out _ hbl i hlt
      obtain ⟨gx', ox', cx', ge', oe', ce', y0, y1, y2⟩ := HLO'.out _ hbl i hlt
      rw [HP.out] at x2
      rw [HQ.out] at y2
      have q3 := (HK0.out.below hbl).cell (k := 3) rfl
      have p0 := (HK1.out.below hbl).cell (k := 0) rfl
      have p1 := (HK1.out.below hbl).cell (k := 1) rfl
      have p0' := (HK2.out.below hbl).cell (k := 0) rfl
      have p1' := (HK2.out.below hbl).cell (k := 1) rfl
      have hia : (i : Int) < (a : Int) := by omega
      have him : (i : Int) < (MX : Int) := by omega
      have him' : (i : Int) < (MY : Int) := by omega
      obtain ⟨p, ep⟩ : ∃ p, p = P i := ⟨_, rfl⟩
      obtain ⟨q, eq⟩ : ∃ q, q = Q i := ⟨_, rfl⟩
      rw [← ep] at x2
      rw [← eq] at y2
      by_cases he : p = q
      · have HV : Hid (((List.range a).any fun g => P g == Q g) = true) := Lib.hid (List.any_eq_true.2 ⟨i, List.mem_range.2 hlt, by rw [beq_iff_eq, ← ep, ← eq]; exact he⟩)
        have t1 : (p == q) = true := by rw [beq_iff_eq]; exact he
        clear hbl he ep eq HN
        go_wp2_with fail
        go_quiet (fail)
        go_wp2_with fail
        go_ret
        exact ⟨by rw [HV.out]; rfl, below_trans HB.out (below_drewN HBL.out _)⟩
      · have HN2 : Hid (∀ g, g < i + 1 → P g ≠ Q g) := Lib.hid fun g hg => by
          rcases Nat.lt_succ_iff_lt_or_eq.1 hg with h1 | rfl
          · exact HN.out g h1
          · rw [← ep, ← eq]; exact he
        have t1 : (p == q) = false := by rw [beq_eq_false_iff_ne]; exact he
        clear hbl he ep eq HN
        go_wp2_with fail
        go_quiet (fail)
        go_wp2_with fail
        go_roundw
        case rel => exact ⟨i + 1, by omega, by go_num, HN2, below_drewN HBL.out _⟩
        case measure => simp [intOf]; omega
    · obtain rfl : i = a := by omega
      have HV : Hid (((List.range i).any fun g => P g == Q g) = false) := Lib.hid (List.any_eq_false.2 fun g hg => by rw [beq_iff_eq]; exact HN.out g (List.mem_range.1 hg))
      have hii : ¬ (i : Int) < (i : Int) := by omega
      clear hbl HN
      go_wp2_with fail
      go_ret
      exact ⟨by rw [HV.out]; rfl, below_trans HB.out HBL.out⟩
end Go.Proofs.Ytahaimecchdfeaa

/-
  Plain facts: what Verify answers, said of points.
-/
namespace Go.Proofs.Ytahaimecchdfeaa
open Go.RowKit

theorem ralk_comm (a : Nat) (L : Nat → Nat → Nat → Int) (r t r' t' : Nat) : ralk a L r t r' t' = ralk a L r' t' r t := by
  unfold ralk
  congr 1
  funext g
  rw [Bool.eq_iff_iff, beq_iff_eq, beq_iff_eq]
  exact eq_comm
theorem akB_pos {a n l r t r' t' : Nat} {L : Nat → Nat → Nat → Int} (hr : r < n) (ht : t < l) (hr' : r' < n) (ht' : t' < l) : akB a L (ptL n l) (r * l + t) (r' * l + t') = ralk a L r t r' t' := by
  have hp := pos_lt hr ht
  have hp' := pos_lt hr' ht'
  rw [ralk_comm]
  unfold akB ralk
  rw [ptG_get hp, ptG_get hp', pos_div ht, pos_div ht', pos_mod ht, pos_mod ht', ptL_len, decide_eq_true hp', Bool.true_and]
theorem facK_pos {F : Nat → Nat → Nat} {n r t fc : Nat} {l : Int} (hr : r < n) (ht : t < l.toNat) : facK F n l fc (r * l.toNat + t) = facB2 F (r, t) fc := by
  unfold facK
  rw [ptG_get (pos_lt hr ht), pos_div ht, pos_mod ht]
/-- What Verify answers, as the reference finds it. -/
structure VerP (N : Nat) (l : Int) (L : Nat → Nat → Nat → Int) (F : Nat → Nat → Nat) (m : Nat) (X Y : Nat → Int) (V : Nat) : Prop where
  none : m = 0 → V = 3
  out : ∀ k, k < m → ¬ inP N l.toNat (X k) (Y k) → V = 3
  cut : (∀ k, k < m → inP N l.toNat (X k) (Y k)) → ∀ i, i + 1 < m → ralk 2 L (X i).toNat (Y i).toNat (X (i + 1)).toNat (Y (i + 1)).toNat = false → V = 13
  fin : (∀ k, k < m → inP N l.toNat (X k) (Y k)) → (∀ i, i + 1 < m → ralk 2 L (X i).toNat (Y i).toNat (X (i + 1)).toNat (Y (i + 1)).toNat = true) → 0 < m →
    V = if facB2 F ((X 0).toNat, (Y 0).toNat) 0 = facB2 F ((X (m - 1)).toNat, (Y (m - 1)).toNat) 0 then 13 else 0
theorem verN_P {N m : Nat} {l : Int} {L : Nat → Nat → Nat → Int} {F : Nat → Nat → Nat} {X Y : Nat → Int} : VerP N l L F m X Y (verN 2 l N L F m (fun k => ixP (ptL N l.toNat) (X k) (Y k))) := by
  have hix : ∀ k, inP N l.toNat (X k) (Y k) → ixP (ptL N l.toNat) (X k) (Y k) = (((X k).toNat * l.toNat + (Y k).toNat : Nat) : Int) := fun k h => ixP_in h
  have hall : (∀ k, k < m → inP N l.toNat (X k) (Y k)) → allB m (fun k => ixP (ptL N l.toNat) (X k) (Y k) != -1) = true := fun h => allB_iff.2 fun k hk => by
    rw [bne_iff_ne, hix k (h k hk)]
    omega
  have hak : (∀ k, k < m → inP N l.toNat (X k) (Y k)) → ∀ i, i + 1 < m → akS 2 l N L (ixP (ptL N l.toNat) (X i) (Y i)).toNat (ixP (ptL N l.toNat) (X (i + 1)) (Y (i + 1))).toNat = ralk 2 L (X i).toNat (Y i).toNat (X (i + 1)).toNat (Y (i + 1)).toNat := fun h i hi => by
    have h1 := h i (by omega)
    have h2 := h (i + 1) hi
    rw [hix i h1, hix (i + 1) h2, Int.toNat_natCast, Int.toNat_natCast]
    obtain ⟨⟨a1, a2⟩, a3, a4⟩ := h1
    obtain ⟨⟨c1, c2⟩, c3, c4⟩ := h2
    exact akB_pos (by omega) (by omega) (by omega) (by omega)
  refine ⟨fun h => ?_, fun k hk hn => ?_, fun h i hi hr => ?_, fun h hl hm => ?_⟩
  · unfold verN
    rw [if_pos (.inl h)]
  · have hf : allB m (fun k => ixP (ptL N l.toNat) (X k) (Y k) != -1) = false := Bool.eq_false_iff.2 fun hc => by
      have := allB_iff.1 hc k hk
      rw [ixP_out hn] at this
      exact absurd this (by decide)
    unfold verN
    rw [if_pos (.inr hf)]
  · unfold verN
    rw [if_neg (by rw [hall h]; rintro (h | h); omega; cases h), if_neg]
    intro hc
    have := allB_iff.1 hc (i + 1) hi
    simp only [Nat.add_sub_cancel] at this
    rw [Bool.or_eq_true] at this
    rcases this with h1 | h1
    · rw [beq_iff_eq] at h1
      omega
    · rw [hak h i hi, hr] at h1
      cases h1
  · unfold verN
    rw [if_neg (by rw [hall h]; rintro (h | h); omega; cases h), if_pos]
    · have f0 : facK F N l 0 (ixP (ptL N l.toNat) (X 0) (Y 0)).toNat = facB2 F ((X 0).toNat, (Y 0).toNat) 0 := by
        have h1 := h 0 hm
        rw [hix 0 h1, Int.toNat_natCast]
        obtain ⟨⟨a1, a2⟩, a3, a4⟩ := h1
        exact facK_pos (by omega) (by omega)
      have f1 : facK F N l 0 (ixP (ptL N l.toNat) (X (m - 1)) (Y (m - 1))).toNat = facB2 F ((X (m - 1)).toNat, (Y (m - 1)).toNat) 0 := by
        have h1 := h (m - 1) (by omega)
        rw [hix (m - 1) h1, Int.toNat_natCast]
        obtain ⟨⟨a1, a2⟩, a3, a4⟩ := h1
        exact facK_pos (by omega) (by omega)
      rw [f0, f1]
    · refine allB_iff.2 fun i hi => ?_
      cases i with
      | zero => rfl
      | succ i =>
        rw [Bool.or_eq_true]
        right
        rw [Nat.add_sub_cancel, hak h i hi]
        exact hl i hi
end Go.Proofs.Ytahaimecchdfeaa

/-
  Walk: the reference's Verify.
-/
namespace Go.Proofs.Ytahaimecchdfeaa
open Go.RowKit

set_option maxHeartbeats 4000000 in
theorem rVerify_any (R : Int) (A : Option Addr) (n c : Nat) (fa fh fm : Nat → Int) (B : Option Addr) (m d : Nat) (X Y : Nat → Int) (w : World) (hx : RuleS w A n fa fh fm) (hn : n ≤ 9223372036854775807) (hy : CrS w B m X Y) (hm : m ≤ 65536) :
    Calls Try.prog 24 #[.agg #[.int .i64 R, .slice A n c], .slice B m d] w fun e w' => e = .returned (.int .i64 (verV R n fa fh fm m X Y : Nat)) ∧ Below w.heap.size w w' := by
  have HLO := Lib.hid (fun W (h : RuleS W A n fa fh fm) => rLossy_any R A n c fa fh fm W h hn)
  have HVV := Lib.hid (show verV R n fa fh fm m X Y = if losE R n fa fh fm = 0 then verN 2 (R + 1) (losRs (sndV n fa fh fm) R.toNat).length (psL (sndV n fa fh fm) (losRs (sndV n fa fh fm) R.toNat)) (lF (losRs (sndV n fa fh fm) R.toNat)) m (fun k => ixP (ptL (losRs (sndV n fa fh fm) R.toNat).length (R + 1).toNat) (X k) (Y k)) else losE R n fa fh fm from rfl)
  have HLS := Lib.hid (fun (w1 : World) base AR cR (h : RunsO w1 base (.slice AR (losD R n fa fh fm).ps.length cR) (losD R n fa fh fm).ps) (hE : losE R n fa fh fm = 0) => los_shape rfl h hE)
  obtain ⟨E, eE⟩ : ∃ E, E = losE R n fa fh fm := ⟨_, rfl⟩
  obtain ⟨DD, eD⟩ : ∃ E, E = losD R n fa fh fm := ⟨_, rfl⟩
  obtain ⟨V, eV⟩ : ∃ E, E = verV R n fa fh fm m X Y := ⟨_, rfl⟩
  rw [← eE] at HLO HVV HLS
  rw [← eD] at HLO HLS
  rw [← eV] at HVV ⊢
  have HB := Lib.hid (below_alloc w (.cells #[.int .i64 R, .slice A n c] 43))
  have hbk := Blk.new w #[.int .i64 R, .slice A n c] 43
  have d0 := hbk.cell (k := 0) rfl
  have d1 := hbk.cell (k := 1) rfl
  have hlo := HLO.out _ (hx.below HB.out)
  unfold SysPost at hlo
  have HY := Lib.hid (hy.below HB.out)
  have HL1 := Lib.hid hlo
  clear hbk hx hy hlo HLO eE eD eV
  go_enter Try.func24, Try.ntmps24
  go_upto_region 1 with (fail)
  generalize w.alloc (.cells #[.int .i64 R, .slice A n c] 43) = W at HB d0 d1 HY HL1 ⊢
  go_upto_region 2 with (go_at_call 61; refine HL1.out.mono ?_; rintro e w1 ⟨x, rfl, hown, hb1⟩; obtain ⟨vR, rfl, hro⟩ := hown; obtain ⟨AR, cR, rfl⟩ := runsO_shape hro; have HB := Lib.hid (below_trans HB.out hb1); have HY := Lib.hid (HY.out.below hb1); have HRO := Lib.hid hro; clear hb1 hro)
  clear d0 d1 HL1
  have hba := below_alloc w1 (.cells #[.int .i64 DD.a, .int .i64 DD.f, .int .i64 DD.l, .slice AR DD.ps.length cR] 24)
  have hbk := Blk.new w1 #[.int .i64 DD.a, .int .i64 DD.f, .int .i64 DD.l, .slice AR DD.ps.length cR] 24
  have HB := Lib.hid (below_trans HB.out hba)
  have HY := Lib.hid (HY.out.below hba)
  obtain ⟨W2, eW2⟩ : ∃ W2, W2 = w1.alloc (.cells #[.int .i64 DD.a, .int .i64 DD.f, .int .i64 DD.l, .slice AR DD.ps.length cR] 24) := ⟨_, rfl⟩
  rw [← eW2] at hba hbk HB HY ⊢
  obtain ⟨bS, ebS⟩ : ∃ b, b = w1.heap.size := ⟨_, rfl⟩
  rw [← ebS] at hbk ⊢
  clear eW2 ebS
  by_cases hE : E = 0
  case neg =>
    have t1 : ((E : Int) != 0) = true := by rw [bne_iff_ne]; omega
    have HV2 : Hid (V = E) := Lib.hid (by rw [HVV.out, if_neg hE])
    clear hE HVV HLS hbk hba
    go_wp2_with fail
    go_ret
    exact ⟨by rw [HV2.out]; rfl, HB.out⟩
  subst hE
  rw [show (((0 : Nat)) : Int) = 0 from rfl]
  obtain ⟨⟨e1, e2, e3, e5⟩, hls, hlc, hlp, hR, hex⟩ := HLS.out w1 _ _ _ HRO.out rfl
  have hls2 := hls.below hba
  rw [e1, e2, e3, e5] at hbk ⊢
  rw [if_pos rfl] at HVV
  generalize sndV n fa fh fm = snd at *
  obtain ⟨ps, eps⟩ : ∃ ps, ps = losRs snd R.toNat := ⟨_, rfl⟩
  rw [← eps] at hls2 hlc hlp HVV hbk ⊢
  have hN64 := hlp.len.2
  obtain ⟨T, rfl⟩ : ∃ T : Nat, R = (T : Int) := ⟨R.toNat, by omega⟩
  have hT : T ≤ 4 := by omega
  obtain ⟨-, -, -, -, -, -, hfr, -⟩ := chkE_ok hlc
  have hS : SysR W2 (.agg #[.int .i64 2, .int .i64 1, .int .i64 ((T : Int) + 1), .slice AR ps.length cR]) (2 : Nat) 1 ((T : Int) + 1) ps.length (lT ps) (fun _ _ => 2) (psL snd ps) (lT ps) (lF ps) := hls2
  obtain ⟨N, eN⟩ : ∃ N, N = ps.length := ⟨_, rfl⟩
  rw [← eN] at HVV hbk hN64 hS hfr ⊢
  have HVP : Hid (VerP N ((T : Int) + 1) (psL snd ps) (lF ps) m X Y V) := Lib.hid (by rw [HVV.out]; exact verN_P)
  have hTl : ((T : Int) + 1).toNat = T + 1 := by omega
  have hin : ∀ x y : Int, inP N ((T : Int) + 1).toNat x y → ∃ r t : Nat, x = (r : Int) ∧ y = (t : Int) ∧ r < N ∧ t < lT ps r := fun x y h => by
    obtain ⟨⟨h1, h2⟩, h3, h4⟩ := h
    have h5 := (hfr x.toNat (by omega)).1
    exact ⟨x.toNat, y.toNat, by omega, by omega, by omega, by omega⟩
  have HPO := Lib.hid (fun (X1 : World) (hX : Below W2.heap.size W2 X1) (x y : Int) => rpoint_any _ _ _ _ _ _ _ _ _ _ x y X1 (sys_below hS hX))
  have HAK := Lib.hid (fun (X1 : World) (hX : Below W2.heap.size W2 X1) (x y x' y' : Int) (h : inP N ((T : Int) + 1).toNat x y) (h' : inP N ((T : Int) + 1).toNat x' y') => show Calls Try.prog 62 #[.agg #[.int .i64 2, .int .i64 1, .int .i64 ((T : Int) + 1), .slice AR N cR], .agg #[.int .i64 x, .int .i64 y], .agg #[.int .i64 x', .int .i64 y']] X1 fun e w' => e = .returned (.bool (ralk 2 (psL snd ps) x.toNat y.toNat x'.toNat y'.toNat)) ∧ Below X1.heap.size X1 w' by
    obtain ⟨r, t, rfl, rfl, h1, h2⟩ := hin x y h
    obtain ⟨r', t', rfl, rfl, h1', h2'⟩ := hin x' y' h'
    exact ralike_any _ 2 _ _ _ _ _ _ _ _ r t r' t' X1 (sys_below hS hX) (by decide) h1 h2 h1' h2' (Nat.le_refl _) (Nat.le_refl _))
  have HFA := Lib.hid (fun (X1 : World) (hX : Below W2.heap.size W2 X1) (x y : Int) (h : inP N ((T : Int) + 1).toNat x y) => show Calls Try.prog 50 #[.agg #[.int .i64 2, .int .i64 1, .int .i64 ((T : Int) + 1), .slice AR N cR], .agg #[.int .i64 x, .int .i64 y], .int .i64 0] X1 fun e w' => e = .returned (.bool (facB2 (lF ps) (x.toNat, y.toNat) 0)) ∧ Below X1.heap.size X1 w' by
    obtain ⟨r, t, rfl, rfl, h1, h2⟩ := hin x y h
    exact rfact_any _ _ _ _ _ _ _ _ _ _ r t 0 X1 (sys_below hS hX) h1 h2 (by decide))
  obtain ⟨IN, eIN⟩ : ∃ I : Int → Int → Prop, I = fun x y => inP N ((T : Int) + 1).toNat x y := ⟨_, rfl⟩
  obtain ⟨AK, eAK⟩ : ∃ I : Int → Int → Int → Int → Bool, I = fun x y x' y' => ralk 2 (psL snd ps) x.toNat y.toNat x'.toNat y'.toNat := ⟨_, rfl⟩
  obtain ⟨FA, eFA⟩ : ∃ I : Int → Int → Bool, I = fun x y => facB2 (lF ps) (x.toNat, y.toNat) 0 := ⟨_, rfl⟩
  have HPO := Lib.hid (show ∀ (X1 : World) (_ : Below W2.heap.size W2 X1) (x y : Int) (b : Bool), (b = true ↔ IN x y) → Calls Try.prog 44 #[.agg #[.int .i64 2, .int .i64 1, .int .i64 ((T : Int) + 1), .slice AR N cR], .agg #[.int .i64 x, .int .i64 y]] X1 fun e w' => e = .returned (.bool b) ∧ Below X1.heap.size X1 w' from fun X1 hX x y b hb => by
    have h := HPO.out X1 hX x y
    rw [eIN] at hb
    have e : decide (inP N ((T : Int) + 1).toNat x y) = b := by rw [Bool.eq_iff_iff, decide_eq_true_eq]; exact hb.symm
    rw [e] at h
    exact h)
  have HAK := Lib.hid (show ∀ (X1 : World) (_ : Below W2.heap.size W2 X1) (x y x' y' : Int), IN x y → IN x' y' → Calls Try.prog 62 #[.agg #[.int .i64 2, .int .i64 1, .int .i64 ((T : Int) + 1), .slice AR N cR], .agg #[.int .i64 x, .int .i64 y], .agg #[.int .i64 x', .int .i64 y']] X1 fun e w' => e = .returned (.bool (AK x y x' y')) ∧ Below X1.heap.size X1 w' by rw [eIN, eAK]; exact HAK.out)
  have HFA := Lib.hid (show ∀ (X1 : World) (_ : Below W2.heap.size W2 X1) (x y : Int), IN x y → Calls Try.prog 50 #[.agg #[.int .i64 2, .int .i64 1, .int .i64 ((T : Int) + 1), .slice AR N cR], .agg #[.int .i64 x, .int .i64 y], .int .i64 0] X1 fun e w' => e = .returned (.bool (FA x y)) ∧ Below X1.heap.size X1 w' by rw [eIN, eFA]; exact HFA.out)
  have HV0 := Lib.hid HVP.out.none
  have HV1 : Hid (∀ k, k < m → ¬ IN (X k) (Y k) → V = 3) := Lib.hid (by rw [eIN]; exact HVP.out.out)
  have HV2 : Hid ((∀ k, k < m → IN (X k) (Y k)) → ∀ i, i + 1 < m → AK (X i) (Y i) (X (i + 1)) (Y (i + 1)) = false → V = 13) := Lib.hid (by rw [eIN, eAK]; exact HVP.out.cut)
  have HV3 : Hid ((∀ k, k < m → IN (X k) (Y k)) → (∀ i, i + 1 < m → AK (X i) (Y i) (X (i + 1)) (Y (i + 1)) = true) → 0 < m → V = if FA (X 0) (Y 0) = FA (X (m - 1)) (Y (m - 1)) then 13 else 0) := Lib.hid (by rw [eIN, eAK, eFA]; exact HVP.out.fin)
  have HK := Lib.hid hbk
  clear e1 e2 e3 e5 hls hlc hlp hR hex hls2 hba hbk HLS eps eN HRO hfr hS HVP hTl hin eIN eAK eFA HVV
  by_cases hm0 : m = 0
  · subst hm0
    have t1 : (((0 : Nat) : Int) == 0) = true := rfl
    have HV := Lib.hid (HV0.out rfl)
    go_wp2_with fail
    go_ret
    exact ⟨by rw [HV.out]; rfl, HB.out⟩
  have t1 : ((m : Int) == 0) = false := by rw [beq_eq_false_iff_ne]; omega
  clear HV0
  go_wp2_with fail
  go_loopw [7] (fun iv wr => ∃ i : Nat, i ≤ m ∧ iv = .int .i64 i ∧ Hid (∀ k, k < i → IN (X k) (Y k)) ∧ Below W2.heap.size W2 wr) (fun iv _ => m - (intOf iv).toNat)
  case atStart => exact ⟨0, Nat.zero_le _, rfl, Lib.hid fun u hu => absurd hu (Nat.not_lt_zero _), Below.refl _ _⟩
  case round =>
    obtain ⟨i, hi, rfl, HI, hbl⟩ := hrel
    have HBL := Lib.hid hbl
    by_cases hlt : i < m
    · obtain ⟨b, off, rfl, c0, c1, -, -⟩ := HY.out.below hbl i hlt
      have him : (i : Int) < (m : Int) := by omega
      have hb0 := Below.refl wr.heap.size wr
      have q0 := (HK.out.below hbl).cell (k := 0) rfl
      have q1 := (HK.out.below hbl).cell (k := 1) rfl
      have q2 := (HK.out.below hbl).cell (k := 2) rfl
      have q3 := (HK.out.below hbl).cell (k := 3) rfl
      have HIE := Lib.hid (show (IN (X i) (Y i)) ∨ ¬ IN (X i) (Y i) from Classical.em _)
      obtain ⟨x, ex⟩ : ∃ p, p = X i := ⟨_, rfl⟩
      obtain ⟨y, ey⟩ : ∃ p, p = Y i := ⟨_, rfl⟩
      have HVI := Lib.hid (HV1.out i hlt)
      have HIN : Hid (IN x y → ∀ k, k < i + 1 → IN (X k) (Y k)) := Lib.hid fun h k hk => by
        rcases Nat.lt_succ_iff_lt_or_eq.1 hk with h1 | rfl
        · exact HI.out k h1
        · rw [← ex, ← ey]; exact h
      rw [← ex, ← ey] at HVI HIE
      rw [← ex] at c0
      rw [← ey] at c1
      have HSOF := Lib.hid (fun (z : World) (h : Below wr.heap.size wr z) => (⟨h, cell_below h q0, cell_below h q1, cell_below h q2, cell_below h q3, cell_below h c0, cell_below h c1⟩ : Below wr.heap.size wr z ∧ z.cell? ⟨bS, 0, none⟩ = some (.int .i64 2) ∧ z.cell? ⟨bS, 1, none⟩ = some (.int .i64 1) ∧ z.cell? ⟨bS, 2, none⟩ = some (.int .i64 ((T : Int) + 1)) ∧ z.cell? ⟨bS, 3, none⟩ = some (.slice AR N cR) ∧ z.cell? ⟨b, off + i * 2, none⟩ = some (.int .i64 x) ∧ z.cell? ⟨b, off + i * 2 + 1, none⟩ = some (.int .i64 y)))
      clear ex ey hbl q0 q1 q2 q3 c0 c1
      by_cases hIN : IN x y
      · have HPX := Lib.hid (fun (X1 : World) (hX : Below wr.heap.size wr X1) => HPO.out X1 (below_trans HBL.out hX) x y true ⟨fun _ => hIN, fun _ => rfl⟩)
        have HI2 := Lib.hid (HIN.out hIN)
        clear HIN HVI HIE hIN HI
        go_upto_region 9 with (fail)
        go_region_held3 (fun z => Below wr.heap.size wr z ∧ z.cell? ⟨bS, 0, none⟩ = some (.int .i64 2) ∧ z.cell? ⟨bS, 1, none⟩ = some (.int .i64 1) ∧ z.cell? ⟨bS, 2, none⟩ = some (.int .i64 ((T : Int) + 1)) ∧ z.cell? ⟨bS, 3, none⟩ = some (.slice AR N cR) ∧ z.cell? ⟨b, off + i * 2, none⟩ = some (.int .i64 x) ∧ z.cell? ⟨b, off + i * 2 + 1, none⟩ = some (.int .i64 y)) (first | exact HSOF.out _ (by assumption) | exact HSOF.out _ (below_drew hb0) | exact HSOF.out _ (below_trans (And.left (by assumption)) (by assumption)))
          ((go_at_call 44; refine (HPX.out _ (And.left (by assumption))).mono ?_; rintro e w7 ⟨rfl, hb1⟩; have HB7 := below_trans (And.left (by assumption)) hb1; clear hb1))
        all_goals (
          have hbz := And.left (by assumption : Below wr.heap.size wr _ ∧ _)
          go_wp2_with fail
          go_roundw
          case rel => exact ⟨i + 1, by omega, by go_num, HI2, below_trans HBL.out hbz⟩
          case measure => simp [intOf]; omega)
      · have HPX := Lib.hid (fun (X1 : World) (hX : Below wr.heap.size wr X1) => HPO.out X1 (below_trans HBL.out hX) x y false ⟨fun h => absurd h (by decide), fun h => absurd h hIN⟩)
        have HV := Lib.hid (HVI.out hIN)
        clear HIN HVI HIE hIN HI
        go_upto_region 9 with (fail)
        go_region_held3 (fun z => Below wr.heap.size wr z ∧ z.cell? ⟨bS, 0, none⟩ = some (.int .i64 2) ∧ z.cell? ⟨bS, 1, none⟩ = some (.int .i64 1) ∧ z.cell? ⟨bS, 2, none⟩ = some (.int .i64 ((T : Int) + 1)) ∧ z.cell? ⟨bS, 3, none⟩ = some (.slice AR N cR) ∧ z.cell? ⟨b, off + i * 2, none⟩ = some (.int .i64 x) ∧ z.cell? ⟨b, off + i * 2 + 1, none⟩ = some (.int .i64 y)) (first | exact HSOF.out _ (by assumption) | exact HSOF.out _ (below_drew hb0) | exact HSOF.out _ (below_trans (And.left (by assumption)) (by assumption)))
          ((go_at_call 44; refine (HPX.out _ (And.left (by assumption))).mono ?_; rintro e w7 ⟨rfl, hb1⟩; have HB7 := below_trans (And.left (by assumption)) hb1; clear hb1))
        all_goals (
          have hbz := And.left (by assumption : Below wr.heap.size wr _ ∧ _)
          go_wp2_with fail
          go_ret
          exact ⟨by rw [HV.out]; rfl, below_trans HB.out (below_trans HBL.out hbz)⟩)
    · obtain rfl : i = m := by omega
      have hmm : ¬ (i : Int) < (i : Int) := by omega
      clear hbl HV1 HPO
      go_wp2_with fail
      go_loopw [8] (fun iv wz => ∃ j : Nat, j + 1 ≤ i ∧ iv = .int .i64 ((j : Int) + 1) ∧ Hid (∀ k, k < j → AK (X k) (Y k) (X (k + 1)) (Y (k + 1)) = true) ∧ Below W2.heap.size W2 wz) (fun iv _ => i - (intOf iv).toNat)
      case atStart => exact ⟨0, by omega, rfl, Lib.hid fun u hu => absurd hu (Nat.not_lt_zero _), HBL.out⟩
      case round =>
        clear HBL hmm
        obtain ⟨j, hj, rfl, HJ, hbl⟩ := hrel
        have HBL := Lib.hid hbl
        have hb0 := Below.refl wr.heap.size wr
        have q0 := (HK.out.below hbl).cell (k := 0) rfl
        have q1 := (HK.out.below hbl).cell (k := 1) rfl
        have q2 := (HK.out.below hbl).cell (k := 2) rfl
        have q3 := (HK.out.below hbl).cell (k := 3) rfl
        by_cases hlt : j + 1 < i
        · obtain ⟨b, off, rfl, c0, c1, -, -⟩ := HY.out.below hbl j (by omega)
          obtain ⟨b', off', eb, c2, c3, -, -⟩ := HY.out.below hbl (j + 1) hlt
          injection eb with eb
          injection eb with eb1 eb2
          subst eb1 eb2
          have him : (j : Int) + 1 < (i : Int) := by omega
          have hji : (j : Int) < (i : Int) := by omega
          have hw : IntKind.i64.wrap ((j : Int) + 1 - 1) = (j : Int) := by rw [IntKind.wrap_i64]; omega
          have hw2 : IntKind.i64.wrap (j : Int) = (j : Int) := by rw [IntKind.wrap_i64]; omega
          have hj0 : (0 : Int) ≤ (j : Int) := by omega
          have hj1 : (0 : Int) ≤ (j : Int) + 1 := by omega
          obtain ⟨x, ex⟩ : ∃ p, p = X j := ⟨_, rfl⟩
          obtain ⟨y, ey⟩ : ∃ p, p = Y j := ⟨_, rfl⟩
          obtain ⟨x2, ex2⟩ : ∃ p, p = X (j + 1) := ⟨_, rfl⟩
          obtain ⟨y2, ey2⟩ : ∃ p, p = Y (j + 1) := ⟨_, rfl⟩
          have HI1 := Lib.hid (HI.out j (by omega))
          have HI2 := Lib.hid (HI.out (j + 1) hlt)
          have HVJ := Lib.hid (HV2.out HI.out j hlt)
          have HJN : Hid (AK x y x2 y2 = true → ∀ k, k < j + 1 → AK (X k) (Y k) (X (k + 1)) (Y (k + 1)) = true) := Lib.hid fun h k hk => by
            rcases Nat.lt_succ_iff_lt_or_eq.1 hk with h1 | rfl
            · exact HJ.out k h1
            · rw [← ex, ← ey, ← ex2, ← ey2]; exact h
          rw [← ex, ← ey] at HI1
          rw [← ex2, ← ey2] at HI2
          rw [← ex, ← ey, ← ex2, ← ey2] at HVJ
          rw [← ex] at c0
          rw [← ey] at c1
          rw [← ex2] at c2
          rw [← ey2] at c3
          have HSOF := Lib.hid (fun (z : World) (h : Below wr.heap.size wr z) => (⟨h, cell_below h q0, cell_below h q1, cell_below h q2, cell_below h q3, cell_below h c0, cell_below h c1, cell_below h c2, cell_below h c3⟩ : Below wr.heap.size wr z ∧ z.cell? ⟨bS, 0, none⟩ = some (.int .i64 2) ∧ z.cell? ⟨bS, 1, none⟩ = some (.int .i64 1) ∧ z.cell? ⟨bS, 2, none⟩ = some (.int .i64 ((T : Int) + 1)) ∧ z.cell? ⟨bS, 3, none⟩ = some (.slice AR N cR) ∧ z.cell? ⟨b, off + j * 2, none⟩ = some (.int .i64 x) ∧ z.cell? ⟨b, off + j * 2 + 1, none⟩ = some (.int .i64 y) ∧ z.cell? ⟨b, off + (j + 1) * 2, none⟩ = some (.int .i64 x2) ∧ z.cell? ⟨b, off + (j + 1) * 2 + 1, none⟩ = some (.int .i64 y2)))
          obtain ⟨bb, ebb⟩ : ∃ q, q = AK x y x2 y2 := ⟨_, rfl⟩
          have HPX := Lib.hid (fun (X1 : World) (hX : Below wr.heap.size wr X1) => HAK.out X1 (below_trans HBL.out hX) x y x2 y2 HI1.out HI2.out)
          rw [← ebb] at HPX HVJ HJN
          clear ex ey ex2 ey2 ebb hbl q0 q1 q2 q3 c0 c1 c2 c3 HJ HI1 HI2
          cases bb
          · have HV := Lib.hid (HVJ.out rfl)
            clear HVJ HJN
            go_upto_region 14 with (fail)
            go_region_held3 (fun z => Below wr.heap.size wr z ∧ z.cell? ⟨bS, 0, none⟩ = some (.int .i64 2) ∧ z.cell? ⟨bS, 1, none⟩ = some (.int .i64 1) ∧ z.cell? ⟨bS, 2, none⟩ = some (.int .i64 ((T : Int) + 1)) ∧ z.cell? ⟨bS, 3, none⟩ = some (.slice AR N cR) ∧ z.cell? ⟨b, off + j * 2, none⟩ = some (.int .i64 x) ∧ z.cell? ⟨b, off + j * 2 + 1, none⟩ = some (.int .i64 y) ∧ z.cell? ⟨b, off + (j + 1) * 2, none⟩ = some (.int .i64 x2) ∧ z.cell? ⟨b, off + (j + 1) * 2 + 1, none⟩ = some (.int .i64 y2)) (first | exact HSOF.out _ (by assumption) | exact HSOF.out _ (below_drew hb0) | exact HSOF.out _ (below_trans (And.left (by assumption)) (by assumption)))
              ((go_at_call 62; refine (HPX.out _ (And.left (by assumption))).mono ?_; rintro e w7 ⟨rfl, hb1⟩; have HB7 := below_trans (And.left (by assumption)) hb1; clear hb1))
            all_goals (
              have hbz := And.left (by assumption : Below wr.heap.size wr _ ∧ _)
              go_wp2_with fail
              go_ret
              exact ⟨by rw [HV.out]; rfl, below_trans HB.out (below_trans HBL.out hbz)⟩)
          · have HJ2 := Lib.hid (HJN.out rfl)
            clear HVJ HJN
            go_upto_region 14 with (fail)
            go_region_held3 (fun z => Below wr.heap.size wr z ∧ z.cell? ⟨bS, 0, none⟩ = some (.int .i64 2) ∧ z.cell? ⟨bS, 1, none⟩ = some (.int .i64 1) ∧ z.cell? ⟨bS, 2, none⟩ = some (.int .i64 ((T : Int) + 1)) ∧ z.cell? ⟨bS, 3, none⟩ = some (.slice AR N cR) ∧ z.cell? ⟨b, off + j * 2, none⟩ = some (.int .i64 x) ∧ z.cell? ⟨b, off + j * 2 + 1, none⟩ = some (.int .i64 y) ∧ z.cell? ⟨b, off + (j + 1) * 2, none⟩ = some (.int .i64 x2) ∧ z.cell? ⟨b, off + (j + 1) * 2 + 1, none⟩ = some (.int .i64 y2)) (first | exact HSOF.out _ (by assumption) | exact HSOF.out _ (below_drew hb0) | exact HSOF.out _ (below_trans (And.left (by assumption)) (by assumption)))
              ((go_at_call 62; refine (HPX.out _ (And.left (by assumption))).mono ?_; rintro e w7 ⟨rfl, hb1⟩; have HB7 := below_trans (And.left (by assumption)) hb1; clear hb1))
            all_goals (
              have hbz := And.left (by assumption : Below wr.heap.size wr _ ∧ _)
              go_wp2_with fail
              go_roundw
              case rel => exact ⟨j + 1, by omega, by go_num, HJ2, below_trans HBL.out hbz⟩
              case measure => simp [intOf]; omega)
        · obtain rfl : i = j + 1 := by omega
          obtain ⟨b, off, rfl, c0, c1, -, -⟩ := HY.out.below hbl 0 (by omega)
          obtain ⟨b', off', eb, c2, c3, -, -⟩ := HY.out.below hbl j (by omega)
          injection eb with eb
          injection eb with eb1 eb2
          subst eb1 eb2
          have hjj : ¬ (j : Int) + 1 < ((j + 1 : Nat) : Int) := by omega
          have hjj2 : ¬ (j : Int) + 1 < (j : Int) + 1 := by omega
          have hw : IntKind.i64.wrap ((j : Int) + 1 - 1) = (j : Int) := by rw [IntKind.wrap_i64]; omega
          have hw2 : IntKind.i64.wrap (j : Int) = (j : Int) := by rw [IntKind.wrap_i64]; omega
          have hi0 : (0 : Int) ≤ (j : Int) := by omega
          have hi2 : (0 : Int) < (j : Int) + 1 := by omega
          have hi3 : (j : Int) < (j : Int) + 1 := by omega
          obtain ⟨x, ex⟩ : ∃ p, p = X 0 := ⟨_, rfl⟩
          obtain ⟨y, ey⟩ : ∃ p, p = Y 0 := ⟨_, rfl⟩
          obtain ⟨x2, ex2⟩ : ∃ p, p = X j := ⟨_, rfl⟩
          obtain ⟨y2, ey2⟩ : ∃ p, p = Y j := ⟨_, rfl⟩
          have HI1 := Lib.hid (HI.out 0 (by omega))
          have HI2 := Lib.hid (HI.out j (by omega))
          have hV := HV3.out HI.out (fun k hk => HJ.out k (by omega)) (by omega)
          rw [Nat.add_sub_cancel, ← ex, ← ey, ← ex2, ← ey2] at hV
          rw [← ex, ← ey] at HI1
          rw [← ex2, ← ey2] at HI2
          rw [← ex, Nat.zero_mul, Nat.add_zero] at c0
          rw [← ey, Nat.zero_mul, Nat.add_zero] at c1
          rw [← ex2] at c2
          rw [← ey2] at c3
          have HSOF := Lib.hid (fun (z : World) (h : Below wr.heap.size wr z) => (⟨h, cell_below h q0, cell_below h q1, cell_below h q2, cell_below h q3, cell_below h c0, cell_below h c1, cell_below h c2, cell_below h c3⟩ : Below wr.heap.size wr z ∧ z.cell? ⟨bS, 0, none⟩ = some (.int .i64 2) ∧ z.cell? ⟨bS, 1, none⟩ = some (.int .i64 1) ∧ z.cell? ⟨bS, 2, none⟩ = some (.int .i64 ((T : Int) + 1)) ∧ z.cell? ⟨bS, 3, none⟩ = some (.slice AR N cR) ∧ z.cell? ⟨b, off, none⟩ = some (.int .i64 x) ∧ z.cell? ⟨b, off + 1, none⟩ = some (.int .i64 y) ∧ z.cell? ⟨b, off + j * 2, none⟩ = some (.int .i64 x2) ∧ z.cell? ⟨b, off + j * 2 + 1, none⟩ = some (.int .i64 y2)))
          have HPX := Lib.hid (fun (X1 : World) (hX : Below wr.heap.size wr X1) (p q : Int) (h : (p = x ∧ q = y) ∨ (p = x2 ∧ q = y2)) => HFA.out X1 (below_trans HBL.out hX) p q (by
            rcases h with ⟨rfl, rfl⟩ | ⟨rfl, rfl⟩
            · exact HI1.out
            · exact HI2.out))
          have HV := Lib.hid hV
          clear ex ey ex2 ey2 hbl q0 q1 q2 q3 c0 c1 c2 c3 HJ HI HI1 HI2 hV HV2 HV3 HAK HFA
          go_upto_region 16 with (fail)
          go_region_held3 (fun z => Below wr.heap.size wr z ∧ z.cell? ⟨bS, 0, none⟩ = some (.int .i64 2) ∧ z.cell? ⟨bS, 1, none⟩ = some (.int .i64 1) ∧ z.cell? ⟨bS, 2, none⟩ = some (.int .i64 ((T : Int) + 1)) ∧ z.cell? ⟨bS, 3, none⟩ = some (.slice AR N cR) ∧ z.cell? ⟨b, off, none⟩ = some (.int .i64 x) ∧ z.cell? ⟨b, off + 1, none⟩ = some (.int .i64 y) ∧ z.cell? ⟨b, off + j * 2, none⟩ = some (.int .i64 x2) ∧ z.cell? ⟨b, off + j * 2 + 1, none⟩ = some (.int .i64 y2)) (first | exact HSOF.out _ (by assumption) | exact HSOF.out _ (below_drew hb0) | exact HSOF.out _ (below_trans (And.left (by assumption)) (by assumption)))
            ((go_at_call 50; refine (HPX.out _ (And.left (by assumption)) _ _ (by first | exact Or.inl ⟨rfl, rfl⟩ | exact Or.inr ⟨rfl, rfl⟩)).mono ?_; rintro e w7 ⟨rfl, hb1⟩; have HB7 := below_trans (And.left (by assumption)) hb1; clear hb1))
          all_goals (
            have hbz := And.left (by assumption : Below wr.heap.size wr _ ∧ _)
            have HZ := Lib.hid (below_trans HB.out (below_trans HBL.out hbz))
            clear hbz
            have hV := HV.out
            generalize FA x y = u at hV ⊢
            generalize FA x2 y2 = v at hV ⊢
            have HV6 := Lib.hid hV
            clear hV
            cases u <;> cases v <;> (
              go_wp2_with fail
              go_ret
              exact ⟨by rw [HV6.out]; rfl, HZ.out⟩))
end Go.Proofs.Ytahaimecchdfeaa
