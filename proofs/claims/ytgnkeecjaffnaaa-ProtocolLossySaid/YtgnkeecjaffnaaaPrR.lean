/-
  Walks of layer 54: run of the reference.
-/
import Derived.Test.YtgnkeecjaffnaaaProg
import Derived.Test.YtgnkeecjaffnaaaBase
import Derived.Test.YtgnkeecjaffnaaaRow
import Derived.Test.YtgnkeecjaffnaaaRowU
import Derived.Test.YtgnkeecjaffnaaaRowsOf
import Derived.Test.YtgnkeecjaffnaaaPc
import Derived.Test.YtgnkeecjaffnaaaPd
import Derived.Test.YtgnkeecjaffnaaaPrP
import Derived.Test.YtgnkeecjaffnaaaPrB
import Derived.Test.YtgnkeecjaffnaaaPrC
import Derived.Test.YtgnkeecjaffnaaaPrE
import Derived.Test.YtgnkeecjaffnaaaPrF
import Derived.Test.YtgnkeecjaffnaaaPrI
import Derived.Test.YtgnkeecjaffnaaaPrJ
import Derived.Test.YtgnkeecjaffnaaaPfB
import Derived.Test.YtgnkeecjaffnaaaPkB
import Derived.Deep.RegionHeld3
import Derived.Deep.AppendLies
import Derived.Deep.DeepCutAuto
namespace Go.Proofs.Ytgnkeecjaffnaaa
open Go.RowKit

/-- What the walk of the reference's run holds: the boxes of the protocol, the result, the run; the rows of the states, the facts. -/
structure RrI (w0 w : World) (bC b8 br : Nat) (e0 vC vL vF : Value) (rows : List Value) (n nL nF : Nat) (L : Nat → Nat → Int) (F : Nat → Nat) : Prop where
  below : Below w0.heap.size w0 w
  hC : Blk w bC 41 #[e0, vC]
  h8 : Blk w b8 30 #[.slice none 0 0, .slice none 0 0]
  hr : Blk w br 30 #[vL, vF]
  ne : b8 ≠ br
  ge : w0.heap.size ≤ b8 ∧ w0.heap.size ≤ br
  oL : w.ownsRow w0.heap.size 38 1 vL nL rows
  oR : ∀ i, i < nL → ∃ rv, rows[i]? = some rv ∧ w.ownsRow w0.heap.size 3 1 rv n (i64L (L i) n)
  oF : w.ownsRow w0.heap.size 64 1 vF nF (u64L F nF)
section
variable {w0 w w1 : World} {bC b8 br : Nat} {e0 vC vL vF : Value} {rows : List Value} {n nL nF : Nat} {L : Nat → Nat → Int} {F : Nat → Nat}
theorem RrI.keep (h : RrI w0 w bC b8 br e0 vC vL vF rows n nL nF L F) (hb : Below w.heap.size w w1) : RrI w0 w1 bC b8 br e0 vC vL vF rows n nL nF L F :=
  ⟨h.below.trans (hb.mono h.below.size), h.hC.below hb, h.h8.below hb, h.hr.below hb, h.ne, h.ge, own_below h.oL hb (Nat.le_refl _), fun i hi => let ⟨rv, h1, h2⟩ := h.oR i hi; ⟨rv, h1, own_below h2 hb (Nat.le_refl _)⟩, own_below h.oF hb (Nat.le_refl _)⟩
/-- The run gets a row of states. -/
theorem RrI.local (h : RrI w0 w bC b8 br e0 vC vL vF rows n nL nF L F) {vL' rv : Value} {o : Obj} (hrow : w.ownsRow w0.heap.size 3 1 rv n (i64L (L nL) n))
    (hown : w1.ownsRow w0.heap.size 38 1 vL' (nL + 1) (rows ++ [rv])) (hgrow : (w.alloc o).grownBy w1 vL.ownBlock) :
    RrI w0 (w1.setCell ⟨br, 0, none⟩ vL') bC b8 br e0 vC vL' vF (rows ++ [rv]) n (nL + 1) nF L F ∧ Keeps w (w1.setCell ⟨br, 0, none⟩ vL') 3 := by
  have hlt := h.oL.lt
  have hsz : (w.alloc o).heap.size = w.heap.size + 1 := by simp
  have hlen := h.oL.1
  have hr1 := (h.hr.alloc o).kept hgrow (h.hr.ne_row h.oL (by decide))
  have hC1 := (h.hC.alloc o).kept hgrow (h.hC.ne_row h.oL (by decide))
  have h81 := (h.h8.alloc o).kept hgrow (h.h8.ne_row h.oL (by decide))
  refine ⟨⟨((h.below.alloc h.below.size o).grown hgrow (by have := h.below.size; omega) (fun k hk => (hlt k hk).1)).setCell (p := ⟨br, 0, none⟩) h.ge.2 _, hC1.set_ne (hC1.ne hr1 (by decide)) _ _, h81.set_ne h.ne _ _, hr1.set 0 vL',
    h.ne, h.ge, own_set hown hr1 (by decide) _, fun i hi => ?_, own_set ((h.oF.alloc o).kept hgrow (own_ne h.oF h.oL (by decide))) hr1 (by decide) _⟩, ((Keeps.of_below (below_alloc w o) _).trans (Keeps.of_grown hgrow (own_alloc' h.oL o) (by decide))).trans (.of_set hr1 (by decide) _ _)⟩
  rcases Nat.lt_succ_iff_lt_or_eq.1 hi with h1 | rfl
  · obtain ⟨u, hu, hu2⟩ := h.oR i h1
    exact ⟨u, by rw [List.getElem?_append_left (by omega)]; exact hu, own_set ((hu2.alloc o).kept hgrow (own_ne hu2 h.oL (by decide))) hr1 (by decide) _⟩
  · exact ⟨rv, by rw [List.getElem?_append_right (by omega)]; simp [hlen], own_set ((hrow.alloc o).kept hgrow (own_ne hrow h.oL (by decide))) hr1 (by decide) _⟩
/-- The run gets its facts at a time. -/
theorem RrI.facts (h : RrI w0 w bC b8 br e0 vC vL vF rows n nL nF L F) {vF' : Value} {o : Obj} (hown : w1.ownsRow w0.heap.size 64 1 vF' (nF + 1) (u64L F nF ++ [.int .u64 (F nF : Nat)])) (hgrow : (w.alloc o).grownBy w1 vF.ownBlock) :
    RrI w0 (w1.setCell ⟨br, 1, none⟩ vF') bC b8 br e0 vC vL vF' rows n nL (nF + 1) L F ∧ Keeps w (w1.setCell ⟨br, 1, none⟩ vF') 3 := by
  have hlt := h.oF.lt
  have hsz : (w.alloc o).heap.size = w.heap.size + 1 := by simp
  have hr1 := (h.hr.alloc o).kept hgrow (h.hr.ne_row h.oF (by decide))
  have hC1 := (h.hC.alloc o).kept hgrow (h.hC.ne_row h.oF (by decide))
  have h81 := (h.h8.alloc o).kept hgrow (h.h8.ne_row h.oF (by decide))
  rw [← u64L_succ] at hown
  refine ⟨⟨((h.below.alloc h.below.size o).grown hgrow (by have := h.below.size; omega) (fun k hk => (hlt k hk).1)).setCell (p := ⟨br, 1, none⟩) h.ge.2 _, hC1.set_ne (hC1.ne hr1 (by decide)) _ _, h81.set_ne h.ne _ _, hr1.set 1 vF',
    h.ne, h.ge, own_set ((h.oL.alloc o).kept hgrow (own_ne h.oL h.oF (by decide))) hr1 (by decide) _, fun i hi => ?_, own_set hown hr1 (by decide) _⟩, ((Keeps.of_below (below_alloc w o) _).trans (Keeps.of_grown hgrow (own_alloc' h.oF o) (by decide))).trans (.of_set hr1 (by decide) _ _)⟩
  obtain ⟨u, hu, hu2⟩ := h.oR i hi
  exact ⟨u, hu, own_set ((hu2.alloc o).kept hgrow (own_ne hu2 h.oF (by decide))) hr1 (by decide) _⟩
/-- What is left at the end: the result's box is written; the run is owned. -/
theorem RrI.done {k : Nat} (h : RrI w0 w bC b8 br e0 vC vL vF rows n k k L F) (u0 u1 : Value) :
    RunO ((w.setCell ⟨b8, 0, none⟩ u0).setCell ⟨b8, 1, none⟩ u1) w0.heap.size (.agg #[vL, vF]) k (fun _ => n) L k F ∧ Below w0.heap.size w0 ((w.setCell ⟨b8, 0, none⟩ u0).setCell ⟨b8, 1, none⟩ u1) := by
  have h81 := h.h8.set 0 u0
  have hB := (h.below.setCell (p := ⟨b8, 0, none⟩) h.ge.1 u0).setCell (p := ⟨b8, 1, none⟩) h.ge.1 u1
  refine ⟨⟨vL, vF, rows, rfl, own_set (k := 1) (own_set (k := 0) h.oL h.h8 (by decide) u0) h81 (by decide) u1, fun i hi => ?_, own_set (k := 1) (own_set (k := 0) h.oF h.h8 (by decide) u0) h81 (by decide) u1⟩, hB⟩
  obtain ⟨rv, h1, h2⟩ := h.oR i hi
  exact ⟨rv, h1, own_set (k := 1) (own_set (k := 0) h2 h.h8 (by decide) u0) h81 (by decide) u1⟩
end
/-- The steps of a run, for messages in range. -/
theorem run_step {snd : Int → Int → Int} {bit : Int} {lost : Nat → Int} {T k : Nat} (hs : ∀ a h, 0 ≤ snd a h ∧ snd a h ≤ 3) (hb : 0 ≤ bit ∧ bit ≤ 1) (hl : ∀ k, k < T → 0 ≤ lost k ∧ lost k ≤ 3) (hk : k < T) (hT : T ≤ 4) :
    (runS snd bit lost (k + 1)).1 = 4 * (runS snd bit lost k).1 + (if lost k / 2 = 1 then 0 else snd 1 (runS snd bit lost k).2) ∧ (runS snd bit lost (k + 1)).2 = 4 * (runS snd bit lost k).2 + (if lost k % 2 = 1 then 0 else snd 0 (runS snd bit lost k).1) := by
  rw [(run_same hs hb hl (k + 1) hk (by omega)).1, (run_same hs hb hl k (by omega) (by omega)).1]
  exact ⟨rfl, rfl⟩
set_option maxHeartbeats 4000000 in
set_option maxRecDepth 100000 in
theorem rrun_any (bit : Int) (A : Option Addr) (n c : Nat) (fa fh fm : Nat → Int) (B : Option Addr) (T d : Nat) (lost : Nat → Int) (w : World) (hx : RuleS w A n fa fh fm) (hn : n ≤ 9223372036854775807) (hl : I64s w B T lost) (hT : T ≤ 4) (hm : ∀ k, k < T → 0 ≤ lost k ∧ lost k ≤ 3) (hb : 0 ≤ bit ∧ bit ≤ 1)
    (hs : ∀ a h, 0 ≤ sndV n fa fh fm a h ∧ sndV n fa fh fm a h ≤ 3) :
    Calls Try.prog 54 #[.agg #[.int .i64 T, .slice A n c], .int .i64 bit, .slice B T d] w fun e w' => ∃ v, e = .returned v ∧ RunO w' w.heap.size v (T + 1) (fun _ => 2) (runL (sndV n fa fh fm) bit lost) (T + 1) (fun _ => bit.toNat) ∧ Below w.heap.size w w' := by
  have HX := Lib.hid hx
  have HL := Lib.hid hl
  have HM := Lib.hid hm
  have HRS := Lib.hid (fun a h w (hx : RuleS w A n fa fh fm) => rsends_any T a h A n c fa fh fm w hx hn)
  have HST := Lib.hid (fun k (hk : k < T) => run_step (k := k) hs hb hm hk hT)
  have HS := Lib.hid hs
  have h00 : (runS (sndV n fa fh fm) bit lost 0).1 = 4 + bit := by
    show stV 0 bit = 4 + bit
    have hp : (0 : Int) ≤ 0 ∧ (0 : Int) ≤ 1 ∧ 0 ≤ bit ∧ bit ≤ 1 := by omega
    unfold stV; rw [if_pos hp]; rfl
  have h01 : (runS (sndV n fa fh fm) bit lost 0).2 = 4 := by
    show stV 1 bit = 4
    have hp : (0 : Int) ≤ 1 ∧ (1 : Int) ≤ 1 ∧ 0 ≤ bit ∧ bit ≤ 1 := by omega
    unfold stV; rw [if_pos hp]; rfl
  have H00 := Lib.hid h00
  have H01 := Lib.hid h01
  have eb : ((bit.toNat : Nat) : Int) = bit := by omega
  have EB := Lib.hid eb
  clear hx hl hm hs h00 h01 eb
  go_enter Try.func54, Try.ntmps54
  go_upto_region 2 with (fail)
  obtain ⟨W, hW⟩ : ∃ W, W = (w.alloc (.cells #[.int .i64 T, .slice A n c] 41)).alloc (.cells #[.slice none 0 0, .slice none 0 0] 30) := ⟨_, rfl⟩
  rw [← hW]
  obtain ⟨hC, h8, hB⟩ := two_boxes4 w _ _ _ _ W hW
  have HC := Lib.hid hC
  have H8 := Lib.hid h8
  have HB := Lib.hid hB
  clear hC h8 hB hW
  go_upto_region 3 with (fail)
  obtain ⟨V, hV⟩ : ∃ V, V = (((W.alloc (.cells #[.int .i64 (4 + bit), .int .i64 4] 3)).alloc (.cells #[.slice (some ⟨W.heap.size, 0, none⟩) 2 2] 38)).alloc (.cells #[.int .u64 bit] 64)).alloc (.cells #[.slice (some ⟨W.heap.size + 1, 0, none⟩) 1 1, .slice (some ⟨W.heap.size + 1 + 1, 0, none⟩) 1 1] 30) := ⟨_, rfl⟩
  rw [← hV]
  obtain ⟨k0, k1, k2, k3, hBV⟩ := four_blocks W _ _ _ _ _ _ _ _ V hV
  have hWs := HB.out.size
  have h8s := H8.out.lt
  have hRI : RrI w V w.heap.size (w.heap.size + 1) (W.heap.size + 1 + 1 + 1) (.int .i64 T) (.slice A n c) (.slice (some ⟨W.heap.size + 1, 0, none⟩) 1 1) (.slice (some ⟨W.heap.size + 1 + 1, 0, none⟩) 1 1) [.slice (some ⟨W.heap.size, 0, none⟩) 2 2] 2 1 1 (runL (sndV n fa fh fm) bit lost) (fun _ => bit.toNat) := by
    refine ⟨HB.out.trans (hBV.mono HB.out.size), HC.out.below hBV, H8.out.below hBV, k3, by omega, ⟨by omega, by omega⟩, own_one k1 (by omega), fun i hi => ?_, ?_⟩
    · obtain rfl : i = 0 := by omega
      refine ⟨_, rfl, ⟨rfl, .inr ⟨W.heap.size, 2, #[.int .i64 (4 + bit), .int .i64 4], rfl, by omega, k0, by decide, by decide, rfl, ?_⟩⟩⟩
      show _ = [Value.int .i64 (runS (sndV n fa fh fm) bit lost 0).1, Value.int .i64 (runS (sndV n fa fh fm) bit lost 0).2]
      rw [H00.out, H01.out]; rfl
    · have := own_one (base := w.heap.size) k2 (by omega)
      rw [← EB.out] at this
      exact this
  have HRI := Lib.hid hRI
  generalize W.heap.size + 1 + 1 + 1 = br at HRI ⊢
  generalize w.heap.size + 1 = b8 at HRI H8 h8s ⊢
  clear hRI k0 k1 k2 k3 hBV hV hWs h8s HC H8 HB
  go_wp2_with fail
  go_loopw [7, 8, 10] (fun av bv iv wr => ∃ k : Nat, k ≤ T ∧ iv = .int .i64 k ∧ av = .int .i64 (runS (sndV n fa fh fm) bit lost k).1 ∧ bv = .int .i64 (runS (sndV n fa fh fm) bit lost k).2 ∧ ∃ vL vF rows, RrI w wr w.heap.size b8 br (.int .i64 T) (.slice A n c) vL vF rows 2 (k + 1) (k + 1) (runL (sndV n fa fh fm) bit lost) (fun _ => bit.toNat)) (fun _ _ iv _ => T - (intOf iv).toNat)
  case atStart => exact ⟨0, Nat.zero_le _, rfl, by rw [H00.out], by rw [H01.out], _, _, _, HRI.out⟩
  case round =>
    clear HRI
    obtain ⟨k, hk, rfl, rfl, rfl, vL, vF, rows, hri⟩ := hrel
    have z0 : wr.cell? ⟨w.heap.size, 0, none⟩ = some (.int .i64 T) := hri.hC.cell rfl
    have z1 : wr.cell? ⟨w.heap.size, 1, none⟩ = some (.slice A n c) := hri.hC.cell rfl
    by_cases hlt : k < T
    · obtain ⟨hxr, hyr⟩ := runS_range (sndV n fa fh fm) bit lost k
      obtain ⟨s1, s2⟩ := HST.out k hlt
      obtain ⟨x, ex⟩ : ∃ x, x = (runS (sndV n fa fh fm) bit lost k).1 := ⟨_, rfl⟩
      obtain ⟨y, ey⟩ : ∃ x, x = (runS (sndV n fa fh fm) bit lost k).2 := ⟨_, rfl⟩
      rw [← ex, ← ey] at s1 s2 ⊢
      rw [← ex] at hxr
      rw [← ey] at hyr
      have hp := HS.out 0 x
      have hq := HS.out 1 y
      have HR0 := Lib.hid (HRS.out 0 x)
      have HR1 := Lib.hid (HRS.out 1 y)
      obtain ⟨p, ep⟩ : ∃ u, u = sndV n fa fh fm 0 x := ⟨_, rfl⟩
      obtain ⟨q, eq⟩ : ∃ u, u = sndV n fa fh fm 1 y := ⟨_, rfl⟩
      rw [← ep] at s2 hp HR0
      rw [← eq] at s1 hq HR1
      obtain ⟨x', ex'⟩ : ∃ u, u = (runS (sndV n fa fh fm) bit lost (k + 1)).1 := ⟨_, rfl⟩
      obtain ⟨y', ey'⟩ : ∃ u, u = (runS (sndV n fa fh fm) bit lost (k + 1)).2 := ⟨_, rfl⟩
      rw [← ex'] at s1
      rw [← ey'] at s2
      have EX := Lib.hid ex'
      have EY := Lib.hid ey'
      obtain ⟨b, off, rfl, c1, -⟩ := HL.out.below hri.below k hlt
      have hm := HM.out k hlt
      have HXr := Lib.hid (HX.out.below hri.below)
      have HRI := Lib.hid hri
      obtain ⟨V0, eW⟩ : ∃ V0, V0 = wr := ⟨_, rfl⟩
      subst eW
      have HSOF := Lib.hid (fun (y : World) (h : Below V0.heap.size V0 y) => (⟨h, cell_below h z0, cell_below h z1⟩ : Below V0.heap.size V0 y ∧ y.cell? ⟨w.heap.size, 0, none⟩ = some (.int .i64 T) ∧ y.cell? ⟨w.heap.size, 1, none⟩ = some (.slice A n c)))
      have hb0 := Below.refl V0.heap.size V0
      clear hri ex ey ep eq ex' ey'
      have hkT : (k : Int) < (T : Int) := by omega
      go_upto_region 6 with (fail)
      go_cut [11, 12] (fun pv qv wx => pv = .int .i64 p ∧ qv = .int .i64 q ∧ Below V0.heap.size V0 wx)
      case first =>
        clear s1 s2 hp hq hxr hyr c1 hm z0 z1
        go_region_held3 (fun x => Below V0.heap.size V0 x ∧ x.cell? ⟨w.heap.size, 0, none⟩ = some (.int .i64 T) ∧ x.cell? ⟨w.heap.size, 1, none⟩ = some (.slice A n c)) (first | exact HSOF.out _ (by assumption) | exact HSOF.out _ (below_drew hb0) | exact HSOF.out _ (below_trans (And.left (by assumption)) (by assumption)))
          (first | (go_at_call 55; refine (HR0.out _ (by exact HXr.out.below (And.left (by assumption)))).mono ?_; rintro e w3 ⟨rfl, hb1⟩; have HB3 := below_trans (And.left (by assumption)) hb1; clear HR0 hb1) | (go_at_call 55; refine (HR1.out _ (by exact HXr.out.below (And.left (by assumption)))).mono ?_; rintro e w3 ⟨rfl, hb1⟩; have HB3 := below_trans (And.left (by assumption)) hb1; clear HR1 hb1) | fail)
        all_goals (
          go_wp2_with fail
          go_meet
          exact ⟨rfl, rfl, And.left (by assumption)⟩)
      case rest =>
        obtain ⟨rfl, rfl, hbx⟩ := hcut
        have hri := HRI.out.keep hbx
        have c1 := cell_below hbx c1
        have hrow0 := Blk.new wc #[.int .i64 x', .int .i64 y'] 3
        have hba := below_alloc wc (.cells #[.int .i64 x', .int .i64 y'] 3)
        have hwz := hri.below.size
        have HRW : Hid ((wc.alloc (.cells #[.int .i64 x', .int .i64 y'] 3)).ownsRow w.heap.size 3 1 (.slice (some ⟨wc.heap.size, 0, none⟩) 2 2) 2 (i64L (runL (sndV n fa fh fm) bit lost (k + 1)) 2)) := Lib.hid ⟨rfl, .inr ⟨wc.heap.size, 2, _, rfl, hwz, hrow0, by decide, by decide, rfl, by
          show _ = [Value.int .i64 (runS (sndV n fa fh fm) bit lost (k + 1)).1, Value.int .i64 (runS (sndV n fa fh fm) bit lost (k + 1)).2]
          rw [← EX.out, ← EY.out]; rfl⟩⟩
        have HRU := Lib.hid (hri.keep hba)
        have HOL := Lib.hid hri.oL
        obtain ⟨AL, cL, rfl, -⟩ := own_form HOL.out
        have HCN := Lib.hid (by
          have := cell_one_new (wc.alloc (.cells #[.int .i64 x', .int .i64 y'] 3)) (.slice (some ⟨wc.heap.size, 0, none⟩) 2 2) 38
          rw [World.size_alloc] at this
          exact this)
        have q0 : wc.cell? ⟨br, 0, none⟩ = some (.slice AL (k + 1) cL) := hri.hr.cell rfl
        obtain ⟨m, em⟩ : ∃ m, m = lost k := ⟨_, rfl⟩
        rw [← em] at c1 hm s1 s2
        clear em HRI hbx hri hrow0 hba z0 z1 hb0 HSOF HXr
        have h4 : m = 0 ∨ m = 1 ∨ m = 2 ∨ m = 3 := by omega
        clear hm
        rcases h4 with rfl | rfl | rfl | rfl
        · have hx' : x' = 4 * x + q := by rw [s1, if_neg (by decide)]
          have hy' : y' = 4 * y + p := by rw [s2, if_neg (by decide)]
          clear s1 s2
          go_upto_region 12 with (fail)
          rw [← hx', ← hy']
          clear hx' hy'
          go_upto_region 13 with (at_builtin; obtain ⟨i0, hi, hz0, hz1, hz2⟩ := info_parts Try.infoInts; refine wpList_append_lies _ rfl _ _ 27 rfl w.heap.size 38 i0 (.slice none 0 0) 1 24 Try.underlying27 hi hz0 hz1 hz2 rfl (by decide) _ _ _ rfl (own_alloc' (own_alloc' HOL.out _) _) ⟨wc.heap.size + 1, 0, none⟩ 1 1 [.slice (some ⟨wc.heap.size, 0, none⟩) 2 2] rfl rfl HCN.out (one_oneCell rfl) (by omega) (by unfold maxLen; omega) (by omega) (by simp; omega) (wc.heap.size + 1 + 1) (by simp) ?_; intro gg capL w5 hown5 hgrow5 _ _; have q1 := ((HRU.out.hr.alloc _).kept hgrow5 (HRU.out.hr.ne_row HRU.out.oL (by decide))).cell (k := 0) rfl; have f1 := ((HRU.out.hr.alloc _).kept hgrow5 (HRU.out.hr.ne_row HRU.out.oL (by decide))).frozen (k := 0); have HOW5 := Lib.hid hown5; have HG5 := Lib.hid hgrow5; clear hi hz0 hz1 hz2 hown5 hgrow5)
          obtain ⟨h6, -⟩ := HRU.out.local HRW.out HOW5.out HG5.out
          generalize w5.setCell ⟨br, 0, none⟩ (.slice (some ⟨gg, 0, none⟩) (k + 1 + 1) capL) = V6 at h6 ⊢
          have hg6 := h6.below.size
          have q3 := h6.hr.cell (k := 1) rfl
          have HOF := Lib.hid h6.oF
          obtain ⟨AF, cF, rfl, -⟩ := own_form HOF.out
          have HR6 := Lib.hid h6
          clear h6 HRU HRW HOW5 HG5 q0 q1 f1 HOL HCN
          go_wp2_with (at_builtin; obtain ⟨i0, hi, hz0, hz1, hz2⟩ := info_parts Try.infoU64; refine wpList_append_lies _ rfl _ _ 28 rfl w.heap.size 64 i0 (.int .u64 0) 1 8 Try.underlying28 hi hz0 hz1 hz2 rfl (by decide) _ _ _ rfl (HOF.out.alloc _) ⟨V6.heap.size, 0, none⟩ 1 1 [.int .u64 bit] rfl rfl (cell_one_new _ _ _) (one_oneCell rfl) (by omega) (by unfold maxLen; omega) (by omega) (by simp; omega) (V6.heap.size + 1) (by simp) ?_; intro gf capF w7 hown7 hgrow7 _ _; have q4 := ((HR6.out.hr.alloc _).kept hgrow7 (HR6.out.hr.ne_row HR6.out.oF (by decide))).cell (k := 1) rfl; have f4 := ((HR6.out.hr.alloc _).kept hgrow7 (HR6.out.hr.ne_row HR6.out.oF (by decide))).frozen (k := 1); have HOW7 := Lib.hid hown7; have HG7 := Lib.hid hgrow7; clear hi hz0 hz1 hz2 hown7 hgrow7)
          go_roundw
          case rel =>
            have h7 := HOW7.out
            rw [show (Value.int .u64 bit : Value) = .int .u64 ((bit.toNat : Nat) : Int) from by rw [EB.out]] at h7
            obtain ⟨h8, -⟩ := HR6.out.facts h7 HG7.out
            exact ⟨k + 1, by omega, by go_num, by rw [← EX.out], by rw [← EY.out], _, _, _, h8⟩
          case measure => simp [intOf]; omega
        · have hx' : x' = 4 * x + q := by rw [s1, if_neg (by decide)]
          have hy' : y' = 4 * y := by rw [s2, if_pos (by decide)]; omega
          clear s1 s2
          go_upto_region 12 with (fail)
          rw [← hx', ← hy']
          clear hx' hy'
          go_upto_region 13 with (at_builtin; obtain ⟨i0, hi, hz0, hz1, hz2⟩ := info_parts Try.infoInts; refine wpList_append_lies _ rfl _ _ 27 rfl w.heap.size 38 i0 (.slice none 0 0) 1 24 Try.underlying27 hi hz0 hz1 hz2 rfl (by decide) _ _ _ rfl (own_alloc' (own_alloc' HOL.out _) _) ⟨wc.heap.size + 1, 0, none⟩ 1 1 [.slice (some ⟨wc.heap.size, 0, none⟩) 2 2] rfl rfl HCN.out (one_oneCell rfl) (by omega) (by unfold maxLen; omega) (by omega) (by simp; omega) (wc.heap.size + 1 + 1) (by simp) ?_; intro gg capL w5 hown5 hgrow5 _ _; have q1 := ((HRU.out.hr.alloc _).kept hgrow5 (HRU.out.hr.ne_row HRU.out.oL (by decide))).cell (k := 0) rfl; have f1 := ((HRU.out.hr.alloc _).kept hgrow5 (HRU.out.hr.ne_row HRU.out.oL (by decide))).frozen (k := 0); have HOW5 := Lib.hid hown5; have HG5 := Lib.hid hgrow5; clear hi hz0 hz1 hz2 hown5 hgrow5)
          obtain ⟨h6, -⟩ := HRU.out.local HRW.out HOW5.out HG5.out
          generalize w5.setCell ⟨br, 0, none⟩ (.slice (some ⟨gg, 0, none⟩) (k + 1 + 1) capL) = V6 at h6 ⊢
          have hg6 := h6.below.size
          have q3 := h6.hr.cell (k := 1) rfl
          have HOF := Lib.hid h6.oF
          obtain ⟨AF, cF, rfl, -⟩ := own_form HOF.out
          have HR6 := Lib.hid h6
          clear h6 HRU HRW HOW5 HG5 q0 q1 f1 HOL HCN
          go_wp2_with (at_builtin; obtain ⟨i0, hi, hz0, hz1, hz2⟩ := info_parts Try.infoU64; refine wpList_append_lies _ rfl _ _ 28 rfl w.heap.size 64 i0 (.int .u64 0) 1 8 Try.underlying28 hi hz0 hz1 hz2 rfl (by decide) _ _ _ rfl (HOF.out.alloc _) ⟨V6.heap.size, 0, none⟩ 1 1 [.int .u64 bit] rfl rfl (cell_one_new _ _ _) (one_oneCell rfl) (by omega) (by unfold maxLen; omega) (by omega) (by simp; omega) (V6.heap.size + 1) (by simp) ?_; intro gf capF w7 hown7 hgrow7 _ _; have q4 := ((HR6.out.hr.alloc _).kept hgrow7 (HR6.out.hr.ne_row HR6.out.oF (by decide))).cell (k := 1) rfl; have f4 := ((HR6.out.hr.alloc _).kept hgrow7 (HR6.out.hr.ne_row HR6.out.oF (by decide))).frozen (k := 1); have HOW7 := Lib.hid hown7; have HG7 := Lib.hid hgrow7; clear hi hz0 hz1 hz2 hown7 hgrow7)
          go_roundw
          case rel =>
            have h7 := HOW7.out
            rw [show (Value.int .u64 bit : Value) = .int .u64 ((bit.toNat : Nat) : Int) from by rw [EB.out]] at h7
            obtain ⟨h8, -⟩ := HR6.out.facts h7 HG7.out
            exact ⟨k + 1, by omega, by go_num, by rw [← EX.out], by rw [← EY.out], _, _, _, h8⟩
          case measure => simp [intOf]; omega
        · have hx' : x' = 4 * x := by rw [s1, if_pos (by decide)]; omega
          have hy' : y' = 4 * y + p := by rw [s2, if_neg (by decide)]
          clear s1 s2
          go_upto_region 12 with (fail)
          rw [← hx', ← hy']
          clear hx' hy'
          go_upto_region 13 with (at_builtin; obtain ⟨i0, hi, hz0, hz1, hz2⟩ := info_parts Try.infoInts; refine wpList_append_lies _ rfl _ _ 27 rfl w.heap.size 38 i0 (.slice none 0 0) 1 24 Try.underlying27 hi hz0 hz1 hz2 rfl (by decide) _ _ _ rfl (own_alloc' (own_alloc' HOL.out _) _) ⟨wc.heap.size + 1, 0, none⟩ 1 1 [.slice (some ⟨wc.heap.size, 0, none⟩) 2 2] rfl rfl HCN.out (one_oneCell rfl) (by omega) (by unfold maxLen; omega) (by omega) (by simp; omega) (wc.heap.size + 1 + 1) (by simp) ?_; intro gg capL w5 hown5 hgrow5 _ _; have q1 := ((HRU.out.hr.alloc _).kept hgrow5 (HRU.out.hr.ne_row HRU.out.oL (by decide))).cell (k := 0) rfl; have f1 := ((HRU.out.hr.alloc _).kept hgrow5 (HRU.out.hr.ne_row HRU.out.oL (by decide))).frozen (k := 0); have HOW5 := Lib.hid hown5; have HG5 := Lib.hid hgrow5; clear hi hz0 hz1 hz2 hown5 hgrow5)
          obtain ⟨h6, -⟩ := HRU.out.local HRW.out HOW5.out HG5.out
          generalize w5.setCell ⟨br, 0, none⟩ (.slice (some ⟨gg, 0, none⟩) (k + 1 + 1) capL) = V6 at h6 ⊢
          have hg6 := h6.below.size
          have q3 := h6.hr.cell (k := 1) rfl
          have HOF := Lib.hid h6.oF
          obtain ⟨AF, cF, rfl, -⟩ := own_form HOF.out
          have HR6 := Lib.hid h6
          clear h6 HRU HRW HOW5 HG5 q0 q1 f1 HOL HCN
          go_wp2_with (at_builtin; obtain ⟨i0, hi, hz0, hz1, hz2⟩ := info_parts Try.infoU64; refine wpList_append_lies _ rfl _ _ 28 rfl w.heap.size 64 i0 (.int .u64 0) 1 8 Try.underlying28 hi hz0 hz1 hz2 rfl (by decide) _ _ _ rfl (HOF.out.alloc _) ⟨V6.heap.size, 0, none⟩ 1 1 [.int .u64 bit] rfl rfl (cell_one_new _ _ _) (one_oneCell rfl) (by omega) (by unfold maxLen; omega) (by omega) (by simp; omega) (V6.heap.size + 1) (by simp) ?_; intro gf capF w7 hown7 hgrow7 _ _; have q4 := ((HR6.out.hr.alloc _).kept hgrow7 (HR6.out.hr.ne_row HR6.out.oF (by decide))).cell (k := 1) rfl; have f4 := ((HR6.out.hr.alloc _).kept hgrow7 (HR6.out.hr.ne_row HR6.out.oF (by decide))).frozen (k := 1); have HOW7 := Lib.hid hown7; have HG7 := Lib.hid hgrow7; clear hi hz0 hz1 hz2 hown7 hgrow7)
          go_roundw
          case rel =>
            have h7 := HOW7.out
            rw [show (Value.int .u64 bit : Value) = .int .u64 ((bit.toNat : Nat) : Int) from by rw [EB.out]] at h7
            obtain ⟨h8, -⟩ := HR6.out.facts h7 HG7.out
            exact ⟨k + 1, by omega, by go_num, by rw [← EX.out], by rw [← EY.out], _, _, _, h8⟩
          case measure => simp [intOf]; omega
        · have hx' : x' = 4 * x := by rw [s1, if_pos (by decide)]; omega
          have hy' : y' = 4 * y := by rw [s2, if_pos (by decide)]; omega
          clear s1 s2
          go_upto_region 12 with (fail)
          rw [← hx', ← hy']
          clear hx' hy'
          go_upto_region 13 with (at_builtin; obtain ⟨i0, hi, hz0, hz1, hz2⟩ := info_parts Try.infoInts; refine wpList_append_lies _ rfl _ _ 27 rfl w.heap.size 38 i0 (.slice none 0 0) 1 24 Try.underlying27 hi hz0 hz1 hz2 rfl (by decide) _ _ _ rfl (own_alloc' (own_alloc' HOL.out _) _) ⟨wc.heap.size + 1, 0, none⟩ 1 1 [.slice (some ⟨wc.heap.size, 0, none⟩) 2 2] rfl rfl HCN.out (one_oneCell rfl) (by omega) (by unfold maxLen; omega) (by omega) (by simp; omega) (wc.heap.size + 1 + 1) (by simp) ?_; intro gg capL w5 hown5 hgrow5 _ _; have q1 := ((HRU.out.hr.alloc _).kept hgrow5 (HRU.out.hr.ne_row HRU.out.oL (by decide))).cell (k := 0) rfl; have f1 := ((HRU.out.hr.alloc _).kept hgrow5 (HRU.out.hr.ne_row HRU.out.oL (by decide))).frozen (k := 0); have HOW5 := Lib.hid hown5; have HG5 := Lib.hid hgrow5; clear hi hz0 hz1 hz2 hown5 hgrow5)
          obtain ⟨h6, -⟩ := HRU.out.local HRW.out HOW5.out HG5.out
          generalize w5.setCell ⟨br, 0, none⟩ (.slice (some ⟨gg, 0, none⟩) (k + 1 + 1) capL) = V6 at h6 ⊢
          have hg6 := h6.below.size
          have q3 := h6.hr.cell (k := 1) rfl
          have HOF := Lib.hid h6.oF
          obtain ⟨AF, cF, rfl, -⟩ := own_form HOF.out
          have HR6 := Lib.hid h6
          clear h6 HRU HRW HOW5 HG5 q0 q1 f1 HOL HCN
          go_wp2_with (at_builtin; obtain ⟨i0, hi, hz0, hz1, hz2⟩ := info_parts Try.infoU64; refine wpList_append_lies _ rfl _ _ 28 rfl w.heap.size 64 i0 (.int .u64 0) 1 8 Try.underlying28 hi hz0 hz1 hz2 rfl (by decide) _ _ _ rfl (HOF.out.alloc _) ⟨V6.heap.size, 0, none⟩ 1 1 [.int .u64 bit] rfl rfl (cell_one_new _ _ _) (one_oneCell rfl) (by omega) (by unfold maxLen; omega) (by omega) (by simp; omega) (V6.heap.size + 1) (by simp) ?_; intro gf capF w7 hown7 hgrow7 _ _; have q4 := ((HR6.out.hr.alloc _).kept hgrow7 (HR6.out.hr.ne_row HR6.out.oF (by decide))).cell (k := 1) rfl; have f4 := ((HR6.out.hr.alloc _).kept hgrow7 (HR6.out.hr.ne_row HR6.out.oF (by decide))).frozen (k := 1); have HOW7 := Lib.hid hown7; have HG7 := Lib.hid hgrow7; clear hi hz0 hz1 hz2 hown7 hgrow7)
          go_roundw
          case rel =>
            have h7 := HOW7.out
            rw [show (Value.int .u64 bit : Value) = .int .u64 ((bit.toNat : Nat) : Int) from by rw [EB.out]] at h7
            obtain ⟨h8, -⟩ := HR6.out.facts h7 HG7.out
            exact ⟨k + 1, by omega, by go_num, by rw [← EX.out], by rw [← EY.out], _, _, _, h8⟩
          case measure => simp [intOf]; omega
    · obtain rfl : k = T := by omega
      obtain ⟨gl, cl, rfl⟩ := own_succ hri.oL
      obtain ⟨gf, cf, rfl⟩ := own_succ hri.oF
      have HRI := Lib.hid hri
      have r0 := hri.hr.cell (k := 0) rfl
      have r1 := hri.hr.cell (k := 1) rfl
      have s0 := hri.h8.cell (k := 0) rfl
      have s1 := hri.h8.cell (k := 1) rfl
      have f0 := hri.h8.frozen (k := 0)
      have hw1 := hri.h8.set 0 (.slice (some ⟨gl, 0, none⟩) (k + 1) cl)
      have g0 := hw1.cell (k := 1) rfl
      have g1 := hw1.frozen (k := 1)
      have hw2 := hw1.set 1 (.slice (some ⟨gf, 0, none⟩) (k + 1) cf)
      have q0 := hw2.cell (k := 0) rfl
      have q1 := hw2.cell (k := 1) rfl
      clear hri hw1 hw2 HL HM HX
      go_wp2_with fail
      obtain ⟨h1, h3⟩ := HRI.out.done (.slice (some ⟨gl, 0, none⟩) (k + 1) cl) (.slice (some ⟨gf, 0, none⟩) (k + 1) cf)
      exact bodyPost_ret (v := .agg #[.slice (some ⟨gl, 0, none⟩) (k + 1) cl, .slice (some ⟨gf, 0, none⟩) (k + 1) cf]) (by simp [results, Try.results54, go_sem, q0, q1]) rfl ⟨_, rfl, h1, h3⟩
end Go.Proofs.Ytgnkeecjaffnaaa
