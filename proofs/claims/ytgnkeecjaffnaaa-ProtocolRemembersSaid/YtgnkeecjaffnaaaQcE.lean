/-
  Walks of package runs: Synchronous, where it holds.
-/
import Derived.Test.YtgnkeecjaffnaaaProg
import Derived.Test.YtgnkeecjaffnaaaBase
import Derived.Test.YtgnkeecjaffnaaaRow
import Derived.Test.YtgnkeecjaffnaaaRowsOf
import Derived.Test.YtgnkeecjaffnaaaPc
import Derived.Test.YtgnkeecjaffnaaaPd
import Derived.Test.YtgnkeecjaffnaaaPrI
import Derived.Test.YtgnkeecjaffnaaaQcB
import Derived.Test.YtgnkeecjaffnaaaQcC
import Derived.Deep.DeepCutAuto
import Derived.Deep.RegionHeld3
namespace Go.Proofs.Ytgnkeecjaffnaaa
open Go.RowKit

set_option maxHeartbeats 4000000 in
set_option maxRecDepth 100000 in
theorem Sync_yes (x : Value) (a f l : Int) (n : Nat) (T : Nat → Nat) (m : Nat → Nat → Nat) (L : Nat → Nat → Nat → Int) (K : Nat → Nat) (F : Nat → Nat → Nat) (w : World) (h : SysR w x a f l n T m L K F) (hn : n ≤ 65536) (hE : chkE a f l n T m K F = 0)
    (hs : ∀ r t r' t' g, r < n → t < l.toNat → r' < n → t' < l.toNat → g < a.toNat → t ≠ t' → L r t g ≠ L r' t' g) :
    Calls Try.prog 40 #[x] w fun e w' => e = .returned (.bool true) ∧ Below w.heap.size w w' := by
  obtain ⟨ha, -, hl, hn64, h512, -, hfr, -⟩ := chkE_ok hE
  have HCK := Lib.hid (fun W (h : SysR W x a f l n T m L K F) => rCheckS_any x a f l n T m L K F W h hn)
  rw [hE] at HCK
  have HPT := Lib.hid (fun W (h : SysR W x a f l n T m L K F) => Points_any x a f l n T m L K F W h hn hE)
  have HS := Lib.hid h
  obtain ⟨A, c, rfl, hR⟩ := h
  obtain ⟨l', rfl⟩ : ∃ N : Nat, l = N := ⟨l.toNat, by omega⟩
  obtain ⟨a', rfl⟩ : ∃ N : Nat, a = N := ⟨a.toNat, by omega⟩
  rw [Int.toNat_natCast] at hs HPT
  rw [Int.toNat_natCast] at hs
  have HSY := Lib.hid hs
  have hfr2 : ∀ r t, r < n → t < l' → t < T r ∧ m r t = a' := fun r t hr ht => by
    obtain ⟨h1, -, h2⟩ := hfr r hr
    have : t < T r := by omega
    exact ⟨this, by have := h2 t this; omega⟩
  have HFR := Lib.hid hfr2
  have ha4 : a' ≤ 4 := by omega
  have hpl : (ptL n l').length ≤ 1024 := by
    rw [ptL_len]
    exact Nat.le_trans (Nat.mul_le_mul hn64 (show l' ≤ 16 by omega)) (by decide)
  have HB := Lib.hid (below_alloc w (.cells #[.int .i64 a', .int .i64 f, .int .i64 l', .slice A n c] 44))
  have HK := Lib.hid (Blk.new w #[.int .i64 a', .int .i64 f, .int .i64 l', .slice A n c] 44)
  have HRW := Lib.hid (hR.below HB.out)
  clear hR hE h512 hl hs hfr hfr2 ha HS
  go_enter Try.func40, Try.ntmps40
  go_upto_region 1 with (fail)
  generalize w.alloc (.cells #[.int .i64 a', .int .i64 f, .int .i64 l', .slice A n c] 44) = W at HB HK HRW ⊢
  obtain ⟨bs, ebs⟩ : ∃ b, b = w.heap.size := ⟨_, rfl⟩
  rw [← ebs] at HK ⊢
  clear ebs
  have d0 := HK.out.cell (k := 0) rfl
  have d1 := HK.out.cell (k := 1) rfl
  have d2 := HK.out.cell (k := 2) rfl
  have d3 := HK.out.cell (k := 3) rfl
  have D0 := Lib.hid d0
  have D1 := Lib.hid d1
  have D2 := Lib.hid d2
  have D3 := Lib.hid d3
  have HSW := Lib.hid (fun X (hX : Below W.heap.size W X) => (show SysR X (.agg #[.int .i64 a', .int .i64 f, .int .i64 l', .slice A n c]) a' f l' n T m L K F from ⟨A, c, rfl, HRW.out.below hX⟩))
  obtain ⟨pts, epts⟩ : ∃ p, p = ptL n l' := ⟨_, rfl⟩
  have HME := Lib.hid (fun p => (show p ∈ pts ↔ p.1 < n ∧ p.2 < l' by rw [epts]; exact ptL_mem))
  rw [← epts] at HPT hpl
  obtain ⟨NP, eNP⟩ : ∃ q, q = pts.length := ⟨_, rfl⟩
  rw [← eNP] at hpl
  have ENP := Lib.hid eNP
  clear epts eNP
  go_upto_region 2 with (go_at_call 67; refine (HPT.out _ (HSW.out _ (Below.refl _ _))).mono ?_; rintro e w1 ⟨v, rfl, hp, hb1⟩; have HP := Lib.hid hp; have HB1 := Lib.hid hb1; obtain ⟨Ap, cp, rfl⟩ := hp.shape; rw [← ENP.out]; clear hp hb1)
  obtain ⟨V, eW⟩ : ∃ V, V = w1 := ⟨_, rfl⟩
  subst eW
  have hV := Lib.hid HB1.out
  clear d0 d1 d2 d3
  go_loopw [11] (fun iv wr => ∃ i : Nat, i ≤ NP ∧ iv = .int .i64 i ∧ Below V.heap.size V wr) (fun iv _ => NP - (intOf iv).toNat)
  case atStart => exact ⟨0, Nat.zero_le _, rfl, Below.refl _ _⟩
  case round =>
    obtain ⟨i, hi, rfl, hb⟩ := hrel
    have HBX := Lib.hid hb
    have HBW := Lib.hid (below_trans HB1.out hb)
    by_cases hlt : i < NP
    · obtain ⟨p, hp⟩ : ∃ p, pts[i]? = some p := ⟨_, List.getElem?_eq_getElem (by rw [← ENP.out]; exact hlt)⟩
      obtain ⟨hp1, hp2⟩ := (HME.out p).1 (List.mem_of_getElem? hp)
      obtain ⟨gp, kp, ep, c1, c2⟩ := pnO_at (HP.out.below hb) hp
      injection ep with ep ep2 ep3
      subst ep
      obtain ⟨r, er⟩ : ∃ x, x = p.1 := ⟨_, rfl⟩
      obtain ⟨t, et⟩ : ∃ x, x = p.2 := ⟨_, rfl⟩
      rw [← er] at c1 hp1
      rw [← et] at c2 hp2
      have hii : (i : Int) < (NP : Int) := by omega
      have d0 := cell_below HBW.out D0.out
      have d1 := cell_below HBW.out D1.out
      have d2 := cell_below HBW.out D2.out
      have d3 := cell_below HBW.out D3.out
      clear hp er et ep2 ep3 hb
      go_upto_region 4 with (fail)
      have hba := below_alloc wr (.cells #[.int .i64 r, .int .i64 t] 94)
      have hbk := Blk.new wr #[.int .i64 r, .int .i64 t] 94
      have d0 := cell_below hba d0
      have d1 := cell_below hba d1
      have d2 := cell_below hba d2
      have d3 := cell_below hba d3
      have HPK := Lib.hid hbk
      have HBX := Lib.hid (below_trans HBX.out hba)
      have HBW := Lib.hid (below_trans HBW.out hba)
      generalize wr.alloc (.cells #[.int .i64 r, .int .i64 t] 94) = V1 at d0 d1 d2 d3 HPK HBX HBW ⊢
      generalize wr.heap.size = bp at HPK ⊢
      clear hba hbk c1 c2
      go_upto_region 5 with (go_at_call 67; refine (HPT.out _ (HSW.out _ HBW.out)).mono ?_; rintro e w2 ⟨v, rfl, hq, hb1⟩; have HQ := Lib.hid hq; have HB2 := Lib.hid hb1; obtain ⟨Aq, cq, rfl⟩ := hq.shape; rw [← ENP.out]; clear hq hb1)
      have HPK := Lib.hid (HPK.out.below HB2.out)
      have HBX := Lib.hid (below_trans HBX.out HB2.out)
      have HBW := Lib.hid (below_trans HBW.out HB2.out)
      obtain ⟨V2, eW⟩ : ∃ V2, V2 = w2 := ⟨_, rfl⟩
      subst eW
      clear d0 d1 d2 d3 HB2
      go_loopw [18] (fun jv wr => ∃ j : Nat, j ≤ NP ∧ jv = .int .i64 j ∧ Below V2.heap.size V2 wr) (fun jv _ => NP - (intOf jv).toNat)
      case atStart => exact ⟨0, Nat.zero_le _, rfl, Below.refl _ _⟩
      case round =>
        obtain ⟨j, hj, rfl, hb⟩ := hrel
        have HBY := Lib.hid hb
        have HBZ := Lib.hid (below_trans HBW.out hb)
        by_cases hlj : j < NP
        · obtain ⟨p', hp'⟩ : ∃ p, pts[j]? = some p := ⟨_, List.getElem?_eq_getElem (by rw [← ENP.out]; exact hlj)⟩
          obtain ⟨hq1, hq2⟩ := (HME.out p').1 (List.mem_of_getElem? hp')
          obtain ⟨gp', kp', ep', c1, c2⟩ := pnO_at (HQ.out.below hb) hp'
          injection ep' with ep' ep2' ep3'
          subst ep'
          obtain ⟨r', er⟩ : ∃ x, x = p'.1 := ⟨_, rfl⟩
          obtain ⟨t', et⟩ : ∃ x, x = p'.2 := ⟨_, rfl⟩
          rw [← er] at c1 hq1
          rw [← et] at c2 hq2
          have hjj : (j : Int) < (NP : Int) := by omega
          have d0 := cell_below HBZ.out D0.out
          have HPK2 := Lib.hid (HPK.out.below hb)
          clear hp' er et ep2' ep3' hb
          go_upto_region 7 with (fail)
          have hba := below_alloc wr (.cells #[.int .i64 r', .int .i64 t'] 94)
          have hbk := Blk.new wr #[.int .i64 r', .int .i64 t'] 94
          have d0 := cell_below hba d0
          have HQK := Lib.hid hbk
          have HPK2 := Lib.hid (HPK2.out.below hba)
          have HBY := Lib.hid (below_trans HBY.out hba)
          have HBZ := Lib.hid (below_trans HBZ.out hba)
          generalize wr.alloc (.cells #[.int .i64 r', .int .i64 t'] 94) = V3 at d0 HPK2 HQK HBY HBZ ⊢
          generalize wr.heap.size = bq at HQK ⊢
          clear hba hbk c1 c2
          go_wp2_with fail
          go_loopw [24] (fun gv wr => ∃ g : Nat, g ≤ a' ∧ gv = .int .i64 g ∧ Below V3.heap.size V3 wr) (fun gv _ => a' - (intOf gv).toNat)
          case atStart => exact ⟨0, Nat.zero_le _, rfl, Below.refl _ _⟩
          case round =>
            obtain ⟨g, hg, rfl, hb⟩ := hrel
            have HBG := Lib.hid hb
            have HBH := Lib.hid (below_trans HBZ.out hb)
            by_cases hlg : g < a'
            · have hgg : (g : Int) < (a' : Int) := by omega
              have p0 := (HPK2.out.below hb).cell (k := 0) rfl
              have p1 := (HPK2.out.below hb).cell (k := 1) rfl
              have q0 := (HQK.out.below hb).cell (k := 0) rfl
              have q1 := (HQK.out.below hb).cell (k := 1) rfl
              have d0 := cell_below HBH.out D0.out
              have d1 := cell_below HBH.out D1.out
              have d2 := cell_below HBH.out D2.out
              have d3 := cell_below HBH.out D3.out
              by_cases htt : t = t'
              · have e1 : ((t : Int) != (t' : Int)) = false := by rw [htt]; simp
                clear hb
                go_wp2_with fail
                go_quiet (fail)
                go_wp2_with fail
                go_roundw
                case rel => exact ⟨g + 1, by omega, by go_num, below_drewN HBG.out _⟩
                case measure => simp [intOf]; omega
              · have e1 : ((t : Int) != (t' : Int)) = true := by rw [bne_iff_ne]; omega
                have e2 : (L r t g == L r' t' g) = false := by rw [beq_eq_false_iff_ne]; exact HSY.out r t r' t' g hp1 hp2 hq1 hq2 hlg htt
                have hr1 := (HFR.out r t hp1 hp2).1
                have hr2 := (HFR.out r' t' hq1 hq2).1
                have hm1 : g < m r t := by rw [(HFR.out r t hp1 hp2).2]; exact hlg
                have hm2 : g < m r' t' := by rw [(HFR.out r' t' hq1 hq2).2]; exact hlg
                have HRR := Lib.hid (HRW.out.below HBH.out)
                have HSOF := Lib.hid (fun (z : World) (h : Below wr.heap.size wr z) => (⟨h, cell_below h d0, cell_below h d1, cell_below h d2, cell_below h d3, cell_below h p0, cell_below h p1, cell_below h q0, cell_below h q1⟩ : Below wr.heap.size wr z ∧ z.cell? ⟨bs, 0, none⟩ = some (.int .i64 a') ∧ z.cell? ⟨bs, 1, none⟩ = some (.int .i64 f) ∧ z.cell? ⟨bs, 2, none⟩ = some (.int .i64 l') ∧ z.cell? ⟨bs, 3, none⟩ = some (.slice A n c) ∧ z.cell? ⟨bp, 0, none⟩ = some (.int .i64 r) ∧ z.cell? ⟨bp, 1, none⟩ = some (.int .i64 t) ∧ z.cell? ⟨bq, 0, none⟩ = some (.int .i64 r') ∧ z.cell? ⟨bq, 1, none⟩ = some (.int .i64 t')))
                have hb0 := Below.refl wr.heap.size wr
                have tok1 : True := trivial
                clear hb d0 d1 d2 d3 p0 p1 q0 q1
                go_wp2_with fail
                go_region_held3 (fun z => Below wr.heap.size wr z ∧ z.cell? ⟨bs, 0, none⟩ = some (.int .i64 a') ∧ z.cell? ⟨bs, 1, none⟩ = some (.int .i64 f) ∧ z.cell? ⟨bs, 2, none⟩ = some (.int .i64 l') ∧ z.cell? ⟨bs, 3, none⟩ = some (.slice A n c) ∧ z.cell? ⟨bp, 0, none⟩ = some (.int .i64 r) ∧ z.cell? ⟨bp, 1, none⟩ = some (.int .i64 t) ∧ z.cell? ⟨bq, 0, none⟩ = some (.int .i64 r') ∧ z.cell? ⟨bq, 1, none⟩ = some (.int .i64 t')) (first | exact HSOF.out _ (by assumption) | exact HSOF.out _ (below_drew hb0) | exact HSOF.out _ (below_trans (And.left (by assumption)) (by assumption)))
                  ((go_at_call 68; refine (local_any _ _ _ _ _ _ _ _ _ T m L K F _ (HRR.out.below (And.left (by assumption))) hn (by first | exact hp1 | exact hq1) (by first | exact hr1 | exact hr2) (by first | exact hm1 | exact hm2)).mono ?_; rintro e w7 ⟨rfl, hb1⟩; have HB7 := below_trans (And.left (by assumption)) hb1; clear hb1))
                all_goals (
                  go_wp2_with fail
                  go_roundw
                  case rel => exact ⟨g + 1, by omega, by go_num, below_trans HBG.out (And.left (by assumption : Below wr.heap.size wr _ ∧ _))⟩
                  case measure => simp [intOf]; omega)
            · obtain rfl : g = a' := by omega
              have hgg : ¬ (g : Int) < (g : Int) := by omega
              have HBJ := Lib.hid (below_trans HBY.out hb)
              clear hb
              go_wp2_with fail
              go_roundw
              case rel => exact ⟨j + 1, by omega, by go_num, HBJ.out⟩
              case measure => simp [intOf]; omega
        · obtain rfl : j = NP := by omega
          have HBI := Lib.hid (below_trans HBX.out hb)
          have hjj : ¬ (j : Int) < (j : Int) := by omega
          clear hb
          go_wp2_with fail
          go_roundw
          case rel => exact ⟨i + 1, by omega, by go_num, HBI.out⟩
          case measure => simp [intOf]; omega
    · obtain rfl : i = NP := by omega
      have hii : ¬ (i : Int) < (i : Int) := by omega
      have d0 := cell_below HBW.out D0.out
      have d1 := cell_below HBW.out D1.out
      have d2 := cell_below HBW.out D2.out
      have d3 := cell_below HBW.out D3.out
      clear hb
      go_wp2_with (go_at_call 39; refine (HCK.out _ (HSW.out _ HBW.out)).mono ?_; rintro e w3 ⟨rfl, hb1⟩; have HBW := Lib.hid (below_trans HBW.out hb1); clear hb1)
      go_ret
      exact ⟨rfl, HB.out.trans (HBW.out.mono HB.out.size)⟩
end Go.Proofs.Ytgnkeecjaffnaaa
