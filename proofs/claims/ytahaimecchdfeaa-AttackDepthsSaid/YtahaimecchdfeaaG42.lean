/-
  Texts of this claim, one after the other: what each proves is said at its head. No condition beyond those that its theorems name.
-/
import Derived.Test.YtahaimecchdfeaaProg
import Derived.Deep.DeepCutAuto
import Derived.Deep.RegionHeld3
import Derived.Deep.AppendLies
import Derived.Test.YtahaimecchdfeaaG01
import Derived.Test.YtahaimecchdfeaaG02
import Derived.Test.YtahaimecchdfeaaG06
import Derived.Test.YtahaimecchdfeaaG15
import Derived.Test.YtahaimecchdfeaaG17
import Derived.Test.YtahaimecchdfeaaG20
import Derived.Test.YtahaimecchdfeaaG22
import Derived.Test.YtahaimecchdfeaaG25
import Derived.Test.YtahaimecchdfeaaG36
import Derived.Test.YtahaimecchdfeaaG38

/-
  Walk: the reference's known.
-/
namespace Go.Proofs.Ytahaimecchdfeaa
open Go.RowKit

/-- A slice of truth values, read. -/
def BoolS (w : World) (A : Option Addr) (N : Nat) (S : Nat → Bool) : Prop := ∀ k, k < N → ∃ b off, A = some ⟨b, off, none⟩ ∧ w.cell? ⟨b, off + k, none⟩ = some (.bool (S k))
theorem BoolS.below {w w' : World} {A : Option Addr} {N : Nat} {S : Nat → Bool} (h : BoolS w A N S) (hb : Below w.heap.size w w') : BoolS w' A N S := fun k hk =>
  let ⟨b, off, e, h1⟩ := h k hk; ⟨b, off, e, cell_below hb h1⟩
theorem BoolS.of_blk {w : World} {g N : Nat} {S : Nat → Bool} (h : Blk w g 4 (boolA S N)) : BoolS w (some ⟨g, 0, none⟩) N S := fun k hk => ⟨g, 0, rfl, by rw [Nat.zero_add]; exact h.cell (boolA_get hk)⟩
/-- Whether all points before one that are alike have a fact. -/
def pknow (R : Nat → Nat → Bool) (S : Nat → Bool) (i k : Nat) : Bool := (List.range k).all fun v => !R i v || S v
theorem pknow_succ (R : Nat → Nat → Bool) (S : Nat → Bool) (i k : Nat) : pknow R S i (k + 1) = (pknow R S i k && (!R i k || S k)) := by
  unfold pknow
  rw [List.range_succ, List.all_append]
  simp
theorem pknow_end {a : Nat} {L : Nat → Nat → Nat → Int} {pts : List (Nat × Nat)} {S : Nat → Bool} (i : Nat) : pknow (akB a L pts) S i pts.length = (alkL a L pts i).all S := by
  unfold pknow
  rw [Bool.eq_iff_iff, List.all_eq_true, List.all_eq_true]
  constructor
  · intro h k hk
    have h1 := mem_alkL.1 hk
    have h2 := h k (List.mem_range.2 (alkL_lt hk))
    rw [h1] at h2
    simpa using h2
  · intro h k _
    cases hR : akB a L pts i k with
    | false => rfl
    | true => rw [h k (mem_alkL.2 hR)]; rfl
theorem rknb_set {R : Nat → List Nat} {S : Nat → Bool} {N k : Nat} {b c : Bool} (hk : k < N) : (boolA (knb R S k b) N).setIfInBounds k (.bool c) = boolA (knb R S k c) N :=
  boolA_set hk fun j _ => by
    unfold knb
    by_cases e : j = k
    · rw [if_pos e, if_pos e]
    · rw [if_neg e, if_neg e, if_neg e]
theorem knx_set {R : Nat → List Nat} {S : Nat → Bool} {N k : Nat} {c : Bool} (hk : k < N) : (boolA (knx R S k) N).setIfInBounds k (.bool c) = boolA (knb R S k c) N :=
  boolA_set hk fun j _ => by unfold knb; rfl
theorem knb_next {R : Nat → List Nat} {S : Nat → Bool} {N k : Nat} {b : Bool} (h : b = (R k).all S) : boolA (knb R S k b) N = boolA (knx R S (k + 1)) N := boolA_congr fun j _ => by rw [h, knb_end]
theorem knx_zero {R : Nat → List Nat} {S : Nat → Bool} {N : Nat} : boolA (fun _ => false) N = boolA (knx R S 0) N := boolA_congr fun j _ => by unfold knx; simp
theorem knx_full {R : Nat → List Nat} {S : Nat → Bool} {N : Nat} : boolA (knx R S N) N = boolA (fun j => (R j).all S) N := boolA_congr fun j hj => by unfold knx; rw [decide_eq_true hj, Bool.true_and]
set_option maxHeartbeats 8000000 in
theorem rknown_any (x : Value) (a l n : Nat) (f : Int) (T : Nat → Nat) (m : Nat → Nat → Nat) (L : Nat → Nat → Nat → Int) (K : Nat → Nat) (F : Nat → Nat → Nat) (Ap Ai : Option Addr) (cp ci base : Nat) (S : Nat → Bool) (w : World) (h : SysR w x a f l n T m L K F) (hc : chkE a f l n T m K F = 0)
    (hp : PnO w base (.slice Ap (n * l) cp) (ptL n l)) (hi : BoolS w Ai (n * l) S) :
    Calls Try.prog 56 #[x, .slice Ap (n * l) cp, .slice Ai (n * l) ci] w fun e w' => (∃ g, e = .returned (.slice (some ⟨g, 0, none⟩) (n * l) (n * l)) ∧ Blk w' g 4 (boolA (fun j => (alkL a L (ptL n l) j).all S) (n * l))) ∧ Below w.heap.size w w' := by
  obtain ⟨ha, -, hl, hn64, -, -, hfr, -⟩ := chkE_ok hc
  obtain ⟨A, c, rfl, hR⟩ := h
  have hB := below_alloc w (.cells #[.int .i64 a, .int .i64 f, .int .i64 l, .slice A n c] 24)
  have k0 := Blk.new w #[.int .i64 a, .int .i64 f, .int .i64 l, .slice A n c] 24
  obtain ⟨W, hW⟩ : ∃ W, W = w.alloc (.cells #[.int .i64 a, .int .i64 f, .int .i64 l, .slice A n c] 24) := ⟨_, rfl⟩
  rw [← hW] at hB k0
  have hS : SysR W (.agg #[.int .i64 a, .int .i64 f, .int .i64 l, .slice A n c]) a f l n T m L K F := ⟨A, c, rfl, hR.below hB⟩
  have HK := Lib.hid k0
  have HB := Lib.hid hB
  have hfr2 : ∀ q, q < n → T q = l := fun q hq => by have := (hfr q hq).1; omega
  have hfm : ∀ q u, q < n → u < l → m q u = a := fun q u hq hu => by have := (hfr q hq).2.2 u (by rw [hfr2 q hq]; exact hu); omega
  have HAK := Lib.hid (fun (X : World) (hX : Below W.heap.size W X) (r t r' t' : Nat) (hr : r < n) (ht : t < l) (hr' : r' < n) (ht' : t' < l) => ralike_any _ a f l n T m L K F r t r' t' X (sys_below hS hX) (by omega) hr (by rw [hfr2 r hr]; exact ht) hr' (by rw [hfr2 r' hr']; exact ht') (by rw [hfm r t hr ht]; exact Nat.le_refl _) (by rw [hfm r' t' hr' ht']; exact Nat.le_refl _))
  obtain ⟨N, eN⟩ : ∃ N, N = n * l := ⟨_, rfl⟩
  obtain ⟨pts, epts⟩ : ∃ p, p = ptL n l := ⟨_, rfl⟩
  obtain ⟨RR, eRR⟩ : ∃ R, R = akB a L pts := ⟨_, rfl⟩
  obtain ⟨RL, eRL⟩ : ∃ R, R = alkL a L pts := ⟨_, rfl⟩
  have hpl : pts.length = N := by rw [epts, ptL_len, eN]
  have hNl : N ≤ 1024 := by rw [eN]; exact Nat.le_trans (Nat.mul_le_mul hn64 (show l ≤ 16 by omega)) (by decide)
  have HKE : Hid (∀ i, pknow RR S i N = (RL i).all S) := Lib.hid fun i => by rw [eRR, eRL, ← hpl]; exact pknow_end i
  have HAL : Hid (∀ (X : World) (_ : Below W.heap.size W X) (j k : Nat), j < N → k < N → Calls Try.prog 62 #[.agg #[.int .i64 a, .int .i64 f, .int .i64 l, .slice A n c], .agg #[.int .i64 (ptG pts j).1, .int .i64 (ptG pts j).2], .agg #[.int .i64 (ptG pts k).1, .int .i64 (ptG pts k).2]] X fun e w' => e = .returned (.bool (RR j k)) ∧ Below X.heap.size X w') := Lib.hid fun X hX j k hj hk => by
    rw [eN] at hj hk
    obtain ⟨r1, t1, e1, h1, h2, h3⟩ := ptG_at hj
    obtain ⟨r2, t2, e2, h4, h5, h6⟩ := ptG_at hk
    have := HAK.out X hX r1 t1 r2 t2 h1 h2 h4 h5
    rw [epts, e1, e2, eRR, epts, h3, h6, akB_pos h1 h2 h4 h5]
    exact this
  rw [← eN, ← epts] at hp
  rw [← eN] at hi
  rw [← epts, ← eRL, ← eN]
  have hmk := fun w1 => run_make_row' (P := Try.prog) (w := w1) 65 4 (.bool false) 1 Try.underlying65 Try.infoBool rfl .i64 .i64 N (by omega) (by omega)
  have HPT := Lib.hid (hp.below hB)
  have HIN := Lib.hid (hi.below hB)
  have HPL := Lib.hid hpl
  clear hR k0 hB hS hc ha hl hn64 hfr hfr2 hfm HAK epts eRR eRL eN hpl hp hi
  go_enter Try.func56, Try.ntmps56
  go_upto_region 1 with (fail)
  rw [← hW]
  obtain ⟨bS, ebS⟩ : ∃ b, b = w.heap.size := ⟨_, rfl⟩
  rw [← ebS]
  rw [← ebS] at HK
  clear hW ebS
  go_upto_region 2 with (fail)
  have hrw := Blk.new W (madeCells #[.bool false] N) 4
  have hba := below_alloc W (.cells (madeCells #[.bool false] N) 4)
  obtain ⟨W2, eW2⟩ : ∃ W2, W2 = W.alloc (.cells (madeCells #[.bool false] N) 4) := ⟨_, rfl⟩
  rw [← eW2] at hrw hba ⊢
  obtain ⟨gF, egF⟩ : ∃ g, g = W.heap.size := ⟨_, rfl⟩
  rw [← egF] at hrw ⊢
  rw [madeCells_bool, knx_zero (R := RL) (S := S)] at hrw
  have HRW := Lib.hid hrw
  have HBA := Lib.hid hba
  have hgF : W.heap.size ≤ gF := Nat.le_of_eq egF.symm
  clear hrw hba eW2 egF hmk
  go_wp2_with fail
  go_loopw [8] (fun iv wr => ∃ i : Nat, i ≤ N ∧ iv = .int .i64 i ∧ Blk wr gF 4 (boolA (knx RL S i) N) ∧ Below W.heap.size W wr) (fun iv _ => N - (intOf iv).toNat)
  case atStart => exact ⟨0, Nat.zero_le _, rfl, HRW.out, HBA.out⟩
  case round =>
    clear HRW HBA
    obtain ⟨i, hi, rfl, hrow, hb⟩ := hrel
    have HRW := Lib.hid hrow
    have HBX := Lib.hid hb
    by_cases hlt : i < N
    · have hii : (i : Int) < (N : Int) := by omega
      have c0 := hrow.cell (boolA_get hlt)
      have fz : wr.frozen? ⟨gF, i, none⟩ = false := hrow.frozen
      have hrs := hrow.set i (.bool true)
      rw [knx_set hlt] at hrs
      have HRS := Lib.hid hrs
      have HBS := Lib.hid (hb.setCell (p := ⟨gF, i, none⟩) hgF (.bool true))
      have hgi : pts[i]? = some (ptG pts i) := by
        have hk2 : i < pts.length := by rw [HPL.out]; exact hlt
        rw [List.getElem?_eq_getElem hk2]
        unfold ptG
        rw [List.getD_eq_getElem?_getD, List.getElem?_eq_getElem hk2]
        rfl
      have HGI := Lib.hid hgi
      have HKI := Lib.hid (HKE.out i)
      clear hrow hb hrs hgi
      go_upto_region 6 with (fail)
      clear c0 fz
      obtain ⟨W4, eW4⟩ : ∃ W4, W4 = wr.setCell ⟨gF, i, none⟩ (.bool true) := ⟨_, rfl⟩
      rw [← eW4] at HRS HBS ⊢
      clear eW4 HRW HBX
      go_wp2_with fail
      go_loopw [9] (fun kv wz => ∃ k : Nat, k ≤ N ∧ kv = .int .i64 k ∧ Blk wz gF 4 (boolA (knb RL S i (pknow RR S i k)) N) ∧ Below W.heap.size W wz) (fun kv _ => N - (intOf kv).toNat)
      case atStart => exact ⟨0, Nat.zero_le _, rfl, HRS.out, HBS.out⟩
      case round =>
        clear HRS HBS
        obtain ⟨k, hk, rfl, hrow, hb⟩ := hrel
        have HRW := Lib.hid hrow
        have HBX := Lib.hid hb
        by_cases hkN : k < N
        · have hkk : (k : Int) < (N : Int) := by omega
          have hgk : pts[k]? = some (ptG pts k) := by
            have hk2 : k < pts.length := by rw [HPL.out]; exact hkN
            rw [List.getElem?_eq_getElem hk2]
            unfold ptG
            rw [List.getD_eq_getElem?_getD, List.getElem?_eq_getElem hk2]
            rfl
          obtain ⟨gp, kp, ep, p0, p1⟩ := pnO_at (HPT.out.below hb) hgk
          obtain ⟨gp', kp', ep', o0, o1⟩ := pnO_at (HPT.out.below hb) HGI.out
          injection ep with ep1 ep2 ep3
          subst ep1
          injection ep' with ep' ex1 ex2
          injection ep' with ep'
          injection ep' with ep'
          subst ep'
          clear ex1 ex2 ep2 ep3
          obtain ⟨gi, oi, eAi, s0⟩ := HIN.out.below hb k hkN
          subst eAi
          have HAX := Lib.hid (fun (X : World) (hX : Below wr.heap.size wr X) => HAL.out X (below_trans hb hX) i k hlt hkN)
          have HPS := Lib.hid (pknow_succ RR S i k)
          obtain ⟨j1, ej1⟩ : ∃ p, p = (ptG pts i).1 := ⟨_, rfl⟩
          obtain ⟨j2, ej2⟩ : ∃ p, p = (ptG pts i).2 := ⟨_, rfl⟩
          obtain ⟨k1, ek1⟩ : ∃ p, p = (ptG pts k).1 := ⟨_, rfl⟩
          obtain ⟨k2, ek2⟩ : ∃ p, p = (ptG pts k).2 := ⟨_, rfl⟩
          obtain ⟨bS0, eS0⟩ : ∃ p, p = S k := ⟨_, rfl⟩
          obtain ⟨bR0, eR0⟩ : ∃ p, p = RR i k := ⟨_, rfl⟩
          rw [← ej1, ← ej2, ← ek1, ← ek2, ← eR0] at HAX
          rw [← ej1] at o0
          rw [← ej2] at o1
          rw [← ek1] at p0
          rw [← ek2] at p1
          rw [← eS0] at s0
          rw [← eS0, ← eR0] at HPS
          have q0 := (HK.out.below hb).cell (k := 0) rfl
          have q1 := (HK.out.below hb).cell (k := 1) rfl
          have q2 := (HK.out.below hb).cell (k := 2) rfl
          have q3 := (HK.out.below hb).cell (k := 3) rfl
          have hb0 := Below.refl wr.heap.size wr
          have HSOF := Lib.hid (fun (z : World) (h : Below wr.heap.size wr z) => (⟨h, cell_below h q0, cell_below h q1, cell_below h q2, cell_below h q3, cell_below h s0, cell_below h o0, cell_below h o1, cell_below h p0, cell_below h p1⟩ : Below wr.heap.size wr z ∧ z.cell? ⟨bS, 0, none⟩ = some (.int .i64 a) ∧ z.cell? ⟨bS, 1, none⟩ = some (.int .i64 f) ∧ z.cell? ⟨bS, 2, none⟩ = some (.int .i64 l) ∧ z.cell? ⟨bS, 3, none⟩ = some (.slice A n c) ∧ z.cell? ⟨gi, oi + k, none⟩ = some (.bool bS0) ∧ z.cell? ⟨gp, i * 2, none⟩ = some (.int .i64 j1) ∧ z.cell? ⟨gp, i * 2 + 1, none⟩ = some (.int .i64 j2) ∧ z.cell? ⟨gp, k * 2, none⟩ = some (.int .i64 k1) ∧ z.cell? ⟨gp, k * 2 + 1, none⟩ = some (.int .i64 k2)))
          cases bS0 with
          | true =>
            have HPE : Hid (pknow RR S i (k + 1) = pknow RR S i k) := Lib.hid (by rw [HPS.out]; simp)
            clear HPS HAX o0 o1 p0 p1 q0 q1 q2 q3 ej1 ej2 ek1 ek2 eS0 eR0 hrow hb hgk  hb0 HSOF
            go_wp2_with fail
            go_quiet (fail)
            go_wp2_with fail
            go_roundw
            case rel => exact ⟨k + 1, by omega, by go_num, by rw [HPE.out]; exact HRW.out.below (below_drewN (Below.refl _ _) _), below_drewN HBX.out _⟩
            case measure => simp [intOf]; omega
          | false =>
            cases bR0 with
            | false =>
              have HPE : Hid (pknow RR S i (k + 1) = pknow RR S i k) := Lib.hid (by rw [HPS.out]; simp)
              clear HPS o0 o1 p0 p1 q0 q1 q2 q3 s0 ej1 ej2 ek1 ek2 eS0 eR0 hrow hb hgk 
              go_upto_region 9 with (fail)
              go_region_held3 (fun z => Below wr.heap.size wr z ∧ z.cell? ⟨bS, 0, none⟩ = some (.int .i64 a) ∧ z.cell? ⟨bS, 1, none⟩ = some (.int .i64 f) ∧ z.cell? ⟨bS, 2, none⟩ = some (.int .i64 l) ∧ z.cell? ⟨bS, 3, none⟩ = some (.slice A n c) ∧ z.cell? ⟨gi, oi + k, none⟩ = some (.bool false) ∧ z.cell? ⟨gp, i * 2, none⟩ = some (.int .i64 j1) ∧ z.cell? ⟨gp, i * 2 + 1, none⟩ = some (.int .i64 j2) ∧ z.cell? ⟨gp, k * 2, none⟩ = some (.int .i64 k1) ∧ z.cell? ⟨gp, k * 2 + 1, none⟩ = some (.int .i64 k2)) (first | exact HSOF.out _ (by assumption) | exact HSOF.out _ (below_drew hb0) | exact HSOF.out _ (below_trans (And.left (by assumption)) (by assumption)))
                ((go_at_call 62; refine (HAX.out _ (And.left (by assumption))).mono ?_; rintro e w7 ⟨rfl, hb1⟩; have HB7 := below_trans (And.left (by assumption)) hb1; clear hb1))
              all_goals (
                have hbz := And.left (by assumption : Below wr.heap.size wr _ ∧ _)
                go_wp2_with fail
                go_roundw
                case rel => exact ⟨k + 1, by omega, by go_num, by rw [HPE.out]; exact HRW.out.below hbz, below_trans HBX.out hbz⟩
                case measure => simp [intOf]; omega)
            | true =>
              have HPE : Hid (pknow RR S i (k + 1) = false) := Lib.hid (by rw [HPS.out]; simp)
              clear HPS o0 o1 p0 p1 q0 q1 q2 q3 s0 ej1 ej2 ek1 ek2 eS0 eR0 hrow hb hgk 
              go_upto_region 9 with (fail)
              go_region_held3 (fun z => Below wr.heap.size wr z ∧ z.cell? ⟨bS, 0, none⟩ = some (.int .i64 a) ∧ z.cell? ⟨bS, 1, none⟩ = some (.int .i64 f) ∧ z.cell? ⟨bS, 2, none⟩ = some (.int .i64 l) ∧ z.cell? ⟨bS, 3, none⟩ = some (.slice A n c) ∧ z.cell? ⟨gi, oi + k, none⟩ = some (.bool false) ∧ z.cell? ⟨gp, i * 2, none⟩ = some (.int .i64 j1) ∧ z.cell? ⟨gp, i * 2 + 1, none⟩ = some (.int .i64 j2) ∧ z.cell? ⟨gp, k * 2, none⟩ = some (.int .i64 k1) ∧ z.cell? ⟨gp, k * 2 + 1, none⟩ = some (.int .i64 k2)) (first | exact HSOF.out _ (by assumption) | exact HSOF.out _ (below_drew hb0) | exact HSOF.out _ (below_trans (And.left (by assumption)) (by assumption)))
                ((go_at_call 62; refine (HAX.out _ (And.left (by assumption))).mono ?_; rintro e w7 ⟨rfl, hb1⟩; have HB7 := below_trans (And.left (by assumption)) hb1; clear hb1))
              all_goals (
                have hbz := And.left (by assumption : Below wr.heap.size wr _ ∧ _)
                have hrow := HRW.out.below hbz
                have HB8 := Lib.hid (below_trans HBX.out hbz)
                have c0 := hrow.cell (boolA_get hlt)
                have fz : w7.frozen? ⟨gF, i, none⟩ = false := hrow.frozen
                have hrs := hrow.set i (.bool false)
                rw [rknb_set hlt] at hrs
                have HRS := Lib.hid hrs
                have HBS := Lib.hid (HB8.out.setCell (p := ⟨gF, i, none⟩) hgF (.bool false))
                rename_i hz
                clear hz hbz hrow hrs hb0 HB7
                go_wp2_with fail
                go_roundw
                case rel => exact ⟨k + 1, by omega, by go_num, by rw [HPE.out]; exact HRS.out, HBS.out⟩
                case measure => simp [intOf]; omega)
        · obtain rfl : k = N := by omega
          have hkk : ¬ (k : Int) < (k : Int) := by omega
          rw [knb_next HKI.out] at hrow
          have HRX := Lib.hid hrow
          clear hrow hb HRW
          go_wp2_with fail
          go_roundw
          case rel => exact ⟨i + 1, by omega, by go_num, HRX.out, HBX.out⟩
          case measure => simp [intOf]; omega
    · obtain rfl : i = N := by omega
      have hii : ¬ (i : Int) < (i : Int) := by omega
      rw [knx_full] at hrow
      have HRX := Lib.hid hrow
      clear hrow hb HRW
      go_wp2_with fail
      go_ret
      exact ⟨⟨gF, rfl, HRX.out⟩, below_trans HB.out HBX.out⟩
end Go.Proofs.Ytahaimecchdfeaa

/-
  Walk: the reference's Depth.
-/
namespace Go.Proofs.Ytahaimecchdfeaa
open Go.RowKit

theorem boolL_succ (S : Nat → Bool) (n : Nat) : boolL S (n + 1) = boolL S n ++ [.bool (S n)] := by
  unfold boolL; rw [List.range_succ, List.map_append]; rfl
theorem own_bools {w : World} {base N : Nat} {v : Value} {S : Nat → Bool} (h : w.ownsRow base 4 1 v N (boolL S N)) : ∃ A c, v = .slice A N c ∧ BoolS w A N S := by
  obtain ⟨A, c, rfl, hA⟩ := own_form' h
  refine ⟨A, c, rfl, fun k hk => ?_⟩
  obtain ⟨b, rfl, -, -, h1⟩ := hA k (by omega)
  refine ⟨b, 0, rfl, ?_⟩
  rw [Nat.zero_add, h1]
  unfold boolL
  simp [hk]
theorem dpV_end {R : Nat → List Nat} {i k d : Nat} {S : Nat → Bool} (h : k = 0) : dpV R i k d S = d := by subst h; rfl
theorem dpV_go {R : Nat → List Nat} {i k d : Nat} {S : Nat → Bool} (h : (R i).all S = true) : dpV R i (k + 1) d S = dpV R i k (d + 1) (fun j => (R j).all S) := by show (if _ then _ else _) = _; rw [if_pos h]
theorem dpV_stop {R : Nat → List Nat} {i k d : Nat} {S : Nat → Bool} (h : (R i).all S = false) : dpV R i (k + 1) d S = d := by show (if _ then _ else _) = _; rw [if_neg (by rw [h]; decide)]
set_option maxHeartbeats 8000000 in
set_option maxRecDepth 100000 in
theorem rDepth_any (x : Value) (a f l : Int) (n : Nat) (T : Nat → Nat) (m : Nat → Nat → Nat) (L : Nat → Nat → Nat → Int) (K : Nat → Nat) (F : Nat → Nat → Nat) (r t fc mo : Int) (w : World) (h : SysR w x a f l n T m L K F) (hn : n ≤ 65536) :
    Calls Try.prog 22 #[x, .agg #[.int .i64 r, .int .i64 t], .int .i64 fc, .int .i64 mo] w fun e w' => e = .returned (.tuple #[.int .i64 (depV a f l n T m L K F r t fc mo : Nat), .int .i64 (depE a f l n T m K F r t fc mo : Nat)]) ∧ Below w.heap.size w w' := by
  obtain ⟨A, c, rfl, hR⟩ := h
  obtain ⟨W, hW⟩ : ∃ W, W = (w.alloc (.cells #[.int .i64 a, .int .i64 f, .int .i64 l, .slice A n c] 24)).alloc (.cells #[.int .i64 r, .int .i64 t] 26) := ⟨_, rfl⟩
  obtain ⟨k0, k1, hB⟩ := two_boxes4 w _ _ _ _ W hW
  have hS : SysR W (.agg #[.int .i64 a, .int .i64 f, .int .i64 l, .slice A n c]) a f l n T m L K F := ⟨A, c, rfl, hR.below hB⟩
  have HS := Lib.hid hS
  have HK := Lib.hid k0
  have HK1 := Lib.hid k1
  have HB := Lib.hid hB
  have HCK := Lib.hid (refCheck_any _ _ _ _ _ _ _ _ _ _ W hS hn)
  have HPO := Lib.hid (fun (X : World) (hX : Below W.heap.size W X) => rpoint_any _ _ _ _ _ _ _ _ _ _ r t X (sys_below hS hX))
  obtain ⟨EE, eEE⟩ : ∃ E, E = depE a f l n T m K F r t fc mo := ⟨_, rfl⟩
  obtain ⟨VV, eVV⟩ : ∃ E, E = depV a f l n T m L K F r t fc mo := ⟨_, rfl⟩
  have HEN : Hid (EE = if chkE a f l n T m K F = 0 then (if inP n l.toNat r t then (if (0 ≤ fc ∧ fc < f) ∧ 0 ≤ mo ∧ mo ≤ 100 then 0 else 2) else 2) else chkE a f l n T m K F) := Lib.hid (by
    rw [eEE]
    unfold depE entE
    by_cases hc : chkE a f l n T m K F = 0
    · rw [if_pos hc, if_pos hc]
      by_cases hp : inP n l.toNat r t
      · rw [if_pos hp, if_pos hp, if_pos rfl]
      · rw [if_neg hp, if_neg hp, if_neg (by decide)]
    · rw [if_neg hc, if_neg hc, if_neg hc])
  have HVN : Hid (EE ≠ 0 → VV = 0) := Lib.hid (fun h => by rw [eVV]; unfold depV; rw [if_neg (by rw [← eEE]; exact h)])
  have HVY : Hid (EE = 0 → VV = dpV (alkL a.toNat L (ptL n l.toNat)) (posP l r t) mo.toNat 0 (facK F n l fc.toNat)) := Lib.hid (fun h => by rw [eVV]; unfold depV; rw [if_pos (by rw [← eEE]; exact h)])
  rw [← eEE, ← eVV]
  obtain ⟨CE, eCE⟩ : ∃ E, E = chkE a f l n T m K F := ⟨_, rfl⟩
  have HCE := Lib.hid eCE
  rw [← eCE] at HCK HEN
  have d0 := k0.cell (k := 0) rfl
  have d1 := k0.cell (k := 1) rfl
  have d2 := k0.cell (k := 2) rfl
  have d3 := k0.cell (k := 3) rfl
  clear eEE eVV eCE k0 k1 hB hS hR
  go_enter Try.func22, Try.ntmps22
  go_upto_region 1 with (fail)
  rw [← hW]
  obtain ⟨bS, ebS⟩ : ∃ b, b = w.heap.size := ⟨_, rfl⟩
  obtain ⟨bP, ebP⟩ : ∃ b, b = w.heap.size + 1 := ⟨_, rfl⟩
  rw [← ebP, ← ebS]
  rw [← ebS] at HK d0 d1 d2 d3
  rw [← ebP] at HK1
  clear hW ebS ebP
  go_upto_region 2 with (go_at_call 43; refine HCK.out.mono ?_; rintro e w1 ⟨rfl, hb1⟩; have HB1 := Lib.hid hb1; clear hb1)
  clear d0 d1 d2 d3 HCK
  by_cases hC : CE = 0
  case neg =>
    have t1 : ((CE : Int) != 0) = true := by rw [bne_iff_ne]; omega
    have hE2 := HEN.out
    rw [if_neg hC] at hE2
    have HE2 := Lib.hid hE2
    have HV2 := Lib.hid (HVN.out (by omega))
    clear hC hE2
    go_wp2_with fail
    go_ret2
    exact ⟨by rw [HV2.out, HE2.out]; rfl, below_trans HB.out HB1.out⟩
  subst hC
  rw [show (((0 : Nat)) : Int) = 0 from rfl]
  have hE2 := HEN.out
  rw [if_pos rfl] at hE2
  have hPO := HPO.out w1 HB1.out
  have d0 := (HK.out.below HB1.out).cell (k := 0) rfl
  have d1 := (HK.out.below HB1.out).cell (k := 1) rfl
  have d2 := (HK.out.below HB1.out).cell (k := 2) rfl
  have d3 := (HK.out.below HB1.out).cell (k := 3) rfl
  have p0 := (HK1.out.below HB1.out).cell (k := 0) rfl
  have p1 := (HK1.out.below HB1.out).cell (k := 1) rfl
  by_cases hP : inP n l.toNat r t
  case neg =>
    rw [if_neg hP] at hE2
    rw [decide_eq_false hP] at hPO
    have HPX := Lib.hid hPO
    have HE2 := Lib.hid hE2
    have HV2 := Lib.hid (HVN.out (by omega))
    clear hP hE2 hPO HPO
    go_wp2_with (go_at_call 44; refine HPX.out.mono ?_; rintro e w2 ⟨rfl, hb1⟩; have HB2 := Lib.hid (below_trans HB1.out hb1); clear hb1)
    go_ret2
    exact ⟨by rw [HV2.out, HE2.out]; rfl, below_trans HB.out HB2.out⟩
  rw [if_pos hP] at hE2
  rw [decide_eq_true hP] at hPO
  have HPX := Lib.hid hPO
  have d1b := fun X (hX : Below w1.heap.size w1 X) => cell_below hX d1
  by_cases hG : (0 ≤ fc ∧ fc < f) ∧ 0 ≤ mo ∧ mo ≤ 100
  case neg =>
    rw [if_neg hG] at hE2
    have HE2 := Lib.hid hE2
    have HV2 := Lib.hid (HVN.out (by omega))
    have HD1 := Lib.hid d1b
    clear hP hE2 hPO HPO d1b
    by_cases g1 : fc < 0
    · have t2 : decide (fc < 0) = true := decide_eq_true g1
      clear hG g1
      go_wp2_with (go_at_call 44; refine HPX.out.mono ?_; rintro e w2 ⟨rfl, hb1⟩; have d1 := HD1.out _ hb1; have HB2 := Lib.hid (below_trans HB1.out hb1); clear hb1)
      go_ret2
      exact ⟨by rw [HV2.out, HE2.out]; rfl, below_trans HB.out HB2.out⟩
    have t2 : decide (fc < 0) = false := decide_eq_false g1
    by_cases g2 : f ≤ fc
    · have t3 : decide (fc ≥ f) = true := decide_eq_true g2
      have t3' : decide (f ≤ fc) = true := decide_eq_true g2
      clear hG g1 g2
      go_wp2_with (go_at_call 44; refine HPX.out.mono ?_; rintro e w2 ⟨rfl, hb1⟩; have d1 := HD1.out _ hb1; have HB2 := Lib.hid (below_trans HB1.out hb1); clear hb1)
      go_ret2
      exact ⟨by rw [HV2.out, HE2.out]; rfl, below_trans HB.out HB2.out⟩
    have t3 : decide (fc ≥ f) = false := decide_eq_false g2
    have t3' : decide (f ≤ fc) = false := decide_eq_false g2
    by_cases g3 : mo < 0
    · have t4 : decide (mo < 0) = true := decide_eq_true g3
      clear hG g1 g2 g3
      go_wp2_with (go_at_call 44; refine HPX.out.mono ?_; rintro e w2 ⟨rfl, hb1⟩; have d1 := HD1.out _ hb1; have HB2 := Lib.hid (below_trans HB1.out hb1); clear hb1)
      go_ret2
      exact ⟨by rw [HV2.out, HE2.out]; rfl, below_trans HB.out HB2.out⟩
    have t4 : decide (mo < 0) = false := decide_eq_false g3
    have t5 : decide (100 < mo) = true := decide_eq_true (by omega)
    clear hG g1 g2 g3
    go_wp2_with (go_at_call 44; refine HPX.out.mono ?_; rintro e w2 ⟨rfl, hb1⟩; have d1 := HD1.out _ hb1; have HB2 := Lib.hid (below_trans HB1.out hb1); clear hb1)
    go_ret2
    exact ⟨by rw [HV2.out, HE2.out]; rfl, below_trans HB.out HB2.out⟩
  rw [if_pos hG] at hE2
  have hV2 := HVY.out hE2
  have HE2 := Lib.hid hE2
  obtain ⟨⟨g1, g2⟩, g3, g4⟩ := hG
  have t2 : decide (fc < 0) = false := decide_eq_false (by omega)
  have t3 : decide (fc ≥ f) = false := decide_eq_false (by omega)
  have t3' : decide (f ≤ fc) = false := decide_eq_false (by omega)
  have t4 : decide (mo < 0) = false := decide_eq_false (by omega)
  have t5 : decide (100 < mo) = false := decide_eq_false (by omega)
  have HD1 := Lib.hid d1b
  obtain ⟨ha4, hf8, hl, hn64, -, -, hfr, -⟩ := chkE_ok HCE.out.symm
  obtain ⟨l', rfl⟩ : ∃ q : Nat, l = q := ⟨l.toNat, by omega⟩
  obtain ⟨a', rfl⟩ : ∃ q : Nat, a = q := ⟨a.toNat, by omega⟩
  rw [Int.toNat_natCast] at hP
  obtain ⟨⟨hr0, hr1⟩, ht0, ht1⟩ := hP
  obtain ⟨r', rfl⟩ : ∃ q : Nat, r = q := ⟨r.toNat, by omega⟩
  obtain ⟨t', rfl⟩ : ∃ q : Nat, t = q := ⟨t.toNat, by omega⟩
  obtain ⟨fc', rfl⟩ : ∃ q : Nat, fc = q := ⟨fc.toNat, by omega⟩
  obtain ⟨mo', rfl⟩ : ∃ q : Nat, mo = q := ⟨mo.toNat, by omega⟩
  have hr : r' < n := by omega
  have ht : t' < l' := by omega
  have hpos := pos_lt hr ht
  have hNl : n * l' ≤ 1024 := Nat.le_trans (Nat.mul_le_mul hn64 (show l' ≤ 16 by omega)) (by decide)
  have hmo : mo' ≤ 100 := by omega
  rw [Int.toNat_natCast, Int.toNat_natCast, Int.toNat_natCast, Int.toNat_natCast] at hV2
  have hpo : posP (l' : Int) (r' : Int) (t' : Int) = r' * l' + t' := by unfold posP; simp
  rw [hpo] at hV2
  have HPT1 := Lib.hid (fun (X : World) (hX : Below W.heap.size W X) => rPoints_any _ _ _ _ _ _ _ _ _ _ X (sys_below HS.out hX) hn HCE.out.symm)
  have HPS1 := Lib.hid (fun (X : World) (hX : Below W.heap.size W X) => rposition_any _ _ _ _ _ _ _ _ _ _ r' t' X (sys_below HS.out hX) (by omega))
  have HKN := Lib.hid (fun (X : World) (hX : Below W.heap.size W X) (Ap Ai : Option Addr) (cp ci base : Nat) (S : Nat → Bool) (hp : PnO X base (.slice Ap (n * l') cp) (ptL n l')) (hi : BoolS X Ai (n * l') S) => rknown_any _ a' l' n f T m L K F Ap Ai cp ci base S X (sys_below HS.out hX) HCE.out.symm hp hi)
  have hFA : ∀ (X : World), Below W.heap.size W X → ∀ k, k < n * l' → Calls Try.prog 50 #[.agg #[.int .i64 a', .int .i64 f, .int .i64 l', .slice A n c], .agg #[.int .i64 (ptG (ptL n l') k).1, .int .i64 (ptG (ptL n l') k).2], .int .i64 fc'] X fun e w' => e = .returned (.bool (facK F n l' fc' k)) ∧ Below X.heap.size X w' := fun X hX k hk => by
    obtain ⟨r1, t1, e1, h1, h2, h3⟩ := ptG_at hk
    have h4 := (hfr r1 h1).2.1
    have := rfact_any _ _ _ _ _ _ _ _ _ _ r1 t1 fc' X (sys_below HS.out hX) h1 (by omega) (by omega)
    unfold facK
    rw [Int.toNat_natCast, e1]
    exact this
  obtain ⟨FA, eFA⟩ : ∃ q : Nat → Bool, q = facK F n l' fc' := ⟨_, rfl⟩
  obtain ⟨N, eN⟩ : ∃ N, N = n * l' := ⟨_, rfl⟩
  obtain ⟨pts, epts⟩ : ∃ p, p = ptL n l' := ⟨_, rfl⟩
  obtain ⟨RL, eRL⟩ : ∃ R, R = alkL a' L pts := ⟨_, rfl⟩
  obtain ⟨pos, epos⟩ : ∃ p, p = r' * l' + t' := ⟨_, rfl⟩
  have hpl : pts.length = N := by rw [epts, ptL_len, eN]
  have HF := Lib.hid (show ∀ (X : World), Below W.heap.size W X → ∀ k, k < N → Calls Try.prog 50 #[.agg #[.int .i64 a', .int .i64 f, .int .i64 l', .slice A n c], .agg #[.int .i64 (ptG pts k).1, .int .i64 (ptG pts k).2], .int .i64 fc'] X fun e w' => e = .returned (.bool (FA k)) ∧ Below X.heap.size X w' by rw [eFA, eN, epts]; exact hFA)
  rw [← epts, ← eFA, ← epos, ← eRL] at hV2
  rw [← epts] at HPT1
  rw [← epts, ← eN, ← eRL] at HKN
  rw [← epos] at HPS1 hpos
  rw [← eN] at hNl hpos
  have HV2 := Lib.hid hV2
  have HPL := Lib.hid hpl
  clear hE2 hPO HPO HEN HCE hl hn64 ha4 hf8 hr0 hr1 ht0 ht1 eN epts hpl hr ht HS hFA eFA eRL epos hV2 hfr g1 g2 g3 g4 hpo HVN HVY d1b
  go_upto_region 6 with (go_at_call 44; refine HPX.out.mono ?_; rintro e w2 ⟨rfl, hb1⟩; have d1 := HD1.out _ hb1; have HB2 := Lib.hid (below_trans HB1.out hb1); clear hb1)
  clear d0 d1 d2 d3 p0 p1 HPX HB1 HD1 t2 t3 t3' t4 t5
  have d0 := (HK.out.below HB2.out).cell (k := 0) rfl
  have d1 := (HK.out.below HB2.out).cell (k := 1) rfl
  have d2 := (HK.out.below HB2.out).cell (k := 2) rfl
  have d3 := (HK.out.below HB2.out).cell (k := 3) rfl
  go_upto_region 7 with (go_at_call 45; refine (HPT1.out _ HB2.out).mono ?_; rintro e w3 ⟨vP, rfl, hpo, hb1⟩; obtain ⟨Ap, cp, rfl⟩ := hpo.shape; have HPP := Lib.hid hpo; have HB3 := Lib.hid (below_trans HB2.out hb1); clear hb1 hpo)
  clear d0 d1 d2 d3 HB2 HPT1
  rw [HPL.out]
  have hpp := HPP.out
  have hpp2 : PnO w3 w2.heap.size (.slice Ap N cp) pts := by rw [HPL.out] at hpp; exact hpp
  have HPP := Lib.hid hpp2
  obtain ⟨V, eV⟩ : ∃ V, V = w3 := ⟨_, rfl⟩
  subst eV
  clear hpp hpp2
  go_wp2_with fail
  go_loopw [12, 13] (fun lv iv wr => ∃ i : Nat, i ≤ N ∧ iv = .int .i64 i ∧ wr.ownsRow V.heap.size 4 1 lv i (boolL FA i) ∧ Below V.heap.size V wr) (fun _ iv _ => N - (intOf iv).toNat)
  case atStart => exact ⟨0, Nat.zero_le _, rfl, World.ownsRow_nil _ _ _ _, Below.refl _ _⟩
  case round =>
    obtain ⟨i, hi, rfl, ho, hb⟩ := hrel
    have HOW := Lib.hid ho
    have HBX := Lib.hid hb
    by_cases hlt : i < N
    · have hii : (i : Int) < (N : Int) := by omega
      have hgk : pts[i]? = some (ptG pts i) := by
        have hk2 : i < pts.length := by rw [HPL.out]; exact hlt
        rw [List.getElem?_eq_getElem hk2]
        unfold ptG
        rw [List.getD_eq_getElem?_getD, List.getElem?_eq_getElem hk2]
        rfl
      obtain ⟨gp, kp, ep, p0, p1⟩ := pnO_at HPP.out hgk
      injection ep with ep1 ep2 ep3
      subst ep1
      have HAX := Lib.hid (fun (X : World) (hX : Below V.heap.size V X) => HF.out X (below_trans HB3.out hX) i hlt)
      obtain ⟨k1, ek1⟩ : ∃ p, p = (ptG pts i).1 := ⟨_, rfl⟩
      obtain ⟨k2, ek2⟩ : ∃ p, p = (ptG pts i).2 := ⟨_, rfl⟩
      obtain ⟨b, eb⟩ : ∃ p, p = FA i := ⟨_, rfl⟩
      rw [← ek1, ← ek2, ← eb] at HAX
      rw [← ek1] at p0
      rw [← ek2] at p1
      have HLS : Hid (boolL FA (i + 1) = boolL FA i ++ [.bool b]) := Lib.hid (by rw [boolL_succ, eb])
      have q0 := (HK.out.below HB3.out).cell (k := 0) rfl
      have q1 := (HK.out.below HB3.out).cell (k := 1) rfl
      have q2 := (HK.out.below HB3.out).cell (k := 2) rfl
      have q3 := (HK.out.below HB3.out).cell (k := 3) rfl
      obtain ⟨Al, cl, rfl, -⟩ := own_form HOW.out
      have HSOF := Lib.hid (fun (z : World) (h : Below V.heap.size V z) => (⟨h, cell_below h q0, cell_below h q1, cell_below h q2, cell_below h q3, cell_below h p0, cell_below h p1⟩ : Below V.heap.size V z ∧ z.cell? ⟨bS, 0, none⟩ = some (.int .i64 a') ∧ z.cell? ⟨bS, 1, none⟩ = some (.int .i64 f) ∧ z.cell? ⟨bS, 2, none⟩ = some (.int .i64 l') ∧ z.cell? ⟨bS, 3, none⟩ = some (.slice A n c) ∧ z.cell? ⟨gp, i * 2, none⟩ = some (.int .i64 k1) ∧ z.cell? ⟨gp, i * 2 + 1, none⟩ = some (.int .i64 k2)))
      have HBD := Lib.hid (below_drew HBX.out)
      have HOWD : Hid (wr.drew.ownsRow V.heap.size 4 1 (.slice Al i cl) i (boolL FA i)) := Lib.hid HOW.out
      clear ep2 ep3 hgk ek1 ek2 eb q0 q1 q2 q3 p0 p1 ho hb
      go_upto_region 11 with (fail)
      go_region_held3 (fun z => Below V.heap.size V z ∧ z.cell? ⟨bS, 0, none⟩ = some (.int .i64 a') ∧ z.cell? ⟨bS, 1, none⟩ = some (.int .i64 f) ∧ z.cell? ⟨bS, 2, none⟩ = some (.int .i64 l') ∧ z.cell? ⟨bS, 3, none⟩ = some (.slice A n c) ∧ z.cell? ⟨gp, i * 2, none⟩ = some (.int .i64 k1) ∧ z.cell? ⟨gp, i * 2 + 1, none⟩ = some (.int .i64 k2)) (first | exact HSOF.out _ (by assumption) | exact HSOF.out _ (below_drew HBX.out) | exact HSOF.out _ (below_trans (And.left (by assumption)) (by assumption)) | exact HSOF.out _ (below_trans (And.left (by assumption)) (below_alloc _ _)))
        (first
          | (go_at_call 50; refine (HAX.out _ HBD.out).mono ?_; rintro e w7 ⟨rfl, hb1⟩; have HB7 := below_trans HBD.out hb1; have HOWd := Lib.hid (own_below' HOWD.out hb1 (Nat.le_refl _)); clear hb1)
          | (obtain ⟨ii, hi, hz0, hz1, hz2⟩ := info_parts Try.infoBool; refine step_append_lies _ (by rfl) _ _ _ (by rfl) V.heap.size 4 ii _ 1 1 Try.underlying65 hi hz0 hz1 hz2 rfl (by decide) (.slice Al i cl) i (boolL FA i) (by rfl) (own_alloc' HOWd.out _) _ 1 1 [.bool b] (by rfl) (by rfl) (World.news_of_block (cs := #[.bool b]) (t := 4) (fr := (0, 0)) (by exact Blk.new' _ _ _ _ (by first | (simp; done) | rfl))) (by simp [Value.oneCell']) (by decide) (by unfold maxLen; omega) (by omega) (by have := HB7.size; simp; omega) _ rfl ?_; intro g5 c5 w5 hown5 hgrow5 _ _; have HOW5 := Lib.hid hown5; have HB5 := below_append HB7 rfl HOWd.out hgrow5; clear hi hz0 hz1 hz2 hown5 hgrow5)
          | fail)
      all_goals (
        go_wp2_with fail
        go_roundw
        case rel => exact ⟨i + 1, by omega, by go_num, by rw [HLS.out]; exact HOW5.out, HB5⟩
        case measure => simp [intOf]; omega)
    · obtain rfl : i = N := by omega
      have hii : ¬ (i : Int) < (i : Int) := by omega
      obtain ⟨Ai, ci, rfl, hbs⟩ := own_bools ho
      have HBS := Lib.hid hbs
      have hw := below_trans HB3.out hb
      have q0 := (HK.out.below hw).cell (k := 0) rfl
      have q1 := (HK.out.below hw).cell (k := 1) rfl
      have q2 := (HK.out.below hw).cell (k := 2) rfl
      have q3 := (HK.out.below hw).cell (k := 3) rfl
      have p0 := (HK1.out.below hw).cell (k := 0) rfl
      have p1 := (HK1.out.below hw).cell (k := 1) rfl
      have HPX := Lib.hid (HPP.out.below hb)
      clear ho hb hbs hw HF HOW
      go_upto_region 13 with (go_at_call 55; refine (HPS1.out _ (below_trans HB3.out HBX.out)).mono ?_; rintro e w4 ⟨rfl, hb1⟩; have HBS := Lib.hid (HBS.out.below hb1); have HPX := Lib.hid (HPX.out.below hb1); have HBY := Lib.hid (below_trans (below_trans HB3.out HBX.out) hb1); clear hb1)
      clear q0 q1 q2 q3 p0 p1 HBX HPS1 HPP HB3
      obtain ⟨V4, eV4⟩ : ∃ V4, V4 = w4 := ⟨_, rfl⟩
      subst eV4
      go_wp2_with fail
      go_loopw [12, 15] (fun lv kv wz => ∃ (k : Nat) (S : Nat → Bool) (Aj : Option Addr) (cj : Nat), k ≤ mo' ∧ kv = .int .i64 k ∧ lv = .slice Aj i cj ∧ BoolS wz Aj i S ∧ Hid (VV = dpV RL pos (mo' - k) k S) ∧ Below V4.heap.size V4 wz) (fun _ kv _ => mo' - (intOf kv).toNat)
      case atStart => exact ⟨0, FA, Ai, ci, Nat.zero_le _, rfl, rfl, HBS.out, Lib.hid HV2.out, Below.refl _ _⟩
      case round =>
        clear HBS hii
        obtain ⟨k, S, Aj, cj, hk, rfl, rfl, hbs, HD, hb⟩ := hrel
        have HBS := Lib.hid hbs
        have HBZ := Lib.hid hb
        by_cases hkm : k < mo'
        · have hkk : (k : Int) < (mo' : Int) := by omega
          have hpi : (pos : Int) < (i : Int) := by omega
          obtain ⟨d, ed⟩ : ∃ d, mo' - k = d + 1 := ⟨mo' - k - 1, by omega⟩
          have hD := HD.out
          rw [ed] at hD
          have HDG : Hid ((RL pos).all S = true → VV = dpV RL pos (mo' - (k + 1)) (k + 1) (fun j => (RL j).all S)) := Lib.hid fun h => by rw [hD, dpV_go h, show mo' - (k + 1) = d by omega]
          have HDS : Hid ((RL pos).all S = false → VV = k) := Lib.hid fun h => by rw [hD, dpV_stop h]
          have HKX := Lib.hid (HKN.out wr (below_trans HBY.out hb) _ _ _ cj _ S (HPX.out.below hb) hbs)
          have hw := below_trans HBY.out hb
          have q0 := (HK.out.below hw).cell (k := 0) rfl
          have q1 := (HK.out.below hw).cell (k := 1) rfl
          have q2 := (HK.out.below hw).cell (k := 2) rfl
          have q3 := (HK.out.below hw).cell (k := 3) rfl
          clear hbs hb hD hw ed HD HBS
          go_upto_region 17 with (go_at_call 56; refine HKX.out.mono ?_; rintro e w5 ⟨⟨g, rfl, hrow⟩, hb1⟩; have HRW := Lib.hid hrow; have HBZ := Lib.hid (below_trans HBZ.out hb1); clear hb1 hrow)
          clear q0 q1 q2 q3 HKX
          have c0 := HRW.out.cell (boolA_get hpos)
          have HBN := Lib.hid (BoolS.of_blk HRW.out)
          obtain ⟨b, eb⟩ : ∃ b, b = (RL pos).all S := ⟨_, rfl⟩
          rw [← eb] at c0 HDG HDS
          clear eb HRW
          cases b with
          | true =>
            have HD2 := Lib.hid (HDG.out rfl)
            clear HDG HDS
            go_wp2_with fail
            go_roundw
            case rel => exact ⟨k + 1, _, _, _, by omega, by go_num, rfl, HBN.out, HD2, HBZ.out⟩
            case measure => simp [intOf]; omega
          | false =>
            have HD2 := Lib.hid (HDS.out rfl)
            clear HDG HDS
            go_wp2_with fail
            go_ret2
            exact ⟨by rw [HD2.out, HE2.out]; rfl, below_trans HB.out (below_trans HBY.out HBZ.out)⟩
        · obtain rfl : k = mo' := by omega
          have hkk : ¬ (k : Int) < (k : Int) := by omega
          have HD2 : Hid (VV = k) := Lib.hid (by rw [HD.out]; exact dpV_end (Nat.sub_self k))
          clear hbs hb HD HBS
          go_wp2_with fail
          go_ret2
          exact ⟨by rw [HD2.out, HE2.out]; rfl, below_trans HB.out (below_trans HBY.out HBZ.out)⟩
end Go.Proofs.Ytahaimecchdfeaa
