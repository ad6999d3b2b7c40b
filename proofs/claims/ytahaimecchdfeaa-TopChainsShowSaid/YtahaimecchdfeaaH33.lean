/-
  Texts of this claim, one after the other: what each proves is said at its head. No condition beyond those that its theorems name.
-/
import Derived.RangeFuncNested
import Derived.RangeFuncBound
import Derived.RangeFuncCalls
import Derived.RangeFuncLeaves
import Derived.Shelf.Abstract
import Derived.Shelf.RegionOpen
import Derived.WalkKit
import Derived.OwnWalkIn
import Derived.TacticsInMore
import Derived.LoopNIn
import Derived.LoopIn
import Derived.BigRegionIn
import Derived.Sort.QuietIn
import Derived.Sort.CutIn
import Derived.Test.YtahaimecchdfeaaProg
import Derived.Test.YtahaimecchdfeaaH01
import Derived.Test.YtahaimecchdfeaaH02
import Derived.Test.YtahaimecchdfeaaH03
import Derived.Test.YtahaimecchdfeaaH09
import Derived.Test.YtahaimecchdfeaaH12
import Derived.Test.YtahaimecchdfeaaH15
import Derived.Test.YtahaimecchdfeaaH19
import Derived.Test.YtahaimecchdfeaaH22
import Derived.Test.YtahaimecchdfeaaH24
import Derived.Test.YtahaimecchdfeaaH27
import Derived.Test.YtahaimecchdfeaaH29

/-
  Walks of package attack: Depth.
-/
namespace Go.Proofs.Ytahaimecchdfeaa
open Go.RowKit Go.Shelf
attribute [local go_sem] Oper.semAt_some

/-- The depth: how often everybody knows that everybody knows .. . -/
def dpV (R : Nat → List Nat) (i : Nat) : Nat → Nat → (Nat → Bool) → Nat
  | 0, d, _ => d
  | k + 1, d, S => if (R i).all S then dpV R i k (d + 1) (fun j => (R j).all S) else d
/-- The error of Depth. -/
def depE (a f l : Int) (n : Nat) (T : Nat → Nat) (m : Nat → Nat → Nat) (K : Nat → Nat) (F : Nat → Nat → Nat) (r t fc mo : Int) : Nat :=
  if entE a f l n T m K F r t = 0 then (if (0 ≤ fc ∧ fc < f) ∧ 0 ≤ mo ∧ mo ≤ 100 then 0 else 2) else entE a f l n T m K F r t
def depV (a f l : Int) (n : Nat) (T : Nat → Nat) (m : Nat → Nat → Nat) (L : Nat → Nat → Nat → Int) (K : Nat → Nat) (F : Nat → Nat → Nat) (r t fc mo : Int) : Nat :=
  if depE a f l n T m K F r t fc mo = 0 then dpV (alkL a.toNat L (ptL n l.toNat)) (posP l r t) mo.toNat 0 (facK F n l fc.toNat) else 0
/-- A row of truth values in a box, while it is written. -/
structure DepS (w X : World) (gS bS N : Nat) (S : Nat → Bool) : Prop where
  below : Below w.heap.size w X
  row : Blk X gS 4 (boolA S N)
  box : Blk X bS 65 #[.slice (some ⟨gS, 0, none⟩) N N]
  hg : w.heap.size ≤ gS
  hb : w.heap.size ≤ bS
theorem DepS.kept {w X X' : World} {gS bS N : Nat} {S : Nat → Bool} (h : DepS w X gS bS N S) (hb : Below X.heap.size X X') : DepS w X' gS bS N S :=
  ⟨below_trans h.below hb, h.row.below hb, h.box.below hb, h.hg, h.hb⟩
theorem DepS.congr {w X : World} {gS bS N : Nat} {S S' : Nat → Bool} (h : DepS w X gS bS N S) (e : ∀ j, j < N → S j = S' j) : DepS w X gS bS N S' :=
  ⟨h.below, by rw [← boolA_congr e]; exact h.row, h.box, h.hg, h.hb⟩
theorem DepS.set {w X : World} {gS bS N k : Nat} {S : Nat → Bool} (h : DepS w X gS bS N S) (hk : k < N) (b : Bool) : DepS w (X.setCell ⟨gS, k, none⟩ (.bool b)) gS bS N (fun j => if j = k then b else S j) :=
  ⟨h.below.setCell (p := ⟨gS, k, none⟩) h.hg _, by have := h.row.set k (.bool b); rwa [boolA_set hk (S' := fun j => if j = k then b else S j) (fun _ _ => rfl)] at this, h.box.set_ne (h.box.ne h.row (by decide)) _ _, h.hg, h.hb⟩
theorem DepS.drew {w X : World} {gS bS N : Nat} {S : Nat → Bool} (h : DepS w X gS bS N S) : DepS w X.drew gS bS N S := ⟨below_drew h.below, h.row, h.box, h.hg, h.hb⟩
theorem DepS.rows {w X X' : World} {gS bS N : Nat} {S : Nat → Bool} (h : DepS w X gS bS N S) (hk : KeepRow X X' none) (hb : Below w.heap.size X X') : DepS w X' gS bS N S :=
  ⟨h.below.trans hb, h.row.keepRow hk, h.box.keepRow hk, h.hg, h.hb⟩
theorem DepS.other {w X : World} {gR bS gN bN N k : Nat} {S S2 : Nat → Bool} (h : DepS w X gR bS N S) (h2 : DepS w X gN bN N S2) (hne : gR ≠ gN) (v : Value) : DepS w (X.setCell ⟨gN, k, none⟩ v) gR bS N S :=
  ⟨h.below.setCell (p := ⟨gN, k, none⟩) h2.hg _, h.row.set_ne hne _ _, h.box.set_ne (h.box.ne h2.row (by decide)) _ _, h.hg, h.hb⟩
/-- .. when the box of the one takes the row of the other. -/
theorem DepS.swap {w X : World} {gR bS gN bN N : Nat} {S S2 : Nat → Bool} (h : DepS w X gR bS N S) (h2 : DepS w X gN bN N S2) : DepS w (X.setCell ⟨bS, 0, none⟩ (.slice (some ⟨gN, 0, none⟩) N N)) gN bS N S2 :=
  ⟨h.below.setCell (p := ⟨bS, 0, none⟩) h.hb _, h2.row.set_ne (h2.row.ne h.box (by decide)) _ _, h.box.set 0 _, h2.hg, h.hb⟩
/-- What the first points know. -/
def knx (R : Nat → List Nat) (S : Nat → Bool) (k j : Nat) : Bool := decide (j < k) && (R j).all S
/-- .. and what the next one knows so far. -/
def knb (R : Nat → List Nat) (S : Nat → Bool) (k : Nat) (b : Bool) (j : Nat) : Bool := if j = k then b else knx R S k j
theorem knb_end (R : Nat → List Nat) (S : Nat → Bool) (k j : Nat) : knb R S k ((R k).all S) j = knx R S (k + 1) j := by
  unfold knb knx
  by_cases e : j = k
  · rw [if_pos e, e]; simp
  · have e2 : decide (j < k + 1) = decide (j < k) := by rw [decide_eq_decide]; omega
    rw [if_neg e, e2]
theorem knb_set (R : Nat → List Nat) (S : Nat → Bool) (k : Nat) (b b' : Bool) (j : Nat) : (if j = k then b' else knb R S k b j) = knb R S k b' j := by
  unfold knb
  by_cases e : j = k
  · rw [if_pos e, if_pos e]
  · rw [if_neg e, if_neg e, if_neg e]
set_option maxHeartbeats 8000000 in
set_option maxRecDepth 100000 in
theorem Depth_any (x : Value) (a f l : Int) (n : Nat) (T : Nat → Nat) (m : Nat → Nat → Nat) (L : Nat → Nat → Nat → Int) (K : Nat → Nat) (F : Nat → Nat → Nat) (r t fc mo : Int) (w : World) (h : SysR w x a f l n T m L K F) (hn : n ≤ 65536) :
    Calls Try.prog 21 #[x, .agg #[.int .i64 r, .int .i64 t], .int .i64 fc, .int .i64 mo] w fun e w' => e = .returned (.tuple #[.int .i64 (depV a f l n T m L K F r t fc mo : Nat), .int .i64 (depE a f l n T m K F r t fc mo : Nat)]) ∧ Below w.heap.size w w' := by
  have HEN := Lib.hid (fun W (h : SysR W x a f l n T m L K F) => enter_any x a f l n T m L K F r t W h hn)
  obtain ⟨A, c, rfl, hR⟩ := h
  obtain ⟨W, hW⟩ : ∃ W, W = (w.alloc (.cells #[.int .i64 a, .int .i64 f, .int .i64 l, .slice A n c] 24)).alloc (.cells #[.int .i64 r, .int .i64 t] 26) := ⟨_, rfl⟩
  obtain ⟨k0, k1, hB⟩ := two_boxes4 w _ _ _ _ W hW
  have HB := Lib.hid hB
  have HK0 := Lib.hid k0
  have hEN := HEN.out W ⟨A, c, rfl, hR.below hB⟩
  have d0 := k0.cell (k := 0) rfl
  have d1 := k0.cell (k := 1) rfl
  have d2 := k0.cell (k := 2) rfl
  have d3 := k0.cell (k := 3) rfl
  have p0 := k1.cell (k := 0) rfl
  have p1 := k1.cell (k := 1) rfl
  unfold EnPost at hEN
  have HDE := Lib.hid (show depE a f l n T m K F r t fc mo = if entE a f l n T m K F r t = 0 then (if (0 ≤ fc ∧ fc < f) ∧ 0 ≤ mo ∧ mo ≤ 100 then 0 else 2) else entE a f l n T m K F r t from rfl)
  have HDV := Lib.hid (show depV a f l n T m L K F r t fc mo = if depE a f l n T m K F r t fc mo = 0 then dpV (alkL a.toNat L (ptL n l.toNat)) (posP l r t) mo.toNat 0 (facK F n l fc.toNat) else 0 from rfl)
  obtain ⟨DF, eDF⟩ : ∃ q, q = depE a f l n T m K F r t fc mo := ⟨_, rfl⟩
  obtain ⟨DV, eDV⟩ : ∃ q, q = depV a f l n T m L K F r t fc mo := ⟨_, rfl⟩
  rw [← eDF] at HDE HDV ⊢
  rw [← eDV] at HDV ⊢
  obtain ⟨E, eE⟩ : ∃ E, E = entE a f l n T m K F r t := ⟨_, rfl⟩
  rw [← eE] at hEN HDE
  have HE1 := Lib.hid hEN
  have HW := Lib.hid hW
  clear hR hW k0 k1 hB hEN HEN eE eDF eDV
  refine (callsIn_wide (n := 8)).1 ?_
  refine callsIn_of_wp_marksN Try.func21 rfl trivial ?_ rfl
  simp only [Try.ntmps21, List.size_toArray, List.length_cons, List.length_nil, Nat.reduceAdd, Nat.reduceSub, Array.replicate_succ, Array.replicate_zero, List.push_toArray, List.append_toArray, List.nil_append, List.cons_append]
  gi_upto_region 1 with (fail)
  rw [← HW.out]
  clear HW
  gi_upto_region 2 with (refine ⟨trivial, ?_⟩; gi_at_call 41; refine (callsIn_wide.2 HE1.out).mono ?_; rintro e w1 ⟨p, i, rfl, hb1, hok⟩; have HB := Lib.hid (below_trans HB.out hb1); have HK0 := Lib.hid (HK0.out.below hb1); have HOK := Lib.hid hok; clear hb1 hok)
  clear d0 d1 d2 d3 p0 p1 HE1
  by_cases hE : E = 0
  case neg =>
    have t1 : ((E : Int) != 0) = true := by rw [bne_iff_ne]; omega
    have hC : DF = E := by rw [HDE.out, if_neg hE]
    have HC := Lib.hid hC
    have HV2 : Hid (DV = 0) := Lib.hid (by rw [HDV.out, hC, if_neg hE])
    clear hE HOK hC HDE HDV
    gi_wp2
    change LeavesInM _ _ _ _ _ _ _ _ _
    refine leaves_marks (B := w.heap.size) _ _ trivial fun w2 hb3 hk3 => ?_
    exact ⟨_, results_tmp2 rfl _ _ _, by rw [HV2.out, HC.out]; rfl, HB.out.trans hb3⟩
  subst hE
  rw [show ((0 : Nat) : Int) = 0 from rfl]
  obtain ⟨rfl, hin, hck, bx, rfl, hsp⟩ := HOK.out rfl
  have hf8 : f ≤ 8 := by have := (chkE_ok hck).2.1; omega
  have hpos := inP_pos hin
  obtain ⟨i, ei⟩ : ∃ i, i = posP l r t := ⟨_, rfl⟩
  have ei2 : r.toNat * l.toNat + t.toNat = i := by rw [ei]; rfl
  rw [ei2]
  rw [← ei] at hpos HDV
  have hNl : n * l.toNat ≤ 1024 := by
    obtain ⟨-, -, hl, hn64, -, -, -, -⟩ := chkE_ok hck
    exact Nat.le_trans (Nat.mul_le_mul hn64 (show l.toNat ≤ 16 by omega)) (by decide)
  have HSP := Lib.hid hsp
  clear HOK hin hck hsp ei ei2
  by_cases a1 : fc < 0
  · have e1 : decide (fc < 0) = true := decide_eq_true a1
    have hC : DF = 2 := by rw [HDE.out, if_pos rfl, if_neg (by omega)]
    have HC := Lib.hid hC
    have HV2 : Hid (DV = 0) := Lib.hid (by rw [HDV.out, hC, if_neg (by decide)])
    have g1 := HK0.out.cell (k := 1) rfl
    clear a1 hC HDE HDV
    gi_wp2
    change LeavesInM _ _ _ _ _ _ _ _ _
    refine leaves_marks (B := w.heap.size) _ _ trivial fun w2 hb3 hk3 => ?_
    exact ⟨_, results_tmp2 rfl _ _ _, by rw [HV2.out, HC.out]; rfl, HB.out.trans hb3⟩
  have e1 : decide (fc < 0) = false := decide_eq_false a1
  by_cases a2 : f ≤ fc
  · have e2 : decide (f ≤ fc) = true := decide_eq_true a2
    have hC : DF = 2 := by rw [HDE.out, if_pos rfl, if_neg (by omega)]
    have HC := Lib.hid hC
    have HV2 : Hid (DV = 0) := Lib.hid (by rw [HDV.out, hC, if_neg (by decide)])
    have g1 := HK0.out.cell (k := 1) rfl
    clear a1 a2 hC HDE HDV
    gi_wp2
    change LeavesInM _ _ _ _ _ _ _ _ _
    refine leaves_marks (B := w.heap.size) _ _ trivial fun w2 hb3 hk3 => ?_
    exact ⟨_, results_tmp2 rfl _ _ _, by rw [HV2.out, HC.out]; rfl, HB.out.trans hb3⟩
  have e2 : decide (f ≤ fc) = false := decide_eq_false a2
  by_cases a3 : mo < 0
  · have e3 : decide (mo < 0) = true := decide_eq_true a3
    have hC : DF = 2 := by rw [HDE.out, if_pos rfl, if_neg (by omega)]
    have HC := Lib.hid hC
    have HV2 : Hid (DV = 0) := Lib.hid (by rw [HDV.out, hC, if_neg (by decide)])
    have g1 := HK0.out.cell (k := 1) rfl
    clear a1 a2 a3 hC HDE HDV
    gi_wp2
    change LeavesInM _ _ _ _ _ _ _ _ _
    refine leaves_marks (B := w.heap.size) _ _ trivial fun w2 hb3 hk3 => ?_
    exact ⟨_, results_tmp2 rfl _ _ _, by rw [HV2.out, HC.out]; rfl, HB.out.trans hb3⟩
  have e3 : decide (mo < 0) = false := decide_eq_false a3
  by_cases a4 : 100 < mo
  · have e4 : decide (100 < mo) = true := decide_eq_true a4
    have hC : DF = 2 := by rw [HDE.out, if_pos rfl, if_neg (by omega)]
    have HC := Lib.hid hC
    have HV2 : Hid (DV = 0) := Lib.hid (by rw [HDV.out, hC, if_neg (by decide)])
    have g1 := HK0.out.cell (k := 1) rfl
    clear a1 a2 a3 a4 hC HDE HDV
    gi_wp2
    change LeavesInM _ _ _ _ _ _ _ _ _
    refine leaves_marks (B := w.heap.size) _ _ trivial fun w2 hb3 hk3 => ?_
    exact ⟨_, results_tmp2 rfl _ _ _, by rw [HV2.out, HC.out]; rfl, HB.out.trans hb3⟩
  have e4 : decide (100 < mo) = false := decide_eq_false a4
  have hC : DF = 0 := by rw [HDE.out, if_pos rfl, if_pos (by omega)]
  rw [if_pos hC] at HDV
  have HC := Lib.hid hC
  obtain ⟨fk, rfl⟩ : ∃ N : Nat, fc = N := ⟨fc.toNat, by omega⟩
  obtain ⟨mk, rfl⟩ : ∃ N : Nat, mo = N := ⟨mo.toNat, by omega⟩
  have e2 : decide (f ≤ (fk : Int)) = false := e2
  have e4 : decide ((100 : Int) < (mk : Int)) = false := e4
  have e4' : decide (100 < mk) = false := decide_eq_false (by omega)
  have hmk100 : mk ≤ 100 := by omega
  have hfk8 : fk ≤ 8 := by omega
  rw [Int.toNat_natCast, Int.toNat_natCast] at HDV
  have g1 := HK0.out.cell (k := 1) rfl
  obtain ⟨a', l', A', c', bM, vP, ea, el, -, hsv⟩ := HSP.out
  have el2 : l.toNat = l' := by rw [el, Int.toNat_natCast]
  have ea2 : a.toNat = a' := by rw [ea, Int.toNat_natCast]
  rw [el2] at hpos hNl
  rw [el2, ea2] at HDV
  obtain ⟨base, hpts⟩ := hsv.pts
  obtain ⟨Ap, cp, rfl⟩ := hpts.shape
  have HSV := Lib.hid hsv
  obtain ⟨NP, eNP⟩ : ∃ NP, NP = n * l' := ⟨_, rfl⟩
  have ENP := Lib.hid (show NP = (ptL n l').length by rw [eNP, ptL_len])
  have EN2 := Lib.hid eNP
  have b4 := hsv.box.cell (k := 4) rfl
  rw [← ENP.out] at b4
  rw [← eNP] at hpos hNl
  have hmk := fun w1 => run_make_row' (P := Try.prog) (w := w1) 65 4 (.bool false) 1 Try.underlying65 Try.infoBool rfl .i64 .i64 NP (by omega) (by omega)
  have hHO : ∀ X, Below w1.heap.size w1 X → ∀ k, k < NP → Calls Try.prog 49 #[.pointer (some ⟨bx, 0, none⟩), .int .i64 k, .int .i64 fk] X fun e w' => e = .returned (.bool (facK F n l fk k)) ∧ Below X.heap.size X w' := fun X hX k hk => (HSP.out.below hX).holds (by rw [el2, ← eNP]; exact hk) hfk8
  have HHO := Lib.hid hHO
  clear a1 a2 a3 a4 hC HDE hsv hpts ea el el2 ea2 eNP hf8 HSP hHO
  gi_wp2
  obtain ⟨V, hV⟩ : ∃ V, V = (w1.alloc (.cells (madeCells #[.bool false] NP) 4)).alloc (.cells #[.slice (some ⟨w1.heap.size, 0, none⟩) NP NP] 65) := ⟨_, rfl⟩
  obtain ⟨hf0, hx0, hb0, hs0⟩ := two_allocs w1 _ _ _ _ V hV
  rw [← hV]
  have hD0 : DepS w V w1.heap.size (w1.heap.size + 1) NP (fun j => decide (j < 0) && facK F n l fk j) := ⟨below_trans HB.out hb0, by rw [boolA_congr (S' := fun _ => false) (fun j _ => by simp), ← madeCells_bool]; exact hf0, hx0, HB.out.size, by have := HB.out.size; omega⟩
  have HD0 := Lib.hid hD0
  have HBV := Lib.hid hb0
  obtain ⟨gS, egS⟩ : ∃ g, g = w1.heap.size := ⟨_, rfl⟩
  rw [← egS] at HD0 ⊢
  have EGS := Lib.hid egS
  clear hV hmk b4 hf0 hx0 hb0 hs0 hD0 e1 e2 e3 e4 e4' g1 egS
  gi_wp2
  gi_loopw [53] (fun kv wr => ∃ k : Nat, k ≤ NP ∧ kv = .int .i64 k ∧ DepS w wr gS (gS + 1) NP (fun j => decide (j < k) && facK F n l fk j) ∧ Below w1.heap.size w1 wr) (fun kv _ => NP - (intOf kv).toNat)
  case atStart => exact ⟨0, Nat.zero_le _, rfl, HD0.out, HBV.out⟩
  case round =>
    clear HD0 HBV
    obtain ⟨k, hk, rfl, hd, hb⟩ := hrel
    have HD := Lib.hid hd
    have HBW := Lib.hid hb
    by_cases hlt : k < NP
    · have hkk : (k : Int) < (NP : Int) := by omega
      have x0 : wr.cell? ⟨gS + 1, 0, none⟩ = some (.slice (some ⟨gS, 0, none⟩) NP NP) := hd.box.cell (k := 0) rfl
      have hho : ∀ X, Below wr.heap.size wr X → Calls Try.prog 49 #[.pointer (some ⟨bx, 0, none⟩), .int .i64 k, .int .i64 fk] X fun e w' => e = .returned (.bool (facK F n l fk k)) ∧ Below X.heap.size X w' := fun X hX => HHO.out X (below_trans hb hX) k hlt
      obtain ⟨fb, efb⟩ : ∃ fb, fb = facK F n l fk k := ⟨_, rfl⟩
      rw [← efb] at hho
      have HH := Lib.hid hho
      have hmo : Try.prog.follows .mixedOrders = true := by kernel_rfl
      have EFB := Lib.hid efb
      clear hd hb hho efb
      gi_upto_region 10 with (fail)
      gi_region_with_o (refine ⟨trivial, ?_⟩; gi_at_call 49; refine (callsIn_wide.2 (HH.out _ (by exact below_drew (Below.refl _ _)))).mono ?_; rintro e w5 ⟨rfl, hb1⟩; have hd5 := HD.out.drew.kept hb1; have x5 : w5.cell? ⟨gS + 1, 0, none⟩ = some (.slice (some ⟨gS, 0, none⟩) NP NP) := hd5.box.cell (k := 0) rfl; have r5 := hd5.row.cell (boolA_get hlt); have f5 := hd5.row.frozen (k := k); have HD5 := Lib.hid hd5; have HB5 := Lib.hid hb1; clear hd5 hb1)
      · gi_wp2
        go_roundw
        case rel =>
          refine ⟨k + 1, by omega, by go_num, (HD5.out.set hlt fb).congr fun j _ => ?_, (below_trans (below_drew HBW.out) HB5.out).setCell (p := ⟨gS, k, none⟩) (by rw [EGS.out]; exact Nat.le_refl _) _⟩
          by_cases e : j = k
          · rw [if_pos e, e, EFB.out]; simp
          · have e2 : decide (j < k + 1) = decide (j < k) := by rw [decide_eq_decide]; omega
            rw [if_neg e, e2]
        case measure => simp [intOf]; omega
      · gi_wp2
        go_roundw
        case rel =>
          refine ⟨k + 1, by omega, by go_num, (HD5.out.set hlt fb).congr fun j _ => ?_, (below_trans (below_drew HBW.out) HB5.out).setCell (p := ⟨gS, k, none⟩) (by rw [EGS.out]; exact Nat.le_refl _) _⟩
          by_cases e : j = k
          · rw [if_pos e, e, EFB.out]; simp
          · have e2 : decide (j < k + 1) = decide (j < k) := by rw [decide_eq_decide]; omega
            rw [if_neg e, e2]
        case measure => simp [intOf]; omega
    · obtain rfl : NP = k := by omega
      have hkk : ¬ (NP : Int) < (NP : Int) := by omega
      have HD2 := Lib.hid (hd.congr (S' := facK F n l fk) fun j hj => by rw [decide_eq_true hj]; rfl)
      have HBX := Lib.hid hb
      clear hd hb HD
      gi_wp2
      have hx0 := HD2.out.below
      obtain ⟨X0, eX0⟩ : ∃ X0, X0 = wr := ⟨_, rfl⟩
      have hBx0 : Below w1.heap.size w1 X0 := by rw [eX0]; exact HBX.out
      rw [← eX0] at HD2 ⊢
      have HBX0 := Lib.hid hBx0
      clear eX0 hx0 HBX hBx0
      refine wpIn_loopM (fun mm ac X => ∃ (ds : List Deferred) (gR d : Nat) (S : Nat → Bool) (u15 u16 u17 u66 u67 u68 u69 u70 u71 u72 u73 u74 u75 u76 u77 u78 u79 u80 u81 u96 u97 u98 u99 u100 u101 u102 u103 u104 : Value), mm = mk - d ∧ d ≤ mk ∧ ac = { tmps := #[.agg #[.int .i64 a, .int .i64 f, .int .i64 l, .slice A n c], .agg #[.int .i64 r, .int .i64 t], .int .i64 ↑fk, .int .i64 ↑mk, .pointer (some ⟨w.heap.size, 0, none⟩), .pointer (some ⟨w.heap.size + 1, 0, none⟩), undef, undef, .int .i64 0, .int .i64 0, .pointer (some ⟨bx, 0, none⟩), .int .i64 ↑i, .int .i64 0, .pointer (some ⟨gS + 1, 0, none⟩), u14, u15, u16, u17, undef, .tuple #[.pointer (some ⟨bx, 0, none⟩), .int .i64 ↑i, .int .i64 0], .agg #[.int .i64 a, .int .i64 f, .int .i64 l, .slice A n c], .agg #[.int .i64 r, .int .i64 t], .tuple #[.pointer (some ⟨bx, 0, none⟩), .int .i64 ↑i, .int .i64 0], .pointer (some ⟨bx, 0, none⟩), .int .i64 ↑i, .int .i64 0, .int .i64 0, .bool false, undef, .int .i64 ↑fk, .bool false, .bool false, .int .i64 ↑fk, .pointer (some ⟨w.heap.size, 1, none⟩), .int .i64 f, .bool false, .bool false, .bool false, .int .i64 ↑mk, .bool false, .bool false, .bool false, .int .i64 ↑mk, .bool false, .bool false, .pointer (some ⟨bx, 0, none⟩), .pointer (some ⟨bx, 0, none⟩), .pointer (some ⟨bx, 4, none⟩), .slice Ap NP cp, .int .i64 ↑NP, .slice (some ⟨gS, 0, none⟩) NP NP, .slice (some ⟨gS, 0, none⟩) NP NP, .int .i64 ↑NP, .int .i64 ↑NP, .bool false, u55, u56, u57, u58, u59, u60, u61, u62, u63, .int .i64 ↑mk, .int .i64 ↑d, u66, u67, u68, u69, u70, u71, u72, u73, u74, u75, u76, u77, u78, u79, u80, u81, undef, undef, undef, undef, undef, undef, undef, undef, undef, undef, undef, undef, undef, undef, u96, u97, u98, u99, u100, u101, u102, u103, u104, undef], defers := ds } ∧ DepS w X gR (gS + 1) NP S ∧ Below w1.heap.size w1 X ∧ Marks w.heap.size ds X ∧ DV = dpV (alkL a' L (ptL n l')) i (mk - d) d S) ?start ?round
      case start => exact ⟨_, [], gS, 0, _, _, _, _, _, _, _, _, _, _, _, _, _, _, _, _, _, _, _, _, _, _, _, _, _, _, _, _, _, rfl, Nat.zero_le _, rfl, HD2.out, HBX0.out, trivial, HDV.out⟩
      case round =>
        clear HD2 HBX0 HDV
        rintro mm ac X ⟨ds, gR, d, S, u15, u16, u17, u66, u67, u68, u69, u70, u71, u72, u73, u74, u75, u76, u77, u78, u79, u80, u81, u96, u97, u98, u99, u100, u101, u102, u103, u104, hmm, hd, rfl, hD, hb, hM, hV⟩
        have HD := Lib.hid hD
        have HBX := Lib.hid hb
        have HM := Lib.hid hM
        have HV := Lib.hid hV
        have HMM := Lib.hid hmm
        by_cases hlt : d < mk
        · have hdd : (d : Int) < (mk : Int) := by omega
          have x0 : X.cell? ⟨gS + 1, 0, none⟩ = some (.slice (some ⟨gR, 0, none⟩) NP NP) := hD.box.cell (k := 0) rfl
          have hmk := fun w1 => run_make_row' (P := Try.prog) (w := w1) 65 4 (.bool false) 1 Try.underlying65 Try.infoBool rfl .i64 .i64 NP (by omega) (by omega)
          clear hD hb hM hV hmm
          gi_wp2
          obtain ⟨V, hV⟩ : ∃ V, V = (X.alloc (.cells (madeCells #[.bool false] NP) 4)).alloc (.cells #[.slice (some ⟨X.heap.size, 0, none⟩) NP NP] 65) := ⟨_, rfl⟩
          obtain ⟨hf0, hz0, hb0, hs0⟩ := two_allocs X _ _ _ _ V hV
          rw [← hV]
          obtain ⟨RR, eRR⟩ : ∃ RR, RR = alkL a' L (ptL n l') := ⟨_, rfl⟩
          rw [← eRR] at HV
          have ERR := Lib.hid eRR
          have hgR : gR < X.heap.size := HD.out.row.lt
          have hN0 : DepS w V X.heap.size (X.heap.size + 1) NP (knx RR S 0) := ⟨below_trans HD.out.below hb0, by rw [boolA_congr (S' := fun _ => false) (fun j _ => by unfold knx; simp), ← madeCells_bool]; exact hf0, hz0, HD.out.below.size, by have := HD.out.below.size; omega⟩
          have HDV := Lib.hid (HD.out.kept hb0)
          have HN0 := Lib.hid hN0
          have HBV := Lib.hid (below_trans HBX.out hb0)
          have HMV := Lib.hid (HM.out.below hb0)
          obtain ⟨gN, egN⟩ : ∃ g, g = X.heap.size := ⟨_, rfl⟩
          rw [← egN] at HN0 hgR ⊢
          have hneR : gR ≠ gN := by omega
          have hgNw : w1.heap.size ≤ gN := by rw [egN]; exact HBX.out.size
          clear hV hmk x0 hf0 hz0 hb0 hs0 hN0 egN eRR hgR
          refine wpIn_loopM (fun m3 ac Y => ∃ (ds : List Deferred) (k : Nat) (u17 u74 u75 u76 u77 u78 u79 u80 u81 u96 : Value), m3 = NP - k ∧ k ≤ NP ∧ ac = { tmps := #[.agg #[.int .i64 a, .int .i64 f, .int .i64 l, .slice A n c], .agg #[.int .i64 r, .int .i64 t], .int .i64 ↑fk, .int .i64 ↑mk, .pointer (some ⟨w.heap.size, 0, none⟩), .pointer (some ⟨w.heap.size + 1, 0, none⟩), undef, undef, .int .i64 0, .int .i64 0, .pointer (some ⟨bx, 0, none⟩), .int .i64 ↑i, .int .i64 0, .pointer (some ⟨gS + 1, 0, none⟩), u14, .int .i64 ↑d, .pointer (some ⟨gN + 1, 0, none⟩), u17, undef, .tuple #[.pointer (some ⟨bx, 0, none⟩), .int .i64 ↑i, .int .i64 0], .agg #[.int .i64 a, .int .i64 f, .int .i64 l, .slice A n c], .agg #[.int .i64 r, .int .i64 t], .tuple #[.pointer (some ⟨bx, 0, none⟩), .int .i64 ↑i, .int .i64 0], .pointer (some ⟨bx, 0, none⟩), .int .i64 ↑i, .int .i64 0, .int .i64 0, .bool false, undef, .int .i64 ↑fk, .bool false, .bool false, .int .i64 ↑fk, .pointer (some ⟨w.heap.size, 1, none⟩), .int .i64 f, .bool false, .bool false, .bool false, .int .i64 ↑mk, .bool false, .bool false, .bool false, .int .i64 ↑mk, .bool false, .bool false, .pointer (some ⟨bx, 0, none⟩), .pointer (some ⟨bx, 0, none⟩), .pointer (some ⟨bx, 4, none⟩), .slice Ap NP cp, .int .i64 ↑NP, .slice (some ⟨gS, 0, none⟩) NP NP, .slice (some ⟨gS, 0, none⟩) NP NP, .int .i64 ↑NP, .int .i64 ↑NP, .bool false, u55, u56, u57, u58, u59, u60, u61, u62, u63, .int .i64 ↑mk, .int .i64 ↑d, .bool true, .int .i64 ↑d, .slice (some ⟨gR, 0, none⟩) NP NP, .int .i64 ↑NP, .slice (some ⟨gN, 0, none⟩) NP NP, .slice (some ⟨gN, 0, none⟩) NP NP, .int .i64 ↑NP, .int .i64 ↑k, u74, u75, u76, u77, u78, u79, u80, u81, undef, undef, undef, undef, undef, undef, undef, undef, undef, undef, undef, undef, undef, undef, u96, u97, u98, u99, u100, u101, u102, u103, u104, undef], defers := ds } ∧ DepS w Y gR (gS + 1) NP S ∧ DepS w Y gN (gN + 1) NP (knx RR S k) ∧ Below w1.heap.size w1 Y ∧ Marks w.heap.size ds Y) ?start3 ?round3
          case start3 => exact ⟨_, ds, 0, _, _, _, _, _, _, _, _, _, _, rfl, Nat.zero_le _, rfl, HDV.out, HN0.out, HBV.out, HMV.out⟩
          case round3 =>
            clear HDV HN0 HBV HMV
            rintro m3 ac Y ⟨ds3, k, u17, u74, u75, u76, u77, u78, u79, u80, u81, u96, hm3, hk, rfl, hD, hN, hb, hM⟩
            have HDY := Lib.hid hD
            have HNY := Lib.hid hN
            have HBY := Lib.hid hb
            have HMY := Lib.hid hM
            have HM3 := Lib.hid hm3
            by_cases hlt3 : k < NP
            · have hkk : (k : Int) < (NP : Int) := by omega
              clear hD hN hb hM hm3
              gi_upto_region 19 with (fail)
              have hba := below_alloc Y (.cells #[.int .i64 k] 3)
              have hbk := Blk.new Y #[.int .i64 k] 3
              have hD1 := HDY.out.kept hba
              have hN1 := HNY.out.kept hba
              have HB1 := Lib.hid (below_trans HBY.out hba)
              have HM1 := Lib.hid (HMY.out.below hba)
              obtain ⟨Y1, eY1⟩ : ∃ Y1, Y1 = Y.alloc (.cells #[.int .i64 k] 3) := ⟨_, rfl⟩
              rw [← eY1] at hbk hD1 hN1 HB1 HM1 ⊢
              obtain ⟨Bk, eBk⟩ : ∃ B, B = Y.heap.size := ⟨_, rfl⟩
              rw [← eBk] at hbk ⊢
              have x1 : Y1.cell? ⟨gN + 1, 0, none⟩ = some (.slice (some ⟨gN, 0, none⟩) NP NP) := hN1.box.cell (k := 0) rfl
              have x2 : Y1.cell? ⟨Bk, 0, none⟩ = some (.int .i64 k) := hbk.cell (k := 0) rfl
              have x3 := hN1.row.cell (boolA_get hlt3)
              have x4 := hN1.row.frozen (k := k)
              have HD1 := Lib.hid hD1
              have HN1 := Lib.hid hN1
              have HK1 := Lib.hid hbk
              clear hba hbk hD1 hN1 eY1 eBk
              gi_upto_region 20 with (fail)
              have hD2 := HD1.out.other (k := k) HN1.out hneR (.bool true)
              have hN2 := (HN1.out.set hlt3 true).congr (S' := knb RR S k true) (fun _ _ => rfl)
              have hk2 := HK1.out.set_ne (HK1.out.ne HN1.out.row (by decide)) k (.bool true)
              have HB2 := Lib.hid (HB1.out.setCell (p := ⟨gN, k, none⟩) (show w1.heap.size ≤ gN from hgNw) (.bool true))
              have HM2 := Lib.hid (HM1.out.from ((KeepsOthers.setCell Y1 ⟨gN, k, none⟩ (.bool true)).from 0) (Nat.zero_le _))
              obtain ⟨Y2, eY2⟩ : ∃ Y2, Y2 = Y1.setCell ⟨gN, k, none⟩ (.bool true) := ⟨_, rfl⟩
              rw [← eY2] at hD2 hN2 hk2 HB2 HM2 ⊢
              have y2 : Y2.cell? ⟨Bk, 0, none⟩ = some (.int .i64 k) := hk2.cell (k := 0) rfl
              have HD2 := Lib.hid hD2
              have HN2 := Lib.hid hN2
              have HK2 := Lib.hid hk2
              clear x1 x2 x3 x4 hD2 hN2 hk2 eY2 HD1 HN1 HK1
              gi_wp2_with (refine ⟨trivial, ?_⟩; gi_at_call 54; refine (callsIn_wide.2 (alike_any _ _ _)).mono ?_; rintro e w' ⟨rfl, rfl⟩)
              obtain ⟨Y3, hY3⟩ : ∃ Y3, Y3 = (Y2.alloc (.cells #[.pointer (some ⟨bx, 0, none⟩)] 72)).alloc (.cells #[.int .i64 k] 3) := ⟨_, rfl⟩
              obtain ⟨hx1, hi1, hb1, hs1⟩ := two_allocs Y2 _ _ _ _ Y3 hY3
              rw [← hY3]
              clear hY3 y2
              have hD3 := HD2.out.kept hb1
              have hN3 := HN2.out.kept hb1
              have hK3 := HK2.out.below hb1
              have hB3 := below_trans HB2.out hb1
              have hM3 := HM2.out.below hb1
              have hds : ∀ d, d ∈ ds3 → ∃ D, d.target = .collected D ∧ D < Y3.heap.size := fun d hd => by
                obtain ⟨D, e, h⟩ := HM2.out.lt d hd
                exact ⟨D, e, by omega⟩
              have hgN2 : gN < Y2.heap.size := HN2.out.row.lt
              have HDS := Lib.hid hds
              have HW3 := Lib.hid hD3.below.size
              refine wpIn_rangeFunc_ownH rfl (by omega) (gf := 82) (lb := #[.pointer (some ⟨Y2.heap.size, 0, none⟩), .pointer (some ⟨Y2.heap.size + 1, 0, none⟩)]) rfl trivial (enters_of Try.func82 (by kernel_rfl) rfl)
                (alike_stops 7 (by omega) Y2.heap.size (Y2.heap.size + 1) Y2.heap.size (Y2.heap.size + 2) k bx bM a' l' n c' f A' T m L K F (.slice Ap (ptL n l').length cp) w1 Y3 NP ENP.out HSV.out (by rw [← ENP.out]; exact hlt3) (by omega) (by omega) hB3 hx1 hi1) (fun h k => h.trans k) (KpA.put hB3.size (by omega)) (Below.refl _ _) (fun _ => rfl)
                (fun pre Z => ((DepS w Z gR (gS + 1) NP S ∧ DepS w Z gN (gN + 1) NP (knb RR S k ((PtI.nums pre).all S))) ∧ Blk Z Bk 3 #[.int .i64 k]) ∧ (Below w1.heap.size w1 Z ∧ Y2.heap.size + 2 ≤ Z.heap.size) ∧ Marks w.heap.size ds3 Z)
                (fun _ _ _ => False)
                (OwnFrom.and (OwnFrom.and (ownFrom_rows hD3.below.size (fun _ _ h => h.1.below.size) fun _ _ _ hk hb h => ⟨h.1.rows hk hb, h.2.rows hk hb⟩) (ownFrom_cells fun _ _ _ hk h => h.keepRow hk)) (OwnFrom.and (OwnFrom.and (ownFrom_below (Nat.le_refl _) hB3.size) (fun _ X Y _ hs hg _ => Nat.le_trans hs hg.size)) (Marks.ownFrom hds)))
                (fun _ _ _ _ _ hs _ _ => hs)
                ⟨⟨⟨hD3, hN3⟩, hK3⟩, ⟨hB3, by omega⟩, hM3⟩
                (fun x a' _ => a' = { tmps := #[.agg #[.int .i64 a, .int .i64 f, .int .i64 l, .slice A n c], .agg #[.int .i64 r, .int .i64 t], .int .i64 ↑fk, .int .i64 ↑mk, .pointer (some ⟨w.heap.size, 0, none⟩), .pointer (some ⟨w.heap.size + 1, 0, none⟩), undef, undef, .int .i64 0, .int .i64 0, .pointer (some ⟨bx, 0, none⟩), .int .i64 ↑i, .int .i64 0, .pointer (some ⟨gS + 1, 0, none⟩), u14, .int .i64 ↑d, .pointer (some ⟨gN + 1, 0, none⟩), .pointer (some ⟨Bk, 0, none⟩), .int .i64 (x.1 : Nat), .tuple #[.pointer (some ⟨bx, 0, none⟩), .int .i64 ↑i, .int .i64 0], .agg #[.int .i64 a, .int .i64 f, .int .i64 l, .slice A n c], .agg #[.int .i64 r, .int .i64 t], .tuple #[.pointer (some ⟨bx, 0, none⟩), .int .i64 ↑i, .int .i64 0], .pointer (some ⟨bx, 0, none⟩), .int .i64 ↑i, .int .i64 0, .int .i64 0, .bool false, undef, .int .i64 ↑fk, .bool false, .bool false, .int .i64 ↑fk, .pointer (some ⟨w.heap.size, 1, none⟩), .int .i64 f, .bool false, .bool false, .bool false, .int .i64 ↑mk, .bool false, .bool false, .bool false, .int .i64 ↑mk, .bool false, .bool false, .pointer (some ⟨bx, 0, none⟩), .pointer (some ⟨bx, 0, none⟩), .pointer (some ⟨bx, 4, none⟩), .slice Ap NP cp, .int .i64 ↑NP, .slice (some ⟨gS, 0, none⟩) NP NP, .slice (some ⟨gS, 0, none⟩) NP NP, .int .i64 ↑NP, .int .i64 ↑NP, .bool false, u55, u56, u57, u58, u59, u60, u61, u62, u63, .int .i64 ↑mk, .int .i64 ↑d, .bool true, .int .i64 ↑d, .slice (some ⟨gR, 0, none⟩) NP NP, .int .i64 ↑NP, .slice (some ⟨gN, 0, none⟩) NP NP, .slice (some ⟨gN, 0, none⟩) NP NP, .int .i64 ↑NP, .int .i64 ↑k, .bool true, .int .i64 ↑k, .slice (some ⟨gN, 0, none⟩) NP NP, .int .i64 ↑k, .pointer (some ⟨gN, k, none⟩), .pointer (some ⟨bx, 0, none⟩), .int .i64 ↑k, .func (.func 82) #[] #[.pointer (some ⟨Y2.heap.size, 0, none⟩), .pointer (some ⟨Y2.heap.size + 1, 0, none⟩)], .int .i64 (x.1 : Nat), undef, undef, undef, undef, undef, undef, undef, undef, undef, undef, undef, undef, undef, u96, u97, u98, u99, u100, u101, u102, u103, u104, undef], defers := [] })
                (fun _ _ _ _ _ _ hs _ _ => hs) ?assign ?body ?done ?stop
              case stop => exact fun _ _ _ _ _ _ h _ => h.elim
              case assign =>
                rintro l2 pre ⟨x, hx⟩ Z Kx hI hK
                gi_wp2
                exact hK _ _ (KeepsFrom.refl _ _) ⟨Below.refl _ _, fun _ _ _ => rfl⟩ hI rfl
              case body =>
                rintro l2 pre ⟨x, hx⟩ a' Z hl2 - ⟨⟨⟨hD4, hN4⟩, hK4⟩, ⟨hB4, hZ⟩, hM4⟩ rfl hlt
                have z1 : Z.cell? ⟨gN + 1, 0, none⟩ = some (.slice (some ⟨gN, 0, none⟩) NP NP) := hN4.box.cell (k := 0) rfl
                have z2 : Z.cell? ⟨gS + 1, 0, none⟩ = some (.slice (some ⟨gR, 0, none⟩) NP NP) := hD4.box.cell (k := 0) rfl
                have z3 : Z.cell? ⟨Bk, 0, none⟩ = some (.int .i64 k) := hK4.cell (k := 0) rfl
                have z4 : Z.cell? ⟨gN, k, none⟩ = some (.bool (knb RR S k ((PtI.nums pre).all S) k)) := hN4.row.cell (boolA_get hlt3)
                have z5 : Z.frozen? ⟨gN, k, none⟩ = false := hN4.row.frozen
                have z6 : Z.cell? ⟨gR, x, none⟩ = some (.bool (S x)) := hD4.row.cell (boolA_get hx)
                have ekb : knb RR S k ((PtI.nums pre).all S) k = (PtI.nums pre).all S := if_pos rfl
                rw [ekb] at z4
                have hsn : (PtI.nums (pre ++ [⟨x, hx⟩])).all S = ((PtI.nums pre).all S && S x) := by rw [PtI.nums_snoc, List.all_append]; simp
                have HSN := Lib.hid hsn
                obtain ⟨b, eb⟩ : ∃ b, b = (PtI.nums pre).all S := ⟨_, rfl⟩
                rw [← eb] at z4 hN4 HSN
                obtain ⟨sx, esx⟩ : ∃ sx, sx = S x := ⟨_, rfl⟩
                rw [← esx] at z6 HSN
                have hxx : (x : Int) < (NP : Int) := by omega
                have hmo : Try.prog.follows .mixedOrders = true := by kernel_rfl
                have HD4 := Lib.hid hD4
                have HN4 := Lib.hid hN4
                have HK4 := Lib.hid hK4
                have HB4 := Lib.hid hB4
                have HM4 := Lib.hid hM4
                have hgB : gN < Y2.heap.size := hgN2
                have HFIN := Lib.hid (show ∀ b', b' = (PtI.nums (pre ++ [⟨x, hx⟩])).all S → KeepsFrom Y3.heap.size Z (Z.drew.setCell ⟨gN, k, none⟩ (.bool b')) ∧ KpA w1.heap.size Y2.heap.size (Y2.heap.size + 2) Z (Z.drew.setCell ⟨gN, k, none⟩ (.bool b')) ∧ ((DepS w (Z.drew.setCell ⟨gN, k, none⟩ (.bool b')) gR (gS + 1) NP S ∧ DepS w (Z.drew.setCell ⟨gN, k, none⟩ (.bool b')) gN (gN + 1) NP (knb RR S k ((PtI.nums (pre ++ [⟨x, hx⟩])).all S))) ∧ Blk (Z.drew.setCell ⟨gN, k, none⟩ (.bool b')) Bk 3 #[.int .i64 k]) ∧ (Below w1.heap.size w1 (Z.drew.setCell ⟨gN, k, none⟩ (.bool b')) ∧ Y2.heap.size + 2 ≤ (Z.drew.setCell ⟨gN, k, none⟩ (.bool b')).heap.size) ∧ Marks w.heap.size ds3 (Z.drew.setCell ⟨gN, k, none⟩ (.bool b')) from fun b' e => by
                  have hko : KeepsOthers Z (Z.drew.setCell ⟨gN, k, none⟩ (.bool b')) := (KeepsOthers.drew Z).trans (KeepsOthers.setCell _ _ _)
                  have hkr : Blk Z.drew Bk 3 #[.int .i64 k] := hK4
                  refine ⟨hko.from _, ⟨(below_drew (Below.refl _ Z)).setCell (p := ⟨gN, k, none⟩) hgNw _, fun q h1 h2 => ?_⟩, ⟨⟨hD4.drew.other hN4.drew hneR _, (hN4.drew.set hlt3 b').congr fun j _ => by rw [knb_set, e]⟩, hkr.set_ne (hkr.ne hN4.drew.row (by decide)) _ _⟩, ⟨(below_drew hB4).setCell (p := ⟨gN, k, none⟩) hgNw _, Nat.le_trans hZ hko.size⟩, hM4.kept fun D _ h2 _ => hko.same D _ h2 rfl⟩
                  exact (gr_set Z.drew gN k (.bool b')).block q (by show q < Z.heap.size; omega) (fun e => by injection e with e; omega))
                clear hD4 hN4 hK4 hB4 hM4 hsn ekb eb esx hl2
                gi_wp2
                refine wpIn_region_quiet_tail_round 13 hmo (by kernel_rfl) (by kernel_rfl) (by rintro ⟨a, w, h⟩; exact h) ?_
                simp only [List.take_succ_cons, List.take_zero, List.drop_succ_cons, List.drop_zero]
                cases b
                · repeat (go_big_quiet_step (fail))
                  refine wpQuiet_nil ?_
                  go_wp2
                  exact HFIN.out _ (by rw [HSN.out]; rfl)
                · repeat (go_big_quiet_step (fail))
                  refine wpQuiet_nil ?_
                  go_wp2
                  exact HFIN.out _ (by rw [HSN.out]; rfl)
              case done =>
                rintro D ys Z hD hys ⟨⟨⟨hD4, hN4⟩, -⟩, ⟨hB4, hZ⟩, hM4⟩ hDk
                rw [hys] at hN4
                have hN5 := hN4.congr (S' := knx RR S (k + 1)) fun j _ => by rw [← ERR.out, knb_end]
                have HD5 := Lib.hid hD4
                have HN5 := Lib.hid hN5
                have HB5 := Lib.hid hB4
                have HM5 := Lib.hid (Marks.push hM4 HW3.out hD hDk HDS.out)
                clear hD4 hN4 hN5 hB4 hM4 hDk hys hD
                gi_wp2
                have hm3' := HM3.out
                exact ⟨NP - (k + 1), by omega, _, k + 1, _, _, _, _, _, _, _, _, _, _, rfl, by omega, rfl, HD5.out, HN5.out, HB5.out, HM5.out⟩
            · obtain rfl : NP = k := by omega
              have hkk : ¬ (NP : Int) < (NP : Int) := by omega
              have hmkd : mk - d = (mk - (d + 1)) + 1 := by omega
              have HVD : Hid (DV = if (RR i).all S then dpV RR i (mk - (d + 1)) (d + 1) (fun j => (RR j).all S) else d) := Lib.hid (by rw [HV.out, hmkd]; rfl)
              have x1 : Y.cell? ⟨gN + 1, 0, none⟩ = some (.slice (some ⟨gN, 0, none⟩) NP NP) := hN.box.cell (k := 0) rfl
              have x2 : Y.cell? ⟨gN, i, none⟩ = some (.bool (knx RR S NP i)) := hN.row.cell (boolA_get hpos)
              have x3 : Y.cell? ⟨gS + 1, 0, none⟩ = some (.slice (some ⟨gR, 0, none⟩) NP NP) := hD.box.cell (k := 0) rfl
              have x4 : Y.frozen? ⟨gS + 1, 0, none⟩ = false := hD.box.frozen
              have ekn : knx RR S NP i = (RR i).all S := by unfold knx; rw [decide_eq_true hpos]; rfl
              rw [ekn] at x2
              have hii : (i : Int) < (NP : Int) := by omega
              obtain ⟨b, eb⟩ : ∃ b, b = (RR i).all S := ⟨_, rfl⟩
              rw [← eb] at x2 HVD
              have HN2 := Lib.hid ((hD.swap hN).congr (S' := fun j => (RR j).all S) fun j hj => by unfold knx; rw [decide_eq_true hj]; rfl)
              have HB2 := Lib.hid (hb.setCell (p := ⟨gS + 1, 0, none⟩) (by rw [EGS.out]; exact Nat.le_succ _) (.slice (some ⟨gN, 0, none⟩) NP NP))
              have HM2 := Lib.hid (hM.from ((KeepsOthers.setCell Y ⟨gS + 1, 0, none⟩ (.slice (some ⟨gN, 0, none⟩) NP NP)).from 0) (Nat.zero_le _))
              clear hD hN hb hM hm3 ekn eb hmkd
              cases b
              · rw [if_neg (by decide)] at HVD
                gi_wp2
                change LeavesInM _ _ _ _ _ _ _ _ _
                refine leaves_marks (B := w.heap.size) _ _ HMY.out fun w2 hb3 hk3 => ?_
                exact ⟨_, results_tmp2 rfl _ _ _, by rw [HVD.out, HC.out]; rfl, HDY.out.below.trans hb3⟩
              · rw [if_pos rfl] at HVD
                gi_wp2
                have hmm' := HMM.out
                exact ⟨mk - (d + 1), by omega, ds3, gN, d + 1, rfl, by omega, ⟨by omega, rfl⟩, _, HN2.out, HB2.out, HM2.out, by rw [← ERR.out]; exact HVD.out⟩
        · obtain rfl : mk = d := by omega
          have hdd : ¬ (mk : Int) < (mk : Int) := by omega
          have hdv : DV = mk := by rw [HV.out, Nat.sub_self]; rfl
          have HV2 := Lib.hid hdv
          clear hD hb hM hV hmm hdv
          gi_wp2
          change LeavesInM _ _ _ _ _ _ _ _ _
          refine leaves_marks (B := w.heap.size) _ _ HM.out fun w2 hb3 hk3 => ?_
          exact ⟨_, results_tmp2 rfl _ _ _, by rw [HV2.out, HC.out]; rfl, HD.out.below.trans hb3⟩
end Go.Proofs.Ytahaimecchdfeaa
