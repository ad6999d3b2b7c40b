/-
  Walks of layer 54: Flood.
-/
import Derived.Test.YtgnkeecjaffnaaaProg
import Derived.Test.YtgnkeecjaffnaaaBase
import Derived.Test.YtgnkeecjaffnaaaRow
import Derived.Test.YtgnkeecjaffnaaaRowsOf
import Derived.Test.YtgnkeecjaffnaaaPc
import Derived.Test.YtgnkeecjaffnaaaPd
import Derived.Test.YtgnkeecjaffnaaaPrH
import Derived.Test.YtgnkeecjaffnaaaPfP
import Derived.Test.YtgnkeecjaffnaaaPfA
import Derived.Test.YtgnkeecjaffnaaaPfQ
import Derived.Test.YtgnkeecjaffnaaaPfB
import Derived.Deep.DeepCutAuto
import Derived.BigQuiet
namespace Go.Proofs.Ytgnkeecjaffnaaa
open Go.RowKit

def RunD.none : RunD := ⟨0, fun _ => 0, fun _ _ => 0, 0, fun _ => 0⟩
theorem RunD.none_owned (w : World) (base : Nat) : RunD.none.owned w base (.agg #[.slice .none 0 0, .slice .none 0 0]) :=
  ⟨_, _, [], rfl, World.ownsRow_nil _ _ _ _, fun _ hi => absurd hi (Nat.not_lt_zero _), World.ownsRow_nil _ _ _ _⟩
def fluD (n R x : Int) (m : Nat) (rd tv : Nat → Int) : RunD := if flE n R x m rd tv = 0 then floD n.toNat R.toNat x.toNat rd tv else RunD.none
/-- What a function leaves that returns a run and an error. -/
def RuPost (w : World) (D : RunD) (E : Nat) (e : Ending) (w' : World) : Prop := ∃ x, e = .returned (.tuple #[x, .int .i64 E]) ∧ D.owned w' w.heap.size x ∧ Below w.heap.size w w'
theorem Blk.put2 {w : World} {b : Nat} {T : TypeId} {x0 x1 : Value} (h : Blk w b T #[x0, x1]) (y0 y1 : Value) :
    (w.cell? ⟨b, 0, none⟩ = some x0 ∧ w.frozen? ⟨b, 0, none⟩ = false ∧ (w.setCell ⟨b, 0, none⟩ y0).cell? ⟨b, 1, none⟩ = some x1 ∧ (w.setCell ⟨b, 0, none⟩ y0).frozen? ⟨b, 1, none⟩ = false) ∧
    Blk ((w.setCell ⟨b, 0, none⟩ y0).setCell ⟨b, 1, none⟩ y1) b T #[y0, y1] := by
  have h1 : Blk (w.setCell ⟨b, 0, none⟩ y0) b T #[y0, x1] := h.set 0 y0
  exact ⟨⟨h.cell rfl, h.frozen, h1.cell rfl, h1.frozen⟩, h1.set 1 y1⟩
theorem Keeps.put2 {w : World} {b : Nat} {T T' : TypeId} {x0 x1 : Value} (h : Blk w b T #[x0, x1]) (hT : T' ≠ T) (y0 y1 : Value) : Keeps w ((w.setCell ⟨b, 0, none⟩ y0).setCell ⟨b, 1, none⟩ y1) T' := by
  have h1 : Blk (w.setCell ⟨b, 0, none⟩ y0) b T #[y0, x1] := h.set 0 y0
  exact (Keeps.of_set h hT 0 y0).trans (.of_set h1 hT 1 y1)
theorem RunO.put2 {w : World} {base b : Nat} {v : Value} {n k : Nat} {m : Nat → Nat} {L : Nat → Nat → Int} {F : Nat → Nat} {x0 x1 : Value} (hr : RunO w base v n m L k F) (h : Blk w b 30 #[x0, x1]) (y0 y1 : Value) : RunO ((w.setCell ⟨b, 0, none⟩ y0).setCell ⟨b, 1, none⟩ y1) base v n m L k F :=
  hr.keeps (Keeps.put2 h (by decide) _ _) (Keeps.put2 h (by decide) _ _) (Keeps.put2 h (by decide) _ _)
set_option maxHeartbeats 4000000 in
set_option maxRecDepth 100000 in
theorem Flood_any (n R x : Int) (A : Option Addr) (m c : Nat) (rd tv : Nat → Int) (w : World) (hx : CrS w A m rd tv) (hm : m ≤ 9223372036854775807) :
    Calls Try.prog 18 #[.int .i64 n, .int .i64 R, .int .i64 x, .slice A m c] w (RuPost w (fluD n R x m rd tv) (flE n R x m rd tv)) := by
  have HX := Lib.hid hx
  have HSZ := Lib.hid (fun w => sizes_any n R w)
  have HB := Lib.hid (below_alloc w (.cells #[.slice none 0 0, .slice none 0 0] 30))
  have HK := Lib.hid (Blk.new w #[.slice none 0 0, .slice none 0 0] 30)
  by_cases hs : 2 ≤ n ∧ n ≤ 4 ∧ 0 ≤ R ∧ R ≤ 3
  case neg =>
    have hE : flE n R x m rd tv = 2 := if_neg (fun h => hs h.1)
    have HE := Lib.hid hE
    have HD := Lib.hid (show fluD n R x m rd tv = RunD.none by unfold fluD; rw [hE]; rfl)
    rw [show szB n R = false from decide_eq_false hs] at HSZ
    clear hE hs hx
    go_enter Try.func18, Try.ntmps18
    go_upto_region 1 with (fail)
    generalize w.alloc (.cells #[.slice none 0 0, .slice none 0 0] 30) = W at HB HK ⊢
    obtain ⟨⟨c0, f0, c1, f1⟩, hk2⟩ := HK.out.put2 (.slice none 0 0) (.slice none 0 0)
    have q0 := hk2.cell (k := 0) rfl
    have q1 := hk2.cell (k := 1) rfl
    clear hk2
    go_wp2_with (go_at_call 43; refine (HSZ.out _).mono ?_; rintro e w' ⟨rfl, rfl⟩)
    exact bodyPost_ret (v := .tuple #[.agg #[.slice none 0 0, .slice none 0 0], .int .i64 2]) (by simp [results, Try.results18, go_sem, q0, q1]) rfl (show RuPost w (fluD n R x m rd tv) (flE n R x m rd tv) _ _ from by rw [HD.out, HE.out]; exact ⟨_, rfl, RunD.none_owned _ _, below_put2 HB.out (Nat.le_refl _) _ _⟩)
  rw [show szB n R = true from decide_eq_true hs] at HSZ
  by_cases hx0 : x < 0
  · have t1 : decide (x < 0) = true := decide_eq_true hx0
    have hE : flE n R x m rd tv = 2 := if_neg (by omega)
    have HE := Lib.hid hE
    have HD := Lib.hid (show fluD n R x m rd tv = RunD.none by unfold fluD; rw [hE]; rfl)
    clear hE hs hx0 hx
    go_enter Try.func18, Try.ntmps18
    go_upto_region 1 with (fail)
    generalize w.alloc (.cells #[.slice none 0 0, .slice none 0 0] 30) = W at HB HK ⊢
    obtain ⟨⟨c0, f0, c1, f1⟩, hk2⟩ := HK.out.put2 (.slice none 0 0) (.slice none 0 0)
    have q0 := hk2.cell (k := 0) rfl
    have q1 := hk2.cell (k := 1) rfl
    clear hk2
    go_wp2_with (go_at_call 43; refine (HSZ.out _).mono ?_; rintro e w' ⟨rfl, rfl⟩)
    exact bodyPost_ret (v := .tuple #[.agg #[.slice none 0 0, .slice none 0 0], .int .i64 2]) (by simp [results, Try.results18, go_sem, q0, q1]) rfl (show RuPost w (fluD n R x m rd tv) (flE n R x m rd tv) _ _ from by rw [HD.out, HE.out]; exact ⟨_, rfl, RunD.none_owned _ _, below_put2 HB.out (Nat.le_refl _) _ _⟩)
  have t1 : decide (x < 0) = false := decide_eq_false hx0
  obtain ⟨N, rfl⟩ : ∃ N : Nat, n = N := ⟨n.toNat, by omega⟩
  have hpw : ((2 ^ N : Nat) : Int) = (2 : Int) ^ N := by rw [Int.natCast_pow]; rfl
  have h2 : 2 ≤ N := by omega
  have h4 : N ≤ 4 := by omega
  have hw := wrap_pow (k := N) rfl h4
  by_cases hxb : (2 : Int) ^ N ≤ x
  · have t2 : decide ((2 : Int) ^ N ≤ x) = true := decide_eq_true hxb
    have hE : flE N R x m rd tv = 2 := if_neg (by rw [Int.toNat_natCast, hpw]; omega)
    have HE := Lib.hid hE
    have HD := Lib.hid (show fluD N R x m rd tv = RunD.none by unfold fluD; rw [hE]; rfl)
    clear hE hs hx0 hxb hx hpw
    go_enter Try.func18, Try.ntmps18
    go_upto_region 1 with (fail)
    generalize w.alloc (.cells #[.slice none 0 0, .slice none 0 0] 30) = W at HB HK ⊢
    obtain ⟨⟨c0, f0, c1, f1⟩, hk2⟩ := HK.out.put2 (.slice none 0 0) (.slice none 0 0)
    have q0 := hk2.cell (k := 0) rfl
    have q1 := hk2.cell (k := 1) rfl
    clear hk2
    go_wp2_with (go_at_call 43; refine (HSZ.out _).mono ?_; rintro e w' ⟨rfl, rfl⟩)
    exact bodyPost_ret (v := .tuple #[.agg #[.slice none 0 0, .slice none 0 0], .int .i64 2]) (by simp [results, Try.results18, go_sem, q0, q1]) rfl (show RuPost w (fluD N R x m rd tv) (flE N R x m rd tv) _ _ from by rw [HD.out, HE.out]; exact ⟨_, rfl, RunD.none_owned _ _, below_put2 HB.out (Nat.le_refl _) _ _⟩)
  have t2 : decide ((2 : Int) ^ N ≤ x) = false := decide_eq_false hxb
  have hE0 : flE N R x m rd tv = if (m : Int) = (N : Int) then (if allB m (fun i => !crR N R.toNat rd tv i) then 0 else 2) else 3 := by
    unfold flE; rw [if_pos ⟨hs, by omega, by rw [Int.toNat_natCast, hpw]; omega⟩, Int.toNat_natCast]
  by_cases hmn : m = N
  case neg =>
    have t3 : ((m : Int) != (N : Int)) = true := by rw [bne_iff_ne]; omega
    have hE : flE N R x m rd tv = 3 := by rw [hE0, if_neg (by omega)]
    have HE := Lib.hid hE
    have HD := Lib.hid (show fluD N R x m rd tv = RunD.none by unfold fluD; rw [hE]; rfl)
    clear hE hE0 hs hx0 hxb hx hpw hmn
    go_enter Try.func18, Try.ntmps18
    go_upto_region 1 with (fail)
    generalize w.alloc (.cells #[.slice none 0 0, .slice none 0 0] 30) = W at HB HK ⊢
    obtain ⟨⟨c0, f0, c1, f1⟩, hk2⟩ := HK.out.put2 (.slice none 0 0) (.slice none 0 0)
    have q0 := hk2.cell (k := 0) rfl
    have q1 := hk2.cell (k := 1) rfl
    clear hk2
    go_wp2_with (go_at_call 43; refine (HSZ.out _).mono ?_; rintro e w' ⟨rfl, rfl⟩)
    exact bodyPost_ret (v := .tuple #[.agg #[.slice none 0 0, .slice none 0 0], .int .i64 3]) (by simp [results, Try.results18, go_sem, q0, q1]) rfl (show RuPost w (fluD N R x m rd tv) (flE N R x m rd tv) _ _ from by rw [HD.out, HE.out]; exact ⟨_, rfl, RunD.none_owned _ _, below_put2 HB.out (Nat.le_refl _) _ _⟩)
  subst hmn
  have t3 : ((m : Int) != (m : Int)) = false := by simp
  obtain ⟨r, rfl⟩ : ∃ r : Nat, R = r := ⟨R.toNat, by omega⟩
  obtain ⟨X, rfl⟩ : ∃ X : Nat, x = X := ⟨x.toNat, by omega⟩
  have hr3 : r ≤ 3 := by omega
  have hXl : X < 2 ^ m := by
    have : (X : Int) < ((2 ^ m : Nat) : Int) := by rw [hpw]; omega
    omega
  rw [if_pos rfl, Int.toNat_natCast] at hE0
  have HFL := Lib.hid (fun W (hW : CrS W A m rd tv) htv => flood_any m r X A c rd tv W hW h2 h4 hr3 hXl htv)
  have HE0 := Lib.hid hE0
  have HPW := Lib.hid hpw
  clear hE0 hs hx0 hxb hx hpw hXl
  go_enter Try.func18, Try.ntmps18
  go_upto_region 1 with (fail)
  generalize w.alloc (.cells #[.slice none 0 0, .slice none 0 0] 30) = W at HB HK ⊢
  have HX := Lib.hid (HX.out.below HB.out)
  go_wp2_with (go_at_call 43; refine (HSZ.out _).mono ?_; rintro e w' ⟨rfl, rfl⟩)
  go_loopw [34] (fun iv wr => ∃ i : Nat, i ≤ m ∧ iv = .int .i64 i ∧ Hid (∀ j, j < i → crR m r rd tv j = false) ∧ Below W.heap.size W wr) (fun iv _ => m - (intOf iv).toNat)
  case atStart => exact ⟨0, Nat.zero_le _, rfl, Lib.hid fun j hj => absurd hj (Nat.not_lt_zero _), Below.refl _ _⟩
  case round =>
    obtain ⟨i, hi, rfl, HF, hbl⟩ := hrel
    by_cases hlt : i < m
    · obtain ⟨b, off, rfl, c1, c2, c3, c4⟩ := HX.out.below hbl i hlt
      have HBL := Lib.hid hbl
      have HCR := Lib.hid (show crR m r rd tv i = (decide (rd i < 0) || decide ((r : Int) < rd i) || decide (tv i < 0) || decide (((2 ^ m : Nat) : Int) ≤ tv i) || (tv i).toNat.testBit i || (rd i == 0 && tv i != 0)) from rfl)
      rw [HPW.out] at HCR
      obtain ⟨y, ey⟩ : ∃ y, rd i = y := ⟨_, rfl⟩
      obtain ⟨z, ez⟩ : ∃ z, tv i = z := ⟨_, rfl⟩
      rw [ey] at c1 HCR c3
      rw [ez] at c2 HCR c4
      obtain ⟨CR, eCR⟩ : ∃ b, b = crR m r rd tv i := ⟨_, rfl⟩
      rw [← eCR] at HCR
      clear ey ez hbl
      go_upto_region 8 with (fail)
      have hba := below_alloc wr (.cells #[.int .i64 y, .int .i64 z] 37)
      have hbk := Blk.new wr #[.int .i64 y, .int .i64 z] 37
      have hbw := HBL.out.alloc HBL.out.size (.cells #[.int .i64 y, .int .i64 z] 37)
      generalize wr.alloc (.cells #[.int .i64 y, .int .i64 z] 37) = V at hba hbk hbw ⊢
      have d0 := hbk.cell (k := 0) rfl
      have d1 := hbk.cell (k := 1) rfl
      have HBV := Lib.hid hbw
      clear hba hbk hbw c1 c2 HBL
      go_cut [77] (fun s77 wx => s77 = .bool CR ∧ Below V.heap.size V wx)
      case first =>
        by_cases a1 : y < 0
        case pos =>
          have e1 : decide (y < 0) = true := decide_eq_true a1
          clear a1
          have HC := Lib.hid (show CR = true by rw [HCR.out]; simp [e1])
          go_quiet (fail)
          go_wp2_with fail
          go_meet
          exact ⟨by rw [HC.out], below_drewN (Below.refl _ _) _⟩
        have e1 : decide (y < 0) = false := decide_eq_false a1
        by_cases a2 : (r : Int) < y
        case pos =>
          have e2 : decide ((r : Int) < y) = true := decide_eq_true a2
          clear a1 a2
          have HC := Lib.hid (show CR = true by rw [HCR.out]; simp [e2])
          go_quiet (fail)
          go_wp2_with fail
          go_meet
          exact ⟨by rw [HC.out], below_drewN (Below.refl _ _) _⟩
        have e2 : decide ((r : Int) < y) = false := decide_eq_false a2
        by_cases a3 : z < 0
        case pos =>
          have e3 : decide (z < 0) = true := decide_eq_true a3
          clear a1 a2 a3
          have HC := Lib.hid (show CR = true by rw [HCR.out]; simp [e3])
          go_quiet (fail)
          go_wp2_with fail
          go_meet
          exact ⟨by rw [HC.out], below_drewN (Below.refl _ _) _⟩
        have e3 : decide (z < 0) = false := decide_eq_false a3
        by_cases a4 : (2 : Int) ^ m ≤ z
        case pos =>
          have e4 : decide ((2 : Int) ^ m ≤ z) = true := decide_eq_true a4
          clear a1 a2 a3 a4
          have HC := Lib.hid (show CR = true by rw [HCR.out]; simp [e4])
          go_quiet (fail)
          go_wp2_with fail
          go_meet
          exact ⟨by rw [HC.out], below_drewN (Below.refl _ _) _⟩
        have e4 : decide ((2 : Int) ^ m ≤ z) = false := decide_eq_false a4
        obtain ⟨Z, rfl⟩ : ∃ Z : Nat, z = Z := ⟨z.toNat, by omega⟩
        have hbit := i64_has Z i (by omega)
        rw [Int.toNat_natCast] at HCR
        obtain ⟨bt, ebt⟩ : ∃ b, Z.testBit i = b := ⟨_, rfl⟩
        rw [ebt] at hbit HCR
        clear ebt
        cases bt
        case true =>
          clear a1 a2 a3 a4
          have HC := Lib.hid (show CR = true by rw [HCR.out]; simp [e1])
          go_quiet (fail)
          go_wp2_with fail
          go_meet
          exact ⟨by rw [HC.out], below_drewN (Below.refl _ _) _⟩
        by_cases a6 : y = 0
        · have e6 : (y == 0) = true := by rw [beq_iff_eq]; exact a6
          by_cases a7 : (Z : Int) = 0
          · have e7 : ((Z : Int) != 0) = false := by rw [a7]; rfl
            clear a1 a2 a3 a4 a6 a7
            have HC := Lib.hid (show CR = false by rw [HCR.out]; simp [e1, e2, e3, e4, e6, e7])
            go_quiet (fail)
            go_wp2_with fail
            go_meet
            exact ⟨by rw [HC.out], below_drewN (Below.refl _ _) _⟩
          · have e7 : ((Z : Int) != 0) = true := by rw [bne_iff_ne]; exact a7
            clear a1 a2 a3 a4 a6 a7
            have HC := Lib.hid (show CR = true by rw [HCR.out]; simp [e1, e2, e3, e4, e6, e7])
            go_quiet (fail)
            go_wp2_with fail
            go_meet
            exact ⟨by rw [HC.out], below_drewN (Below.refl _ _) _⟩
        · have e6 : (y == 0) = false := by rw [beq_eq_false_iff_ne]; exact a6
          clear a1 a2 a3 a4 a6
          have HC := Lib.hid (show CR = false by rw [HCR.out]; simp [e1, e2, e3, e4, e6])
          go_quiet (fail)
          go_wp2_with fail
          go_meet
          exact ⟨by rw [HC.out], below_drewN (Below.refl _ _) _⟩
      case rest =>
        obtain ⟨rfl, hbx⟩ := hcut
        have HBC := Lib.hid (HBV.out.trans (hbx.mono HBV.out.size))
        have HE0 := HE0
        cases hcr : CR
        · have HF2 : Hid (∀ j, j < i + 1 → crR m r rd tv j = false) := Lib.hid fun j hj => by
            rcases Nat.lt_succ_iff_lt_or_eq.1 hj with h | rfl
            · exact HF.out j h
            · rw [← eCR, hcr]
          clear hcr eCR hbx HCR d0 d1
          go_wp2_with fail
          go_roundw
          case rel => exact ⟨i + 1, by omega, by go_num, HF2, HBC.out⟩
          case measure => simp [intOf]; omega
        · have hE : flE m r X m rd tv = 2 := by
            rw [HE0.out, if_neg]
            intro h
            have := allB_iff.1 h i hlt
            rw [← eCR, hcr] at this
            cases this
          have HE := Lib.hid hE
          have HD := Lib.hid (show fluD m r X m rd tv = RunD.none by unfold fluD; rw [hE]; rfl)
          have HK := Lib.hid (HK.out.below HBC.out)
          have HB := Lib.hid (HB.out.trans (HBC.out.mono HB.out.size))
          clear hcr eCR hbx HCR d0 d1 hE
          obtain ⟨⟨c0, f0, c1, f1⟩, hk2⟩ := HK.out.put2 (.slice none 0 0) (.slice none 0 0)
          have q0 := hk2.cell (k := 0) rfl
          have q1 := hk2.cell (k := 1) rfl
          clear hk2
          go_wp2_with fail
          exact bodyPost_ret (v := .tuple #[.agg #[.slice none 0 0, .slice none 0 0], .int .i64 2]) (by simp [results, Try.results18, go_sem, q0, q1]) rfl (show RuPost w (fluD m r X m rd tv) (flE m r X m rd tv) _ _ from by rw [HD.out, HE.out]; exact ⟨_, rfl, RunD.none_owned _ _, below_put2 HB.out (Nat.le_refl _) _ _⟩)
    · obtain rfl : i = m := by omega
      have hE : flE i r X i rd tv = 0 := by
        rw [HE0.out, if_pos]
        exact allB_iff.2 fun j hj => by rw [HF.out j hj]; rfl
      have HE := Lib.hid hE
      have HD := Lib.hid (show fluD i r X i rd tv = floD i r X rd tv by unfold fluD; rw [if_pos hE]; rfl)
      have HFL := Lib.hid (HFL.out wr (HX.out.below hbl) fun j hj => by
        have := HF.out j hj
        unfold crR at this
        rw [Bool.or_eq_false_iff, Bool.or_eq_false_iff, Bool.or_eq_false_iff, Bool.or_eq_false_iff, Bool.or_eq_false_iff] at this
        have h3 := of_decide_eq_false this.1.1.1.2
        omega)
      have HK := Lib.hid (HK.out.below hbl)
      have HB := Lib.hid (HB.out.trans (hbl.mono HB.out.size))
      clear hE hbl HF
      go_upto_region 11 with (fail)
      have HLAST : Hid (∀ v w1, (floD i r X rd tv).owned w1 wr.heap.size v → Below wr.heap.size wr w1 → ∃ AL cL AF cF, v = .agg #[.slice AL (r + 1) cL, .slice AF (r + 1) cF]) := Lib.hid fun v w1 h _ => RunO.shape h
      go_wp2_with (go_at_call 44; refine HFL.out.mono ?_; rintro e w1 ⟨v, rfl, hrun, hb1⟩; obtain ⟨AL, cL, AF, cF, rfl⟩ := HLAST.out v w1 hrun hb1; obtain ⟨⟨c0, f0, c1, f1⟩, hk2⟩ := (HK.out.below hb1).put2 (.slice AL (r + 1) cL) (.slice AF (r + 1) cF); have q0 := hk2.cell (k := 0) rfl; have q1 := hk2.cell (k := 1) rfl; have HRU := Lib.hid (RunO.put2 (RunO.mono hrun HB.out.size) (HK.out.below hb1) (.slice AL (r + 1) cL) (.slice AF (r + 1) cF)); have HB := Lib.hid (HB.out.trans (hb1.mono HB.out.size)); clear hk2 hrun hb1)
      exact bodyPost_ret (v := .tuple #[.agg #[.slice AL (r + 1) cL, .slice AF (r + 1) cF], .int .i64 0]) (by simp [results, Try.results18, go_sem, q0, q1]) rfl (show RuPost w (fluD i r X i rd tv) (flE i r X i rd tv) _ _ from by rw [HD.out, HE.out]; exact ⟨_, rfl, HRU.out, below_put2 HB.out (Nat.le_refl _) _ _⟩)
end Go.Proofs.Ytgnkeecjaffnaaa
