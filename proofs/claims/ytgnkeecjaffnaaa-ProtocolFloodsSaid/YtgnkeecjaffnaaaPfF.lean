/-
  Walks of layer 54: Flood of the reference.
-/
import Derived.Test.YtgnkeecjaffnaaaProg
import Derived.Test.YtgnkeecjaffnaaaBase
import Derived.Test.YtgnkeecjaffnaaaRow
import Derived.Test.YtgnkeecjaffnaaaRowsOf
import Derived.Test.YtgnkeecjaffnaaaPc
import Derived.Test.YtgnkeecjaffnaaaPd
import Derived.Test.YtgnkeecjaffnaaaPrB
import Derived.Test.YtgnkeecjaffnaaaPrF
import Derived.Test.YtgnkeecjaffnaaaPfP
import Derived.Test.YtgnkeecjaffnaaaPfA
import Derived.Test.YtgnkeecjaffnaaaPfC
import Derived.Test.YtgnkeecjaffnaaaPfR
import Derived.Test.YtgnkeecjaffnaaaPfW
namespace Go.Proofs.Ytgnkeecjaffnaaa
open Go.RowKit

set_option maxHeartbeats 4000000 in
set_option maxRecDepth 100000 in
theorem rFlood_any (n R x : Int) (A : Option Addr) (m c : Nat) (rd tv : Nat → Int) (w : World) (hx : CrS w A m rd tv) (hm : m ≤ 9223372036854775807) :
    Calls Try.prog 19 #[.int .i64 n, .int .i64 R, .int .i64 x, .slice A m c] w (RuPost w (fluD n R x m rd tv) (flE n R x m rd tv)) := by
  have HX := Lib.hid hx
  have HB := Lib.hid (below_alloc w (.cells #[.slice none 0 0, .slice none 0 0] 30))
  have HK := Lib.hid (Blk.new w #[.slice none 0 0, .slice none 0 0] 30)
  by_cases a1 : n < 2
  · have e1 : decide (n < 2) = true := decide_eq_true a1
    have hE : flE n R x m rd tv = 2 := if_neg (fun h => by omega)
    clear a1
    have HE := Lib.hid hE
    have HD := Lib.hid (show fluD n R x m rd tv = RunD.none by unfold fluD; rw [hE]; rfl)
    clear hE hx
    go_enter Try.func19, Try.ntmps19
    go_upto_region 1 with (fail)
    generalize w.alloc (.cells #[.slice none 0 0, .slice none 0 0] 30) = W at HB HK ⊢
    obtain ⟨⟨c0, f0, c1, f1⟩, hk2⟩ := HK.out.put2 (.slice none 0 0) (.slice none 0 0)
    have q0 := hk2.cell (k := 0) rfl
    have q1 := hk2.cell (k := 1) rfl
    clear hk2
    go_wp2_with fail
    exact bodyPost_ret (v := .tuple #[.agg #[.slice none 0 0, .slice none 0 0], .int .i64 2]) (by simp [results, Try.results19, go_sem, q0, q1]) rfl (show RuPost w (fluD n R x m rd tv) (flE n R x m rd tv) _ _ from by rw [HD.out, HE.out]; exact ⟨_, rfl, RunD.none_owned _ _, below_put2 HB.out (Nat.le_refl _) _ _⟩)
  have e1 : decide (n < 2) = false := decide_eq_false a1
  by_cases a2 : 4 < n
  · have e2 : decide (4 < n) = true := decide_eq_true a2
    have hE : flE n R x m rd tv = 2 := if_neg (fun h => by omega)
    clear a1 a2
    have HE := Lib.hid hE
    have HD := Lib.hid (show fluD n R x m rd tv = RunD.none by unfold fluD; rw [hE]; rfl)
    clear hE hx
    go_enter Try.func19, Try.ntmps19
    go_upto_region 1 with (fail)
    generalize w.alloc (.cells #[.slice none 0 0, .slice none 0 0] 30) = W at HB HK ⊢
    obtain ⟨⟨c0, f0, c1, f1⟩, hk2⟩ := HK.out.put2 (.slice none 0 0) (.slice none 0 0)
    have q0 := hk2.cell (k := 0) rfl
    have q1 := hk2.cell (k := 1) rfl
    clear hk2
    go_wp2_with fail
    exact bodyPost_ret (v := .tuple #[.agg #[.slice none 0 0, .slice none 0 0], .int .i64 2]) (by simp [results, Try.results19, go_sem, q0, q1]) rfl (show RuPost w (fluD n R x m rd tv) (flE n R x m rd tv) _ _ from by rw [HD.out, HE.out]; exact ⟨_, rfl, RunD.none_owned _ _, below_put2 HB.out (Nat.le_refl _) _ _⟩)
  have e2 : decide (4 < n) = false := decide_eq_false a2
  by_cases a3 : R < 0
  · have e3 : decide (R < 0) = true := decide_eq_true a3
    have hE : flE n R x m rd tv = 2 := if_neg (fun h => by omega)
    clear a1 a2 a3
    have HE := Lib.hid hE
    have HD := Lib.hid (show fluD n R x m rd tv = RunD.none by unfold fluD; rw [hE]; rfl)
    clear hE hx
    go_enter Try.func19, Try.ntmps19
    go_upto_region 1 with (fail)
    generalize w.alloc (.cells #[.slice none 0 0, .slice none 0 0] 30) = W at HB HK ⊢
    obtain ⟨⟨c0, f0, c1, f1⟩, hk2⟩ := HK.out.put2 (.slice none 0 0) (.slice none 0 0)
    have q0 := hk2.cell (k := 0) rfl
    have q1 := hk2.cell (k := 1) rfl
    clear hk2
    go_wp2_with fail
    exact bodyPost_ret (v := .tuple #[.agg #[.slice none 0 0, .slice none 0 0], .int .i64 2]) (by simp [results, Try.results19, go_sem, q0, q1]) rfl (show RuPost w (fluD n R x m rd tv) (flE n R x m rd tv) _ _ from by rw [HD.out, HE.out]; exact ⟨_, rfl, RunD.none_owned _ _, below_put2 HB.out (Nat.le_refl _) _ _⟩)
  have e3 : decide (R < 0) = false := decide_eq_false a3
  by_cases a4 : 3 < R
  · have e4 : decide (3 < R) = true := decide_eq_true a4
    have hE : flE n R x m rd tv = 2 := if_neg (fun h => by omega)
    clear a1 a2 a3 a4
    have HE := Lib.hid hE
    have HD := Lib.hid (show fluD n R x m rd tv = RunD.none by unfold fluD; rw [hE]; rfl)
    clear hE hx
    go_enter Try.func19, Try.ntmps19
    go_upto_region 1 with (fail)
    generalize w.alloc (.cells #[.slice none 0 0, .slice none 0 0] 30) = W at HB HK ⊢
    obtain ⟨⟨c0, f0, c1, f1⟩, hk2⟩ := HK.out.put2 (.slice none 0 0) (.slice none 0 0)
    have q0 := hk2.cell (k := 0) rfl
    have q1 := hk2.cell (k := 1) rfl
    clear hk2
    go_wp2_with fail
    exact bodyPost_ret (v := .tuple #[.agg #[.slice none 0 0, .slice none 0 0], .int .i64 2]) (by simp [results, Try.results19, go_sem, q0, q1]) rfl (show RuPost w (fluD n R x m rd tv) (flE n R x m rd tv) _ _ from by rw [HD.out, HE.out]; exact ⟨_, rfl, RunD.none_owned _ _, below_put2 HB.out (Nat.le_refl _) _ _⟩)
  have e4 : decide (3 < R) = false := decide_eq_false a4
  by_cases a5 : x < 0
  · have e5 : decide (x < 0) = true := decide_eq_true a5
    have hE : flE n R x m rd tv = 2 := if_neg (fun h => by omega)
    clear a1 a2 a3 a4 a5
    have HE := Lib.hid hE
    have HD := Lib.hid (show fluD n R x m rd tv = RunD.none by unfold fluD; rw [hE]; rfl)
    clear hE hx
    go_enter Try.func19, Try.ntmps19
    go_upto_region 1 with (fail)
    generalize w.alloc (.cells #[.slice none 0 0, .slice none 0 0] 30) = W at HB HK ⊢
    obtain ⟨⟨c0, f0, c1, f1⟩, hk2⟩ := HK.out.put2 (.slice none 0 0) (.slice none 0 0)
    have q0 := hk2.cell (k := 0) rfl
    have q1 := hk2.cell (k := 1) rfl
    clear hk2
    go_wp2_with fail
    exact bodyPost_ret (v := .tuple #[.agg #[.slice none 0 0, .slice none 0 0], .int .i64 2]) (by simp [results, Try.results19, go_sem, q0, q1]) rfl (show RuPost w (fluD n R x m rd tv) (flE n R x m rd tv) _ _ from by rw [HD.out, HE.out]; exact ⟨_, rfl, RunD.none_owned _ _, below_put2 HB.out (Nat.le_refl _) _ _⟩)
  have e5 : decide (x < 0) = false := decide_eq_false a5
  obtain ⟨N, rfl⟩ : ∃ N : Nat, n = N := ⟨n.toNat, by omega⟩
  have hpw : ((2 ^ N : Nat) : Int) = (2 : Int) ^ N := by rw [Int.natCast_pow]; rfl
  have h2 : 2 ≤ N := by omega
  have h4 : N ≤ 4 := by omega
  have hw := wrap_pow (k := N) rfl h4
  have h16 : (2 : Nat) ^ N ≤ 16 := Nat.pow_le_pow_right (n := 2) (j := 4) (by decide) h4
  have hw64 := wrap64_self (z := (2 : Int) ^ N) (by rw [← hpw]; exact ⟨Int.natCast_nonneg _, Int.ofNat_le.2 h16⟩)
  by_cases a6 : (2 : Int) ^ N ≤ x
  · have e6 : decide ((2 : Int) ^ N ≤ x) = true := decide_eq_true a6
    have hE : flE N R x m rd tv = 2 := if_neg (by rw [Int.toNat_natCast, hpw]; omega)
    clear a1 a2 a3 a4 a5 a6 hpw h16
    have HE := Lib.hid hE
    have HD := Lib.hid (show fluD N R x m rd tv = RunD.none by unfold fluD; rw [hE]; rfl)
    clear hE hx
    go_enter Try.func19, Try.ntmps19
    go_upto_region 1 with (fail)
    generalize w.alloc (.cells #[.slice none 0 0, .slice none 0 0] 30) = W at HB HK ⊢
    obtain ⟨⟨c0, f0, c1, f1⟩, hk2⟩ := HK.out.put2 (.slice none 0 0) (.slice none 0 0)
    have q0 := hk2.cell (k := 0) rfl
    have q1 := hk2.cell (k := 1) rfl
    clear hk2
    go_wp2_with fail
    exact bodyPost_ret (v := .tuple #[.agg #[.slice none 0 0, .slice none 0 0], .int .i64 2]) (by simp [results, Try.results19, go_sem, q0, q1]) rfl (show RuPost w (fluD N R x m rd tv) (flE N R x m rd tv) _ _ from by rw [HD.out, HE.out]; exact ⟨_, rfl, RunD.none_owned _ _, below_put2 HB.out (Nat.le_refl _) _ _⟩)
  have e6 : decide ((2 : Int) ^ N ≤ x) = false := decide_eq_false a6
  have hE0 : flE N R x m rd tv = if (m : Int) = (N : Int) then (if allB m (fun i => !crR N R.toNat rd tv i) then 0 else 2) else 3 := by
    unfold flE; rw [if_pos ⟨by omega, by omega, by rw [Int.toNat_natCast, hpw]; omega⟩, Int.toNat_natCast]
  by_cases hmn : m = N
  case neg =>
    have t3 : ((m : Int) != (N : Int)) = true := by rw [bne_iff_ne]; omega
    have hE : flE N R x m rd tv = 3 := by rw [hE0, if_neg (by omega)]
    clear a1 a2 a3 a4 a5 a6 hpw h16 hE0 hmn
    have HE := Lib.hid hE
    have HD := Lib.hid (show fluD N R x m rd tv = RunD.none by unfold fluD; rw [hE]; rfl)
    clear hE hx
    go_enter Try.func19, Try.ntmps19
    go_upto_region 1 with (fail)
    generalize w.alloc (.cells #[.slice none 0 0, .slice none 0 0] 30) = W at HB HK ⊢
    obtain ⟨⟨c0, f0, c1, f1⟩, hk2⟩ := HK.out.put2 (.slice none 0 0) (.slice none 0 0)
    have q0 := hk2.cell (k := 0) rfl
    have q1 := hk2.cell (k := 1) rfl
    clear hk2
    go_wp2_with fail
    exact bodyPost_ret (v := .tuple #[.agg #[.slice none 0 0, .slice none 0 0], .int .i64 3]) (by simp [results, Try.results19, go_sem, q0, q1]) rfl (show RuPost w (fluD N R x m rd tv) (flE N R x m rd tv) _ _ from by rw [HD.out, HE.out]; exact ⟨_, rfl, RunD.none_owned _ _, below_put2 HB.out (Nat.le_refl _) _ _⟩)
  subst hmn
  have t3 : ((m : Int) != (m : Int)) = false := by simp
  obtain ⟨r, rfl⟩ : ∃ r : Nat, R = r := ⟨R.toNat, by omega⟩
  obtain ⟨X, rfl⟩ : ∃ X : Nat, x = X := ⟨x.toNat, by omega⟩
  have hr3 : r ≤ 3 := by omega
  have hXl : X < 2 ^ m := by
    have : (X : Int) < ((2 ^ m : Nat) : Int) := by rw [hpw]; omega
    omega
  rw [if_pos rfl, Int.toNat_natCast] at hE0
  have HFL := Lib.hid (fun W (hW : CrS W A m rd tv) htv => rflood_any m r X A c rd tv W hW h2 h4 hr3 hXl htv)
  have HE0 := Lib.hid hE0
  have HCA := Lib.hid (fun i y z w (hi : i < m) (hz : z ≤ 9223372036854775807) => crash_any m r i y z w h4 hi hr3 hz)
  clear hE0 hx hpw hXl a1 a2 a3 a4 a5 a6 h16
  go_enter Try.func19, Try.ntmps19
  go_upto_region 1 with (fail)
  generalize w.alloc (.cells #[.slice none 0 0, .slice none 0 0] 30) = W at HB HK ⊢
  have HX := Lib.hid (HX.out.below HB.out)
  go_wp2_with fail
  go_loopw [10] (fun iv wr => ∃ i : Nat, i ≤ m ∧ iv = .int .i64 i ∧ Hid (∀ j, j < i → crR m r rd tv j = false) ∧ Below W.heap.size W wr) (fun iv _ => m - (intOf iv).toNat)
  case atStart => exact ⟨0, Nat.zero_le _, rfl, Lib.hid fun j hj => absurd hj (Nat.not_lt_zero _), Below.refl _ _⟩
  case round =>
    obtain ⟨i, hi, rfl, HF, hbl⟩ := hrel
    by_cases hlt : i < m
    · obtain ⟨b, off, rfl, c1, c2, c3, c4⟩ := HX.out.below hbl i hlt
      have HBL := Lib.hid hbl
      have HCR := Lib.hid (show crR m r rd tv i = crQ m r i (rd i) (tv i) from rfl)
      obtain ⟨y, ey⟩ : ∃ y, rd i = y := ⟨_, rfl⟩
      obtain ⟨z, ez⟩ : ∃ z, tv i = z := ⟨_, rfl⟩
      rw [ey, ez] at HCR
      rw [ey] at c1 c3
      rw [ez] at c2 c4
      have HC := Lib.hid (HCA.out i y z wr hlt (by omega))
      have hil : (i : Int) < (m : Int) := by omega
      clear ey ez hbl
      cases hcr : crQ m r i y z
      · rw [hcr] at HC HCR
        have HF2 : Hid (∀ j, j < i + 1 → crR m r rd tv j = false) := Lib.hid fun j hj => by
          rcases Nat.lt_succ_iff_lt_or_eq.1 hj with h | rfl
          · exact HF.out j h
          · exact HCR.out
        clear hcr HCR HF
        go_wp2_with (go_at_call 45; refine HC.out.mono ?_; rintro e w1 ⟨rfl, hb1⟩; have HBL := Lib.hid (HBL.out.trans (hb1.mono HBL.out.size)); clear hb1)
        go_roundw
        case rel => exact ⟨i + 1, by omega, by go_num, HF2, HBL.out⟩
        case measure => simp [intOf]; omega
      · rw [hcr] at HC HCR
        have hE : flE m r X m rd tv = 2 := by
          rw [HE0.out, if_neg]
          intro h
          have := allB_iff.1 h i hlt
          rw [HCR.out] at this
          cases this
        have HE := Lib.hid hE
        have HD := Lib.hid (show fluD m r X m rd tv = RunD.none by unfold fluD; rw [hE]; rfl)
        clear hE hcr HCR HF HE0 HFL
        go_upto_region 9 with (go_at_call 45; refine HC.out.mono ?_; rintro e w1 ⟨rfl, hb1⟩; have HBL := Lib.hid (HBL.out.trans (hb1.mono HBL.out.size)); clear hb1)
        have HK := Lib.hid (HK.out.below HBL.out)
        have HB := Lib.hid (HB.out.trans (HBL.out.mono HB.out.size))
        obtain ⟨⟨c0, f0, c1, f1⟩, hk2⟩ := HK.out.put2 (.slice none 0 0) (.slice none 0 0)
        have q0 := hk2.cell (k := 0) rfl
        have q1 := hk2.cell (k := 1) rfl
        clear hk2
        go_wp2_with fail
        exact bodyPost_ret (v := .tuple #[.agg #[.slice none 0 0, .slice none 0 0], .int .i64 2]) (by simp [results, Try.results19, go_sem, q0, q1]) rfl (show RuPost w (fluD m r X m rd tv) (flE m r X m rd tv) _ _ from by rw [HD.out, HE.out]; exact ⟨_, rfl, RunD.none_owned _ _, below_put2 HB.out (Nat.le_refl _) _ _⟩)
    · obtain rfl : i = m := by omega
      have hE : flE i r X i rd tv = 0 := by
        rw [HE0.out, if_pos]
        exact allB_iff.2 fun j hj => by rw [HF.out j hj]; rfl
      have HE := Lib.hid hE
      have HD := Lib.hid (show fluD i r X i rd tv = floD i r X rd tv by unfold fluD; rw [if_pos hE]; rfl)
      have HFL := Lib.hid (HFL.out wr (HX.out.below hbl) fun j hj => by
        have := HF.out j hj
        unfold crR at this
        rw [Bool.or_eq_false_iff, Bool.or_eq_false_iff, Bool.or_eq_false_iff, Bool.or_eq_false_iff, Bool.or_eq_false_iff] at this
        have h3 := of_decide_eq_false this.1.1.1.2
        omega)
      have HK := Lib.hid (HK.out.below hbl)
      have HB := Lib.hid (HB.out.trans (hbl.mono HB.out.size))
      clear hE hbl HF HE0 HCA
      go_upto_region 11 with (fail)
      have HLAST : Hid (∀ v w1, (floD i r X rd tv).owned w1 wr.heap.size v → Below wr.heap.size wr w1 → ∃ AL cL AF cF, v = .agg #[.slice AL (r + 1) cL, .slice AF (r + 1) cF]) := Lib.hid fun v w1 h _ => RunO.shape h
      go_wp2_with (go_at_call 46; refine HFL.out.mono ?_; rintro e w1 ⟨v, rfl, hrun, hb1⟩; obtain ⟨AL, cL, AF, cF, rfl⟩ := HLAST.out v w1 hrun hb1; obtain ⟨⟨c0, f0, c1, f1⟩, hk2⟩ := (HK.out.below hb1).put2 (.slice AL (r + 1) cL) (.slice AF (r + 1) cF); have q0 := hk2.cell (k := 0) rfl; have q1 := hk2.cell (k := 1) rfl; have HRU := Lib.hid (RunO.put2 (RunO.mono hrun HB.out.size) (HK.out.below hb1) (.slice AL (r + 1) cL) (.slice AF (r + 1) cF)); have HB := Lib.hid (HB.out.trans (hb1.mono HB.out.size)); clear hk2 hrun hb1)
      exact bodyPost_ret (v := .tuple #[.agg #[.slice AL (r + 1) cL, .slice AF (r + 1) cF], .int .i64 0]) (by simp [results, Try.results19, go_sem, q0, q1]) rfl (show RuPost w (fluD i r X i rd tv) (flE i r X i rd tv) _ _ from by rw [HD.out, HE.out]; exact ⟨_, rfl, HRU.out, below_put2 HB.out (Nat.le_refl _) _ _⟩)
end Go.Proofs.Ytgnkeecjaffnaaa
