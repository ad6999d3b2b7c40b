/-
  Texts of this claim, one after the other: what each proves is said at its head. No condition beyond those that its theorems name.
-/
import Derived.Test.YtahaimecchdfeaaProg
import Derived.Test.YtahaimecchdfeaaH01
import Derived.Test.YtahaimecchdfeaaH06

/-
  Walks of layer 54: Start of both; rule, Check, sends, Sends of the reference. (Written by gen_prr.py.)
-/
namespace Go.Proofs.Ytahaimecchdfeaa
open Go.RowKit

set_option maxHeartbeats 1000000 in
theorem Start_any (a b : Int) (w : World) :
    Calls Try.prog 68 #[.int .i64 a, .int .i64 b] w fun e w' => e = .returned (.int .i64 (stV a b)) ∧ w = w' := by
  by_cases a0 : a < 0
  · have e1 : decide (a < 0) = true := decide_eq_true a0
    have HE := Lib.hid (show stV a b = -1 from if_neg (by omega))
    clear a0
    go_enter Try.func68, Try.ntmps68
    go_wp2_with fail
    go_ret
    exact ⟨by rw [HE.out]; rfl, rfl⟩
  have e1 : decide (a < 0) = false := decide_eq_false a0
  by_cases a1 : 1 < a
  · have e2 : decide (1 < a) = true := decide_eq_true a1
    have HE := Lib.hid (show stV a b = -1 from if_neg (by omega))
    clear a0 a1
    go_enter Try.func68, Try.ntmps68
    go_wp2_with fail
    go_ret
    exact ⟨by rw [HE.out]; rfl, rfl⟩
  have e2 : decide (1 < a) = false := decide_eq_false a1
  by_cases b0 : b < 0
  · have e3 : decide (b < 0) = true := decide_eq_true b0
    have HE := Lib.hid (show stV a b = -1 from if_neg (by omega))
    clear a0 a1 b0
    go_enter Try.func68, Try.ntmps68
    go_wp2_with fail
    go_ret
    exact ⟨by rw [HE.out]; rfl, rfl⟩
  have e3 : decide (b < 0) = false := decide_eq_false b0
  by_cases b1 : 1 < b
  · have e4 : decide (1 < b) = true := decide_eq_true b1
    have HE := Lib.hid (show stV a b = -1 from if_neg (by omega))
    clear a0 a1 b0 b1
    go_enter Try.func68, Try.ntmps68
    go_wp2_with fail
    go_ret
    exact ⟨by rw [HE.out]; rfl, rfl⟩
  have e4 : decide (1 < b) = false := decide_eq_false b1
  have hb0 : 0 ≤ b := by omega
  have hb1 : b ≤ 1 := by omega
  have hV : stV a b = if a = 1 then 4 else 4 + b := if_pos (by omega)
  by_cases h1 : a = 1
  · subst h1
    have HE := Lib.hid (show stV 1 b = 4 from hV.trans (if_pos rfl))
    clear a0 a1 b0 b1 hV
    go_enter Try.func68, Try.ntmps68
    go_wp2_with fail
    go_ret
    exact ⟨by rw [HE.out]; rfl, rfl⟩
  · obtain rfl : a = 0 := by omega
    have HE := Lib.hid (show stV 0 b = 4 + b from hV.trans (if_neg (by decide)))
    clear a0 a1 b0 b1 hV h1
    go_enter Try.func68, Try.ntmps68
    go_wp2_with fail
    go_ret
    exact ⟨by rw [HE.out]; rfl, rfl⟩
set_option maxHeartbeats 4000000 in
theorem rule_any (R : Int) (A : Option Addr) (n c k : Nat) (fa fh fm : Nat → Int) (w : World) (hx : RuleS w A n fa fh fm) (hn : n ≤ 9223372036854775807) (hk : k < n) :
    Calls Try.prog 124 #[.agg #[.int .i64 R, .slice A n c], .int .i64 k] w fun e w' => e = .returned (.int .i64 (rulE R fa fh fm k : Nat)) ∧ Below w.heap.size w w' := by
  have HX := Lib.hid hx
  clear hx
  go_enter Try.func124, Try.ntmps124
  go_upto_region 1 with (fail)
  obtain ⟨d0, d1⟩ := cells_box2 w (.int .i64 R) (.slice A n c) 43
  have hB := below_alloc w (.cells #[.int .i64 R, .slice A n c] 43)
  generalize w.alloc (.cells #[.int .i64 R, .slice A n c] 43) = W at d0 d1 hB ⊢
  have HX := Lib.hid (HX.out.below hB)
  have HB := Lib.hid hB
  have hsz := HB.out.size
  obtain ⟨b, off, rfl, c1, c2, c3, -, r2, -⟩ := HX.out k hk
  have HBAD := Lib.hid (fun h => rulE_bad (R := R) (fa := fa) (fh := fh) (fm := fm) (k := k) h)
  have HT := Lib.hid (fun w => rTime_any (fa k) (fh k) w r2)
  have HZ : Hid (k = 0 → 0 ≤ tmV (fa k) (fh k) ∧ tmV (fa k) (fh k) < R ∧ 1 ≤ fm k ∧ fm k ≤ 3 → rulE R fa fh fm k = 0) := Lib.hid fun h0 h => by subst h0; exact rulE_zero h
  have HS : Hid (∀ j, k = j + 1 → 0 ≤ tmV (fa k) (fh k) ∧ tmV (fa k) (fh k) < R ∧ 1 ≤ fm k ∧ fm k ≤ 3 → rulE R fa fh fm k = if fa k < fa j ∨ fa k = fa j ∧ fh k ≤ fh j then 9 else 0) := Lib.hid fun j h0 h => by subst h0; exact rulE_succ h
  obtain ⟨x, ex⟩ : ∃ x, x = fa k := ⟨_, rfl⟩
  obtain ⟨y, ey⟩ : ∃ x, x = fh k := ⟨_, rfl⟩
  obtain ⟨z, ez⟩ : ∃ x, x = fm k := ⟨_, rfl⟩
  rw [← ex, ← ey] at HT HBAD HZ HS
  rw [← ez] at HBAD HZ HS
  rw [← ex] at c1
  rw [← ey] at c2
  rw [← ez] at c3
  obtain ⟨t, et⟩ : ∃ t, t = tmV x y := ⟨_, rfl⟩
  rw [← et] at HT HBAD HZ HS
  have hWa := below_alloc W (.cells #[.int .i64 x, .int .i64 y, .int .i64 z] 71)
  have g0 := cell_below hWa d0
  have g1 := cell_below hWa d1
  have HXA := Lib.hid (HX.out.below hWa)
  clear ex ey ez et r2 hWa hB
  by_cases t0 : t < 0
  · have f1 : decide (t < 0) = true := decide_eq_true t0
    have HV := Lib.hid (HBAD.out (by omega))
    clear t0 HBAD HZ HS
    go_wp2_with (go_at_call 52; refine (HT.out _).mono ?_; rintro e w' ⟨rfl, rfl⟩)
    go_ret
    exact ⟨by rw [HV.out]; rfl, HB.out.alloc (by omega) _⟩
  have f1 : decide (t < 0) = false := decide_eq_false t0
  by_cases tR : R ≤ t
  · have f2 : decide (R ≤ t) = true := decide_eq_true tR
    have HV := Lib.hid (HBAD.out (by omega))
    clear t0 tR HBAD HZ HS
    go_wp2_with (go_at_call 52; refine (HT.out _).mono ?_; rintro e w' ⟨rfl, rfl⟩)
    go_ret
    exact ⟨by rw [HV.out]; rfl, HB.out.alloc (by omega) _⟩
  have f2 : decide (R ≤ t) = false := decide_eq_false tR
  by_cases z1 : z < 1
  · have f3 : decide (z < 1) = true := decide_eq_true z1
    have HV := Lib.hid (HBAD.out (by omega))
    clear t0 tR z1 HBAD HZ HS
    go_wp2_with (go_at_call 52; refine (HT.out _).mono ?_; rintro e w' ⟨rfl, rfl⟩)
    go_ret
    exact ⟨by rw [HV.out]; rfl, HB.out.alloc (by omega) _⟩
  have f3 : decide (z < 1) = false := decide_eq_false z1
  by_cases z3 : 3 < z
  · have f4 : decide (3 < z) = true := decide_eq_true z3
    have HV := Lib.hid (HBAD.out (by omega))
    clear t0 tR z1 z3 HBAD HZ HS
    go_wp2_with (go_at_call 52; refine (HT.out _).mono ?_; rintro e w' ⟨rfl, rfl⟩)
    go_ret
    exact ⟨by rw [HV.out]; rfl, HB.out.alloc (by omega) _⟩
  have f4 : decide (3 < z) = false := decide_eq_false z3
  have hok : 0 ≤ t ∧ t < R ∧ 1 ≤ z ∧ z ≤ 3 := by omega
  clear t0 tR z1 z3 HBAD
  by_cases k0 : k = 0
  · have f5 : ((k : Int) == 0) = true := by rw [k0]; rfl
    have HV := Lib.hid (HZ.out k0 hok)
    clear k0 HZ HS hok
    go_wp2_with (go_at_call 52; refine (HT.out _).mono ?_; rintro e w' ⟨rfl, rfl⟩)
    go_ret
    exact ⟨by rw [HV.out]; rfl, HB.out.alloc (by omega) _⟩
  obtain ⟨j, rfl⟩ : ∃ j, k = j + 1 := ⟨k - 1, by omega⟩
  have f5 : (((j + 1 : Nat) : Int) == 0) = false := by rw [beq_eq_false_iff_ne]; omega
  have f6 : ((j : Int) + 1 == 0) = false := by rw [beq_eq_false_iff_ne]; omega
  have hj : j < n := by omega
  obtain ⟨b2, off2, e2, p1, p2, p3, -⟩ := HXA.out j hj
  injection e2 with e2
  injection e2 with e21 e22
  subst e21 e22
  have hs := HS.out j rfl hok
  obtain ⟨px, epx⟩ : ∃ x, x = fa j := ⟨_, rfl⟩
  obtain ⟨py, epy⟩ : ∃ x, x = fh j := ⟨_, rfl⟩
  obtain ⟨pz, epz⟩ : ∃ x, x = fm j := ⟨_, rfl⟩
  rw [← epx, ← epy] at hs
  rw [← epx] at p1
  rw [← epy] at p2
  rw [← epz] at p3
  have HSJ := Lib.hid hs
  clear k0 HZ HS hok hs epx epy epz
  by_cases q1 : x < px
  · have f7 : decide (x < px) = true := decide_eq_true q1
    have HV := Lib.hid (HSJ.out.trans (if_pos (.inl q1)))
    clear q1 HSJ
    go_wp2_with (go_at_call 52; refine (HT.out _).mono ?_; rintro e w' ⟨rfl, rfl⟩)
    go_ret
    exact ⟨by rw [HV.out]; rfl, (HB.out.alloc (by omega) _).alloc (by simp; omega) _⟩
  have f7 : decide (x < px) = false := decide_eq_false q1
  by_cases q2 : x = px
  · have f8 : (x == px) = true := by rw [q2]; simp
    by_cases q3 : y ≤ py
    · have f9 : decide (y ≤ py) = true := decide_eq_true q3
      have HV := Lib.hid (HSJ.out.trans (if_pos (.inr ⟨q2, q3⟩)))
      clear q1 q2 q3 HSJ
      go_wp2_with (go_at_call 52; refine (HT.out _).mono ?_; rintro e w' ⟨rfl, rfl⟩)
      go_ret
      exact ⟨by rw [HV.out]; rfl, (HB.out.alloc (by omega) _).alloc (by simp; omega) _⟩
    · have f9 : decide (y ≤ py) = false := decide_eq_false q3
      have HV := Lib.hid (HSJ.out.trans (if_neg (by omega)))
      clear q1 q2 q3 HSJ
      go_wp2_with (go_at_call 52; refine (HT.out _).mono ?_; rintro e w' ⟨rfl, rfl⟩)
      go_ret
      exact ⟨by rw [HV.out]; rfl, (HB.out.alloc (by omega) _).alloc (by simp; omega) _⟩
  · have f8 : (x == px) = false := by rw [beq_eq_false_iff_ne]; exact q2
    have HV := Lib.hid (HSJ.out.trans (if_neg (by omega)))
    clear q1 q2 HSJ
    go_wp2_with (go_at_call 52; refine (HT.out _).mono ?_; rintro e w' ⟨rfl, rfl⟩)
    go_ret
    exact ⟨by rw [HV.out]; rfl, (HB.out.alloc (by omega) _).alloc (by simp; omega) _⟩

/-! ### Check -/
set_option maxHeartbeats 2000000 in
theorem rCheck_any (R : Int) (A : Option Addr) (n c : Nat) (fa fh fm : Nat → Int) (w : World) (hx : RuleS w A n fa fh fm) (hn : n ≤ 9223372036854775807) :
    Calls Try.prog 85 #[.agg #[.int .i64 R, .slice A n c]] w fun e w' => e = .returned (.int .i64 (exErr R n fa fh fm : Nat)) ∧ Below w.heap.size w w' := by
  have HX := Lib.hid hx
  clear hx
  by_cases h0 : R < 0
  · have e1 : decide (R < 0) = true := decide_eq_true h0
    have HE := Lib.hid (show exErr R n fa fh fm = 2 from if_neg (by omega))
    clear h0
    go_enter Try.func85, Try.ntmps85
    go_wp2_with fail
    obtain ⟨d0, d1⟩ := cells_box2 w (.int .i64 R) (.slice A n c) 43
    have hB := below_alloc w (.cells #[.int .i64 R, .slice A n c] 43)
    generalize w.alloc (.cells #[.int .i64 R, .slice A n c] 43) = W at d0 d1 hB ⊢
    go_wp2_with fail
    go_ret
    exact ⟨by rw [HE.out]; rfl, hB⟩
  have e1 : decide (R < 0) = false := decide_eq_false h0
  by_cases h4 : 4 < R
  · have e2 : decide (4 < R) = true := decide_eq_true h4
    have HE := Lib.hid (show exErr R n fa fh fm = 2 from if_neg (by omega))
    clear h0 h4
    go_enter Try.func85, Try.ntmps85
    go_wp2_with fail
    obtain ⟨d0, d1⟩ := cells_box2 w (.int .i64 R) (.slice A n c) 43
    have hB := below_alloc w (.cells #[.int .i64 R, .slice A n c] 43)
    generalize w.alloc (.cells #[.int .i64 R, .slice A n c] 43) = W at d0 d1 hB ⊢
    go_wp2_with fail
    go_ret
    exact ⟨by rw [HE.out]; rfl, hB⟩
  have e2 : decide (4 < R) = false := decide_eq_false h4
  have hE : exErr R n fa fh fm = if n ≤ 100 then firstErr n (rulE R fa fh fm) else 8 := if_pos (by omega)
  by_cases h100 : 100 < n
  · have e3 : decide (100 < n) = true := decide_eq_true h100
    have e4 : decide (100 < (n : Int)) = true := decide_eq_true (by omega)
    rw [if_neg (by omega)] at hE
    have HE := Lib.hid hE
    clear h0 h4 h100 hE
    go_enter Try.func85, Try.ntmps85
    go_wp2_with fail
    obtain ⟨d0, d1⟩ := cells_box2 w (.int .i64 R) (.slice A n c) 43
    have hB := below_alloc w (.cells #[.int .i64 R, .slice A n c] 43)
    generalize w.alloc (.cells #[.int .i64 R, .slice A n c] 43) = W at d0 d1 hB ⊢
    go_wp2_with fail
    go_ret
    exact ⟨by rw [HE.out]; rfl, hB⟩
  have e3 : decide (100 < n) = false := decide_eq_false h100
  have e4 : decide (100 < (n : Int)) = false := decide_eq_false (by omega)
  rw [if_pos (by omega)] at hE
  have HE := Lib.hid hE
  clear h0 h4 hE
  go_enter Try.func85, Try.ntmps85
  go_wp2_with fail
  obtain ⟨d0, d1⟩ := cells_box2 w (.int .i64 R) (.slice A n c) 43
  have hB := below_alloc w (.cells #[.int .i64 R, .slice A n c] 43)
  generalize w.alloc (.cells #[.int .i64 R, .slice A n c] 43) = W at d0 d1 hB ⊢
  have HX := Lib.hid (HX.out.below hB)
  have HB := Lib.hid hB
  have D0 := Lib.hid d0
  have D1 := Lib.hid d1
  have hsz := HB.out.size
  go_wp2_with fail
  clear d0 d1 hB
  go_loopw [3] (fun iv wr => ∃ k : Nat, k ≤ n ∧ iv = .int .i64 k ∧ Hid (∀ u, u < k → rulE R fa fh fm u = 0) ∧ Below W.heap.size W wr) (fun iv _ => n - (intOf iv).toNat)
  case atStart => exact ⟨0, Nat.zero_le _, rfl, Lib.hid fun u hu => absurd hu (Nat.not_lt_zero _), Below.refl _ _⟩
  case round =>
    obtain ⟨k, hk, rfl, HP, hbl⟩ := hrel
    have hsw := hbl.size
    have d0 := cell_below hbl D0.out
    have d1 := cell_below hbl D1.out
    by_cases hlt : k < n
    · have HBL := Lib.hid hbl
      have HXR := Lib.hid (HX.out.below hbl)
      have HHIT := Lib.hid (fun (e : Nat) (he : rulE R fa fh fm k = e) (h0 : e ≠ 0) => (HE.out.trans ((firstErr_hit hlt HP.out (by rw [he]; exact h0)).trans he) : exErr R n fa fh fm = e))
      have HNX : Hid (rulE R fa fh fm k = 0 → ∀ u, u < k + 1 → rulE R fa fh fm u = 0) := Lib.hid fun h0 u hu => by
        rcases Nat.lt_succ_iff_lt_or_eq.1 hu with h1 | rfl
        · exact HP.out u h1
        · exact h0
      have HR := Lib.hid (fun w (hx : RuleS w A n fa fh fm) => rule_any R A n c k fa fh fm w hx hn hlt)
      obtain ⟨E, eE⟩ : ∃ E, E = rulE R fa fh fm k := ⟨_, rfl⟩
      rw [← eE] at HR
      have EE := Lib.hid eE
      clear hbl HP eE
      by_cases hz : E = 0
      · subst hz
        have HP := Lib.hid (HNX.out EE.out.symm)
        clear HHIT HNX EE
        go_wp2_with fail
        refine (HR.out _ HXR.out).mono ?_
        rintro e w2 ⟨rfl, hst⟩
        have HBL := Lib.hid (HBL.out.trans (hst.mono HBL.out.size))
        clear hst d0 d1
        go_wp2_with fail
        go_roundw
        case rel => exact ⟨k + 1, by omega, by go_num, HP, HBL.out⟩
        case measure => simp [intOf]; omega
      · have hne : ((E : Int) != 0) = true := by rw [bne_iff_ne]; omega
        have HV := Lib.hid (HHIT.out E EE.out.symm hz)
        clear HHIT HNX EE hz
        go_wp2_with fail
        refine (HR.out _ HXR.out).mono ?_
        rintro e w2 ⟨rfl, hst⟩
        have HBL := Lib.hid (HBL.out.trans (hst.mono HBL.out.size))
        clear hst d0 d1
        go_wp2_with fail
        go_ret
        exact ⟨by rw [HV.out]; rfl, HB.out.trans (HBL.out.mono hsz)⟩
    · obtain rfl : k = n := by omega
      have HV := Lib.hid (HE.out.trans (firstErr_zero HP.out))
      have HB2 := Lib.hid (HB.out.trans (hbl.mono hsz))
      clear hbl HP
      go_wp2_with fail
      go_ret
      exact ⟨by rw [HV.out]; rfl, HB2.out⟩

/-! ### sends -/
set_option maxHeartbeats 1000000 in
theorem rsends_any (R a h : Int) (A : Option Addr) (n c : Nat) (fa fh fm : Nat → Int) (w : World) (hx : RuleS w A n fa fh fm) (_hn : n ≤ 9223372036854775807) :
    Calls Try.prog 125 #[.agg #[.int .i64 R, .slice A n c], .int .i64 a, .int .i64 h] w fun e w' => e = .returned (.int .i64 (sndV n fa fh fm a h)) ∧ Below w.heap.size w w' := by
  have HX := Lib.hid hx
  clear hx
  go_enter Try.func125, Try.ntmps125
  go_wp2_with fail
  obtain ⟨d0, d1⟩ := cells_box2 w (.int .i64 R) (.slice A n c) 43
  have hB := below_alloc w (.cells #[.int .i64 R, .slice A n c] 43)
  generalize w.alloc (.cells #[.int .i64 R, .slice A n c] 43) = W at d0 d1 hB ⊢
  have HX := Lib.hid (HX.out.below hB)
  have HB := Lib.hid hB
  have hsz := HB.out.size
  have D0 := Lib.hid d0
  have D1 := Lib.hid d1
  clear d0 d1 hB
  go_loopw [7] (fun iv wr => ∃ k : Nat, k ≤ n ∧ iv = .int .i64 k ∧ Hid (sndP k fa fh fm a h = none) ∧ Below W.heap.size W wr) (fun iv _ => n - (intOf iv).toNat)
  case atStart => exact ⟨0, Nat.zero_le _, rfl, Lib.hid rfl, Below.refl _ _⟩
  case round =>
    obtain ⟨k, hk, rfl, HP, hbl⟩ := hrel
    have d0 := cell_below hbl D0.out
    have d1 := cell_below hbl D1.out
    by_cases hlt : k < n
    · obtain ⟨b, off, rfl, c1, c2, c3, -, -, -⟩ := HX.out.below hbl k hlt
      have HBL := Lib.hid hbl
      have HNO := Lib.hid (fun hn => sndP_no (fm := fm) HP.out hn)
      have HYE := Lib.hid (fun hy => sndP_hit (fm := fm) HP.out hy n hlt)
      obtain ⟨x, ex⟩ : ∃ x, x = fa k := ⟨_, rfl⟩
      obtain ⟨y, ey⟩ : ∃ x, x = fh k := ⟨_, rfl⟩
      obtain ⟨z, ez⟩ : ∃ x, x = fm k := ⟨_, rfl⟩
      rw [← ex, ← ey] at HNO HYE
      rw [← ez] at HYE
      rw [← ex] at c1
      rw [← ey] at c2
      rw [← ez] at c3
      clear hbl HP ex ey ez
      by_cases h1 : x = a
      · have t1 : (x == a) = true := by rw [h1]; simp
        by_cases h2 : y = h
        · have t2 : (y == h) = true := by rw [h2]; simp
          have HV := Lib.hid (show sndV n fa fh fm a h = z by unfold sndV; rw [HYE.out ⟨h1, h2⟩]; rfl)
          clear h1 h2 HNO HYE
          go_wp2_with fail
          go_ret
          exact ⟨by rw [HV.out]; rfl, HB.out.trans (HBL.out.mono hsz)⟩
        · have t2 : (y == h) = false := by rw [beq_eq_false_iff_ne]; exact h2
          have HP := Lib.hid (HNO.out (fun h => h2 h.2))
          clear h1 h2 HNO HYE
          go_wp2_with fail
          go_roundw
          case rel => exact ⟨k + 1, by omega, by go_num, HP, HBL.out⟩
          case measure => simp [intOf]; omega
      · have t1 : (x == a) = false := by rw [beq_eq_false_iff_ne]; exact h1
        have HP := Lib.hid (HNO.out (fun h => h1 h.1))
        clear h1 HNO HYE
        go_wp2_with fail
        go_roundw
        case rel => exact ⟨k + 1, by omega, by go_num, HP, HBL.out⟩
        case measure => simp [intOf]; omega
    · obtain rfl : k = n := by omega
      have HV := Lib.hid (show sndV k fa fh fm a h = 0 by unfold sndV; rw [HP.out]; rfl)
      have HB2 := Lib.hid (HB.out.trans (hbl.mono hsz))
      clear hbl HP
      go_wp2_with fail
      go_ret
      exact ⟨by rw [HV.out]; rfl, HB2.out⟩


/-! ### Sends -/
end Go.Proofs.Ytahaimecchdfeaa
