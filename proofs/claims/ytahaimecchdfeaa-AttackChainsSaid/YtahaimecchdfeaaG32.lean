/-
  Texts of this claim, one after the other: what each proves is said at its head. No condition beyond those that its theorems name.
-/
import Derived.Test.YtahaimecchdfeaaProg
import Derived.Deep.DeepCutAuto
import Derived.Test.YtahaimecchdfeaaG28
import Derived.Test.YtahaimecchdfeaaG30

/-
  Walk: the law AttackNever.
-/
namespace Go.Proofs.Ytahaimecchdfeaa
open Go.RowKit

/-- What Lossy answers to a protocol that is valid: the system, as it lies. -/
theorem los_shape {w1 : World} {base : Nat} {AR : Option Addr} {cR R n} {fa fh fm : Nat → Int} {D : SysD} (eD : D = losD R n fa fh fm) (hro : RunsO w1 base (.slice AR D.ps.length cR) D.ps) (hE : losE R n fa fh fm = 0) :
    (D.a = 2 ∧ D.f = 1 ∧ D.l = R + 1 ∧ D.ps.length = (losRs (sndV n fa fh fm) R.toNat).length) ∧ LsS w1 (.agg #[.int .i64 2, .int .i64 1, .int .i64 (R + 1), .slice AR (losRs (sndV n fa fh fm) R.toNat).length cR]) (sndV n fa fh fm) R (losRs (sndV n fa fh fm) R.toNat) ∧ lchk R (losRs (sndV n fa fh fm) R.toNat) ∧ LosP (sndV n fa fh fm) R.toNat (losRs (sndV n fa fh fm) R.toNat) ∧ (0 ≤ R ∧ R ≤ 4) ∧ exErr R n fa fh fm = 0 := by
  obtain ⟨hls, hlc, hlp, hR, hx⟩ := los_sys (w := w1) (base := base) (x := .agg #[.int .i64 D.a, .int .i64 D.f, .int .i64 D.l, .slice AR D.ps.length cR]) (by rw [← eD]; exact ⟨_, rfl, hro⟩) hE
  obtain ⟨A2, c2, ex, -⟩ := id hls
  have ex2 : (D.a = 2 ∧ D.f = 1 ∧ D.l = R + 1) ∧ AR = A2 ∧ D.ps.length = (losRs (sndV n fa fh fm) R.toNat).length ∧ cR = c2 := by
    injection ex with ex
    injection ex with ex
    injection ex with e1 ex
    injection ex with e2 ex
    injection ex with e3 ex
    injection ex with e4 ex
    injection e1 with _ e1
    injection e2 with _ e2
    injection e3 with _ e3
    injection e4 with e4 e5 e6
    exact ⟨⟨e1, e2, e3⟩, e4, e5, e6⟩
  obtain ⟨⟨e1, e2, e3⟩, rfl, e5, rfl⟩ := ex2
  rw [e1, e2, e3, e5] at hls
  exact ⟨⟨e1, e2, e3, e5⟩, hls, hlc, hlp, hR, hx⟩

set_option maxHeartbeats 4000000 in
theorem never_core (R : Int) (A : Option Addr) (n c : Nat) (fa fh fm : Nat → Int) (w : World) (hx : RuleS w A n fa fh fm) (hn : n ≤ 9223372036854775807) :
    Calls Try.prog 7 #[.agg #[.int .i64 R, .slice A n c]] w fun e w' => e = .returned (.bool true) ∧ Below w.heap.size w w' := by
  have HB := Lib.hid (below_alloc w (.cells #[.int .i64 R, .slice A n c] 43))
  have hbk := Blk.new w #[.int .i64 R, .slice A n c] 43
  have HX := Lib.hid (hx.below HB.out)
  have d0 := hbk.cell (k := 0) rfl
  have d1 := hbk.cell (k := 1) rfl
  clear hbk hx
  by_cases h100 : 100 < n
  · have t1 : decide (100 < n) = true := decide_eq_true h100
    have t1' : decide ((100 : Int) < (n : Int)) = true := decide_eq_true (by omega)
    clear h100
    go_enter Try.func7, Try.ntmps7
    go_upto_region 1 with (fail)
    generalize w.alloc (.cells #[.int .i64 R, .slice A n c] 43) = W at HB HX d0 d1 ⊢
    go_wp2_with (go_at_call 13; refine (awake_any _).mono ?_; rintro e w2 ⟨rfl, hst⟩; have HB := Lib.hid (HB.out.trans (hst.mono HB.out.size)); clear hst)
    go_ret
    exact ⟨rfl, HB.out⟩
  have t1 : decide (100 < n) = false := decide_eq_false h100
  have t1' : decide ((100 : Int) < (n : Int)) = false := decide_eq_false (by omega)
  have HLO := Lib.hid (fun W (h : RuleS W A n fa fh fm) => Lossy_any R A n c fa fh fm W h hn)
  have HLS := Lib.hid (fun (w1 : World) base AR cR (h : RunsO w1 base (.slice AR (losD R n fa fh fm).ps.length cR) (losD R n fa fh fm).ps) (hE : losE R n fa fh fm = 0) => los_shape rfl h hE)
  obtain ⟨E, eE⟩ : ∃ E, E = losE R n fa fh fm := ⟨_, rfl⟩
  obtain ⟨DD, eD⟩ : ∃ E, E = losD R n fa fh fm := ⟨_, rfl⟩
  rw [← eE] at HLO HLS
  rw [← eD] at HLO HLS
  have hlo := HLO.out _ HX.out
  unfold SysPost at hlo
  have HL1 := Lib.hid hlo
  clear hlo HLO eE eD h100
  go_enter Try.func7, Try.ntmps7
  go_upto_region 1 with (fail)
  generalize w.alloc (.cells #[.int .i64 R, .slice A n c] 43) = W at HB HX HL1 d0 d1 ⊢
  go_upto_region 4 with (go_at_call 27; refine HL1.out.mono ?_; rintro e w1 ⟨x, rfl, hown, hb1⟩; obtain ⟨vR, rfl, hro⟩ := hown; obtain ⟨AR, cR, rfl⟩ := runsO_shape hro; have HB := Lib.hid (below_trans HB.out hb1); have HRO := Lib.hid hro; clear hb1 hro)
  clear d0 d1 HL1 HX t1 t1'
  have hba := below_alloc w1 (.cells #[.int .i64 DD.a, .int .i64 DD.f, .int .i64 DD.l, .slice AR DD.ps.length cR] 24)
  have hbk := Blk.new w1 #[.int .i64 DD.a, .int .i64 DD.f, .int .i64 DD.l, .slice AR DD.ps.length cR] 24
  have HB := Lib.hid (below_trans HB.out hba)
  obtain ⟨V, eV⟩ : ∃ V, V = w1.alloc (.cells #[.int .i64 DD.a, .int .i64 DD.f, .int .i64 DD.l, .slice AR DD.ps.length cR] 24) := ⟨_, rfl⟩
  rw [← eV] at hba hbk HB ⊢
  obtain ⟨bS, ebS⟩ : ∃ b, b = w1.heap.size := ⟨_, rfl⟩
  rw [← ebS] at hbk ⊢
  clear eV ebS
  by_cases hE : E = 0
  case neg =>
    have t1 : ((E : Int) != 0) = true := by rw [bne_iff_ne]; omega
    clear hE HLS hbk hba
    go_wp2_with (go_at_call 13; refine (awake_any _).mono ?_; rintro e w2 ⟨rfl, hst⟩; have HB := Lib.hid (HB.out.trans (hst.mono HB.out.size)); clear hst)
    go_ret
    exact ⟨rfl, HB.out⟩
  subst hE
  rw [show (((0 : Nat)) : Int) = 0 from rfl]
  obtain ⟨⟨e1, e2, e3, e5⟩, hls, hlc, hlp, hR, hex⟩ := HLS.out w1 _ _ _ HRO.out rfl
  have hnv := fun r t => never (r := r) (t := t) hR (snd_range hex) hlp.len.2 hlc
  have hls2 := hls.below hba
  rw [e1, e2, e3, e5] at hbk ⊢
  generalize sndV n fa fh fm = snd at *
  obtain ⟨ps, eps⟩ : ∃ ps, ps = losRs snd R.toNat := ⟨_, rfl⟩
  rw [← eps] at hls2 hlc hlp hnv hbk ⊢
  have hN64 := hlp.len.2
  have HCM := Lib.hid (fun (X : World) (hX : Below V.heap.size V X) (r t : Nat) (hr : r < ps.length) (ht : (t : Int) < R + 1) => by
    have := Common_any _ 2 1 (R + 1) ps.length (lT ps) (fun _ _ => 2) (psL snd ps) (lT ps) (lF ps) (r : Nat) (t : Nat) 0 X (hls2.below hX) (by omega)
    rw [(hnv r t hr ht).1, (hnv r t hr ht).2] at this
    exact this)
  obtain ⟨T, rfl⟩ : ∃ T : Nat, R = (T : Int) := ⟨R.toNat, by omega⟩
  have hT : T ≤ 4 := by omega
  obtain ⟨N, eN⟩ : ∃ N, N = ps.length := ⟨_, rfl⟩
  rw [← eN] at HCM hbk hN64 ⊢
  have HK := Lib.hid hbk
  have q2 := hbk.cell (k := 2) rfl
  have q3 := hbk.cell (k := 3) rfl
  have t2 : decide ((64 : Int) < (N : Int)) = false := decide_eq_false (by omega)
  have t3 : decide ((5 : Int) < (T : Int) + 1) = false := decide_eq_false (by omega)
  clear e1 e2 e3 e5 hls hlc hlp hR hex hnv hls2 hba hbk HLS eps eN HRO
  go_wp2_with fail
  clear q2 q3
  go_loopw [34] (fun iv wr => ∃ i : Nat, i ≤ N ∧ iv = .int .i64 i ∧ Below V.heap.size V wr) (fun iv _ => N - (intOf iv).toNat)
  case atStart => exact ⟨0, Nat.zero_le _, rfl, Below.refl _ _⟩
  case round =>
    obtain ⟨i, hi, rfl, hbl⟩ := hrel
    have HBL := Lib.hid hbl
    by_cases hlt : i < N
    · have hii : (i : Int) < (N : Int) := by omega
      have q2 := (HK.out.below hbl).cell (k := 2) rfl
      clear hbl
      go_wp2_with fail
      clear q2
      go_loopw [39] (fun iv wr => ∃ j : Nat, j ≤ T + 1 ∧ iv = .int .i64 j ∧ Below V.heap.size V wr) (fun iv _ => T + 1 - (intOf iv).toNat)
      case atStart => exact ⟨0, Nat.zero_le _, rfl, HBL.out⟩
      case round =>
        clear HBL
        obtain ⟨j, hj, rfl, hbl⟩ := hrel
        have HBL := Lib.hid hbl
        by_cases hjt : j < T + 1
        · have hjj : (j : Int) < (T : Int) + 1 := by omega
          have q0 := (HK.out.below hbl).cell (k := 0) rfl
          have q1 := (HK.out.below hbl).cell (k := 1) rfl
          have q2 := (HK.out.below hbl).cell (k := 2) rfl
          have q3 := (HK.out.below hbl).cell (k := 3) rfl
          clear hbl
          go_wp2_with (go_at_call 16; refine (HCM.out _ HBL.out i j hlt hjj).mono ?_; rintro e w3 ⟨rfl, hb1⟩; have HBL := Lib.hid (below_trans HBL.out hb1); clear hb1)
          go_roundw
          case rel => exact ⟨j + 1, by omega, by go_num, HBL.out⟩
          case measure => simp [intOf]; omega
        · obtain rfl : j = T + 1 := by omega
          clear hbl
          go_wp2_with fail
          go_roundw
          case rel => exact ⟨i + 1, by omega, by go_num, HBL.out⟩
          case measure => simp [intOf]; omega
    · obtain rfl : i = N := by omega
      clear hbl
      go_wp2_with (go_at_call 13; refine (awake_any _).mono ?_; rintro e w2 ⟨rfl, hst⟩; have HB := Lib.hid (below_trans HB.out (below_trans HBL.out hst)); clear hst)
      go_ret
      exact ⟨rfl, HB.out⟩
end Go.Proofs.Ytahaimecchdfeaa
