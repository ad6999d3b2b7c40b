/-
  Texts of this claim, one after the other: what each proves is said at its head. No condition beyond those that its theorems name.
-/
import Derived.Test.YtahaimecchdfeaaProg
import Derived.Deep.DeepCutAuto
import Derived.Deep.RegionHeld3
import Derived.Test.YtahaimecchdfeaaH01
import Derived.Test.YtahaimecchdfeaaH02
import Derived.Test.YtahaimecchdfeaaH03
import Derived.Test.YtahaimecchdfeaaH08
import Derived.Test.YtahaimecchdfeaaH09
import Derived.Test.YtahaimecchdfeaaH12
import Derived.Test.YtahaimecchdfeaaH17
import Derived.Test.YtahaimecchdfeaaH26
import Derived.Test.YtahaimecchdfeaaH31
import Derived.Test.YtahaimecchdfeaaH34
import Derived.Test.YtahaimecchdfeaaH35
import Derived.Test.YtahaimecchdfeaaH37

/-
  Walk: the law AttackNever.
-/
namespace Go.Proofs.Ytahaimecchdfeaa
open Go.RowKit

/-- What Lossy answers to a protocol that is valid: the system, as it lies. -/
theorem los_shape {w1 : World} {base : Nat} {AR : Option Addr} {cR R n} {fa fh fm : Nat → Int} {D : SysD} (eD : D = losD R n fa fh fm) (hro : RunsO w1 base (.slice AR D.ps.length cR) D.ps) (hE : losE R n fa fh fm = 0) :
    (D.a = 2 ∧ D.f = 1 ∧ D.l = R + 1 ∧ D.ps.length = (losRs (sndV n fa fh fm) R.toNat).length) ∧ LsS w1 (.agg #[.int .i64 2, .int .i64 1, .int .i64 (R + 1), .slice AR (losRs (sndV n fa fh fm) R.toNat).length cR]) (sndV n fa fh fm) R (losRs (sndV n fa fh fm) R.toNat) ∧ lchk R (losRs (sndV n fa fh fm) R.toNat) ∧ LosP (sndV n fa fh fm) R.toNat (losRs (sndV n fa fh fm) R.toNat) ∧ (0 ≤ R ∧ R ≤ 4) ∧ exErr R n fa fh fm = 0 := by
  obtain ⟨hls, hlc, hlp, hR, hx⟩ := los_sys (w := w1) (base := base) (x := .agg #[.int .i64 D.a, .int .i64 D.f, .int .i64 D.l, .slice AR D.ps.length cR]) (by rw [← eD]; exact ⟨_, rfl, hro⟩) hE
  obtain ⟨A2, c2, ex, -⟩ := id hls
  have ex2 : (D.a = 2 ∧ D.f = 1 ∧ D.l = R + 1) ∧ AR = A2 ∧ D.ps.length = (losRs (sndV n fa fh fm) R.toNat).length ∧ cR = c2 := by
    injection ex with ex
    injection ex with ex
    injection ex with e1 ex
    injection ex with e2 ex
    injection ex with e3 ex
    injection ex with e4 ex
    injection e1 with _ e1
    injection e2 with _ e2
    injection e3 with _ e3
    injection e4 with e4 e5 e6
    exact ⟨⟨e1, e2, e3⟩, e4, e5, e6⟩
  obtain ⟨⟨e1, e2, e3⟩, rfl, e5, rfl⟩ := ex2
  rw [e1, e2, e3, e5] at hls
  exact ⟨⟨e1, e2, e3, e5⟩, hls, hlc, hlp, hR, hx⟩

set_option maxHeartbeats 4000000 in
theorem never_core (R : Int) (A : Option Addr) (n c : Nat) (fa fh fm : Nat → Int) (w : World) (hx : RuleS w A n fa fh fm) (hn : n ≤ 9223372036854775807) :
    Calls Try.prog 7 #[.agg #[.int .i64 R, .slice A n c]] w fun e w' => e = .returned (.bool true) ∧ Below w.heap.size w w' := by
  have HB := Lib.hid (below_alloc w (.cells #[.int .i64 R, .slice A n c] 43))
  have hbk := Blk.new w #[.int .i64 R, .slice A n c] 43
  have HX := Lib.hid (hx.below HB.out)
  have d0 := hbk.cell (k := 0) rfl
  have d1 := hbk.cell (k := 1) rfl
  clear hbk hx
  by_cases h100 : 100 < n
  · have t1 : decide (100 < n) = true := decide_eq_true h100
    have t1' : decide ((100 : Int) < (n : Int)) = true := decide_eq_true (by omega)
    clear h100
    go_enter Try.func7, Try.ntmps7
    go_upto_region 1 with (fail)
    generalize w.alloc (.cells #[.int .i64 R, .slice A n c] 43) = W at HB HX d0 d1 ⊢
    go_wp2_with (go_at_call 13; refine (awake_any _).mono ?_; rintro e w2 ⟨rfl, hst⟩; have HB := Lib.hid (HB.out.trans (hst.mono HB.out.size)); clear hst)
    go_ret
    exact ⟨rfl, HB.out⟩
  have t1 : decide (100 < n) = false := decide_eq_false h100
  have t1' : decide ((100 : Int) < (n : Int)) = false := decide_eq_false (by omega)
  have HLO := Lib.hid (fun W (h : RuleS W A n fa fh fm) => Lossy_any R A n c fa fh fm W h hn)
  have HLS := Lib.hid (fun (w1 : World) base AR cR (h : RunsO w1 base (.slice AR (losD R n fa fh fm).ps.length cR) (losD R n fa fh fm).ps) (hE : losE R n fa fh fm = 0) => los_shape rfl h hE)
  obtain ⟨E, eE⟩ : ∃ E, E = losE R n fa fh fm := ⟨_, rfl⟩
  obtain ⟨DD, eD⟩ : ∃ E, E = losD R n fa fh fm := ⟨_, rfl⟩
  rw [← eE] at HLO HLS
  rw [← eD] at HLO HLS
  have hlo := HLO.out _ HX.out
  unfold SysPost at hlo
  have HL1 := Lib.hid hlo
  clear hlo HLO eE eD h100
  go_enter Try.func7, Try.ntmps7
  go_upto_region 1 with (fail)
  generalize w.alloc (.cells #[.int .i64 R, .slice A n c] 43) = W at HB HX HL1 d0 d1 ⊢
  go_upto_region 4 with (go_at_call 27; refine HL1.out.mono ?_; rintro e w1 ⟨x, rfl, hown, hb1⟩; obtain ⟨vR, rfl, hro⟩ := hown; obtain ⟨AR, cR, rfl⟩ := runsO_shape hro; have HB := Lib.hid (below_trans HB.out hb1); have HRO := Lib.hid hro; clear hb1 hro)
  clear d0 d1 HL1 HX t1 t1'
  have hba := below_alloc w1 (.cells #[.int .i64 DD.a, .int .i64 DD.f, .int .i64 DD.l, .slice AR DD.ps.length cR] 24)
  have hbk := Blk.new w1 #[.int .i64 DD.a, .int .i64 DD.f, .int .i64 DD.l, .slice AR DD.ps.length cR] 24
  have HB := Lib.hid (below_trans HB.out hba)
  obtain ⟨V, eV⟩ : ∃ V, V = w1.alloc (.cells #[.int .i64 DD.a, .int .i64 DD.f, .int .i64 DD.l, .slice AR DD.ps.length cR] 24) := ⟨_, rfl⟩
  rw [← eV] at hba hbk HB ⊢
  obtain ⟨bS, ebS⟩ : ∃ b, b = w1.heap.size := ⟨_, rfl⟩
  rw [← ebS] at hbk ⊢
  clear eV ebS
  by_cases hE : E = 0
  case neg =>
    have t1 : ((E : Int) != 0) = true := by rw [bne_iff_ne]; omega
    clear hE HLS hbk hba
    go_wp2_with (go_at_call 13; refine (awake_any _).mono ?_; rintro e w2 ⟨rfl, hst⟩; have HB := Lib.hid (HB.out.trans (hst.mono HB.out.size)); clear hst)
    go_ret
    exact ⟨rfl, HB.out⟩
  subst hE
  rw [show (((0 : Nat)) : Int) = 0 from rfl]
  obtain ⟨⟨e1, e2, e3, e5⟩, hls, hlc, hlp, hR, hex⟩ := HLS.out w1 _ _ _ HRO.out rfl
  have hnv := fun r t => never (r := r) (t := t) hR (snd_range hex) hlp.len.2 hlc
  have hls2 := hls.below hba
  rw [e1, e2, e3, e5] at hbk ⊢
  generalize sndV n fa fh fm = snd at *
  obtain ⟨ps, eps⟩ : ∃ ps, ps = losRs snd R.toNat := ⟨_, rfl⟩
  rw [← eps] at hls2 hlc hlp hnv hbk ⊢
  have hN64 := hlp.len.2
  have HCM := Lib.hid (fun (X : World) (hX : Below V.heap.size V X) (r t : Nat) (hr : r < ps.length) (ht : (t : Int) < R + 1) => by
    have := Common_any _ 2 1 (R + 1) ps.length (lT ps) (fun _ _ => 2) (psL snd ps) (lT ps) (lF ps) (r : Nat) (t : Nat) 0 X (hls2.below hX) (by omega)
    rw [(hnv r t hr ht).1, (hnv r t hr ht).2] at this
    exact this)
  obtain ⟨T, rfl⟩ : ∃ T : Nat, R = (T : Int) := ⟨R.toNat, by omega⟩
  have hT : T ≤ 4 := by omega
  obtain ⟨N, eN⟩ : ∃ N, N = ps.length := ⟨_, rfl⟩
  rw [← eN] at HCM hbk hN64 ⊢
  have HK := Lib.hid hbk
  have q2 := hbk.cell (k := 2) rfl
  have q3 := hbk.cell (k := 3) rfl
  have t2 : decide ((64 : Int) < (N : Int)) = false := decide_eq_false (by omega)
  have t3 : decide ((5 : Int) < (T : Int) + 1) = false := decide_eq_false (by omega)
  clear e1 e2 e3 e5 hls hlc hlp hR hex hnv hls2 hba hbk HLS eps eN HRO
  go_wp2_with fail
  clear q2 q3
  go_loopw [34] (fun iv wr => ∃ i : Nat, i ≤ N ∧ iv = .int .i64 i ∧ Below V.heap.size V wr) (fun iv _ => N - (intOf iv).toNat)
  case atStart => exact ⟨0, Nat.zero_le _, rfl, Below.refl _ _⟩
  case round =>
    obtain ⟨i, hi, rfl, hbl⟩ := hrel
    have HBL := Lib.hid hbl
    by_cases hlt : i < N
    · have hii : (i : Int) < (N : Int) := by omega
      have q2 := (HK.out.below hbl).cell (k := 2) rfl
      clear hbl
      go_wp2_with fail
      clear q2
      go_loopw [39] (fun iv wr => ∃ j : Nat, j ≤ T + 1 ∧ iv = .int .i64 j ∧ Below V.heap.size V wr) (fun iv _ => T + 1 - (intOf iv).toNat)
      case atStart => exact ⟨0, Nat.zero_le _, rfl, HBL.out⟩
      case round =>
        clear HBL
        obtain ⟨j, hj, rfl, hbl⟩ := hrel
        have HBL := Lib.hid hbl
        by_cases hjt : j < T + 1
        · have hjj : (j : Int) < (T : Int) + 1 := by omega
          have q0 := (HK.out.below hbl).cell (k := 0) rfl
          have q1 := (HK.out.below hbl).cell (k := 1) rfl
          have q2 := (HK.out.below hbl).cell (k := 2) rfl
          have q3 := (HK.out.below hbl).cell (k := 3) rfl
          clear hbl
          go_wp2_with (go_at_call 16; refine (HCM.out _ HBL.out i j hlt hjj).mono ?_; rintro e w3 ⟨rfl, hb1⟩; have HBL := Lib.hid (below_trans HBL.out hb1); clear hb1)
          go_roundw
          case rel => exact ⟨j + 1, by omega, by go_num, HBL.out⟩
          case measure => simp [intOf]; omega
        · obtain rfl : j = T + 1 := by omega
          clear hbl
          go_wp2_with fail
          go_roundw
          case rel => exact ⟨i + 1, by omega, by go_num, HBL.out⟩
          case measure => simp [intOf]; omega
    · obtain rfl : i = N := by omega
      clear hbl
      go_wp2_with (go_at_call 13; refine (awake_any _).mono ?_; rintro e w2 ⟨rfl, hst⟩; have HB := Lib.hid (below_trans HB.out (below_trans HBL.out hst)); clear hst)
      go_ret
      exact ⟨rfl, HB.out⟩
end Go.Proofs.Ytahaimecchdfeaa

/-
  Walk: the law AttackProtocols.
-/
namespace Go.Proofs.Ytahaimecchdfeaa
open Go.RowKit

/-- Rules whose numbers fit in an int. -/
def bndB (l : List (Int × Int × Int)) : Bool := (List.range l.length).all fun k => decide ((-9223372036854775808 ≤ l[k]!.1 ∧ l[k]!.1 ≤ 9223372036854775807) ∧ (-9223372036854775808 ≤ l[k]!.2.1 ∧ l[k]!.2.1 ≤ 9223372036854775807) ∧ (-9223372036854775808 ≤ l[k]!.2.2 ∧ l[k]!.2.2 ≤ 9223372036854775807))
theorem bndB_at {l : List (Int × Int × Int)} (h : bndB l = true) : ∀ k, k < l.length → (-9223372036854775808 ≤ l[k]!.1 ∧ l[k]!.1 ≤ 9223372036854775807) ∧ (-9223372036854775808 ≤ l[k]!.2.1 ∧ l[k]!.2.1 ≤ 9223372036854775807) ∧ (-9223372036854775808 ≤ l[k]!.2.2 ∧ l[k]!.2.2 ≤ 9223372036854775807) :=
  fun k hk => of_decide_eq_true (List.all_eq_true.1 h k (List.mem_range.2 hk))
theorem upto4 {n : Nat} (h : n ≤ 4) : n = 0 ∨ n = 1 ∨ n = 2 ∨ n = 3 ∨ n = 4 := by omega
theorem bnd_alt (R : Int) : bndB (if 0 ≤ R ∧ R ≤ 4 then altS R.toNat else []) = true := by
  by_cases h : 0 ≤ R ∧ R ≤ 4
  · rw [if_pos h]
    rcases upto4 (n := R.toNat) (by omega) with e | e | e | e | e <;> rw [e] <;> kernel_rfl
  · rw [if_neg h]
    rfl
theorem bnd_tel (R : Int) : bndB (if 0 ≤ R ∧ R ≤ 4 then telR R.toNat else []) = true := by
  by_cases h : 0 ≤ R ∧ R ≤ 4
  · rw [if_pos h]
    rcases upto4 (n := R.toNat) (by omega) with e | e | e | e | e <;> rw [e] <;> kernel_rfl
  · rw [if_neg h]
    rfl
theorem len_alt (R : Int) : (if 0 ≤ R ∧ R ≤ 4 then altS R.toNat else []).length ≤ 8 := by
  by_cases h : 0 ≤ R ∧ R ≤ 4
  · rw [if_pos h]
    rcases upto4 (n := R.toNat) (by omega) with e | e | e | e | e <;> rw [e] <;> decide
  · rw [if_neg h]
    decide
theorem len_tel (R : Int) : (if 0 ≤ R ∧ R ≤ 4 then telR R.toNat else []).length ≤ 8 := by
  by_cases h : 0 ≤ R ∧ R ≤ 4
  · rw [if_pos h]
    rcases upto4 (n := R.toNat) (by omega) with e | e | e | e | e <;> rw [e] <;> decide
  · rw [if_neg h]
    decide
/-- What ExPost gives, as a protocol that can be read. -/
theorem ExPost.read {w : World} {R E : Int} {l : List (Int × Int × Int)} {e : Ending} {w' : World} (hl : bndB l = true) (h : ExPost w R E l e w') :
    ∃ A c, e = .returned (.tuple #[.agg #[.int .i64 R, .slice A l.length c], .int .i64 E]) ∧ RuleS w' A l.length (fun k => l[k]!.1) (fun k => l[k]!.2.1) (fun k => l[k]!.2.2) ∧ Below w.heap.size w w' := by
  obtain ⟨v, rfl, ho, hb⟩ := h
  obtain ⟨A, c, rfl⟩ := ho.shape
  exact ⟨A, c, rfl, ho.rules (bndB_at hl), hb⟩
theorem samEx_refl (R : Int) (n : Nat) (fa fh fm : Nat → Int) : SamEx R n fa fh fm R n fa fh fm := ⟨rfl, rfl, fun _ _ => ⟨rfl, rfl, rfl⟩⟩

set_option maxHeartbeats 4000000 in
theorem protocols_core (R : Int) (w : World) : Calls Try.prog 9 #[.int .i64 R] w fun e w' => e = .returned (.bool true) ∧ Below w.heap.size w w' := by
  have hA := fun W => (Alternating_any R W).mono (fun _ _ h => h.read (bnd_alt R))
  have hB := fun W => (rAlternating_any R W).mono (fun _ _ h => h.read (bnd_alt R))
  have hC := fun W => (Telling_any R W).mono (fun _ _ h => h.read (bnd_tel R))
  have hD := fun W => (rTelling_any R W).mono (fun _ _ h => h.read (bnd_tel R))
  have hl1 := len_alt R
  have hl2 := len_tel R
  generalize (if 0 ≤ R ∧ R ≤ 4 then altS R.toNat else []) = l1 at hA hB hl1
  generalize (if 0 ≤ R ∧ R ≤ 4 then telR R.toNat else []) = l2 at hC hD hl2
  generalize (if 0 ≤ R ∧ R ≤ 4 then R else 0) = R1 at hA hB hC hD
  generalize (if 0 ≤ R ∧ R ≤ 4 then 0 else 2 : Int) = E at hA hB hC hD
  have HA := Lib.hid hA
  have HB := Lib.hid hB
  have HC := Lib.hid hC
  have HD := Lib.hid hD
  clear hA hB hC hD
  go_enter Try.func9, Try.ntmps9
  go_upto_region 2 with (go_at_call 28; refine (HA.out _).mono ?_; rintro e w1 ⟨A1, c1, rfl, hr, hb⟩; have HR1 := Lib.hid hr; have HB1 := Lib.hid hb; clear hr hb)
  have hbk := Blk.new w1 #[.int .i64 R1, .slice A1 l1.length c1] 43
  have hba := below_alloc w1 (.cells #[.int .i64 R1, .slice A1 l1.length c1] 43)
  obtain ⟨V1, eV⟩ : ∃ V, V = w1.alloc (.cells #[.int .i64 R1, .slice A1 l1.length c1] 43) := ⟨_, rfl⟩
  rw [← eV] at hbk hba ⊢
  obtain ⟨b1, eb1⟩ : ∃ b, b = w1.heap.size := ⟨_, rfl⟩
  rw [← eb1] at hbk ⊢
  have HST := Lib.hid (below_trans HB1.out hba)
  have HR1 := Lib.hid (HR1.out.below hba)
  have HK1 := Lib.hid hbk
  clear hbk hba eV eb1 HB1
  have HBA := HST
  clear HST
  go_upto_region 3 with (go_at_call 29; refine (HB.out _).mono ?_; rintro e w2 ⟨A2, c2, rfl, hr, hb⟩; have HR2 := Lib.hid hr; have HB2 := Lib.hid hb; clear hr hb)
  have hbk := Blk.new w2 #[.int .i64 R1, .slice A2 l1.length c2] 43
  have hba := below_alloc w2 (.cells #[.int .i64 R1, .slice A2 l1.length c2] 43)
  obtain ⟨V2, eV⟩ : ∃ V, V = w2.alloc (.cells #[.int .i64 R1, .slice A2 l1.length c2] 43) := ⟨_, rfl⟩
  rw [← eV] at hbk hba ⊢
  obtain ⟨b2, eb2⟩ : ∃ b, b = w2.heap.size := ⟨_, rfl⟩
  rw [← eb2] at hbk ⊢
  have HST := Lib.hid (below_trans HB2.out hba)
  have HR2 := Lib.hid (HR2.out.below hba)
  have HK2 := Lib.hid hbk
  clear hbk hba eV eb2 HB2
  have HBA := Lib.hid (below_trans HBA.out HST.out)
  have HR1 := Lib.hid (HR1.out.below HST.out)
  have HK1 := Lib.hid (HK1.out.below HST.out)
  clear HST
  go_upto_region 4 with (go_at_call 30; refine (HC.out _).mono ?_; rintro e w3 ⟨A3, c3, rfl, hr, hb⟩; have HR3 := Lib.hid hr; have HB3 := Lib.hid hb; clear hr hb)
  have hbk := Blk.new w3 #[.int .i64 R1, .slice A3 l2.length c3] 43
  have hba := below_alloc w3 (.cells #[.int .i64 R1, .slice A3 l2.length c3] 43)
  obtain ⟨V3, eV⟩ : ∃ V, V = w3.alloc (.cells #[.int .i64 R1, .slice A3 l2.length c3] 43) := ⟨_, rfl⟩
  rw [← eV] at hbk hba ⊢
  obtain ⟨b3, eb3⟩ : ∃ b, b = w3.heap.size := ⟨_, rfl⟩
  rw [← eb3] at hbk ⊢
  have HST := Lib.hid (below_trans HB3.out hba)
  have HR3 := Lib.hid (HR3.out.below hba)
  have HK3 := Lib.hid hbk
  clear hbk hba eV eb3 HB3
  have HBA := Lib.hid (below_trans HBA.out HST.out)
  have HR1 := Lib.hid (HR1.out.below HST.out)
  have HK1 := Lib.hid (HK1.out.below HST.out)
  have HR2 := Lib.hid (HR2.out.below HST.out)
  have HK2 := Lib.hid (HK2.out.below HST.out)
  clear HST
  go_upto_region 5 with (go_at_call 31; refine (HD.out _).mono ?_; rintro e w4 ⟨A4, c4, rfl, hr, hb⟩; have HR4 := Lib.hid hr; have HB4 := Lib.hid hb; clear hr hb)
  have hbk := Blk.new w4 #[.int .i64 R1, .slice A4 l2.length c4] 43
  have hba := below_alloc w4 (.cells #[.int .i64 R1, .slice A4 l2.length c4] 43)
  obtain ⟨V4, eV⟩ : ∃ V, V = w4.alloc (.cells #[.int .i64 R1, .slice A4 l2.length c4] 43) := ⟨_, rfl⟩
  rw [← eV] at hbk hba ⊢
  obtain ⟨b4, eb4⟩ : ∃ b, b = w4.heap.size := ⟨_, rfl⟩
  rw [← eb4] at hbk ⊢
  have HST := Lib.hid (below_trans HB4.out hba)
  have HR4 := Lib.hid (HR4.out.below hba)
  have HK4 := Lib.hid hbk
  clear hbk hba eV eb4 HB4
  have HBA := Lib.hid (below_trans HBA.out HST.out)
  have HR1 := Lib.hid (HR1.out.below HST.out)
  have HK1 := Lib.hid (HK1.out.below HST.out)
  have HR2 := Lib.hid (HR2.out.below HST.out)
  have HK2 := Lib.hid (HK2.out.below HST.out)
  have HR3 := Lib.hid (HR3.out.below HST.out)
  have HK3 := Lib.hid (HK3.out.below HST.out)
  clear HST HA HB HC HD
  have HSE := Lib.hid (show ∀ (x : World) (A A' : Option Addr) (n c c' : Nat), Below V4.heap.size V4 x → ((A, n, c, A', c') = (A1, l1.length, c1, A2, c2) ∨ (A, n, c, A', c') = (A3, l2.length, c3, A4, c4)) → Calls Try.prog 32 #[.agg #[.int .i64 R1, .slice A n c], .agg #[.int .i64 R1, .slice A' n c']] x fun e w' => e = .returned (.bool true) ∧ Below V4.heap.size V4 w' from fun x A A' n c c' hx h => by
    rcases h with h | h
    · injection h with e1 h
      injection h with e2 h
      injection h with e3 h
      injection h with e4 e5
      subst e1 e2 e3 e4 e5
      exact (SameExchange_any R1 R1 _ _ _ _ _ _ _ _ _ _ _ _ x (HR1.out.below hx) (HR2.out.below hx) (by omega) true ⟨fun _ => samEx_refl _ _ _ _ _, fun _ => rfl⟩).mono fun e w' h => ⟨h.1, below_trans hx h.2⟩
    · injection h with e1 h
      injection h with e2 h
      injection h with e3 h
      injection h with e4 e5
      subst e1 e2 e3 e4 e5
      exact (SameExchange_any R1 R1 _ _ _ _ _ _ _ _ _ _ _ _ x (HR3.out.below hx) (HR4.out.below hx) (by omega) true ⟨fun _ => samEx_refl _ _ _ _ _, fun _ => rfl⟩).mono fun e w' h => ⟨h.1, below_trans hx h.2⟩)
  have a0 := HK1.out.cell (k := 0) rfl
  have a1 := HK1.out.cell (k := 1) rfl
  have q0 := HK2.out.cell (k := 0) rfl
  have q1 := HK2.out.cell (k := 1) rfl
  have hb0 : Below V4.heap.size V4 V4 := Below.refl _ V4
  go_wp2_with (first
    | (go_at_call 32; refine (HSE.out _ _ _ _ _ _ (by assumption) (by first | exact Or.inl rfl | exact Or.inr rfl)).mono ?_; rintro e w5 ⟨rfl, hb1⟩; clear hb0; have hb0 := hb1; clear hb1; (try clear a0 a1 q0 q1); have a0 := (HK3.out.below hb0).cell (k := 0) rfl; have a1 := (HK3.out.below hb0).cell (k := 1) rfl; have q0 := (HK4.out.below hb0).cell (k := 0) rfl; have q1 := (HK4.out.below hb0).cell (k := 1) rfl)
    | (go_at_call 13; refine (awake_any _).mono ?_; rintro e w6 ⟨rfl, hb1⟩; have HBA := Lib.hid (below_trans HBA.out (below_trans hb0 hb1)); clear hb1)
    | fail)
  go_ret
  exact ⟨rfl, HBA.out⟩
end Go.Proofs.Ytahaimecchdfeaa

/-
  Walk: the law AttackReliable.
-/
namespace Go.Proofs.Ytahaimecchdfeaa
open Go.RowKit

theorem tel_any {k : Nat} (hk : k ≤ 4) (w : World) : Calls Try.prog 30 #[.int .i64 k] w fun e w' => ∃ A c, e = .returned (.tuple #[.agg #[.int .i64 k, .slice A (tlN k) c], .int .i64 0]) ∧ RuleS w' A (tlN k) (tlA k) (tlH k) (tlM k) ∧ Below w.heap.size w w' := by
  have hbn := bnd_tel (k : Int)
  have h0 : (0 : Int) ≤ (k : Int) ∧ (k : Int) ≤ 4 := by omega
  rw [if_pos h0] at hbn
  refine (Telling_any (k : Int) w).mono fun e w' h => ?_
  rw [if_pos h0, if_pos h0, if_pos h0] at h
  obtain ⟨A, c, rfl, hr, hb⟩ := h.read hbn
  exact ⟨A, c, rfl, hr, hb⟩
/-- What is said of the reliable channel's system, and of the lossy one's. -/
def RelS (w : World) (x : Value) (k : Nat) : Prop := SysR w x 2 1 ((k : Int) + 1) 2 (lT (relB k 2)) (fun _ _ => 2) (psL (tlS k) (relB k 2)) (lT (relB k 2)) (lF (relB k 2))
def LosS (w : World) (x : Value) (k : Nat) : Prop := LsS w x (tlS k) (k : Int) (losRs (tlS k) k)
theorem tel_rel {k : Nat} (hk : k ≤ 4) {w : World} {A : Option Addr} {c : Nat} (h : RuleS w A (tlN k) (tlA k) (tlH k) (tlM k)) : Calls Try.prog 33 #[.agg #[.int .i64 k, .slice A (tlN k) c]] w fun e w' => ∃ B d, e = .returned (.tuple #[.agg #[.int .i64 2, .int .i64 1, .int .i64 ((k : Int) + 1), .slice B 2 d], .int .i64 0]) ∧ RelS w' (.agg #[.int .i64 2, .int .i64 1, .int .i64 ((k : Int) + 1), .slice B 2 d]) k ∧ Below w.heap.size w w' := by
  obtain ⟨-, hX⟩ := tl_err hk
  have hn : tlN k ≤ 9223372036854775807 := by
    have := len_tel (k : Int)
    rw [if_pos (by omega)] at this
    have e : tlN k = (telR ((k : Int)).toNat).length := rfl
    omega
  refine (Reliable_any k A (tlN k) c (tlA k) (tlH k) (tlM k) w h hn).mono ?_
  rintro e w' ⟨x, rfl, ho, hb⟩
  unfold relD at ho
  rw [if_pos hX] at ho
  obtain ⟨vR, rfl, hro⟩ := ho
  have hg := good_sys (T := k) (snd := tlS k) (ps := relB k 2) hro (relP k).1 hk
  obtain ⟨B, d, ex, hr⟩ := hg
  injection ex with ex
  injection ex with ex
  injection ex with _ ex
  injection ex with _ ex
  injection ex with _ ex
  injection ex with ex _
  subst ex
  exact ⟨B, d, by rw [hX]; rfl, ⟨B, d, rfl, hr⟩, hb⟩
theorem tel_los {k : Nat} (hk : k ≤ 4) {w : World} {A : Option Addr} {c : Nat} (h : RuleS w A (tlN k) (tlA k) (tlH k) (tlM k)) : Calls Try.prog 27 #[.agg #[.int .i64 k, .slice A (tlN k) c]] w fun e w' => ∃ B d, e = .returned (.tuple #[.agg #[.int .i64 2, .int .i64 1, .int .i64 ((k : Int) + 1), .slice B (losRs (tlS k) k).length d], .int .i64 0]) ∧ LosS w' (.agg #[.int .i64 2, .int .i64 1, .int .i64 ((k : Int) + 1), .slice B (losRs (tlS k) k).length d]) k ∧ Below w.heap.size w w' := by
  obtain ⟨hE, -⟩ := tl_err hk
  have hn : tlN k ≤ 9223372036854775807 := by
    have := len_tel (k : Int)
    rw [if_pos (by omega)] at this
    have e : tlN k = (telR ((k : Int)).toNat).length := rfl
    omega
  refine (Lossy_any k A (tlN k) c (tlA k) (tlH k) (tlM k) w h hn).mono ?_
  rintro e w' ⟨x, rfl, ho, hb⟩
  obtain ⟨hls, -, -, -, -⟩ := los_sys ho hE
  have hls' : LosS w' x k := hls
  obtain ⟨B, d, rfl, hr⟩ := hls'
  exact ⟨B, d, by rw [hE]; rfl, ⟨B, d, rfl, hr⟩, hb⟩
theorem tel_len {k : Nat} (hk : k ≤ 4) : (losRs (tlS k) k).length ≤ 64 ∧ ∀ r t : Nat, r < (losRs (tlS k) k).length → t < k + 1 →
    comE 2 1 ((k : Int) + 1) (losRs (tlS k) k).length (lT (losRs (tlS k) k)) (fun _ _ => 2) (lT (losRs (tlS k) k)) (lF (losRs (tlS k) k)) r t 0 = 0 ∧ comV 2 1 ((k : Int) + 1) (losRs (tlS k) k).length (lT (losRs (tlS k) k)) (fun _ _ => 2) (psL (tlS k) (losRs (tlS k) k)) (lT (losRs (tlS k) k)) (lF (losRs (tlS k) k)) r t 0 = false := by
  obtain ⟨hE, hX⟩ := tl_err hk
  have h64 : (losRs (tlS k) k).length ≤ 64 := by
    unfold losE at hE
    rw [if_pos hX] at hE
    by_cases h : 64 < (losRs (sndV (tlN k) (tlA k) (tlH k) (tlM k)) ((k : Int)).toNat).length
    · rw [if_pos h] at hE
      cases hE
    · exact Nat.le_of_not_lt h
  have hs := snd_range hX
  have hp := losP (T := k) hs hk h64
  refine ⟨h64, fun r t hr ht => never' rfl hk hs h64 (ps_chk hp.good hk (by have := hp.len.1; omega) h64) hr (by omega)⟩
theorem relS_below {w w' : World} {x : Value} {k : Nat} (h : RelS w x k) (hb : Below w.heap.size w w') : RelS w' x k := by
  obtain ⟨A, c, e, hr⟩ := h
  exact ⟨A, c, e, hr.below hb⟩
theorem losS_below {w w' : World} {x : Value} {k : Nat} (h : LosS w x k) (hb : Below w.heap.size w w') : LosS w' x k := LsS.below h hb

set_option maxHeartbeats 4000000 in
theorem reliable_core (x : Nat) (w : World) (hx : x < 256) :
    Calls Try.prog 10 #[.int .u8 x] w fun e w' => e = .returned (.bool true) ∧ Below w.heap.size w w' := by
  obtain ⟨k, ek⟩ : ∃ k, k = x % 5 := ⟨_, rfl⟩
  have hk : k ≤ 4 := by omega
  have hm : (x : Int).tmod 5 = (k : Int) := by rw [Int.tmod_eq_emod_of_nonneg (by omega)]; omega
  have HAL := Lib.hid (fun w => tel_any hk w)
  obtain ⟨h64, hnv⟩ := tel_len hk
  have HNV := Lib.hid hnv
  have HRL := Lib.hid (fun (w : World) (A : Option Addr) (c : Nat) (h : RuleS w A (tlN k) (tlA k) (tlH k) (tlM k)) => tel_rel (c := c) hk h)
  have HLO := Lib.hid (fun (w : World) (A : Option Addr) (c : Nat) (h : RuleS w A (tlN k) (tlA k) (tlH k) (tlM k)) => tel_los (c := c) hk h)
  obtain ⟨N, eN⟩ : ∃ N, N = (losRs (tlS k) k).length := ⟨_, rfl⟩
  rw [← eN] at h64 HLO HNV
  have HLS := Lib.hid (fun (X : World) (x : Value) (h : LosS X x k) (r t : Nat) (hr : r < N) (ht : t < k + 1) => by
    have h' : SysR X x 2 1 ((k : Int) + 1) (losRs (tlS k) k).length (lT (losRs (tlS k) k)) (fun _ _ => 2) (psL (tlS k) (losRs (tlS k) k)) (lT (losRs (tlS k) k)) (lF (losRs (tlS k) k)) := h
    rw [← eN] at h'
    have := Common_any x 2 1 ((k : Int) + 1) N (lT (losRs (tlS k) k)) (fun _ _ => 2) (psL (tlS k) (losRs (tlS k) k)) (lT (losRs (tlS k) k)) (lF (losRs (tlS k) k)) r t 0 X h' (by omega)
    rw [(HNV.out r t hr ht).1, (HNV.out r t hr ht).2] at this
    exact this)
  have HRS := Lib.hid (fun (X : World) (x : Value) (h : RelS X x k) (r t : Nat) (hr : r < 2) (ht : t < k + 1) => by
    have := Common_any x 2 1 ((k : Int) + 1) 2 (lT (relB k 2)) (fun _ _ => 2) (psL (tlS k) (relB k 2)) (lT (relB k 2)) (lF (relB k 2)) r t 0 X h (by omega)
    rw [(tl_com hk hr ht).1, (tl_com hk hr ht).2] at this
    exact this)
  clear ek hnv HNV eN
  go_enter Try.func10, Try.ntmps10
  go_upto_region 3 with (go_at_call 30; refine (HAL.out _).mono ?_; rintro e w1 ⟨A, c, rfl, hr, hb⟩; have HR := Lib.hid hr; have HB := Lib.hid hb; clear hr hb)
  obtain ⟨n, en⟩ : ∃ n, n = tlN k := ⟨_, rfl⟩
  rw [← en] at HR HRL HLO ⊢
  have hbk := Blk.new w1 #[.int .i64 k, .slice A n c] 43
  have hba := below_alloc w1 (.cells #[.int .i64 k, .slice A n c] 43)
  obtain ⟨V, eV⟩ : ∃ V, V = w1.alloc (.cells #[.int .i64 k, .slice A n c] 43) := ⟨_, rfl⟩
  rw [← eV] at hbk hba ⊢
  obtain ⟨b1, eb1⟩ : ∃ b, b = w1.heap.size := ⟨_, rfl⟩
  rw [← eb1] at hbk ⊢
  have HB := Lib.hid (below_trans HB.out hba)
  have HR := Lib.hid (HR.out.below hba)
  have HE := Lib.hid hbk
  have d0 := hbk.cell (k := 0) rfl
  have d1 := hbk.cell (k := 1) rfl
  clear hbk hba eV eb1 HAL en
  go_upto_region 4 with (go_at_call 33; refine (HRL.out _ _ _ HR.out).mono ?_; rintro e w3 ⟨B, d, rfl, hsy, hb3⟩; have HSY := Lib.hid hsy; have HB := Lib.hid (below_trans HB.out hb3); have HR := Lib.hid (HR.out.below hb3); have HE := Lib.hid (HE.out.below hb3); clear hsy hb3)
  have hbk := Blk.new w3 #[.int .i64 2, .int .i64 1, .int .i64 ((k : Int) + 1), .slice B 2 d] 24
  have hba := below_alloc w3 (.cells #[.int .i64 2, .int .i64 1, .int .i64 ((k : Int) + 1), .slice B 2 d] 24)
  obtain ⟨V2, eV⟩ : ∃ V, V = w3.alloc (.cells #[.int .i64 2, .int .i64 1, .int .i64 ((k : Int) + 1), .slice B 2 d] 24) := ⟨_, rfl⟩
  rw [← eV] at hbk hba ⊢
  obtain ⟨bS, eb3⟩ : ∃ b, b = w3.heap.size := ⟨_, rfl⟩
  rw [← eb3] at hbk ⊢
  have HB := Lib.hid (below_trans HB.out hba)
  have HR := Lib.hid (HR.out.below hba)
  have HSY := Lib.hid (relS_below HSY.out hba)
  have HK := Lib.hid hbk
  clear d0 d1
  have d0 := (HE.out.below hba).cell (k := 0) rfl
  have d1 := (HE.out.below hba).cell (k := 1) rfl
  clear hbk hba eV eb3 HRL HE
  go_upto_region 5 with (go_at_call 27; refine (HLO.out _ _ _ HR.out).mono ?_; rintro e w4 ⟨B2, d2, rfl, hsy, hb3⟩; have HSL := Lib.hid hsy; have HB := Lib.hid (below_trans HB.out hb3); have HSY := Lib.hid (relS_below HSY.out hb3); have HK := Lib.hid (HK.out.below hb3); clear hsy hb3)
  have hbk := Blk.new w4 #[.int .i64 2, .int .i64 1, .int .i64 ((k : Int) + 1), .slice B2 N d2] 24
  have hba := below_alloc w4 (.cells #[.int .i64 2, .int .i64 1, .int .i64 ((k : Int) + 1), .slice B2 N d2] 24)
  obtain ⟨V3, eV⟩ : ∃ V, V = w4.alloc (.cells #[.int .i64 2, .int .i64 1, .int .i64 ((k : Int) + 1), .slice B2 N d2] 24) := ⟨_, rfl⟩
  rw [← eV] at hbk hba ⊢
  obtain ⟨bL, eb3⟩ : ∃ b, b = w4.heap.size := ⟨_, rfl⟩
  rw [← eb3] at hbk ⊢
  have HB := Lib.hid (below_trans HB.out hba)
  have HSY := Lib.hid (relS_below HSY.out hba)
  have HSL := Lib.hid (losS_below HSL.out hba)
  have HK := Lib.hid (HK.out.below hba)
  have HL := Lib.hid hbk
  have q2 := HK.out.cell (k := 2) rfl
  have q3 := HK.out.cell (k := 3) rfl
  have l2 := hbk.cell (k := 2) rfl
  have l3 := hbk.cell (k := 3) rfl
  have t2 : decide ((64 : Int) < (N : Int)) = false := decide_eq_false (by omega)
  have t3 : ((k : Int) + 1 != (k : Int) + 1) = false := by simp
  clear d0 d1 hbk hba eV eb3 HLO HR
  go_wp2_with fail
  clear q2 q3 l2 l3 t2 t3
  go_loopw [73] (fun iv wr => ∃ i : Nat, i ≤ k + 1 ∧ iv = .int .i64 i ∧ Below V3.heap.size V3 wr) (fun iv _ => k + 1 - (intOf iv).toNat)
  case atStart => exact ⟨0, Nat.zero_le _, rfl, Below.refl _ _⟩
  case round =>
    obtain ⟨i, hi, rfl, hbl⟩ := hrel
    have HBL := Lib.hid hbl
    by_cases hlt : i < k + 1
    · have hii : (i : Int) < (k : Int) + 1 := by omega
      have q3 := (HK.out.below hbl).cell (k := 3) rfl
      clear hbl
      go_wp2_with fail
      clear q3
      go_loopw [79] (fun iv wr => ∃ j : Nat, j ≤ 2 ∧ iv = .int .i64 j ∧ Below V3.heap.size V3 wr) (fun iv _ => 2 - (intOf iv).toNat)
      case atStart => exact ⟨0, Nat.zero_le _, rfl, HBL.out⟩
      case round =>
        clear HBL
        obtain ⟨j, hj, rfl, hbl⟩ := hrel
        have HBL := Lib.hid hbl
        by_cases hjt : j < 2
        · have hjj : (j : Int) < 2 := by omega
          have q0 := (HK.out.below hbl).cell (k := 0) rfl
          have q1 := (HK.out.below hbl).cell (k := 1) rfl
          have q2 := (HK.out.below hbl).cell (k := 2) rfl
          have q3 := (HK.out.below hbl).cell (k := 3) rfl
          have t5 : (decide ((0 : Int) < (i : Int)) != decide ((0 : Int) < (i : Int))) = false := by simp
          clear hbl
          go_wp2_with (go_at_call 16; refine (HRS.out _ _ (relS_below HSY.out HBL.out) j i hjt hlt).mono ?_; rintro e w6 ⟨rfl, hb1⟩; have HBL := Lib.hid (below_trans HBL.out hb1); clear hb1)
          go_roundw
          case rel => exact ⟨j + 1, by omega, by go_num, HBL.out⟩
          case measure => simp [intOf]; omega
        · obtain rfl : j = 2 := by omega
          rw [show (((2 : Nat)) : Int) = 2 from rfl]
          have l3 := (HL.out.below hbl).cell (k := 3) rfl
          clear hbl
          go_wp2_with fail
          clear l3
          go_loopw [102] (fun iv wr => ∃ j : Nat, j ≤ N ∧ iv = .int .i64 j ∧ Below V3.heap.size V3 wr) (fun iv _ => N - (intOf iv).toNat)
          case atStart => exact ⟨0, Nat.zero_le _, rfl, HBL.out⟩
          case round =>
            clear HBL
            obtain ⟨j, hj, rfl, hbl⟩ := hrel
            have HBL := Lib.hid hbl
            by_cases hjt : j < N
            · have hjj : (j : Int) < (N : Int) := by omega
              have q0 := (HL.out.below hbl).cell (k := 0) rfl
              have q1 := (HL.out.below hbl).cell (k := 1) rfl
              have q2 := (HL.out.below hbl).cell (k := 2) rfl
              have q3 := (HL.out.below hbl).cell (k := 3) rfl
              clear hbl
              go_wp2_with (go_at_call 16; refine (HLS.out _ _ (losS_below HSL.out HBL.out) j i hjt hlt).mono ?_; rintro e w6 ⟨rfl, hb1⟩; have HBL := Lib.hid (below_trans HBL.out hb1); clear hb1)
              go_roundw
              case rel => exact ⟨j + 1, by omega, by go_num, HBL.out⟩
              case measure => simp [intOf]; omega
            · obtain rfl : j = N := by omega
              clear hbl
              go_wp2_with fail
              go_roundw
              case rel => exact ⟨i + 1, by omega, by go_num, HBL.out⟩
              case measure => simp [intOf]; omega
    · obtain rfl : i = k + 1 := by omega
      clear hbl
      go_wp2_with (go_at_call 13; refine (awake_any _).mono ?_; rintro e w2 ⟨rfl, hst⟩; have HB := Lib.hid (below_trans HB.out (below_trans HBL.out hst)); clear hst)
      go_ret
      exact ⟨rfl, HB.out⟩
end Go.Proofs.Ytahaimecchdfeaa

/-
  Walks: cTable; Holds at the two formulas; the example cAwake29.
-/
namespace Go.Proofs.Ytahaimecchdfeaa
open Go.RowKit

theorem cTable_any (A : Option Addr) (l n c g : Nat) (Z : Nat → Nat → Bool) (w : World) (hto : TruO w g l n Z) (hn : n ≤ 64) :
    Calls Try.prog 40 #[.agg #[.int .i64 2, .int .i64 1, .int .i64 l, .slice A n c], .slice (some ⟨g, 0, none⟩) n n] w fun e w' => e = .returned (.bool true) ∧ Below w.heap.size w w' := by
  have HB := Lib.hid (below_alloc w (.cells #[.int .i64 2, .int .i64 1, .int .i64 l, .slice A n c] 24))
  have hbk := Blk.new w #[.int .i64 2, .int .i64 1, .int .i64 l, .slice A n c] 24
  have HTO := Lib.hid (hto.below HB.out)
  have HK := Lib.hid hbk
  have d3 := hbk.cell (k := 3) rfl
  have t1 : ((n : Int) != (n : Int)) = false := by simp
  have t2 : ((l : Int) != (l : Int)) = false := by simp
  clear hto hbk
  go_enter Try.func40, Try.ntmps40
  go_upto_region 1 with (fail)
  generalize w.alloc (.cells #[.int .i64 2, .int .i64 1, .int .i64 l, .slice A n c] 24) = W at HB HTO HK d3 ⊢
  go_upto_region 4 with (fail)
  clear d3 t1
  go_loopw [15] (fun iv wr => ∃ i : Nat, i ≤ n ∧ iv = .int .i64 i ∧ Below W.heap.size W wr) (fun iv _ => n - (intOf iv).toNat)
  case atStart => exact ⟨0, Nat.zero_le _, rfl, Below.refl _ _⟩
  case round =>
    obtain ⟨i, hi, rfl, hb⟩ := hrel
    have HBW := Lib.hid hb
    by_cases hlt : i < n
    · have hin : (i : Int) < (n : Int) := by omega
      have d2 := (HK.out.below hb).cell (k := 2) rfl
      have x1 := (HTO.out.below hb).box.cell (slcA_get (g := g) (l := l) (n := n) (i := n) hlt hlt)
      clear hb
      go_wp2_with fail
      go_roundw
      case rel => exact ⟨i + 1, by omega, by go_num, HBW.out⟩
      case measure => simp [intOf]; omega
    · obtain rfl : i = n := by omega
      have hin : ¬ (i : Int) < (i : Int) := by omega
      clear hb
      go_wp2_with fail
      go_ret
      exact ⟨rfl, below_trans HB.out HBW.out⟩
/-- The table of common knowledge, as Holds leaves it. -/
def HlzPost (w : World) (n l : Nat) (L : Nat → Nat → Nat → Int) (F : Nat → Nat → Nat) (neg : Bool) (e : Ending) (w' : World) : Prop :=
  ∃ g Z, e = .returned (.tuple #[.slice (some ⟨g, 0, none⟩) n n, .int .i64 0]) ∧ TruO w' g l n Z ∧ ComB L n l F neg Z ∧ Below w.heap.size w w'
theorem Holds_one (x fv : Value) (l n : Nat) (T : Nat → Nat) (m : Nat → Nat → Nat) (L : Nat → Nat → Nat → Int) (K : Nat → Nat) (F : Nat → Nat → Nat) (w : World) (h : SysR w x 2 1 l n T m L K F) (hc : chkE 2 1 l n T m K F = 0) (hf : NdO w 0 fv foC) :
    Calls Try.prog 36 #[x, fv] w (HlzPost w n l L F false) := by
  refine (Holds_any x fv foC l n T m L K F w h hc hf foC_can (by decide) (by decide) (by decide)).mono ?_
  rintro e w' ⟨g, Xs, rfl, hto, hs, hb⟩
  have h0 : Xs 0 = fun _ _ => true := hs 0 .T rfl
  have h1 : Xs 1 = bitB F false := hs 1 .F rfl
  have h2 : (∃ m, Xs 2 = itB L n l (Xs 0) (Xs 1) m) ∧ ∀ r t, r < n → t < l → evB L n l 2 (inB (Xs 0) (Xs 1) (Xs 2)) r t = Xs 2 r t := hs 2 (.C 0 1) rfl
  rw [h0, h1] at h2
  exact ⟨g, Xs 2, rfl, hto, ⟨h2.2, h2.1⟩, hb⟩
theorem Holds_two (x fv : Value) (l n : Nat) (T : Nat → Nat) (m : Nat → Nat → Nat) (L : Nat → Nat → Nat → Int) (K : Nat → Nat) (F : Nat → Nat → Nat) (w : World) (h : SysR w x 2 1 l n T m L K F) (hc : chkE 2 1 l n T m K F = 0) (hf : NdO w 0 fv foD) :
    Calls Try.prog 36 #[x, fv] w (HlzPost w n l L F true) := by
  refine (Holds_any x fv foD l n T m L K F w h hc hf foD_can (by decide) (by decide) (by decide)).mono ?_
  rintro e w' ⟨g, Xs, rfl, hto, hs, hb⟩
  have h0 : Xs 0 = fun _ _ => true := hs 0 .T rfl
  have h1 : Xs 1 = bitB F false := hs 1 .F rfl
  have h2 : Xs 2 = fun r t => !Xs 1 r t := hs 2 (.N 1) rfl
  rw [h1] at h2
  have h2' : Xs 2 = bitB F true := h2
  have h3 : (∃ m, Xs 3 = itB L n l (Xs 0) (Xs 2) m) ∧ ∀ r t, r < n → t < l → evB L n l 2 (inB (Xs 0) (Xs 2) (Xs 3)) r t = Xs 3 r t := hs 3 (.C 0 2) rfl
  rw [h0, h2'] at h3
  exact ⟨g, Xs 3, rfl, hto, ⟨h3.2, h3.1⟩, hb⟩
/-! ### the example -/
def ewL : Nat → Nat → Nat → Int := psL (tlS 1) (relB 1 2)
def ewF : Nat → Nat → Nat := lF (relB 1 2)
def ewP (r t : Nat) : Bool := r == 1 && t == 1
theorem ew_closed : ((List.range 2).all fun r => (List.range 2).all fun t => !ewP r t || evB ewL 2 2 2 (inB (fun _ _ => true) (bitB ewF false) ewP) r t) = true := by kernel_rfl
theorem ew_alike : ralk 2 ewL 1 0 0 0 = true := by kernel_rfl
theorem ew_bit0 : bitB ewF false 0 0 = false := by kernel_rfl
theorem ew_bit1 : bitB ewF false 0 1 = false := by kernel_rfl
theorem ew_chk : chkE 2 1 2 2 (lT (relB 1 2)) (fun _ _ => 2) (lT (relB 1 2)) (lF (relB 1 2)) = 0 := by kernel_rfl
theorem ew_len : (losRs (tlS 1) 1).length = 4 := by kernel_rfl
theorem ew_vals {Z : Nat → Nat → Bool} (h : ComB ewL 2 2 ewF false Z) : Z 1 0 = false ∧ Z 1 1 = true ∧ Z 0 1 = false := by
  refine ⟨?_, ?_, ?_⟩
  · cases hz : Z 1 0 with
    | false => rfl
    | true =>
      have := (h.step (r := 1) (t := 0) (r' := 0) (t' := 0) (by decide) (by decide) (by decide) (by decide) ew_alike hz).1
      rw [ew_bit0] at this
      cases this
  · obtain ⟨m, e⟩ := h.it
    rw [e]
    refine itB_ge (P := ewP) (fun r t hr ht hp => ?_) m 1 1 (by decide) (by decide) rfl
    have h1 := List.all_eq_true.1 ew_closed r (List.mem_range.2 hr)
    have h2 := List.all_eq_true.1 h1 t (List.mem_range.2 ht)
    rw [hp] at h2
    simpa using h2
  · cases hz : Z 0 1 with
    | false => rfl
    | true =>
      have := h.bit (r := 0) (t := 1) (by decide) (by decide) hz
      rw [ew_bit1] at this
      cases this
end Go.Proofs.Ytahaimecchdfeaa

/-
  Walk: the example cAwake29.
-/
namespace Go.Proofs.Ytahaimecchdfeaa
open Go.RowKit

set_option maxHeartbeats 4000000 in
set_option maxRecDepth 100000 in
theorem cAwake_any (w : World) : Calls Try.prog 34 #[] w fun e w' => e = .returned (.bool true) ∧ Below w.heap.size w w' := by
  have HAL : Hid (∀ X, Calls Try.prog 30 #[.int .i64 1] X fun e w' => ∃ A c, e = .returned (.tuple #[.agg #[.int .i64 1, .slice A (tlN 1) c], .int .i64 0]) ∧ RuleS w' A (tlN 1) (tlA 1) (tlH 1) (tlM 1) ∧ Below X.heap.size X w') := Lib.hid (fun X => tel_any (k := 1) (by decide) X)
  have HRL : Hid (∀ (X : World) (A : Option Addr) (c : Nat), RuleS X A (tlN 1) (tlA 1) (tlH 1) (tlM 1) → Calls Try.prog 33 #[.agg #[.int .i64 1, .slice A (tlN 1) c]] X fun e w' => ∃ B d, e = .returned (.tuple #[.agg #[.int .i64 2, .int .i64 1, .int .i64 2, .slice B 2 d], .int .i64 0]) ∧ SysR w' (.agg #[.int .i64 2, .int .i64 1, .int .i64 2, .slice B 2 d]) 2 1 (2 : Nat) 2 (lT (relB 1 2)) (fun _ _ => 2) ewL (lT (relB 1 2)) ewF ∧ Below X.heap.size X w') := Lib.hid (fun X A c h => tel_rel (k := 1) (by decide) h)
  have HLO : Hid (∀ (X : World) (A : Option Addr) (c : Nat), RuleS X A (tlN 1) (tlA 1) (tlH 1) (tlM 1) → Calls Try.prog 27 #[.agg #[.int .i64 1, .slice A (tlN 1) c]] X fun e w' => ∃ B d, e = .returned (.tuple #[.agg #[.int .i64 2, .int .i64 1, .int .i64 2, .slice B 4 d], .int .i64 0]) ∧ Below X.heap.size X w') := Lib.hid (fun X A c h => by
    refine (tel_los (k := 1) (by decide) h).mono ?_
    rintro e w' ⟨B, d, e1, -, hb⟩
    rw [ew_len] at e1
    exact ⟨B, d, e1, hb⟩)
  have HVL := Lib.hid (fun (Z : Nat → Nat → Bool) (h : ComB ewL 2 2 ewF false Z) => ew_vals h)
  have HCH : Hid (chkE 2 1 (2 : Nat) 2 (lT (relB 1 2)) (fun _ _ => 2) (lT (relB 1 2)) ewF = 0) := Lib.hid ew_chk
  obtain ⟨N, eN⟩ : ∃ N, N = tlN 1 := ⟨_, rfl⟩
  rw [← eN] at HAL HRL HLO
  clear eN
  go_enter Try.func34, Try.ntmps34
  go_upto_region 2 with (go_at_call 30; refine (HAL.out _).mono ?_; rintro e w1 ⟨A, c, rfl, hr, hb⟩; have HR := Lib.hid hr; have HB := Lib.hid hb; clear hr hb)
  have hbk := Blk.new w1 #[.int .i64 1, .slice A N c] 43
  have hba := below_alloc w1 (.cells #[.int .i64 1, .slice A N c] 43)
  obtain ⟨V, eV⟩ : ∃ V, V = w1.alloc (.cells #[.int .i64 1, .slice A N c] 43) := ⟨_, rfl⟩
  rw [← eV] at hbk hba ⊢
  obtain ⟨b1, eb1⟩ : ∃ b, b = w1.heap.size := ⟨_, rfl⟩
  rw [← eb1] at hbk ⊢
  replace HB := Lib.hid (below_trans HB.out hba)
  replace HR := Lib.hid (HR.out.below hba)
  have HE := Lib.hid hbk
  have d0 := hbk.cell (k := 0) rfl
  have d1 := hbk.cell (k := 1) rfl
  clear hbk hba eV eb1 HAL
  go_upto_region 3 with (go_at_call 33; refine (HRL.out _ _ _ HR.out).mono ?_; rintro e w3 ⟨B, d, rfl, hsy, hb3⟩; have HSY := Lib.hid hsy; replace HB := Lib.hid (below_trans HB.out hb3); replace HR := Lib.hid (HR.out.below hb3); replace HE := Lib.hid (HE.out.below hb3); clear hsy hb3)
  clear d0 d1 HRL
  have hbk := Blk.new w3 #[.int .i64 2, .int .i64 1, .int .i64 2, .slice B 2 d] 24
  have hba := below_alloc w3 (.cells #[.int .i64 2, .int .i64 1, .int .i64 2, .slice B 2 d] 24)
  obtain ⟨V2, eV⟩ : ∃ V, V = w3.alloc (.cells #[.int .i64 2, .int .i64 1, .int .i64 2, .slice B 2 d] 24) := ⟨_, rfl⟩
  rw [← eV] at hbk hba ⊢
  obtain ⟨bS, eb3⟩ : ∃ b, b = w3.heap.size := ⟨_, rfl⟩
  rw [← eb3] at hbk ⊢
  replace HB := Lib.hid (below_trans HB.out hba)
  replace HR := Lib.hid (HR.out.below hba)
  replace HE := Lib.hid (HE.out.below hba)
  have HSY2 := Lib.hid (fun (z : World) (h : Below V2.heap.size V2 z) => (show SysR z (.agg #[.int .i64 2, .int .i64 1, .int .i64 2, .slice B 2 d]) 2 1 (2 : Nat) 2 (lT (relB 1 2)) (fun _ _ => 2) ewL (lT (relB 1 2)) ewF by obtain ⟨A', c', e, hr⟩ := HSY.out; exact ⟨A', c', e, (hr.below hba).below h⟩))
  have d0 := hbk.cell (k := 0) rfl
  have d1 := hbk.cell (k := 1) rfl
  have d2 := hbk.cell (k := 2) rfl
  have d3 := hbk.cell (k := 3) rfl
  have hb0 := Below.refl V2.heap.size V2
  have HSOF := Lib.hid (fun (z : World) (h : Below V2.heap.size V2 z) => (⟨h, cell_below h d0, cell_below h d1, cell_below h d2, cell_below h d3⟩ : Below V2.heap.size V2 z ∧ z.cell? ⟨bS, 0, none⟩ = some (.int .i64 2) ∧ z.cell? ⟨bS, 1, none⟩ = some (.int .i64 1) ∧ z.cell? ⟨bS, 2, none⟩ = some (.int .i64 2) ∧ z.cell? ⟨bS, 3, none⟩ = some (.slice B 2 d)))
  clear hbk hba eV eb3 HSY d0 d1 d2 d3
  go_region_held3 (fun z => Below V2.heap.size V2 z ∧ z.cell? ⟨bS, 0, none⟩ = some (.int .i64 2) ∧ z.cell? ⟨bS, 1, none⟩ = some (.int .i64 1) ∧ z.cell? ⟨bS, 2, none⟩ = some (.int .i64 2) ∧ z.cell? ⟨bS, 3, none⟩ = some (.slice B 2 d)) (first | exact HSOF.out _ (by assumption) | exact HSOF.out _ (below_drew hb0) | exact HSOF.out _ (below_trans (And.left (by assumption)) (by assumption)))
    (first
      | (go_at_call 38; refine (foTrue_any _).mono ?_; rintro e wt ⟨v, rfl, ho, hb1⟩; obtain ⟨At, ct, rfl⟩ := ho.shape; have HBT := Lib.hid hb1; have HOT := Lib.hid (ho.mono (Nat.zero_le _)); have HB7 := below_trans (And.left (by assumption)) hb1; clear hb1 ho)
      | (go_at_call 35; refine (foFact_any _).mono ?_; rintro e wf ⟨v, rfl, ho, hb1⟩; obtain ⟨Af, cf, rfl⟩ := ho.shape; have HBF := Lib.hid hb1; have HOF := Lib.hid (ho.mono (Nat.zero_le _)); have HB8 := below_trans (And.left (by assumption)) hb1; clear hb1 ho)
      | (go_at_call 37; refine (foCommon_one _ _ _ (by first | exact HOT.out | exact NdO.below (by exact HOT.out) HBF.out) (by first | exact HOF.out | exact NdO.below (by exact HOF.out) HBT.out)).mono ?_; rintro e wc ⟨v, rfl, ho, hb1⟩; obtain ⟨Ac, cc, rfl⟩ := ho.shape; have HOC := Lib.hid (ho.mono (Nat.zero_le _)); have HB9 := below_trans (And.left (by assumption)) hb1; clear hb1 ho)
      | (go_at_call 36; refine (Holds_one _ _ 2 2 _ _ _ _ _ _ (HSY2.out _ (And.left (by assumption))) HCH.out (by exact HOC.out)).mono ?_; rintro e wh ⟨g, Z, rfl, hto, hz, hb1⟩; have HTO := Lib.hid hto; have HZ := Lib.hid hz; have HB10 := below_trans (And.left (by assumption)) hb1; clear hb1 hto hz)
      | fail)
  all_goals (
    have hbz := And.left (by assumption : Below V2.heap.size V2 wh ∧ _)
    have HZB := Lib.hid hbz
    replace HB := Lib.hid (below_trans HB.out hbz)
    replace HR := Lib.hid (HR.out.below hbz)
    replace HE := Lib.hid (HE.out.below hbz)
    have e0 := HE.out.cell (k := 0) rfl
    have e1 := HE.out.cell (k := 1) rfl
    clear hbz HB7 HB8 HB9 HB10 HBT HBF HOT HOF HOC HSOF HSY2 hb0
    go_upto_region 5 with (go_at_call 27; refine (HLO.out _ _ _ HR.out).mono ?_; rintro e w5 ⟨B2, d5, rfl, hb5⟩; replace HB := Lib.hid (below_trans HB.out hb5); replace HTO := Lib.hid (HTO.out.below hb5); clear hb5)
    clear e0 e1
    have hbk := Blk.new w5 #[.int .i64 2, .int .i64 1, .int .i64 2, .slice B2 4 d5] 24
    have hba := below_alloc w5 (.cells #[.int .i64 2, .int .i64 1, .int .i64 2, .slice B2 4 d5] 24)
    obtain ⟨V5, eV⟩ : ∃ V, V = w5.alloc (.cells #[.int .i64 2, .int .i64 1, .int .i64 2, .slice B2 4 d5] 24) := ⟨_, rfl⟩
    rw [← eV] at hbk hba ⊢
    obtain ⟨bL, eb5⟩ : ∃ b, b = w5.heap.size := ⟨_, rfl⟩
    rw [← eb5] at hbk ⊢
    replace HB := Lib.hid (below_trans HB.out hba)
    have hto := HTO.out.below hba
    obtain ⟨z10, z11, z01⟩ := HVL.out Z HZ.out
    have l3 := hbk.cell (k := 3) rfl
    have x0 := hto.box.cell (slcA_get (g := g) (l := 2) (n := 2) (i := 2) (r := 0) (by decide) (by decide))
    have x1 := hto.box.cell (slcA_get (g := g) (l := 2) (n := 2) (i := 2) (r := 1) (by decide) (by decide))
    have y01 := (hto.row 0 (by decide)).cell (boolA_get (S := Z 0) (N := 2) (k := 1) (by decide))
    have y10 := (hto.row 1 (by decide)).cell (boolA_get (S := Z 1) (N := 2) (k := 0) (by decide))
    have y11 := (hto.row 1 (by decide)).cell (boolA_get (S := Z 1) (N := 2) (k := 1) (by decide))
    rw [z01] at y01
    rw [z10] at y10
    rw [z11] at y11
    rw [Nat.add_zero] at y01 x0
    clear hto hbk hba eV eb5 z10 z11 z01 HTO HZ HVL
    go_wp2_with fail
    go_ret
    exact ⟨rfl, HB.out⟩)
end Go.Proofs.Ytahaimecchdfeaa
