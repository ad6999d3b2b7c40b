/-
  Texts of this claim, one after the other: what each proves is said at its head. No condition beyond those that its theorems name.
-/
import Derived.Test.YtahaimecchdfeaaProg
import Derived.Deep.DeepCutAuto
import Derived.Deep.RegionHeld3
import Derived.Test.YtahaimecchdfeaaH01
import Derived.Test.YtahaimecchdfeaaH02
import Derived.Test.YtahaimecchdfeaaH06
import Derived.Test.YtahaimecchdfeaaH09
import Derived.Test.YtahaimecchdfeaaH12
import Derived.Test.YtahaimecchdfeaaH17
import Derived.Test.YtahaimecchdfeaaH23
import Derived.Test.YtahaimecchdfeaaH31
import Derived.Test.YtahaimecchdfeaaH32
import Derived.Test.YtahaimecchdfeaaH34
import Derived.Test.YtahaimecchdfeaaH35
import Derived.Test.YtahaimecchdfeaaH38

/-
  Walk: the law TopChainsShow.
-/
namespace Go.Proofs.Ytahaimecchdfeaa
open Go.RowKit

/-- What is known where Verify accepts. -/
theorem ver_show {R : Int} {n m : Nat} {fa fh fm X Y : Nat → Int} (h : verV R n fa fh fm m X Y = 0) :
    losE R n fa fh fm = 0 ∧ VerP (losRs (sndV n fa fh fm) R.toNat).length (R + 1) (psL (sndV n fa fh fm) (losRs (sndV n fa fh fm) R.toNat)) (lF (losRs (sndV n fa fh fm) R.toNat)) m X Y 0 := by
  unfold verV at h
  by_cases hE : losE R n fa fh fm = 0
  · rw [if_pos hE] at h
    have hv := verN_P (N := (losRs (sndV n fa fh fm) R.toNat).length) (m := m) (l := R + 1) (L := psL (sndV n fa fh fm) (losRs (sndV n fa fh fm) R.toNat)) (F := lF (losRs (sndV n fa fh fm) R.toNat)) (X := X) (Y := Y)
    rw [h] at hv
    exact ⟨hE, hv⟩
  · rw [if_neg hE] at h
    exact absurd h hE
set_option maxHeartbeats 8000000 in
set_option maxRecDepth 100000 in
theorem show_core (R : Int) (A : Option Addr) (n c : Nat) (fa fh fm : Nat → Int) (B : Option Addr) (m d : Nat) (X Y : Nat → Int) (w : World) (hx : RuleS w A n fa fh fm) (hn : n ≤ 9223372036854775807) (hy : CrS w B m X Y) (hm : m ≤ 9223372036854775807) :
    Calls Try.prog 11 #[.agg #[.int .i64 R, .slice A n c], .slice B m d] w fun e w' => e = .returned (.bool true) ∧ Below w.heap.size w w' := by
  have HB := Lib.hid (below_alloc w (.cells #[.int .i64 R, .slice A n c] 43))
  have hbk := Blk.new w #[.int .i64 R, .slice A n c] 43
  have HX := Lib.hid (hx.below HB.out)
  have HY := Lib.hid (hy.below HB.out)
  have HE := Lib.hid hbk
  clear hbk hx hy
  by_cases h100 : 100 < n ∨ 100 < m
  · by_cases h1 : 100 < n
    · have t1 : decide (100 < n) = true := decide_eq_true h1
      have t1' : decide ((100 : Int) < (n : Int)) = true := decide_eq_true (by omega)
      clear h100 h1
      go_enter Try.func11, Try.ntmps11
      go_upto_region 1 with (fail)
      generalize w.alloc (.cells #[.int .i64 R, .slice A n c] 43) = W at HB HX HY HE ⊢
      go_wp2_with (go_at_call 34; refine (cAwake_any _).mono ?_; rintro e w2 ⟨rfl, hst⟩; have d1 := (HE.out.below hst).cell (k := 1) rfl; replace HE := Lib.hid (HE.out.below hst); replace HB := Lib.hid (below_trans HB.out hst); clear hst)
      go_ret
      exact ⟨rfl, HB.out⟩
    · have h2 : 100 < m := h100.resolve_left h1
      have t1 : decide (100 < n) = false := decide_eq_false h1
      have t1' : decide ((100 : Int) < (n : Int)) = false := decide_eq_false (by omega)
      have t2 : decide (100 < m) = true := decide_eq_true h2
      have t2' : decide ((100 : Int) < (m : Int)) = true := decide_eq_true (by omega)
      clear h100 h1 h2
      go_enter Try.func11, Try.ntmps11
      go_upto_region 1 with (fail)
      generalize w.alloc (.cells #[.int .i64 R, .slice A n c] 43) = W at HB HX HY HE ⊢
      go_wp2_with (go_at_call 34; refine (cAwake_any _).mono ?_; rintro e w2 ⟨rfl, hst⟩; have d1 := (HE.out.below hst).cell (k := 1) rfl; replace HE := Lib.hid (HE.out.below hst); replace HB := Lib.hid (below_trans HB.out hst); clear hst)
      go_ret
      exact ⟨rfl, HB.out⟩
  have hn1 : ¬ 100 < n := fun h => h100 (.inl h)
  have hm1 : ¬ 100 < m := fun h => h100 (.inr h)
  have t1 : decide (100 < n) = false := decide_eq_false hn1
  have t1' : decide ((100 : Int) < (n : Int)) = false := decide_eq_false (by omega)
  have t2 : decide (100 < m) = false := decide_eq_false hm1
  have t2' : decide ((100 : Int) < (m : Int)) = false := decide_eq_false (by omega)
  have HVF := Lib.hid (fun (w : World) (hx : RuleS w A n fa fh fm) (hy : CrS w B m X Y) => Verify_any R A n c fa fh fm B m d X Y w hx hn hy (by omega))
  have HVZ := Lib.hid (fun (h : verV R n fa fh fm m X Y = 0) => ver_show h)
  have HLO := Lib.hid (fun W (h : RuleS W A n fa fh fm) => Lossy_any R A n c fa fh fm W h hn)
  have HLS := Lib.hid (fun (w1 : World) base AR cR (h : RunsO w1 base (.slice AR (losD R n fa fh fm).ps.length cR) (losD R n fa fh fm).ps) (hE : losE R n fa fh fm = 0) => los_shape rfl h hE)
  obtain ⟨V, eV⟩ : ∃ E, E = verV R n fa fh fm m X Y := ⟨_, rfl⟩
  rw [← eV] at HVF HVZ
  clear h100 hn1 hm1 eV
  go_enter Try.func11, Try.ntmps11
  go_upto_region 1 with (fail)
  generalize w.alloc (.cells #[.int .i64 R, .slice A n c] 43) = W at HB HX HY HE ⊢
  obtain ⟨b1, eb1⟩ : ∃ b, b = w.heap.size := ⟨_, rfl⟩
  rw [← eb1] at HE ⊢
  clear eb1
  go_upto_region 3 with (go_at_call 34; refine (cAwake_any _).mono ?_; rintro e w2 ⟨rfl, hst⟩; replace HE := Lib.hid (HE.out.below hst); replace HX := Lib.hid (HX.out.below hst); replace HY := Lib.hid (HY.out.below hst); replace HB := Lib.hid (below_trans HB.out hst); have d1 := HE.out.cell (k := 1) rfl; clear hst)
  clear t1 t1' t2 t2'
  have d0 := HE.out.cell (k := 0) rfl
  by_cases hV : V = 0
  case neg =>
    have t1 : ((V : Int) != 0) = true := by rw [bne_iff_ne]; omega
    clear hV
    go_wp2_with (go_at_call 23; refine (HVF.out _ HX.out HY.out).mono ?_; rintro e w3 ⟨rfl, hst⟩; replace HB := Lib.hid (below_trans HB.out hst); clear hst)
    go_ret
    exact ⟨rfl, HB.out⟩
  obtain ⟨hE, hver⟩ := HVZ.out hV
  have t1 : ((V : Int) != 0) = false := by rw [hV]; rfl
  clear hV HVZ
  go_upto_region 5 with (go_at_call 23; refine (HVF.out _ HX.out HY.out).mono ?_; rintro e w3 ⟨rfl, hst⟩; replace HE := Lib.hid (HE.out.below hst); replace HX := Lib.hid (HX.out.below hst); replace HY := Lib.hid (HY.out.below hst); replace HB := Lib.hid (below_trans HB.out hst); clear hst)
  clear HVF t1 d0 d1
  have d0 := HE.out.cell (k := 0) rfl
  have d1 := HE.out.cell (k := 1) rfl
  obtain ⟨E, eE⟩ : ∃ E, E = losE R n fa fh fm := ⟨_, rfl⟩
  obtain ⟨DD, eD⟩ : ∃ E, E = losD R n fa fh fm := ⟨_, rfl⟩
  rw [← eE] at HLO HLS hE
  rw [← eD] at HLO HLS
  have hlo := HLO.out _ HX.out
  unfold SysPost at hlo
  have HL1 := Lib.hid hlo
  have HVR := Lib.hid hver
  subst hE
  clear hlo HLO eE eD hver HX
  go_upto_region 6 with (go_at_call 27; refine HL1.out.mono ?_; rintro e w4 ⟨x, rfl, hown, hb1⟩; obtain ⟨vR, rfl, hro⟩ := hown; obtain ⟨AR, cR, rfl⟩ := runsO_shape hro; replace HB := Lib.hid (below_trans HB.out hb1); replace HY := Lib.hid (HY.out.below hb1); have HRO := Lib.hid hro; clear hb1 hro)
  clear d0 d1 HL1 HE
  obtain ⟨⟨e1, e2, e3, e5⟩, hls, hlc, hlp, hR, hex⟩ := HLS.out w4 _ _ _ HRO.out (by first | rfl | trivial)
  rw [e1, e2, e3, e5]
  have hba := below_alloc w4 (.cells #[.int .i64 2, .int .i64 1, .int .i64 (R + 1), .slice AR (losRs (sndV n fa fh fm) R.toNat).length cR] 24)
  have hbk := Blk.new w4 #[.int .i64 2, .int .i64 1, .int .i64 (R + 1), .slice AR (losRs (sndV n fa fh fm) R.toNat).length cR] 24
  have hls2 := hls.below hba
  obtain ⟨V4, eV⟩ : ∃ V, V = w4.alloc (.cells #[.int .i64 2, .int .i64 1, .int .i64 (R + 1), .slice AR (losRs (sndV n fa fh fm) R.toNat).length cR] 24) := ⟨_, rfl⟩
  rw [← eV] at hba hbk hls2 ⊢
  obtain ⟨bS, ebS⟩ : ∃ b, b = w4.heap.size := ⟨_, rfl⟩
  rw [← ebS] at hbk ⊢
  replace HB := Lib.hid (below_trans HB.out hba)
  replace HY := Lib.hid (HY.out.below hba)
  clear e1 e2 e3 e5 hls hlp hex hba HLS HRO eV ebS
  generalize sndV n fa fh fm = snd at *
  obtain ⟨ps, eps⟩ : ∃ ps, ps = losRs snd R.toNat := ⟨_, rfl⟩
  rw [← eps] at hls2 hlc hbk HVR ⊢
  clear eps
  obtain ⟨T, rfl⟩ : ∃ T : Nat, R = (T : Int) := ⟨R.toNat, by omega⟩
  obtain ⟨l, el⟩ : ∃ l : Nat, l = T + 1 := ⟨_, rfl⟩
  have eli : (T : Int) + 1 = (l : Int) := by omega
  have hsy : SysR V4 (.agg #[.int .i64 2, .int .i64 1, .int .i64 l, .slice AR ps.length cR]) 2 1 l ps.length (lT ps) (fun _ _ => 2) (psL snd ps) (lT ps) (lF ps) := by
    have h := hls2
    unfold LsS at h
    rw [eli] at h
    exact h
  have hlc2 : chkE 2 1 l ps.length (lT ps) (fun _ _ => 2) (lT ps) (lF ps) = 0 := by
    have h := hlc
    unfold lchk at h
    rw [eli] at h
    exact h
  rw [eli] at hbk HVR ⊢
  have hl5 : l ≤ 5 := by omega
  have hl1 : 0 < l := by omega
  obtain ⟨-, -, -, hN64, -, -, -, -⟩ := chkE_ok hlc2
  have hsy2 := fun (z : World) (h : Below V4.heap.size V4 z) => (show SysR z (.agg #[.int .i64 2, .int .i64 1, .int .i64 l, .slice AR ps.length cR]) 2 1 l ps.length (lT ps) (fun _ _ => 2) (psL snd ps) (lT ps) (lF ps) by obtain ⟨A', c', e, hr⟩ := hsy; exact ⟨A', c', e, hr.below h⟩)
  have HH1 := Lib.hid (fun (z : World) (h : Below V4.heap.size V4 z) (fv : Value) (hf : NdO z 0 fv foC) => Holds_one _ fv l ps.length _ _ _ _ _ z (hsy2 z h) hlc2 hf)
  have HH2 := Lib.hid (fun (z : World) (h : Below V4.heap.size V4 z) (fv : Value) (hf : NdO z 0 fv foD) => Holds_two _ fv l ps.length _ _ _ _ _ z (hsy2 z h) hlc2 hf)
  obtain ⟨h0m, hinp, -, -⟩ := HVR.out.zero
  have HCN := Lib.hid (fun (neg : Bool) (Z : Nat → Nat → Bool) (hc : ComB (psL snd ps) ps.length ((l : Int)).toNat (lF ps) neg Z) => chain_not HVR.out hc)
  rw [Int.toNat_natCast] at HCN hinp
  obtain ⟨⟨a1, a2⟩, a3, a4⟩ := hinp 0 h0m
  obtain ⟨r, er⟩ : ∃ r : Nat, X 0 = (r : Int) := ⟨(X 0).toNat, by omega⟩
  obtain ⟨t, et⟩ : ∃ t : Nat, Y 0 = (t : Int) := ⟨(Y 0).toNat, by omega⟩
  rw [er] at a2
  rw [et] at a4
  rw [er, et, Int.toNat_natCast, Int.toNat_natCast] at HCN
  have HER := Lib.hid er
  have HET := Lib.hid et
  have hr : r < ps.length := by omega
  have ht : t < l := by omega
  generalize psL snd ps = LL at HH1 HH2 HCN
  generalize lF ps = FF at HH1 HH2 HCN
  obtain ⟨N, eN⟩ : ∃ N, N = ps.length := ⟨_, rfl⟩
  rw [← eN] at HH1 HH2 HCN hr hbk hN64 ⊢
  have HK := Lib.hid hbk
  have d0 := hbk.cell (k := 0) rfl
  have d1 := hbk.cell (k := 1) rfl
  have d2 := hbk.cell (k := 2) rfl
  have d3 := hbk.cell (k := 3) rfl
  clear hls2 hlc hbk hR eli hsy hlc2 hsy2 hinp a1 a2 a3 a4 er et eN el HVR d0 d1 d2 d3
  go_upto_region 7 with (go_at_call 35; refine (foFact_any _).mono ?_; rintro e w5 ⟨v, rfl, ho, hb1⟩; obtain ⟨Ab, cb, rfl⟩ := ho.shape; have HBI := Lib.hid (ho.mono (Nat.zero_le _)); have HB5 := Lib.hid hb1; clear hb1 ho)
  replace HK := Lib.hid (HK.out.below HB5.out)
  have HSOF1 := Lib.hid (fun (z : World) (h : Below w5.heap.size w5 z) => (⟨h, (HK.out.below h).cell (k := 0) rfl, (HK.out.below h).cell (k := 1) rfl, (HK.out.below h).cell (k := 2) rfl, (HK.out.below h).cell (k := 3) rfl⟩ : Below w5.heap.size w5 z ∧ z.cell? ⟨bS, 0, none⟩ = some (.int .i64 2) ∧ z.cell? ⟨bS, 1, none⟩ = some (.int .i64 1) ∧ z.cell? ⟨bS, 2, none⟩ = some (.int .i64 l) ∧ z.cell? ⟨bS, 3, none⟩ = some (.slice AR N cR)))
  have hb0 := Below.refl w5.heap.size w5
  go_region_held3 (fun z => Below w5.heap.size w5 z ∧ z.cell? ⟨bS, 0, none⟩ = some (.int .i64 2) ∧ z.cell? ⟨bS, 1, none⟩ = some (.int .i64 1) ∧ z.cell? ⟨bS, 2, none⟩ = some (.int .i64 l) ∧ z.cell? ⟨bS, 3, none⟩ = some (.slice AR N cR)) (first | exact HSOF1.out _ (by assumption) | exact HSOF1.out _ (below_drew hb0) | exact HSOF1.out _ (below_trans (And.left (by assumption)) (by assumption)))
    (first
      | (go_at_call 38; refine (foTrue_any _).mono ?_; rintro e wt ⟨v, rfl, ho, hb1⟩; obtain ⟨At, ct, rfl⟩ := ho.shape; have HOT := Lib.hid (ho.mono (Nat.zero_le _)); have HB7 := below_trans (And.left (by assumption)) hb1; clear hb1 ho)
      | (go_at_call 37; refine (foCommon_one _ _ _ (by exact HOT.out) (HBI.out.below (And.left (by assumption)))).mono ?_; rintro e wc ⟨v, rfl, ho, hb1⟩; obtain ⟨Ac, cc, rfl⟩ := ho.shape; have HOC := Lib.hid (ho.mono (Nat.zero_le _)); have HB9 := below_trans (And.left (by assumption)) hb1; clear hb1 ho)
      | (go_at_call 36; refine (HH1.out _ (below_trans HB5.out (And.left (by assumption))) _ (by exact HOC.out)).mono ?_; rintro e wh ⟨g, Z, rfl, hto, hz, hb1⟩; have HTX := Lib.hid hto; have HZX := Lib.hid hz; have HB10 := below_trans (And.left (by assumption)) hb1; clear hb1 hto hz)
      | fail)
  have HBH := Lib.hid (And.left (by assumption : Below w5.heap.size w5 wh ∧ _))
  replace HB := Lib.hid (below_trans HB.out (below_trans HB5.out HBH.out))
  replace HY := Lib.hid (HY.out.below (below_trans HB5.out HBH.out))
  replace HBI := Lib.hid (HBI.out.below HBH.out)
  have HB4 := Lib.hid (below_trans HB5.out HBH.out)
  clear HB7 HB9 HB10 HOT HOC HSOF1 hb0 HH1
  go_upto_region 8 with (fail)
  replace HK := Lib.hid (HK.out.below HBH.out)
  have HSOF2 := Lib.hid (fun (z : World) (h : Below wh.heap.size wh z) => (⟨h, (HK.out.below h).cell (k := 0) rfl, (HK.out.below h).cell (k := 1) rfl, (HK.out.below h).cell (k := 2) rfl, (HK.out.below h).cell (k := 3) rfl⟩ : Below wh.heap.size wh z ∧ z.cell? ⟨bS, 0, none⟩ = some (.int .i64 2) ∧ z.cell? ⟨bS, 1, none⟩ = some (.int .i64 1) ∧ z.cell? ⟨bS, 2, none⟩ = some (.int .i64 l) ∧ z.cell? ⟨bS, 3, none⟩ = some (.slice AR N cR)))
  have hb0 := Below.refl wh.heap.size wh
  go_region_held3 (fun z => Below wh.heap.size wh z ∧ z.cell? ⟨bS, 0, none⟩ = some (.int .i64 2) ∧ z.cell? ⟨bS, 1, none⟩ = some (.int .i64 1) ∧ z.cell? ⟨bS, 2, none⟩ = some (.int .i64 l) ∧ z.cell? ⟨bS, 3, none⟩ = some (.slice AR N cR)) (first | exact HSOF2.out _ (by assumption) | exact HSOF2.out _ (below_drew hb0) | exact HSOF2.out _ (below_trans (And.left (by assumption)) (by assumption)))
    (first
      | (go_at_call 38; refine (foTrue_any _).mono ?_; rintro e wt2 ⟨v, rfl, ho, hb1⟩; obtain ⟨At2, ct2, rfl⟩ := ho.shape; have HBT := Lib.hid hb1; have HOT := Lib.hid (ho.mono (Nat.zero_le _)); have HB7 := below_trans (And.left (by assumption)) hb1; clear hb1 ho)
      | (go_at_call 39; refine (foNot_any _ _ (HBI.out.below (And.left (by assumption)))).mono ?_; rintro e wf2 ⟨v, rfl, ho, hb1⟩; obtain ⟨An, cn, rfl⟩ := ho.shape; have HBF := Lib.hid hb1; have HON := Lib.hid (ho.mono (Nat.zero_le _)); have HB8 := below_trans (And.left (by assumption)) hb1; clear hb1 ho)
      | (go_at_call 37; refine (foCommon_two _ _ _ (by first | exact HOT.out | exact NdO.below (by exact HOT.out) HBF.out) (by first | exact HON.out | exact NdO.below (by exact HON.out) HBT.out)).mono ?_; rintro e wc2 ⟨v, rfl, ho, hb1⟩; obtain ⟨Ac2, cc2, rfl⟩ := ho.shape; have HOC := Lib.hid (ho.mono (Nat.zero_le _)); have HB9 := below_trans (And.left (by assumption)) hb1; clear hb1 ho)
      | (go_at_call 36; refine (HH2.out _ (below_trans HB4.out (And.left (by assumption))) _ (by exact HOC.out)).mono ?_; rintro e wh2 ⟨g2, Z2, rfl, hto, hz, hb1⟩; have HTY := Lib.hid hto; have HZY := Lib.hid hz; have HB10 := below_trans (And.left (by assumption)) hb1; clear hb1 hto hz)
      | fail)
  all_goals (
    have HBH2 := Lib.hid (And.left (by assumption : Below wh.heap.size wh wh2 ∧ _))
    replace HB := Lib.hid (below_trans HB.out HBH2.out)
    replace HY := Lib.hid (HY.out.below HBH2.out)
    replace HTX := Lib.hid (HTX.out.below HBH2.out)
    replace HK := Lib.hid (HK.out.below HBH2.out)
    clear HB7 HB8 HB9 HB10 HBT HBF HOT HON HOC HSOF2 hb0 HH2 HB4 HBI
    have hzx := HCN.out false Z HZX.out
    have hzy := HCN.out true Z2 HZY.out
    have HZF := Lib.hid (And.intro hzx hzy)
    have d0 := HK.out.cell (k := 0) rfl
    have d1 := HK.out.cell (k := 1) rfl
    have d2 := HK.out.cell (k := 2) rfl
    have d3 := HK.out.cell (k := 3) rfl
    have tm : ((m : Int) == 0) = false := by rw [beq_eq_false_iff_ne]; omega
    have tm' : (m == 0) = false := by rw [beq_eq_false_iff_ne]; omega
    clear hzx hzy HZX HZY HCN HBH HBH2
    go_upto_region 11 with (go_at_call 40; refine (cTable_any AR l N cR _ _ _ (by first | exact HTX.out | exact HTY.out) hN64).mono ?_; rintro e w9 ⟨rfl, hst⟩; replace d0 := cell_below hst d0; replace d1 := cell_below hst d1; replace d2 := cell_below hst d2; replace d3 := cell_below hst d3; replace HTX := Lib.hid (HTX.out.below hst); replace HTY := Lib.hid (HTY.out.below hst); replace HY := Lib.hid (HY.out.below hst); replace HK := Lib.hid (HK.out.below hst); replace HB := Lib.hid (below_trans HB.out hst); clear hst)
    clear d0 d1 d3 tm tm'
    obtain ⟨bB, oB, rfl, c1, c2, -, -⟩ := HY.out 0 h0m
    rw [HER.out, Nat.zero_mul, Nat.add_zero] at c1
    rw [HET.out, Nat.zero_mul, Nat.add_zero] at c2
    have hm0 : (0 : Int) < (m : Int) := by omega
    clear HY HER HET
    go_upto_region 12 with (fail)
    have hba := below_alloc w9 (.cells #[.int .i64 r, .int .i64 t] 26)
    have hpb := Blk.new w9 #[.int .i64 r, .int .i64 t] 26
    obtain ⟨pb, epb⟩ : ∃ b, b = w9.heap.size := ⟨_, rfl⟩
    obtain ⟨V9, eV⟩ : ∃ V, V = w9.alloc (.cells #[.int .i64 r, .int .i64 t] 26) := ⟨_, rfl⟩
    rw [← eV] at hba hpb ⊢
    rw [← epb] at hpb ⊢
    replace HB := Lib.hid (below_trans HB.out hba)
    replace d2 := cell_below hba d2
    have htx := HTX.out.below hba
    have hty := HTY.out.below hba
    have p0 := hpb.cell (k := 0) rfl
    have p1 := hpb.cell (k := 1) rfl
    have x1 := htx.box.cell (slcA_get (g := g) (l := l) (n := N) (i := N) hr hr)
    have x2 := (htx.row r hr).cell (boolA_get (S := Z r) ht)
    have y1 := hty.box.cell (slcA_get (g := g2) (l := l) (n := N) (i := N) hr hr)
    have y2 := (hty.row r hr).cell (boolA_get (S := Z2 r) ht)
    rw [HZF.out.1] at x2
    rw [HZF.out.2] at y2
    have r0 : decide ((0 : Int) ≤ (r : Int)) = true := decide_eq_true (by omega)
    have r1 : decide ((r : Int) ≥ 0) = true := decide_eq_true (by omega)
    have r2 : decide ((0 : Int) ≤ (t : Int)) = true := decide_eq_true (by omega)
    have r3 : decide ((t : Int) ≥ 0) = true := decide_eq_true (by omega)
    have r4 : decide ((r : Int) < (N : Int)) = true := decide_eq_true (by omega)
    have r5 : decide ((t : Int) < (l : Int)) = true := decide_eq_true (by omega)
    have r6 : decide (r < N) = true := decide_eq_true hr
    have r7 : decide (t < l) = true := decide_eq_true ht
    have hr1 : (r : Int) < (N : Int) := by omega
    have ht1 : (t : Int) < (l : Int) := by omega
    clear hba hpb eV epb htx hty HTX HTY HZF c1 c2 HK
    go_quiet (fail)
    have hbq := below_drewN HB.out nq
    generalize V9.drewN nq = V8 at hbq ⊢
    have HBQ := Lib.hid hbq
    clear hbq
    go_wp2_with fail
    go_ret
    exact ⟨rfl, HBQ.out⟩)
end Go.Proofs.Ytahaimecchdfeaa
