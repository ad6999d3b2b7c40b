/-
  Walks: the law ProtocolCrashes.
-/
import Derived.Test.YtgnkeecjaffnaaaProg
import Derived.Test.YtgnkeecjaffnaaaBase
import Derived.Test.YtgnkeecjaffnaaaRow
import Derived.Test.YtgnkeecjaffnaaaRowsOf
import Derived.Test.YtgnkeecjaffnaaaPc
import Derived.Test.YtgnkeecjaffnaaaPd
import Derived.Test.YtgnkeecjaffnaaaPrI
import Derived.Test.YtgnkeecjaffnaaaPkB
import Derived.Test.YtgnkeecjaffnaaaPzA
import Derived.Test.YtgnkeecjaffnaaaPzB
import Derived.Test.YtgnkeecjaffnaaaPzD
import Derived.Test.YtgnkeecjaffnaaaSyS
import Derived.Test.YtgnkeecjaffnaaaPzE
import Derived.Deep.DeepCutAuto
import Derived.Deep.RegionHeld3
namespace Go.Proofs.Ytgnkeecjaffnaaa
open Go.RowKit

set_option maxHeartbeats 1000000 in
theorem equalC_same (l : List (Nat × Nat)) (v v' : Value) (base base' : Nat) (w : World) (h : CrO w base v l) (h' : CrO w base' v' l) (hl : l.length ≤ 65536) :
    Calls Try.prog 36 #[v, v'] w fun e w' => e = .returned (.bool true) ∧ Below w.heap.size w w' := by
  have H := Lib.hid h
  have H' := Lib.hid h'
  obtain ⟨A, cap, rfl, -⟩ := own_form' h
  obtain ⟨A', cap', rfl, -⟩ := own_form' h'
  obtain ⟨N, eN⟩ : ∃ N, N = l.length := ⟨_, rfl⟩
  rw [← eN]
  have EN := Lib.hid eN
  have hN : N ≤ 65536 := by omega
  clear h h' eN hl
  go_enter Try.func36, Try.ntmps36
  go_wp2
  go_loopw [13] (fun iv wr => ∃ i : Nat, i ≤ N ∧ iv = .int .i64 i ∧ Below w.heap.size w wr) (fun iv _ => N - (intOf iv).toNat)
  case atStart => exact ⟨0, Nat.zero_le _, rfl, Below.refl _ _⟩
  case round =>
    obtain ⟨i, hi, rfl, hbl⟩ := hrel
    have HBL := Lib.hid hbl
    by_cases hlt : i < N
    · obtain ⟨c, hc⟩ : ∃ c, l[i]? = some c := ⟨_, List.getElem?_eq_getElem (by rw [← EN.out]; exact hlt)⟩
      obtain ⟨b, k1, e, c1, c2⟩ := crO_at (own_keeps H.out (Keeps.of_below hbl _)) hc
      obtain ⟨b', k1', e', c1', c2'⟩ := crO_at (own_keeps H'.out (Keeps.of_below hbl _)) hc
      injection e with e1 e2 e3
      injection e' with e1' e2' e3'
      subst e1 e1'
      clear e2 e3 e2' e3'
      obtain ⟨x, ex⟩ : ∃ x, x = c.1 := ⟨_, rfl⟩
      obtain ⟨y, ey⟩ : ∃ x, x = c.2 := ⟨_, rfl⟩
      rw [← ex] at c1 c1'
      rw [← ey] at c2 c2'
      have hii : (i : Int) < (N : Int) := by omega
      clear hbl hc ex ey
      go_wp2_with fail
      go_quiet (fail)
      go_wp2_with fail
      go_roundw
      case rel => exact ⟨i + 1, by omega, by go_num, below_drewN HBL.out _⟩
      case measure => simp [intOf]; omega
    · obtain rfl : i = N := by omega
      clear hbl
      go_wp2_with fail
      go_ret
      exact ⟨rfl, HBL.out⟩
theorem crD_small (n F R : Int) (m : Nat) (f : Nat → Int) (_hm : m ≤ 65536) : (crD n F R m f).small := by
  by_cases hE : crE n F R m f = 0
  · have hD : crD n F R m f = ⟨n, 2 * n, R + 1, crP n.toNat R.toNat f (patL n F R) m 0⟩ := if_pos hE
    unfold crE at hE
    by_cases h0 : patE n F R = 0
    · rw [if_pos h0] at hE
      by_cases hm0 : m = 0
      · rw [if_pos hm0] at hE; cases hE
      · rw [if_neg hm0] at hE
        cases hall : allB m (fun i => !badX n.toNat (f i))
        · rw [hall, if_neg (by decide)] at hE; cases hE
        · rw [hall, if_pos rfl] at hE
          obtain ⟨N, r, f', rfl, rfl, rfl, h2, h4, h3, hpl, h64⟩ := patE_ok h0
          rw [hD, hpl, Int.toNat_natCast, Int.toNat_natCast]
          rw [Int.toNat_natCast] at hall
          rw [hpl] at hE
          have hle : m * (pfx N r f' N).length ≤ 64 := by
            by_cases h : 64 < m * (pfx N r f' N).length
            · rw [if_pos h] at hE; cases hE
            · omega
          refine ⟨?_, fun d hd => ?_⟩
          · show (crP N r f (pfx N r f' N) m 0).length ≤ 65536
            rw [crP_len (Nat.zero_le _)]; omega
          · have hd' : d ∈ crP N r f (pfx N r f' N) m 0 := hd
            unfold crP at hd'
            rw [List.take_zero, List.map_nil, List.append_nil, List.mem_flatMap] at hd'
            obtain ⟨a, ha, hd'⟩ := hd'
            obtain ⟨l, hl, rfl⟩ := List.mem_map.1 hd'
            have ha := List.mem_range.1 ha
            have hX := (badX_no (by simpa using allB_iff.1 hall a ha : badX N (f a) = false)).2
            unfold gD
            generalize (f a).toNat = X at hX
            refine ⟨by show r + 1 ≤ 65536; omega, by show r + 1 ≤ 65536; omega, fun _ _ => by show N ≤ _; omega, fun t i ht _ => ?_, fun t _ => ?_⟩
            · have ht : t < r + 1 := ht
              have := stN_le (rd := rdP l) (tv := tvP l) (n := N) (x := X) (t := t) (i := i) h4 (by omega)
              show _ ≤ ((stN (rdP l) (tvP l) N X t i : Nat) : Int) ∧ ((stN (rdP l) (tvP l) N X t i : Nat) : Int) ≤ _
              omega
            · have h256 : (2 : Nat) ^ (N + N) ≤ 256 := Nat.pow_le_pow_right (n := 2) (j := 8) (by decide) (by omega)
              have := fcN_lt (rd := rdP l) (t := t) (Nat.lt_of_lt_of_le hX (Nat.pow_le_pow_right (n := 2) (j := N + N) (by decide) (by omega))) N (Nat.le_refl _)
              show fcN (rdP l) N X t N < _
              omega
    · rw [if_neg h0] at hE; exact absurd hE h0
  · have hD : crD n F R m f = SysD.none := if_neg hE
    rw [hD]; exact SysD.none_small
set_option maxHeartbeats 4000000 in
set_option maxRecDepth 100000 in
theorem crashes_core (n F R : Int) (A : Option Addr) (m c : Nat) (f : Nat → Int) (w : World) (hx : I64s w A m f) (hm : m ≤ 9223372036854775807) :
    Calls Try.prog 9 #[.int .i64 n, .agg #[.int .i64 F, .int .i64 R], .slice A m c] w fun e w' => e = .returned (.bool true) ∧ Below w.heap.size w w' := by
  have HB := Lib.hid (below_alloc w (.cells #[.int .i64 F, .int .i64 R] 25))
  have HK := Lib.hid (Blk.new w #[.int .i64 F, .int .i64 R] 25)
  have HX := Lib.hid (hx.below HB.out)
  clear hx
  by_cases h20 : 20 < m
  · have t1 : decide (20 < m) = true := decide_eq_true h20
    have t1' : decide ((20 : Int) < (m : Int)) = true := decide_eq_true (by omega)
    clear h20
    go_enter Try.func9, Try.ntmps9
    go_upto_region 1 with (fail)
    generalize w.alloc (.cells #[.int .i64 F, .int .i64 R] 25) = W at HB HK HX ⊢
    go_wp2_with (go_at_call 17; refine (awake_any _).mono ?_; rintro e w2 ⟨rfl, hst⟩; have HB := Lib.hid (HB.out.trans (hst.mono HB.out.size)); clear hst)
    go_ret
    exact ⟨rfl, HB.out⟩
  have t1 : decide (20 < m) = false := decide_eq_false h20
  have t1' : decide ((20 : Int) < (m : Int)) = false := decide_eq_false (by omega)
  have HP1 := Lib.hid (fun w => Patterns_any n F R w)
  have HP2 := Lib.hid (fun w => rPatterns_any n F R w)
  have HC1 := Lib.hid (fun W (h : I64s W A m f) => Crashes_any n F R A m c f W h (by omega))
  have HC2 := Lib.hid (fun W (h : I64s W A m f) => rCrashes_any n F R A m c f W h (by omega))
  have HSM := Lib.hid (crD_small n F R m f (by omega))
  have hpl : ∀ l, l ∈ patL n F R → l.length ≤ 65536 := fun l hl => by
    unfold patL at hl
    by_cases h0 : patE n F R = 0
    · have hl' : l ∈ patL n F R := hl
      obtain ⟨N, r, f', rfl, rfl, rfl, h2, h4, h3, hpl, h64⟩ := patE_ok h0
      rw [hpl] at hl'
      have := pfx_len hl'
      omega
    · rw [if_neg h0] at hl; cases hl
  have hpn : (patL n F R).length ≤ 64 := by
    by_cases h0 : patE n F R = 0
    · obtain ⟨N, r, f', rfl, rfl, rfl, h2, h4, h3, hpl, h64⟩ := patE_ok h0
      rw [hpl]; exact h64
    · unfold patL; rw [if_neg h0]; decide
  have HPL := Lib.hid hpl
  obtain ⟨E, eE⟩ : ∃ E, E = patE n F R := ⟨_, rfl⟩
  obtain ⟨ps, eps⟩ : ∃ p, p = patL n F R := ⟨_, rfl⟩
  obtain ⟨C, eC⟩ : ∃ E, E = crE n F R m f := ⟨_, rfl⟩
  obtain ⟨D, eD⟩ : ∃ E, E = crD n F R m f := ⟨_, rfl⟩
  rw [← eE, ← eps] at HP1 HP2
  rw [← eps] at HPL hpn
  rw [← eC, ← eD] at HC1 HC2
  rw [← eD] at HSM
  obtain ⟨L, eL⟩ : ∃ L, L = ps.length := ⟨_, rfl⟩
  rw [← eL] at hpn
  have HLL := Lib.hid eL
  have b1 : ((E : Int) != (E : Int)) = false := by simp
  have b2 : ((L : Int) != (L : Int)) = false := by simp
  have b3 : ((C : Int) == (C : Int)) = true := by simp
  clear eE eps eC eD eL h20 hpl
  go_enter Try.func9, Try.ntmps9
  go_upto_region 1 with (fail)
  generalize w.alloc (.cells #[.int .i64 F, .int .i64 R] 25) = W at HB HK HX ⊢
  have z0 : W.cell? ⟨w.heap.size, 0, none⟩ = some (.int .i64 F) := HK.out.cell rfl
  have z1 : W.cell? ⟨w.heap.size, 1, none⟩ = some (.int .i64 R) := HK.out.cell rfl
  clear HK
  go_upto_region 4 with (go_at_call 34; refine (HP1.out _).mono ?_; rintro e w1 ⟨pv, rfl, hp, hb⟩; have HPA := Lib.hid hp; have z0 := cell_below hb z0; have z1 := cell_below hb z1; have HX := Lib.hid (HX.out.below hb); have HB := Lib.hid (HB.out.trans (hb.mono HB.out.size)); clear hp hb)
  obtain ⟨A1, c1, rfl⟩ := HPA.out.shape
  rw [← HLL.out]
  go_upto_region 5 with (go_at_call 35; refine (HP2.out _).mono ?_; rintro e w2 ⟨pv, rfl, hp, hb⟩; have HPB := Lib.hid hp; have HPA := Lib.hid (HPA.out.below hb); have z0 := cell_below hb z0; have z1 := cell_below hb z1; have HX := Lib.hid (HX.out.below hb); have HB := Lib.hid (HB.out.trans (hb.mono HB.out.size)); clear hp hb)
  obtain ⟨A2, c2, rfl⟩ := HPB.out.shape
  rw [← HLL.out]
  rw [← HLL.out] at HPA HPB
  have Z0 := Lib.hid z0
  have Z1 := Lib.hid z1
  clear z0 z1 HP1 HP2
  obtain ⟨V, eV⟩ : ∃ V, V = w2 := ⟨_, rfl⟩
  subst eV
  go_wp2_with fail
  go_loopw [50] (fun iv wr => ∃ i : Nat, i ≤ L ∧ iv = .int .i64 i ∧ Below V.heap.size V wr) (fun iv _ => L - (intOf iv).toNat)
  case atStart => exact ⟨0, Nat.zero_le _, rfl, Below.refl _ _⟩
  case round =>
    obtain ⟨i, hi, rfl, hbl⟩ := hrel
    have HBL := Lib.hid hbl
    by_cases hlt : i < L
    · obtain ⟨l, hl⟩ : ∃ l, ps[i]? = some l := ⟨_, List.getElem?_eq_getElem (by rw [← HLL.out]; exact hlt)⟩
      obtain ⟨g1, k1, r1, e1, d1, h1⟩ := (HPA.out.below hbl).at hl
      obtain ⟨g2, k2, r2, e2, d2, h2⟩ := (HPB.out.below hbl).at hl
      injection e1 with e1 g3 g4
      injection e2 with e2 g5 g6
      subst e1 e2
      clear g3 g4 g5 g6
      have HEQ := Lib.hid (fun X (hX : Below wr.heap.size wr X) => equalC_same l r1 r2 _ _ X (own_keeps h1 (Keeps.of_below hX _)) (own_keeps h2 (Keeps.of_below hX _)) (HPL.out l (List.mem_of_getElem? hl)))
      have hii : (i : Int) < (L : Int) := by omega
      have hi0 : (0 : Int) ≤ (i : Int) := by omega
      have hb0 := Below.refl wr.heap.size wr
      clear hbl hl h1 h2
      go_wp2_with fail
      go_region_held3 (fun y => Below wr.heap.size wr y ∧ y.cell? ⟨g1, i, none⟩ = some r1 ∧ y.cell? ⟨g2, i, none⟩ = some r2) (first | exact ⟨hb0, d1, d2⟩ | exact ⟨below_drew hb0, d1, d2⟩ | assumption)
        (first
          | (go_at_call 36; refine (HEQ.out _ (And.left (by assumption))).mono ?_; rintro e w7 ⟨rfl, hb1⟩; have HB7 := below_trans (And.left (by assumption)) hb1; have hs7 := And.intro HB7 (And.intro (cell_below HB7 d1) (cell_below HB7 d2)); clear hb1)
          | fail)
      go_wp2_with fail
      go_roundw
      case rel => exact ⟨i + 1, by omega, by go_num, below_trans HBL.out HB7⟩
      case measure => simp [intOf]; omega
    · obtain rfl : i = L := by omega
      have z0 := cell_below hbl Z0.out
      have z1 := cell_below hbl Z1.out
      have HX := Lib.hid (HX.out.below hbl)
      have HB := Lib.hid (HB.out.trans (hbl.mono HB.out.size))
      clear hbl HPA HPB Z0 Z1 HBL
      go_upto_region 14 with (go_at_call 37; refine (HC1.out _ HX.out).mono ?_; rintro e w3 ⟨x, rfl, hd, hb⟩; obtain ⟨v, rfl, hr⟩ := hd; obtain ⟨Av4, cv4, rfl⟩ := runsO_shape hr; have HD := Lib.hid hr; have HB1 := Lib.hid hb; clear hr hb)
      obtain ⟨V3, hV⟩ : ∃ V3, V3 = w3.alloc (.cells #[.int .i64 D.a, .int .i64 D.f, .int .i64 D.l, .slice Av4 D.ps.length cv4] 44) := ⟨_, rfl⟩
      have hbl := below_alloc w3 (.cells #[.int .i64 D.a, .int .i64 D.f, .int .i64 D.l, .slice Av4 D.ps.length cv4] 44)
      have hbk := Blk.new w3 #[.int .i64 D.a, .int .i64 D.f, .int .i64 D.l, .slice Av4 D.ps.length cv4] 44
      rw [← hV] at hbl hbk ⊢
      have hb13 := HB1.out.trans (hbl.mono HB1.out.size)
      have HX := Lib.hid (HX.out.below hb13)
      have HB := Lib.hid (HB.out.trans (hb13.mono HB.out.size))
      have z0 := cell_below hb13 z0
      have z1 := cell_below hb13 z1
      have HD4 := Lib.hid (HD.out.below hbl)
      have HK4 := Lib.hid hbk
      generalize w3.heap.size = b4 at HK4 ⊢
      clear hV hbl hbk hb13 HB1 HD
      go_upto_region 15 with (go_at_call 38; refine (HC2.out _ HX.out).mono ?_; rintro e w3 ⟨x, rfl, hd, hb⟩; obtain ⟨v, rfl, hr⟩ := hd; obtain ⟨Av5, cv5, rfl⟩ := runsO_shape hr; have HD := Lib.hid hr; have HB1 := Lib.hid hb; clear hr hb)
      obtain ⟨V4, hV⟩ : ∃ V4, V4 = w3.alloc (.cells #[.int .i64 D.a, .int .i64 D.f, .int .i64 D.l, .slice Av5 D.ps.length cv5] 44) := ⟨_, rfl⟩
      have hbl := below_alloc w3 (.cells #[.int .i64 D.a, .int .i64 D.f, .int .i64 D.l, .slice Av5 D.ps.length cv5] 44)
      have hbk := Blk.new w3 #[.int .i64 D.a, .int .i64 D.f, .int .i64 D.l, .slice Av5 D.ps.length cv5] 44
      rw [← hV] at hbl hbk ⊢
      have hb13 := HB1.out.trans (hbl.mono HB1.out.size)
      have HB := Lib.hid (HB.out.trans (hb13.mono HB.out.size))
      have HD4 := Lib.hid (HD4.out.below hb13)
      have HK4 := Lib.hid (HK4.out.below hb13)
      have HD5 := Lib.hid (HD.out.below hbl)
      have k40 := HK4.out.cell (k := 0) rfl
      have k41 := HK4.out.cell (k := 1) rfl
      have k42 := HK4.out.cell (k := 2) rfl
      have k43 := HK4.out.cell (k := 3) rfl
      have k50 := hbk.cell (k := 0) rfl
      have k51 := hbk.cell (k := 1) rfl
      have k52 := hbk.cell (k := 2) rfl
      have k53 := hbk.cell (k := 3) rfl
      have HSA := Lib.hid (same_sys D HD4.out HD5.out HSM.out)
      generalize w3.heap.size = b5 at k50 k51 k52 k53 ⊢
      clear hV hbl hbk hb13 HB1 HD HK4 HC1 HC2 z0 z1 HX HD4 HD5
      go_wp2_with (first
        | (go_at_call 17; refine (awake_any _).mono ?_; rintro e w2 ⟨rfl, hst⟩; have HB := Lib.hid (HB.out.trans (hst.mono HB.out.size)); clear hst)
        | (go_at_call 28; refine HSA.out.mono ?_; rintro e w7 ⟨rfl, hb1⟩; have HB := Lib.hid (HB.out.trans (hb1.mono HB.out.size)); clear hb1 HSA))
      go_ret
      exact ⟨rfl, HB.out⟩
end Go.Proofs.Ytgnkeecjaffnaaa
