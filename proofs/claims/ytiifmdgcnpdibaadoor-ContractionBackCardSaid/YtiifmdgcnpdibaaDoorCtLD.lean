/-
  Walks: the laws ContractionRepresents, ContractionBack.
-/
import Derived.Test.YtiifmdgcnpdibaaDoorProg
import Derived.Test.YtiifmdgcnpdibaaDoorBase
import Derived.Test.YtiifmdgcnpdibaaDoorRow
import Derived.Test.YtiifmdgcnpdibaaDoorRowU
import Derived.Test.YtiifmdgcnpdibaaDoorRowsOf
import Derived.Test.YtiifmdgcnpdibaaDoorLeast
import Derived.Test.YtiifmdgcnpdibaaDoorRkQ
import Derived.Test.YtiifmdgcnpdibaaDoorRkB
import Derived.Test.YtiifmdgcnpdibaaDoorRkC3
import Derived.Test.YtiifmdgcnpdibaaDoorPoP
import Derived.Test.YtiifmdgcnpdibaaDoorSlcU
import Derived.Test.YtiifmdgcnpdibaaDoorCtP
import Derived.Test.YtiifmdgcnpdibaaDoorCtQ
import Derived.Test.YtiifmdgcnpdibaaDoorCtV
import Derived.Test.YtiifmdgcnpdibaaDoorCtA
import Derived.Test.YtiifmdgcnpdibaaDoorCtB
import Derived.Test.YtiifmdgcnpdibaaDoorCtE
import Derived.Test.YtiifmdgcnpdibaaDoorCtF
import Derived.Test.YtiifmdgcnpdibaaDoorCtG
import Derived.Test.YtiifmdgcnpdibaaDoorCtH
import Derived.Test.YtiifmdgcnpdibaaDoorCtJ
import Derived.Test.YtiifmdgcnpdibaaDoorCtK
import Derived.Test.YtiifmdgcnpdibaaDoorCtS
import Derived.Test.YtiifmdgcnpdibaaDoorCtLC
namespace Go.Proofs.YtiifmdgcnpdibaaDoor
open Go.RowKit

theorem ord_rev {k N b : Nat} {T : Nat → Nat} (hk : k ≤ 3) (hN : N = 2 ^ k) (hN8 : N ≤ 8) : revErr k N (ordI b T N) = 0 := by
  unfold revErr
  rw [if_pos (by omega), Int.toNat_natCast, if_pos hN, if_neg]
  intro h
  obtain ⟨v, hv, h1⟩ := idxV_iff.1 h
  have := ordR_le b T N v
  unfold ordI at h1
  omega
set_option maxHeartbeats 4000000 in
theorem represents_core (n : Int) (b len c : Nat) (A : Option Addr) (T : Nat → Nat) (w : World) (hL : LaidC w) (hT : U64s w A len T) (hlen : len ≤ 9223372036854775807) (hb : b < 18446744073709551616) :
    Calls Tryd.prog 8 #[.int .i64 n, .int .u64 b, .slice A len c] w fun e w' => e = .returned (.bool true) ∧ Below w.heap.size w w' := by
  have HL := Lib.hid hL
  have HX := Lib.hid hT
  have HB := Lib.hid (Below.refl w.heap.size w)
  have H1 := Lib.hid (fun W (hW : U64s W A len T) => ctChk_any n b len c A T W hW hlen hb)
  by_cases h0 : n < 0
  · have hd1 : decide (n < 0) = true := decide_eq_true h0
    clear hL hT h0 H1
    go_enter Tryd.func8, Tryd.ntmps8
    go_wp2_with (go_at_call 16; refine (awake_any _ (HL.out.below HB.out)).mono ?_; rintro e w2 ⟨rfl, hst⟩; have HB := Lib.hid (HB.out.trans (hst.mono HB.out.size)); clear hst)
    go_ret
    exact ⟨rfl, HB.out⟩
  have hd1 : decide (n < 0) = false := decide_eq_false h0
  by_cases h3 : 3 < n
  · have hd2 : decide (3 < n) = true := decide_eq_true h3
    clear hL hT h0 h3 H1
    go_enter Tryd.func8, Tryd.ntmps8
    go_wp2_with (go_at_call 16; refine (awake_any _ (HL.out.below HB.out)).mono ?_; rintro e w2 ⟨rfl, hst⟩; have HB := Lib.hid (HB.out.trans (hst.mono HB.out.size)); clear hst)
    go_ret
    exact ⟨rfl, HB.out⟩
  have hd2 : decide (3 < n) = false := decide_eq_false h3
  by_cases h8 : 256 < len
  · have hd3 : decide ((256 : Int) < (len : Int)) = true := decide_eq_true (by omega)
    clear hL hT h0 h3 H1
    go_enter Tryd.func8, Tryd.ntmps8
    go_wp2_with (go_at_call 16; refine (awake_any _ (HL.out.below HB.out)).mono ?_; rintro e w2 ⟨rfl, hst⟩; have HB := Lib.hid (HB.out.trans (hst.mono HB.out.size)); clear hst)
    go_ret
    exact ⟨rfl, HB.out⟩
  have hd3 : decide ((256 : Int) < (len : Int)) = false := decide_eq_false (by omega)
  by_cases hE : ctChk n b len T = 0
  case neg =>
    obtain ⟨E, eE⟩ : ∃ E, E = ctChk n b len T := ⟨_, rfl⟩
    rw [← eE] at H1 hE
    have hne : ((E : Int) != 0) = true := by rw [bne_iff_ne]; omega
    clear hL hT h0 h3 eE
    go_enter Tryd.func8, Tryd.ntmps8
    go_wp2_with (first | (go_at_call 25; refine (H1.out _ HX.out).mono ?_; rintro e w2 ⟨rfl, hst⟩; have HX := Lib.hid (HX.out.below hst); have HB := Lib.hid (HB.out.trans (hst.mono HB.out.size)); have HST := Lib.hid hst; clear hst) | (go_at_call 16; refine (awake_any _ (HL.out.below HB.out)).mono ?_; rintro e w2 ⟨rfl, hst⟩; have HB := Lib.hid (HB.out.trans (hst.mono HB.out.size)); clear hst))
    go_ret
    exact ⟨rfl, HB.out⟩
  case pos =>
    obtain ⟨k, rfl, hk, hl, hbS, ht⟩ := ctChk_ok hE
    obtain ⟨N, hN⟩ : ∃ N, N = 2 ^ k := ⟨_, rfl⟩
    obtain ⟨S, hS⟩ : ∃ S, S = 2 ^ N := ⟨_, rfl⟩
    rw [← hN, ← hS] at hl hbS ht
    subst hl
    have hTl := tab_lt ht
    have hN8 : N ≤ 8 := by rw [hN]; exact Nat.le_trans (Nat.pow_le_pow_right (n := 2) (j := 3) (by decide) hk) (by decide)
    obtain ⟨v1, v2, v3, v4⟩ := two_val8 hN8 hS
    rw [hE] at H1
    by_cases hb0 : b = 0
    · subst hb0
      clear hL hT h0 h3 hE hN hS ht hTl hbS v1 v2
      go_enter Tryd.func8, Tryd.ntmps8
      go_wp2_with (first | (go_at_call 25; refine (H1.out _ HX.out).mono ?_; rintro e w2 ⟨rfl, hst⟩; have HX := Lib.hid (HX.out.below hst); have HB := Lib.hid (HB.out.trans (hst.mono HB.out.size)); have HST := Lib.hid hst; clear hst) | (go_at_call 16; refine (awake_any _ (HL.out.below HB.out)).mono ?_; rintro e w2 ⟨rfl, hst⟩; have HB := Lib.hid (HB.out.trans (hst.mono HB.out.size)); clear hst))
      go_ret
      exact ⟨rfl, HB.out⟩
    · have hz : ((b : Int) == 0) = false := by rw [eq0_nat]; simpa using hb0
      have H2 := Lib.hid (fun W (hW : U64s W A len T) => Order_in k N len b c A T W hW hk hN hS hbS hb0 ht hE)
      have H3 := Lib.hid (fun W (hl : LaidC W) (hW : U64s W A len T) => sat_any k N len b 6 c A T W hl hW hk hN hS hbS hE (by decide))
      rw [sat_six hS hN8 hbS hb0 hTl] at H3
      cases ho : ordOk N len b T
      · rw [ho] at H2 H3
        obtain ⟨g, eg⟩ : ∃ g, g = ordI b T N := ⟨_, rfl⟩
        rw [← eg] at H2
        clear hL hT h0 h3 hE hN hS ht hTl hbS v1 v2 ho eg hb0
        go_enter Tryd.func8, Tryd.ntmps8
        go_wp2_with (first | (go_at_call 25; refine (H1.out _ HX.out).mono ?_; rintro e w2 ⟨rfl, hst⟩; have HX := Lib.hid (HX.out.below hst); have HB := Lib.hid (HB.out.trans (hst.mono HB.out.size)); have HST := Lib.hid hst; clear hst) | (go_at_call 29; refine (H2.out _ HX.out).mono ?_; rintro e w2 ⟨A1, c1, rfl, hu, hst⟩; have HX := Lib.hid (HX.out.below hst); have HB := Lib.hid (HB.out.trans (hst.mono HB.out.size)); have HU1 := Lib.hid hu; have HST := Lib.hid hst; clear hu hst) | (go_at_call 28; refine (H3.out _ (HL.out.below HB.out) HX.out).mono ?_; rintro e w2 ⟨rfl, hst⟩; have HX := Lib.hid (HX.out.below hst); have HB := Lib.hid (HB.out.trans (hst.mono HB.out.size)); have HST := Lib.hid hst; clear hst) | (go_at_call 16; refine (awake_any _ (HL.out.below HB.out)).mono ?_; rintro e w2 ⟨rfl, hst⟩; have HB := Lib.hid (HB.out.trans (hst.mono HB.out.size)); clear hst))
        go_ret
        exact ⟨rfl, HB.out⟩
      · rw [ho] at H2 H3
        obtain ⟨h1, h2⟩ := ordOk_iff.1 ho
        have hbel := ord_bel hS hN8 hbS hb0 hTl h1
        have hr := ord_rev (b := b) (T := T) hk hN hN8
        have htE : tabE k N (ordI b T N) = 0 := by unfold tabE; rw [if_pos hr, if_pos (by omega)]
        have hM : ctM k N (ordI b T N) = len := by unfold ctM; rw [if_pos htE, hS]
        have hBv : belV k N (ordI b T N) = b := by unfold belV; rw [if_pos hr, ← hS, hbel]
        have hTT : eqU len len (ctT N (ordI b T N)) T = true := eqU_iff.2 ⟨rfl, fun x hx => by unfold ctT; rw [← hS]; exact h2 x hx⟩
        have H4 := Lib.hid (fun W cc B (hW : I64s W B N (ordI b T N)) => ctTable_any k N cc B (ordI b T N) W hW (by omega))
        have H5 := Lib.hid (fun W cc B (hW : I64s W B N (ordI b T N)) => Belief_any k N cc B (ordI b T N) W hW (by omega))
        rw [htE, hM] at H4
        rw [hr, hBv] at H5
        have H6 := Lib.hid (fun W c1 B (hB : U64s W B len (ctT N (ordI b T N))) (hA : U64s W A len T) => sameU_any B A len len c1 c _ _ W hB hA (by omega) (by omega))
        rw [hTT] at H6
        obtain ⟨g, eg⟩ : ∃ g, g = ordI b T N := ⟨_, rfl⟩
        rw [← eg] at H2 H4 H5 H6
        obtain ⟨t, et⟩ : ∃ t, t = ctT N g := ⟨_, rfl⟩
        rw [← et] at H4 H6
        have hbb : ((b : Int) == (b : Int)) = true := by simp
        clear hL hT h0 h3 hE hN hS ht hTl hbS v1 v2 ho eg hb0 h1 h2 hbel hr htE hM hBv hTT et
        go_enter Tryd.func8, Tryd.ntmps8
        go_upto_region 4 with (first | (go_at_call 25; refine (H1.out _ HX.out).mono ?_; rintro e w2 ⟨rfl, hst⟩; have HX := Lib.hid (HX.out.below hst); have HB := Lib.hid (HB.out.trans (hst.mono HB.out.size)); have HST := Lib.hid hst; clear hst) | (go_at_call 29; refine (H2.out _ HX.out).mono ?_; rintro e w2 ⟨A1, c1, rfl, hu, hst⟩; have HX := Lib.hid (HX.out.below hst); have HB := Lib.hid (HB.out.trans (hst.mono HB.out.size)); have HU1 := Lib.hid hu; have HST := Lib.hid hst; clear hu hst))
        go_upto_region 8 with ((go_at_call 28; refine (H3.out _ (HL.out.below HB.out) HX.out).mono ?_; rintro e w2 ⟨rfl, hst⟩; have HX := Lib.hid (HX.out.below hst); have HB := Lib.hid (HB.out.trans (hst.mono HB.out.size)); have HST := Lib.hid hst; clear hst); have HU1 := Lib.hid (HU1.out.below HST.out))
        go_upto_region 9 with ((go_at_call 21; refine (H4.out _ _ _ HU1.out).mono ?_; rintro e w2 ⟨A2, c2, rfl, hu, hst⟩; have HX := Lib.hid (HX.out.below hst); have HB := Lib.hid (HB.out.trans (hst.mono HB.out.size)); have HU2 := Lib.hid hu; have HST := Lib.hid hst; clear hu hst); have HU1 := Lib.hid (HU1.out.below HST.out))
        go_wp2_with (first | (go_at_call 27; refine (H5.out _ _ _ HU1.out).mono ?_; rintro e w' ⟨rfl, rfl⟩) | ((go_at_call 15; refine (H6.out _ _ _ HU2.out HX.out).mono ?_; rintro e w2 ⟨rfl, hst⟩; have HX := Lib.hid (HX.out.below hst); have HB := Lib.hid (HB.out.trans (hst.mono HB.out.size)); have HST := Lib.hid hst; clear hst)) | (go_at_call 16; refine (awake_any _ (HL.out.below HB.out)).mono ?_; rintro e w2 ⟨rfl, hst⟩; have HB := Lib.hid (HB.out.trans (hst.mono HB.out.size)); clear hst))
        go_ret
        exact ⟨rfl, HB.out⟩
end Go.Proofs.YtiifmdgcnpdibaaDoor
