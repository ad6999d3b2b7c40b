/-
  Walks: the law ContractionBack.
-/
import Derived.Test.YtiifmdgcnpdibaaDoorProg
import Derived.Test.YtiifmdgcnpdibaaDoorBase
import Derived.Test.YtiifmdgcnpdibaaDoorRow
import Derived.Test.YtiifmdgcnpdibaaDoorRowU
import Derived.Test.YtiifmdgcnpdibaaDoorRowsOf
import Derived.Test.YtiifmdgcnpdibaaDoorLeast
import Derived.Test.YtiifmdgcnpdibaaDoorRkQ
import Derived.Test.YtiifmdgcnpdibaaDoorRkB
import Derived.Test.YtiifmdgcnpdibaaDoorRkC3
import Derived.Test.YtiifmdgcnpdibaaDoorPoP
import Derived.Test.YtiifmdgcnpdibaaDoorSlcU
import Derived.Test.YtiifmdgcnpdibaaDoorCtP
import Derived.Test.YtiifmdgcnpdibaaDoorCtQ
import Derived.Test.YtiifmdgcnpdibaaDoorCtV
import Derived.Test.YtiifmdgcnpdibaaDoorCtA
import Derived.Test.YtiifmdgcnpdibaaDoorCtB
import Derived.Test.YtiifmdgcnpdibaaDoorCtE
import Derived.Test.YtiifmdgcnpdibaaDoorCtF
import Derived.Test.YtiifmdgcnpdibaaDoorCtG
import Derived.Test.YtiifmdgcnpdibaaDoorCtH
import Derived.Test.YtiifmdgcnpdibaaDoorCtJ
import Derived.Test.YtiifmdgcnpdibaaDoorCtK
import Derived.Test.YtiifmdgcnpdibaaDoorCtS
import Derived.Test.YtiifmdgcnpdibaaDoorCtLC
import Derived.Test.YtiifmdgcnpdibaaDoorCtLD
namespace Go.Proofs.YtiifmdgcnpdibaaDoor
open Go.RowKit

set_option maxHeartbeats 4000000 in
theorem back_core (n : Int) (b len c : Nat) (A : Option Addr) (T : Nat → Nat) (w : World) (hL : LaidC w) (hT : U64s w A len T) (hlen : len ≤ 9223372036854775807) (hb : b < 18446744073709551616) :
    Calls Tryd.prog 10 #[.int .i64 n, .int .u64 b, .slice A len c] w fun e w' => e = .returned (.bool true) ∧ Below w.heap.size w w' := by
  have HL := Lib.hid hL
  have HX := Lib.hid hT
  have HB := Lib.hid (Below.refl w.heap.size w)
  have H1 := Lib.hid (fun W (hW : U64s W A len T) => ctChk_any n b len c A T W hW hlen hb)
  by_cases h0 : n < 0
  · have hd1 : decide (n < 0) = true := decide_eq_true h0
    clear hL hT h0 H1
    go_enter Tryd.func10, Tryd.ntmps10
    go_wp2_with (go_at_call 16; refine (awake_any _ (HL.out.below HB.out)).mono ?_; rintro e w2 ⟨rfl, hst⟩; have HB := Lib.hid (HB.out.trans (hst.mono HB.out.size)); clear hst)
    go_ret
    exact ⟨rfl, HB.out⟩
  have hd1 : decide (n < 0) = false := decide_eq_false h0
  by_cases h3 : 3 < n
  · have hd2 : decide (3 < n) = true := decide_eq_true h3
    clear hL hT h0 h3 H1
    go_enter Tryd.func10, Tryd.ntmps10
    go_wp2_with (go_at_call 16; refine (awake_any _ (HL.out.below HB.out)).mono ?_; rintro e w2 ⟨rfl, hst⟩; have HB := Lib.hid (HB.out.trans (hst.mono HB.out.size)); clear hst)
    go_ret
    exact ⟨rfl, HB.out⟩
  have hd2 : decide (3 < n) = false := decide_eq_false h3
  by_cases h8 : 256 < len
  · have hd3 : decide ((256 : Int) < (len : Int)) = true := decide_eq_true (by omega)
    clear hL hT h0 h3 H1
    go_enter Tryd.func10, Tryd.ntmps10
    go_wp2_with (go_at_call 16; refine (awake_any _ (HL.out.below HB.out)).mono ?_; rintro e w2 ⟨rfl, hst⟩; have HB := Lib.hid (HB.out.trans (hst.mono HB.out.size)); clear hst)
    go_ret
    exact ⟨rfl, HB.out⟩
  have hd3 : decide ((256 : Int) < (len : Int)) = false := decide_eq_false (by omega)
  by_cases hE : ctChk n b len T = 0
  case neg =>
    obtain ⟨E, eE⟩ : ∃ E, E = ctChk n b len T := ⟨_, rfl⟩
    rw [← eE] at H1 hE
    have hne : ((E : Int) != 0) = true := by rw [bne_iff_ne]; omega
    clear hL hT h0 h3 eE
    go_enter Tryd.func10, Tryd.ntmps10
    go_wp2_with (first | (go_at_call 25; refine (H1.out _ HX.out).mono ?_; rintro e w2 ⟨rfl, hst⟩; have HX := Lib.hid (HX.out.below hst); have HB := Lib.hid (HB.out.trans (hst.mono HB.out.size)); have HST := Lib.hid hst; clear hst) | (go_at_call 16; refine (awake_any _ (HL.out.below HB.out)).mono ?_; rintro e w2 ⟨rfl, hst⟩; have HB := Lib.hid (HB.out.trans (hst.mono HB.out.size)); clear hst))
    go_ret
    exact ⟨rfl, HB.out⟩
  case pos =>
    obtain ⟨k, rfl, hk, hl, hbS, ht⟩ := ctChk_ok hE
    obtain ⟨N, hN⟩ : ∃ N, N = 2 ^ k := ⟨_, rfl⟩
    obtain ⟨S, hS⟩ : ∃ S, S = 2 ^ N := ⟨_, rfl⟩
    rw [← hN, ← hS] at hl hbS ht
    subst hl
    have hTl := tab_lt ht
    have hN8 : N ≤ 8 := by rw [hN]; exact Nat.le_trans (Nat.pow_le_pow_right (n := 2) (j := 3) (by decide) hk) (by decide)
    obtain ⟨v1, v2, v3, v4⟩ := two_val8 hN8 hS
    rw [hE] at H1
    have hll : ∀ x, x < len → leviF len T x < len := fun x hx => Nat.lt_of_le_of_lt Nat.and_le_left hx
    have hEL := chk_of hk hN hS hbS hll
    have H2 := Lib.hid (fun W (hW : U64s W A len T) => Levi_any k b len c A T W hW hlen hb)
    have H3 := Lib.hid (fun W cc B (hW : U64s W B len (leviF len T)) => Harper_any k b len cc B (leviF len T) W hW hlen hb)
    have hc0 : cM 0 len = len := if_pos rfl
    rw [hE, hc0] at H2
    rw [hEL, hc0] at H3
    have H4 := Lib.hid (fun W (hl : LaidC W) (hW : U64s W A len T) => sat_any k N len b 4 c A T W hl hW hk hN hS hbS hE (by decide))
    have HQ := Lib.hid (show satB len b T 4 = true → ∀ W c1 B, U64s W B len (harpF len b (leviF len T)) → U64s W A len T → Calls Tryd.prog 15 #[.slice B len c1, .slice A len c] W fun e w' => e = .returned (.bool true) ∧ Below W.heap.size W w' from fun h W c1 B hB hA => by
      have := sameU_any B A len len c1 c _ _ W hB hA (by omega) (by omega)
      rwa [eqU_iff.2 ⟨rfl, levi_harp hS hN8 hbS hTl (satB_iff.1 h)⟩] at this)
    have H5 := Lib.hid (fun W (hW : U64s W A len T) => Order_any k b len c A T W hW hlen hb)
    have HR := Lib.hid (show orE k b len T = 0 → ∀ W c1 B, I64s W B (orM k b len T) (orF k b T) → Calls Tryd.prog 36 #[.int .i64 k, .slice B (orM k b len T) c1] W (SlcU 0 len (leviF len T) W) from fun h W c1 B hB => by
      have hb0 : b ≠ 0 := fun h0 => by unfold orE at h; rw [if_pos hE, if_pos h0] at h; cases h
      have ho : ordOk N len b T = true := by
        rw [orE_ok hN hE hb0] at h
        cases h1 : ordOk N len b T
        · rw [h1] at h; cases h
        · rfl
      have hm : orM k b len T = N := by unfold orM; rw [if_pos h, Int.toNat_natCast, hN]
      have hf : orF k b T = ordI b T N := by unfold orF; rw [Int.toNat_natCast, hN]
      rw [hm, hf] at hB
      rw [hm]
      refine (Table_in k N len c1 B _ W hB hk hN hS (ord_rev hk hN hN8)).mono ?_
      rintro e w2 ⟨C, rfl, hu, hst⟩
      have hu2 := hu.congr (levi_rank hS hN8 hbS hb0 hTl ho)
      exact ⟨_, _, rfl, hu2.u64s fun x hx => by have := hll x hx; omega, hst⟩)
    obtain ⟨l, el⟩ : ∃ l, l = leviF len T := ⟨_, rfl⟩
    rw [← el] at H2 H3 HQ HR
    obtain ⟨h, eh⟩ : ∃ h, h = harpF len b l := ⟨_, rfl⟩
    rw [← eh] at H3 HQ
    obtain ⟨s, es⟩ : ∃ s, s = satB len b T 4 := ⟨_, rfl⟩
    rw [← es] at H4 HQ
    obtain ⟨F, eF⟩ : ∃ F, F = orE k b len T := ⟨_, rfl⟩
    obtain ⟨q, eq⟩ : ∃ q, q = orM k b len T := ⟨_, rfl⟩
    obtain ⟨r, er⟩ : ∃ r, r = orF k b T := ⟨_, rfl⟩
    rw [← eF, ← eq, ← er] at H5 HR
    have H6 := Lib.hid (fun W c1 c2 B1 B2 (hB : U64s W B1 len l) (hA : U64s W B2 len l) => sameU_any B1 B2 len len c1 c2 _ _ W hB hA (by omega) (by omega))
    rw [eqU_iff.2 ⟨rfl, fun _ _ => rfl⟩] at H6
    clear hL hT h0 h3 hE hN hS ht hTl hbS v1 v2 hll hEL hc0 el eh es eF eq er
    go_enter Tryd.func10, Tryd.ntmps10
    go_upto_region 4 with (first | (go_at_call 25; refine (H1.out _ HX.out).mono ?_; rintro e w2 ⟨rfl, hst⟩; have HX := Lib.hid (HX.out.below hst); have HB := Lib.hid (HB.out.trans (hst.mono HB.out.size)); have HST := Lib.hid hst; clear hst) | (go_at_call 30; refine (H2.out _ HX.out).mono ?_; rintro e w2 ⟨A1, c1, rfl, hu, hst⟩; have HX := Lib.hid (HX.out.below hst); have HB := Lib.hid (HB.out.trans (hst.mono HB.out.size)); have HU1 := Lib.hid hu; have HST := Lib.hid hst; clear hu hst))
    go_upto_region 5 with ((go_at_call 32; refine (H3.out _ _ _ HU1.out).mono ?_; rintro e w2 ⟨A2, c2, rfl, hu, hst⟩; have HX := Lib.hid (HX.out.below hst); have HB := Lib.hid (HB.out.trans (hst.mono HB.out.size)); have HU2 := Lib.hid hu; have HST := Lib.hid hst; clear hu hst); have HU1 := Lib.hid (HU1.out.below HST.out))
    cases s
    · go_upto_region 9 with (go_at_call 28; refine (H4.out _ (HL.out.below HB.out) HX.out).mono ?_; rintro e w2 ⟨rfl, hst⟩; have HX := Lib.hid (HX.out.below hst); have HB := Lib.hid (HB.out.trans (hst.mono HB.out.size)); have HST := Lib.hid hst; clear hst)
      have HU1 := Lib.hid (HU1.out.below HST.out)
      clear HU2 HST
      by_cases hF : F = 0
      · subst hF
        go_upto_region 12 with ((go_at_call 29; refine (H5.out _ HX.out).mono ?_; rintro e w2 ⟨A3, c3, rfl, hu, hst⟩; have HX := Lib.hid (HX.out.below hst); have HB := Lib.hid (HB.out.trans (hst.mono HB.out.size)); have HU3 := Lib.hid hu; have HST := Lib.hid hst; clear hu hst); have HU1 := Lib.hid (HU1.out.below HST.out))
        go_upto_region 13 with ((go_at_call 36; refine (HR.out (by trivial) _ _ _ HU3.out).mono ?_; rintro e w2 ⟨A4, c4, rfl, hu, hst⟩; have HX := Lib.hid (HX.out.below hst); have HB := Lib.hid (HB.out.trans (hst.mono HB.out.size)); have HU4 := Lib.hid hu; have HST := Lib.hid hst; clear hu hst); have HU1 := Lib.hid (HU1.out.below HST.out))
        go_wp2_with (first | (go_at_call 15; refine (H6.out _ _ _ _ _ HU4.out HU1.out).mono ?_; rintro e w2 ⟨rfl, hst⟩; have HX := Lib.hid (HX.out.below hst); have HB := Lib.hid (HB.out.trans (hst.mono HB.out.size)); have HST := Lib.hid hst; clear hst) | (go_at_call 16; refine (awake_any _ (HL.out.below HB.out)).mono ?_; rintro e w2 ⟨rfl, hst⟩; have HB := Lib.hid (HB.out.trans (hst.mono HB.out.size)); clear hst))
        go_ret
        exact ⟨rfl, HB.out⟩
      · have hne : ((F : Int) != 0) = true := by rw [bne_iff_ne]; omega
        go_wp2_with (first | (go_at_call 29; refine (H5.out _ HX.out).mono ?_; rintro e w2 ⟨A3, c3, rfl, hu, hst⟩; have HX := Lib.hid (HX.out.below hst); have HB := Lib.hid (HB.out.trans (hst.mono HB.out.size)); have HU3 := Lib.hid hu; have HST := Lib.hid hst; clear hu hst) | (go_at_call 16; refine (awake_any _ (HL.out.below HB.out)).mono ?_; rintro e w2 ⟨rfl, hst⟩; have HB := Lib.hid (HB.out.trans (hst.mono HB.out.size)); clear hst))
        go_ret
        exact ⟨rfl, HB.out⟩
    · go_upto_region 9 with (first | ((go_at_call 28; refine (H4.out _ (HL.out.below HB.out) HX.out).mono ?_; rintro e w2 ⟨rfl, hst⟩; have HX := Lib.hid (HX.out.below hst); have HB := Lib.hid (HB.out.trans (hst.mono HB.out.size)); have HST := Lib.hid hst; clear hst); have HU1 := Lib.hid (HU1.out.below HST.out); have HU2 := Lib.hid (HU2.out.below HST.out); clear HST) | (go_at_call 15; refine (HQ.out (by trivial) _ _ _ HU2.out HX.out).mono ?_; rintro e w2 ⟨rfl, hst⟩; have HX := Lib.hid (HX.out.below hst); have HB := Lib.hid (HB.out.trans (hst.mono HB.out.size)); have HST := Lib.hid hst; clear hst))
      have HU1 := Lib.hid (HU1.out.below HST.out)
      clear HU2 HST
      by_cases hF : F = 0
      · subst hF
        go_upto_region 12 with ((go_at_call 29; refine (H5.out _ HX.out).mono ?_; rintro e w2 ⟨A3, c3, rfl, hu, hst⟩; have HX := Lib.hid (HX.out.below hst); have HB := Lib.hid (HB.out.trans (hst.mono HB.out.size)); have HU3 := Lib.hid hu; have HST := Lib.hid hst; clear hu hst); have HU1 := Lib.hid (HU1.out.below HST.out))
        go_upto_region 13 with ((go_at_call 36; refine (HR.out (by trivial) _ _ _ HU3.out).mono ?_; rintro e w2 ⟨A4, c4, rfl, hu, hst⟩; have HX := Lib.hid (HX.out.below hst); have HB := Lib.hid (HB.out.trans (hst.mono HB.out.size)); have HU4 := Lib.hid hu; have HST := Lib.hid hst; clear hu hst); have HU1 := Lib.hid (HU1.out.below HST.out))
        go_wp2_with (first | (go_at_call 15; refine (H6.out _ _ _ _ _ HU4.out HU1.out).mono ?_; rintro e w2 ⟨rfl, hst⟩; have HX := Lib.hid (HX.out.below hst); have HB := Lib.hid (HB.out.trans (hst.mono HB.out.size)); have HST := Lib.hid hst; clear hst) | (go_at_call 16; refine (awake_any _ (HL.out.below HB.out)).mono ?_; rintro e w2 ⟨rfl, hst⟩; have HB := Lib.hid (HB.out.trans (hst.mono HB.out.size)); clear hst))
        go_ret
        exact ⟨rfl, HB.out⟩
      · have hne : ((F : Int) != 0) = true := by rw [bne_iff_ne]; omega
        go_wp2_with (first | (go_at_call 29; refine (H5.out _ HX.out).mono ?_; rintro e w2 ⟨A3, c3, rfl, hu, hst⟩; have HX := Lib.hid (HX.out.below hst); have HB := Lib.hid (HB.out.trans (hst.mono HB.out.size)); have HU3 := Lib.hid hu; have HST := Lib.hid hst; clear hu hst) | (go_at_call 16; refine (awake_any _ (HL.out.below HB.out)).mono ?_; rintro e w2 ⟨rfl, hst⟩; have HB := Lib.hid (HB.out.trans (hst.mono HB.out.size)); clear hst))
        go_ret
        exact ⟨rfl, HB.out⟩
end Go.Proofs.YtiifmdgcnpdibaaDoor
