/-
  Walks: the laws ContractionResults, ContractionChoices, ContractionRanks, ContractionPostulates, ContractionIdentities.
-/
import Derived.Test.YtiifmdgcnpdibaaDoorProg
import Derived.Test.YtiifmdgcnpdibaaDoorBase
import Derived.Test.YtiifmdgcnpdibaaDoorRow
import Derived.Test.YtiifmdgcnpdibaaDoorRowU
import Derived.Test.YtiifmdgcnpdibaaDoorRowsOf
import Derived.Test.YtiifmdgcnpdibaaDoorLeast
import Derived.Test.YtiifmdgcnpdibaaDoorRkQ
import Derived.Test.YtiifmdgcnpdibaaDoorRkB
import Derived.Test.YtiifmdgcnpdibaaDoorRkC3
import Derived.Test.YtiifmdgcnpdibaaDoorPoP
import Derived.Test.YtiifmdgcnpdibaaDoorSlcU
import Derived.Test.YtiifmdgcnpdibaaDoorCtP
import Derived.Test.YtiifmdgcnpdibaaDoorCtQ
import Derived.Test.YtiifmdgcnpdibaaDoorCtO
import Derived.Test.YtiifmdgcnpdibaaDoorCtA
import Derived.Test.YtiifmdgcnpdibaaDoorCtB
import Derived.Test.YtiifmdgcnpdibaaDoorCtE
import Derived.Test.YtiifmdgcnpdibaaDoorCtF
import Derived.Test.YtiifmdgcnpdibaaDoorCtG
import Derived.Test.YtiifmdgcnpdibaaDoorCtH
import Derived.Test.YtiifmdgcnpdibaaDoorCtJ
import Derived.Test.YtiifmdgcnpdibaaDoorCtK
import Derived.Test.YtiifmdgcnpdibaaDoorCtS
import Derived.Test.YtiifmdgcnpdibaaDoorCtRA
import Derived.Test.YtiifmdgcnpdibaaDoorCtRB
import Derived.Test.YtiifmdgcnpdibaaDoorCtRC
import Derived.Test.YtiifmdgcnpdibaaDoorCtRD
import Derived.Test.YtiifmdgcnpdibaaDoorCtRE
namespace Go.Proofs.YtiifmdgcnpdibaaDoor
open Go.RowKit

theorem eqU_self (n : Nat) (f : Nat → Nat) : eqU n n f f = true := eqU_iff.2 ⟨rfl, fun _ _ => rfl⟩
theorem eqI_self (n : Nat) (f : Nat → Int) : eqI n n f f = true := eqI_iff.2 ⟨rfl, fun _ _ => rfl⟩
theorem sameU_self (A B : Option Addr) (n c d : Nat) (f : Nat → Nat) (w : World) (hA : U64s w A n f) (hB : U64s w B n f) (hn : n ≤ 9223372036854775807) :
    Calls Tryd.prog 15 #[.slice A n c, .slice B n d] w fun e w' => e = .returned (.bool true) ∧ Below w.heap.size w w' := by
  have h := sameU_any A B n n c d f f w hA hB hn hn
  rwa [eqU_self] at h
theorem sameI_self (A B : Option Addr) (n c d : Nat) (f : Nat → Int) (w : World) (hA : I64s w A n f) (hB : I64s w B n f) (hn : n ≤ 9223372036854775807) :
    Calls Tryd.prog 35 #[.slice A n c, .slice B n d] w fun e w' => e = .returned (.bool true) ∧ Below w.heap.size w w' := by
  have h := same_any A B n n c d f f w hA hB hn hn
  rwa [eqI_self] at h
theorem remR_len (n : Int) (b x : Nat) : (remR n b x).length ≤ 16 := by
  unfold remR
  by_cases h : ctErr 4 n b x = 0
  · rw [if_pos h]
    obtain ⟨k, rfl, hk, _, _⟩ := ctErr_ok h
    unfold remL
    split
    · show 1 ≤ 16; decide
    · rw [List.length_map]
      refine Nat.le_trans (List.length_filter_le _ _) ?_
      rw [List.length_range, Int.toNat_natCast]
      exact Nat.pow_le_pow_right (n := 2) (j := 4) (by decide) hk
  · rw [if_neg h]; decide
set_option maxHeartbeats 2000000 in
theorem results_core (n : Int) (b x : Nat) (w : World) (hL : LaidC w) (hb : b < 18446744073709551616) (hx : x < 18446744073709551616) :
    Calls Tryd.prog 3 #[.int .i64 n, .int .u64 b, .int .u64 x] w fun e w' => e = .returned (.bool true) ∧ Below w.heap.size w w' := by
  have HL := Lib.hid hL
  have hm := remR_len n b x
  have H1 := Lib.hid (fun W => Remainders_any n b x W hb hx)
  have H2 := Lib.hid (fun W => rRemainders_any n b x W hb hx)
  have H3 := Lib.hid (fun W => Full_any n b x W hb hx)
  have H4 := Lib.hid (fun W => rFull_any n b x W hb hx)
  obtain ⟨E, eE⟩ : ∃ E, E = ctErr 4 n b x := ⟨_, rfl⟩
  obtain ⟨m, em⟩ : ∃ m, m = (remR n b x).length := ⟨_, rfl⟩
  obtain ⟨g, eg⟩ : ∃ g, g = ln (remR n b x) := ⟨_, rfl⟩
  obtain ⟨V, eV⟩ : ∃ V, V = fulR n b x := ⟨_, rfl⟩
  rw [← eE, ← em, ← eg] at H1 H2
  rw [← eE, ← eV] at H3 H4
  rw [← em] at hm
  have hE : ((E : Int) == (E : Int)) = true := by simp
  have hV : ((V : Int) == (V : Int)) = true := by simp
  clear hL eE em eg eV
  have HX := Lib.hid (i64s_nil w (fun _ => 0) none)
  have HB := Lib.hid (Below.refl w.heap.size w)
  go_enter Tryd.func3, Tryd.ntmps3
  go_upto_region 2 with (go_at_call 11; refine (H1.out _).mono ?_; rintro e w2 ⟨A1, c1, rfl, hu, hst⟩; have HX := Lib.hid (HX.out.below hst); have HB := Lib.hid (HB.out.trans (hst.mono HB.out.size)); have HU1 := Lib.hid hu; have HST := Lib.hid hst; clear hu hst)
  go_upto_region 5 with (first | ((go_at_call 12; refine (H2.out _).mono ?_; rintro e w2 ⟨A2, c2, rfl, hu, hst⟩; have HX := Lib.hid (HX.out.below hst); have HB := Lib.hid (HB.out.trans (hst.mono HB.out.size)); have HU2 := Lib.hid hu; have HST := Lib.hid hst; clear hu hst); have HU1 := Lib.hid (HU1.out.below HST.out)) | (go_at_call 13; refine (H3.out _).mono ?_; rintro e w' ⟨rfl, rfl⟩) | (go_at_call 14; refine (H4.out _).mono ?_; rintro e w' ⟨rfl, rfl⟩))
  go_wp2_with (first | (go_at_call 15; refine (sameU_self _ _ _ _ _ _ _ HU1.out HU2.out (by omega)).mono ?_; rintro e w2 ⟨rfl, hst⟩; have HB := Lib.hid (HB.out.trans (hst.mono HB.out.size)); clear hst) | (go_at_call 16; refine (awake_any _ (HL.out.below HB.out)).mono ?_; rintro e w2 ⟨rfl, hst⟩; have HB := Lib.hid (HB.out.trans (hst.mono HB.out.size)); clear hst))
  go_ret
  exact ⟨rfl, HB.out⟩
set_option maxHeartbeats 2000000 in
theorem choices_core (n : Int) (b x len c : Nat) (A : Option Addr) (f : Nat → Int) (w : World) (hL : LaidC w) (hf : I64s w A len f) (hlen : len ≤ 9223372036854775807) (hb : b < 18446744073709551616) (hx : x < 18446744073709551616) :
    Calls Tryd.prog 4 #[.int .i64 n, .agg #[.int .u64 b, .int .u64 x], .slice A len c] w fun e w' => e = .returned (.bool true) ∧ Below w.heap.size w w' := by
  have HL := Lib.hid hL
  obtain ⟨d0, d1, hB⟩ := cells_two w (.int .u64 b) (.int .u64 x) 31
  have HX := Lib.hid (hf.below hB)
  have HB := Lib.hid hB
  by_cases h100 : 100 < len
  · have hd : decide ((100 : Int) < (len : Int)) = true := decide_eq_true (by omega)
    clear hL hf hB
    go_enter Tryd.func4, Tryd.ntmps4
    go_upto_region 1 with (fail)
    generalize w.alloc _ = W at d0 d1 HX HB ⊢
    go_wp2_with (go_at_call 16; refine (awake_any _ (HL.out.below HB.out)).mono ?_; rintro e w2 ⟨rfl, hst⟩; have HB := Lib.hid (HB.out.trans (hst.mono HB.out.size)); clear hst)
    go_ret
    exact ⟨rfl, HB.out⟩
  · have hd : decide ((100 : Int) < (len : Int)) = false := decide_eq_false (by omega)
    have H1 := Lib.hid (fun W (hW : I64s W A len f) => Choice_any n b x len c A f W hW (by omega) hb hx)
    have H2 := Lib.hid (fun W (hW : I64s W A len f) => rChoice_any n b x len c A f W hW (by omega) hb hx)
    obtain ⟨E, eE⟩ : ∃ E, E = chE n b x len f := ⟨_, rfl⟩
    obtain ⟨V, eV⟩ : ∃ V, V = chR n b x len f := ⟨_, rfl⟩
    rw [← eE, ← eV] at H1 H2
    have hE : ((E : Int) == (E : Int)) = true := by simp
    have hV : ((V : Int) == (V : Int)) = true := by simp
    clear hL hf hB eE eV
    go_enter Tryd.func4, Tryd.ntmps4
    go_upto_region 1 with (fail)
    generalize w.heap.size = B0 at d0 d1 ⊢
    generalize w.alloc _ = W at d0 d1 HX HB ⊢
    go_upto_region 4 with (go_at_call 17; refine (H1.out _ HX.out).mono ?_; rintro e w2 ⟨rfl, hst⟩; have HX := Lib.hid (HX.out.below hst); have HB := Lib.hid (HB.out.trans (hst.mono HB.out.size)); have d0 := cell_below hst d0; have d1 := cell_below hst d1; clear hst)
    go_wp2_with (first | (go_at_call 18; refine (H2.out _ HX.out).mono ?_; rintro e w' ⟨rfl, rfl⟩) | (go_at_call 16; refine (awake_any _ (HL.out.below HB.out)).mono ?_; rintro e w2 ⟨rfl, hst⟩; have HB := Lib.hid (HB.out.trans (hst.mono HB.out.size)); clear hst))
    go_ret
    exact ⟨rfl, HB.out⟩
set_option maxHeartbeats 2000000 in
theorem ranks_core (n : Int) (x len c : Nat) (A : Option Addr) (f : Nat → Int) (w : World) (hL : LaidC w) (hf : I64s w A len f) (hlen : len ≤ 9223372036854775807) (hx : x < 18446744073709551616) :
    Calls Tryd.prog 5 #[.int .i64 n, .slice A len c, .int .u64 x] w fun e w' => e = .returned (.bool true) ∧ Below w.heap.size w w' := by
  have HL := Lib.hid hL
  have HX := Lib.hid hf
  have HB := Lib.hid (Below.refl w.heap.size w)
  by_cases h100 : 100 < len
  · have hd : decide ((100 : Int) < (len : Int)) = true := decide_eq_true (by omega)
    clear hL hf
    go_enter Tryd.func5, Tryd.ntmps5
    go_wp2_with (go_at_call 16; refine (awake_any _ (HL.out.below HB.out)).mono ?_; rintro e w2 ⟨rfl, hst⟩; have HB := Lib.hid (HB.out.trans (hst.mono HB.out.size)); clear hst)
    go_ret
    exact ⟨rfl, HB.out⟩
  · have hd : decide ((100 : Int) < (len : Int)) = false := decide_eq_false (by omega)
    have H1 := Lib.hid (fun W (hW : I64s W A len f) => ByRanks_any n len c x A f W hW (by omega) hx)
    have H2 := Lib.hid (fun W (hW : I64s W A len f) => rByRanks_any n len c x A f W hW (by omega) hx)
    have H3 := Lib.hid (fun W (hW : I64s W A len f) => ctTable_any n len c A f W hW (by omega))
    have H4 := Lib.hid (fun W (hW : I64s W A len f) => rCtTable_any n len c A f W hW (by omega))
    have hm : ctM n len f ≤ 65536 := by
      unfold ctM
      by_cases h : tabE n len f = 0
      · rw [if_pos h]
        unfold tabE at h
        by_cases h2 : revErr n len f = 0
        · obtain ⟨k, rfl, hk, hN, -⟩ := revErr_ok h2
          exact Nat.pow_le_pow_right (n := 2) (j := 16) (by decide) (pow_le16 hN hk)
        · rw [if_neg h2] at h; exact absurd h h2
      · rw [if_neg h]; decide
    obtain ⟨E, eE⟩ : ∃ E, E = brErr n len f x := ⟨_, rfl⟩
    obtain ⟨V, eV⟩ : ∃ V, V = brV n len f x := ⟨_, rfl⟩
    obtain ⟨F, eF⟩ : ∃ F, F = tabE n len f := ⟨_, rfl⟩
    obtain ⟨m, em⟩ : ∃ m, m = ctM n len f := ⟨_, rfl⟩
    obtain ⟨g, eg⟩ : ∃ g, g = ctT len f := ⟨_, rfl⟩
    rw [← eE, ← eV] at H1 H2
    rw [← eF, ← em, ← eg] at H3 H4
    rw [← em] at hm
    have hE : ((E : Int) == (E : Int)) = true := by simp
    have hV : ((V : Int) == (V : Int)) = true := by simp
    have hF : ((F : Int) == (F : Int)) = true := by simp
    clear hL hf eE eV eF em eg
    go_enter Tryd.func5, Tryd.ntmps5
    go_upto_region 5 with (first | (go_at_call 19; refine (H1.out _ HX.out).mono ?_; rintro e w2 ⟨rfl, hst⟩; have HX := Lib.hid (HX.out.below hst); have HB := Lib.hid (HB.out.trans (hst.mono HB.out.size)); clear hst) | (go_at_call 20; refine (H2.out _ HX.out).mono ?_; rintro e w2 ⟨rfl, hst⟩; have HX := Lib.hid (HX.out.below hst); have HB := Lib.hid (HB.out.trans (hst.mono HB.out.size)); clear hst))
    go_upto_region 6 with (go_at_call 21; refine (H3.out _ HX.out).mono ?_; rintro e w2 ⟨A1, c1, rfl, hu, hst⟩; have HX := Lib.hid (HX.out.below hst); have HB := Lib.hid (HB.out.trans (hst.mono HB.out.size)); have HU1 := Lib.hid hu; have HST := Lib.hid hst; clear hu hst)
    go_upto_region 7 with ((go_at_call 22; refine (H4.out _ HX.out).mono ?_; rintro e w2 ⟨A2, c2, rfl, hu, hst⟩; have HX := Lib.hid (HX.out.below hst); have HB := Lib.hid (HB.out.trans (hst.mono HB.out.size)); have HU2 := Lib.hid hu; have HST := Lib.hid hst; clear hu hst); have HU1 := Lib.hid (HU1.out.below HST.out))
    go_wp2_with (first | (go_at_call 15; refine (sameU_self _ _ _ _ _ _ _ HU1.out HU2.out (by omega)).mono ?_; rintro e w2 ⟨rfl, hst⟩; have HB := Lib.hid (HB.out.trans (hst.mono HB.out.size)); clear hst) | (go_at_call 16; refine (awake_any _ (HL.out.below HB.out)).mono ?_; rintro e w2 ⟨rfl, hst⟩; have HB := Lib.hid (HB.out.trans (hst.mono HB.out.size)); clear hst))
    go_ret
    exact ⟨rfl, HB.out⟩
set_option maxHeartbeats 2000000 in
theorem identities_core (n : Int) (b len c : Nat) (A : Option Addr) (T : Nat → Nat) (w : World) (hL : LaidC w) (hT : U64s w A len T) (hlen : len ≤ 9223372036854775807) (hb : b < 18446744073709551616) :
    Calls Tryd.prog 9 #[.int .i64 n, .int .u64 b, .slice A len c] w fun e w' => e = .returned (.bool true) ∧ Below w.heap.size w w' := by
  have HL := Lib.hid hL
  have HX := Lib.hid hT
  have HB := Lib.hid (Below.refl w.heap.size w)
  by_cases h300 : 300 < len
  · have hd : decide ((300 : Int) < (len : Int)) = true := decide_eq_true (by omega)
    clear hL hT
    go_enter Tryd.func9, Tryd.ntmps9
    go_wp2_with (go_at_call 16; refine (awake_any _ (HL.out.below HB.out)).mono ?_; rintro e w2 ⟨rfl, hst⟩; have HB := Lib.hid (HB.out.trans (hst.mono HB.out.size)); clear hst)
    go_ret
    exact ⟨rfl, HB.out⟩
  · have hd : decide ((300 : Int) < (len : Int)) = false := decide_eq_false (by omega)
    have H1 := Lib.hid (fun W (hW : U64s W A len T) => Levi_any n b len c A T W hW hlen hb)
    have H2 := Lib.hid (fun W (hW : U64s W A len T) => rLevi_any n b len c A T W hW hlen hb)
    have H3 := Lib.hid (fun W (hW : U64s W A len T) => Harper_any n b len c A T W hW hlen hb)
    have H4 := Lib.hid (fun W (hW : U64s W A len T) => rHarper_any n b len c A T W hW hlen hb)
    have H5 := Lib.hid (fun W (hW : U64s W A len T) => Order_any n b len c A T W hW hlen hb)
    have H6 := Lib.hid (fun W (hW : U64s W A len T) => rOrder_any n b len c A T W hW hlen hb)
    have hm : cM (ctChk n b len T) len ≤ 300 := by unfold cM; split <;> omega
    have ho : orM n b len T ≤ 65536 := by
      unfold orM
      by_cases h : orE n b len T = 0
      · rw [if_pos h]
        unfold orE at h
        by_cases h2 : ctChk n b len T = 0
        · obtain ⟨k, rfl, hk, _⟩ := ctChk_ok h2
          rw [Int.toNat_natCast]
          exact Nat.le_trans (Nat.pow_le_pow_right (n := 2) (j := 3) (by decide) hk) (by decide)
        · rw [if_neg h2] at h; exact absurd h h2
      · rw [if_neg h]; decide
    obtain ⟨E, eE⟩ : ∃ E, E = ctChk n b len T := ⟨_, rfl⟩
    rw [← eE] at H1 H2 H3 H4 hm
    obtain ⟨m, em⟩ : ∃ m, m = cM E len := ⟨_, rfl⟩
    obtain ⟨g, eg⟩ : ∃ g, g = leviF len T := ⟨_, rfl⟩
    obtain ⟨h, eh⟩ : ∃ h, h = harpF len b T := ⟨_, rfl⟩
    obtain ⟨F, eF⟩ : ∃ F, F = orE n b len T := ⟨_, rfl⟩
    obtain ⟨q, eq⟩ : ∃ q, q = orM n b len T := ⟨_, rfl⟩
    obtain ⟨r, er⟩ : ∃ r, r = orF n b T := ⟨_, rfl⟩
    rw [← em, ← eg] at H1 H2
    rw [← em, ← eh] at H3 H4
    rw [← eF, ← eq, ← er] at H5 H6
    rw [← em] at hm
    rw [← eq] at ho
    have hE : ((E : Int) == (E : Int)) = true := by simp
    have hF : ((F : Int) == (F : Int)) = true := by simp
    clear hL hT eE em eg eh eF eq er
    go_enter Tryd.func9, Tryd.ntmps9
    go_upto_region 4 with (go_at_call 30; refine (H1.out _ HX.out).mono ?_; rintro e w2 ⟨A1, c1, rfl, hu, hst⟩; have HX := Lib.hid (HX.out.below hst); have HB := Lib.hid (HB.out.trans (hst.mono HB.out.size)); have HU1 := Lib.hid hu; have HST := Lib.hid hst; clear hu hst)
    go_upto_region 5 with ((go_at_call 31; refine (H2.out _ HX.out).mono ?_; rintro e w2 ⟨A2, c2, rfl, hu, hst⟩; have HX := Lib.hid (HX.out.below hst); have HB := Lib.hid (HB.out.trans (hst.mono HB.out.size)); have HU2 := Lib.hid hu; have HST := Lib.hid hst; clear hu hst); have HU1 := Lib.hid (HU1.out.below HST.out))
    go_upto_region 6 with ((go_at_call 32; refine (H3.out _ HX.out).mono ?_; rintro e w2 ⟨A3, c3, rfl, hu, hst⟩; have HX := Lib.hid (HX.out.below hst); have HB := Lib.hid (HB.out.trans (hst.mono HB.out.size)); have HU3 := Lib.hid hu; have HST := Lib.hid hst; clear hu hst); have HU1 := Lib.hid (HU1.out.below HST.out); have HU2 := Lib.hid (HU2.out.below HST.out))
    go_upto_region 7 with ((go_at_call 33; refine (H4.out _ HX.out).mono ?_; rintro e w2 ⟨A4, c4, rfl, hu, hst⟩; have HX := Lib.hid (HX.out.below hst); have HB := Lib.hid (HB.out.trans (hst.mono HB.out.size)); have HU4 := Lib.hid hu; have HST := Lib.hid hst; clear hu hst); have HU1 := Lib.hid (HU1.out.below HST.out); have HU2 := Lib.hid (HU2.out.below HST.out); have HU3 := Lib.hid (HU3.out.below HST.out))
    go_upto_region 8 with ((go_at_call 29; refine (H5.out _ HX.out).mono ?_; rintro e w2 ⟨A5, c5, rfl, hu, hst⟩; have HX := Lib.hid (HX.out.below hst); have HB := Lib.hid (HB.out.trans (hst.mono HB.out.size)); have HU5 := Lib.hid hu; have HST := Lib.hid hst; clear hu hst); have HU1 := Lib.hid (HU1.out.below HST.out); have HU2 := Lib.hid (HU2.out.below HST.out); have HU3 := Lib.hid (HU3.out.below HST.out); have HU4 := Lib.hid (HU4.out.below HST.out))
    go_upto_region 9 with ((go_at_call 34; refine (H6.out _ HX.out).mono ?_; rintro e w2 ⟨A6, c6, rfl, hu, hst⟩; have HX := Lib.hid (HX.out.below hst); have HB := Lib.hid (HB.out.trans (hst.mono HB.out.size)); have HU6 := Lib.hid hu; have HST := Lib.hid hst; clear hu hst); have HU1 := Lib.hid (HU1.out.below HST.out); have HU2 := Lib.hid (HU2.out.below HST.out); have HU3 := Lib.hid (HU3.out.below HST.out); have HU4 := Lib.hid (HU4.out.below HST.out); have HU5 := Lib.hid (HU5.out.below HST.out))
    go_wp2_with fail
    refine (sameU_self _ _ _ _ _ _ _ HU1.out HU2.out (by omega)).mono ?_
    rintro e w2 ⟨rfl, hst⟩
    have HB := Lib.hid (HB.out.trans (hst.mono HB.out.size))
    have HU3 := Lib.hid (HU3.out.below hst)
    have HU4 := Lib.hid (HU4.out.below hst)
    have HU5 := Lib.hid (HU5.out.below hst)
    have HU6 := Lib.hid (HU6.out.below hst)
    clear hst HU1 HU2
    go_wp2_with fail
    refine (sameU_self _ _ _ _ _ _ _ HU3.out HU4.out (by omega)).mono ?_
    rintro e w3 ⟨rfl, hst⟩
    have HB := Lib.hid (HB.out.trans (hst.mono HB.out.size))
    have HU5 := Lib.hid (HU5.out.below hst)
    have HU6 := Lib.hid (HU6.out.below hst)
    clear hst HU3 HU4
    go_wp2_with fail
    refine (sameI_self _ _ _ _ _ _ _ HU5.out HU6.out (by omega)).mono ?_
    rintro e w4 ⟨rfl, hst⟩
    have HB := Lib.hid (HB.out.trans (hst.mono HB.out.size))
    clear hst HU5 HU6
    go_wp2_with (go_at_call 16; refine (awake_any _ (HL.out.below HB.out)).mono ?_; rintro e w2 ⟨rfl, hst⟩; have HB := Lib.hid (HB.out.trans (hst.mono HB.out.size)); clear hst)
    go_ret
    exact ⟨rfl, HB.out⟩
end Go.Proofs.YtiifmdgcnpdibaaDoor
