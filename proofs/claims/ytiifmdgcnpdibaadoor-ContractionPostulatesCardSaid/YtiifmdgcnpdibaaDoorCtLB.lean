/-
  Walks: the law ContractionPostulates.
-/
import Derived.Test.YtiifmdgcnpdibaaDoorProg
import Derived.Test.YtiifmdgcnpdibaaDoorBase
import Derived.Test.YtiifmdgcnpdibaaDoorRow
import Derived.Test.YtiifmdgcnpdibaaDoorRowU
import Derived.Test.YtiifmdgcnpdibaaDoorRowsOf
import Derived.Test.YtiifmdgcnpdibaaDoorLeast
import Derived.Test.YtiifmdgcnpdibaaDoorRkQ
import Derived.Test.YtiifmdgcnpdibaaDoorRkB
import Derived.Test.YtiifmdgcnpdibaaDoorRkC3
import Derived.Test.YtiifmdgcnpdibaaDoorPoP
import Derived.Test.YtiifmdgcnpdibaaDoorSlcU
import Derived.Test.YtiifmdgcnpdibaaDoorCtP
import Derived.Test.YtiifmdgcnpdibaaDoorCtQ
import Derived.Test.YtiifmdgcnpdibaaDoorCtO
import Derived.Test.YtiifmdgcnpdibaaDoorCtA
import Derived.Test.YtiifmdgcnpdibaaDoorCtB
import Derived.Test.YtiifmdgcnpdibaaDoorCtE
import Derived.Test.YtiifmdgcnpdibaaDoorCtF
import Derived.Test.YtiifmdgcnpdibaaDoorCtG
import Derived.Test.YtiifmdgcnpdibaaDoorCtH
import Derived.Test.YtiifmdgcnpdibaaDoorCtJ
import Derived.Test.YtiifmdgcnpdibaaDoorCtK
import Derived.Test.YtiifmdgcnpdibaaDoorCtS
import Derived.Test.YtiifmdgcnpdibaaDoorCtRA
import Derived.Test.YtiifmdgcnpdibaaDoorCtRB
import Derived.Test.YtiifmdgcnpdibaaDoorCtRC
import Derived.Test.YtiifmdgcnpdibaaDoorCtRD
import Derived.Test.YtiifmdgcnpdibaaDoorCtRE
import Derived.Test.YtiifmdgcnpdibaaDoorCtLA
namespace Go.Proofs.YtiifmdgcnpdibaaDoor
open Go.RowKit

set_option maxHeartbeats 2000000 in
theorem postulates_core (n : Int) (b q len c : Nat) (A : Option Addr) (T : Nat → Nat) (w : World) (hL : LaidC w) (hT : U64s w A len T) (hlen : len ≤ 9223372036854775807) (hb : b < 18446744073709551616) (_hq : q < 18446744073709551616) :
    Calls Tryd.prog 6 #[.int .i64 n, .agg #[.int .u64 b, .int .u64 q], .slice A len c] w fun e w' => e = .returned (.bool true) ∧ Below w.heap.size w w' := by
  have HL := Lib.hid hL
  obtain ⟨d0, d1, hB⟩ := cells_two w (.int .u64 b) (.int .u64 q) 31
  have HX := Lib.hid (hT.below hB)
  have HB := Lib.hid hB
  by_cases h300 : 300 < len
  · have hd : decide ((300 : Int) < (len : Int)) = true := decide_eq_true (by omega)
    clear hL hT hB
    go_enter Tryd.func6, Tryd.ntmps6
    go_upto_region 1 with (fail)
    generalize w.alloc _ = W at d0 d1 HX HB ⊢
    go_wp2_with (go_at_call 16; refine (awake_any _ (HL.out.below HB.out)).mono ?_; rintro e w2 ⟨rfl, hst⟩; have HB := Lib.hid (HB.out.trans (hst.mono HB.out.size)); clear hst)
    go_ret
    exact ⟨rfl, HB.out⟩
  · have hd : decide ((300 : Int) < (len : Int)) = false := decide_eq_false (by omega)
    obtain ⟨P, eP⟩ : ∃ P, P = IntKind.i64.wrap (q : Int) := ⟨_, rfl⟩
    have hcv : IntKind.i64.wrap (q : Int) = P := eP.symm
    have hP : -9223372036854775808 ≤ P ∧ P ≤ 9223372036854775807 := by rw [eP, IntKind.wrap_i64]; omega
    have H1 := Lib.hid (fun W (hl : LaidC W) (hW : U64s W A len T) => Holds_any n P b len c A T W hl hW hlen hb hP)
    have H2 := Lib.hid (fun W (hW : U64s W A len T) => rHolds_any n P b len c A T W hW hlen hb)
    have H3 := Lib.hid (fun W (hW : U64s W A len T) => ctChk_any n b len c A T W hW hlen hb)
    have H4 := Lib.hid (fun W (hW : U64s W A len T) => rCtChk_any n b len c A T W hW hlen hb)
    obtain ⟨E, eE⟩ : ∃ E, E = ctChk n b len T := ⟨_, rfl⟩
    obtain ⟨ok, eo⟩ : ∃ ok, ok = hoOk n b len T P := ⟨_, rfl⟩
    obtain ⟨x, ex⟩ : ∃ x, x = hoX n b len T P := ⟨_, rfl⟩
    obtain ⟨y, ey⟩ : ∃ y, y = hoY n b len T P := ⟨_, rfl⟩
    obtain ⟨F, eF⟩ : ∃ F, F = hoE n b len T P := ⟨_, rfl⟩
    rw [← eE] at H3 H4
    rw [← eo, ← ex, ← ey, ← eF] at H1 H2
    have hE : ((E : Int) == (E : Int)) = true := by simp
    have hF : ((F : Int) == (F : Int)) = true := by simp
    have hx : (x == x) = true := by simp
    have hy : (y == y) = true := by simp
    have ho : (ok == ok) = true := by simp
    clear hL hT hB eP hP eE eo ex ey eF
    go_enter Tryd.func6, Tryd.ntmps6
    go_upto_region 1 with (fail)
    generalize w.heap.size = B0 at d0 d1 ⊢
    generalize w.alloc _ = W at d0 d1 HX HB ⊢
    go_upto_region 3 with (fail)
    go_quiet (fail)
    generalize hV : World.drewN _ _ = V
    have HX : Hid (U64s V A len T) := by rw [← hV]; exact Lib.hid (HX.out.below (below_drewN (Below.refl _ _) _))
    have HB : Hid (Below w.heap.size w V) := by rw [← hV]; exact Lib.hid (below_drewN HB.out _)
    clear hV d0 d1
    go_wp2_with (first | (go_at_call 23; refine (H1.out _ (HL.out.below HB.out) HX.out).mono ?_; rintro e w2 ⟨rfl, hst⟩; have HX := Lib.hid (HX.out.below hst); have HB := Lib.hid (HB.out.trans (hst.mono HB.out.size)); clear hst) | (go_at_call 24; refine (H2.out _ HX.out).mono ?_; rintro e w2 ⟨rfl, hst⟩; have HX := Lib.hid (HX.out.below hst); have HB := Lib.hid (HB.out.trans (hst.mono HB.out.size)); clear hst) | (go_at_call 25; refine (H3.out _ HX.out).mono ?_; rintro e w2 ⟨rfl, hst⟩; have HX := Lib.hid (HX.out.below hst); have HB := Lib.hid (HB.out.trans (hst.mono HB.out.size)); clear hst) | (go_at_call 26; refine (H4.out _ HX.out).mono ?_; rintro e w2 ⟨rfl, hst⟩; have HX := Lib.hid (HX.out.below hst); have HB := Lib.hid (HB.out.trans (hst.mono HB.out.size)); clear hst) | (go_at_call 16; refine (awake_any _ (HL.out.below HB.out)).mono ?_; rintro e w2 ⟨rfl, hst⟩; have HB := Lib.hid (HB.out.trans (hst.mono HB.out.size)); clear hst))
    go_ret
    exact ⟨rfl, HB.out⟩
end Go.Proofs.YtiifmdgcnpdibaaDoor
