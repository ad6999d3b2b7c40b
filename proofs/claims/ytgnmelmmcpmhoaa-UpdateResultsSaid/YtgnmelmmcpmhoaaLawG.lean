/-
  Walks: the law UpdateResults, over whatever memory.
-/
import Derived.Test.YtgnmelmmcpmhoaaProg
import Derived.Test.YtgnmelmmcpmhoaaBase
import Derived.Test.YtgnmelmmcpmhoaaUpdA
import Derived.Test.YtgnmelmmcpmhoaaUpdB
import Derived.Test.YtgnmelmmcpmhoaaUpdC
import Derived.Test.YtgnmelmmcpmhoaaUpdD
import Derived.Test.YtgnmelmmcpmhoaaRefB
import Derived.Test.YtgnmelmmcpmhoaaRefC
import Derived.Test.YtgnmelmmcpmhoaaLawA
import Derived.Test.YtgnmelmmcpmhoaaLawB
import Derived.Test.YtgnmelmmcpmhoaaLawC
namespace Go.Proofs.Ytgnmelmmcpmhoaa
open Go.RowKit

set_option maxHeartbeats 4000000 in
theorem results_core (k v : Int) (s t : Nat) (A : Option Addr) (n c : Nat) (R : Nat → Option Addr) (m cc : Nat → Nat) (F : Nat → Nat → Nat) (w : World) (hM : Mat w A n R m cc F) (hs : s < 18446744073709551616) (ht : t < 18446744073709551616) :
    Calls Try.prog 4 #[.agg #[.int .i64 k, .slice A n c], .int .i64 v, .agg #[.int .u64 s, .int .u64 t]] w fun e w' => e = .returned (.bool true) ∧ Below w.heap.size w w' := by
  have HM := Lib.hid hM
  clear hM
  cases hf : fewB n m
  · go_enter Try.func4, Try.ntmps4
    go_wp2_with fail
    obtain ⟨d0, d1, e0, e1, hB⟩ := cells_box22 w (.int .i64 k) (.slice A n c) (.int .u64 s) (.int .u64 t) 24 33
    generalize (w.alloc (.cells #[.int .i64 k, .slice A n c] 24)).alloc (.cells #[.int .u64 s, .int .u64 t] 33) = W at d0 d1 e0 e1 hB ⊢
    have HM := Lib.hid (HM.out.below hB)
    have HB := Lib.hid hB
    clear hB
    go_wp2_with (first | (go_at_call 14; refine (awake_any _).mono ?_; rintro e w' ⟨rfl, hb1⟩; have d0 := cell_below hb1 d0; have d1 := cell_below hb1 d1; have e0 := cell_below hb1 e0; have e1 := cell_below hb1 e1; have HM := Lib.hid (HM.out.below hb1); have HB := Lib.hid (HB.out.trans (hb1.mono HB.out.size)); clear hb1) | (go_at_call 15; refine (Few_any _ _ _ _ _ _ _ _ _ HM.out).mono ?_; rintro e w' ⟨rfl, hb1⟩; have d0 := cell_below hb1 d0; have d1 := cell_below hb1 d1; have e0 := cell_below hb1 e0; have e1 := cell_below hb1 e1; have HM := Lib.hid (HM.out.below hb1); have HB := Lib.hid (HB.out.trans (hb1.mono HB.out.size)); clear hb1))
    go_ret
    exact ⟨rfl, HB.out⟩
  · have hn20 : n ≤ 20 := by
      unfold fewB at hf
      rw [Bool.and_eq_true, decide_eq_true_eq] at hf
      exact hf.1
    go_enter Try.func4, Try.ntmps4
    go_wp2_with fail
    obtain ⟨d0, d1, e0, e1, hB⟩ := cells_box22 w (.int .i64 k) (.slice A n c) (.int .u64 s) (.int .u64 t) 24 33
    generalize (w.alloc (.cells #[.int .i64 k, .slice A n c] 24)).alloc (.cells #[.int .u64 s, .int .u64 t] 33) = W at d0 d1 e0 e1 hB ⊢
    have HM := Lib.hid (HM.out.below hB)
    have HB := Lib.hid hB
    clear hB
    go_wp2_with (first | (go_at_call 14; refine (awake_any _).mono ?_; rintro e w' ⟨rfl, hb1⟩; have d0 := cell_below hb1 d0; have d1 := cell_below hb1 d1; have e0 := cell_below hb1 e0; have e1 := cell_below hb1 e1; have HM := Lib.hid (HM.out.below hb1); have HB := Lib.hid (HB.out.trans (hb1.mono HB.out.size)); clear hb1) | (go_at_call 15; refine (Few_any _ _ _ _ _ _ _ _ _ HM.out).mono ?_; rintro e w' ⟨rfl, hb1⟩; have d0 := cell_below hb1 d0; have d1 := cell_below hb1 d1; have e0 := cell_below hb1 e0; have e1 := cell_below hb1 e1; have HM := Lib.hid (HM.out.below hb1); have HB := Lib.hid (HB.out.trans (hb1.mono HB.out.size)); clear hb1))
    refine (Minimal_any _ _ _ _ _ _ _ _ _ _ _ HM.out (by omega) ht).mono ?_
    rintro e w' ⟨rfl, hb1⟩
    have d0 := cell_below hb1 d0
    have d1 := cell_below hb1 d1
    have e0 := cell_below hb1 e0
    have e1 := cell_below hb1 e1
    have HM := Lib.hid (HM.out.below hb1)
    have HB := Lib.hid (HB.out.trans (hb1.mono HB.out.size))
    clear hb1
    go_wp2_with fail
    refine (refMinimal_any _ _ _ _ _ _ _ _ _ _ _ HM.out ht).mono ?_
    rintro e w' ⟨rfl, hb1⟩
    have d0 := cell_below hb1 d0
    have d1 := cell_below hb1 d1
    have e0 := cell_below hb1 e0
    have e1 := cell_below hb1 e1
    have HM := Lib.hid (HM.out.below hb1)
    have HB := Lib.hid (HB.out.trans (hb1.mono HB.out.size))
    clear hb1
    go_wp2_with fail
    refine (Update_any _ _ _ _ _ _ _ _ _ _ _ HM.out hs ht).mono ?_
    rintro e w' ⟨rfl, hb1⟩
    have d0 := cell_below hb1 d0
    have d1 := cell_below hb1 d1
    have e0 := cell_below hb1 e0
    have e1 := cell_below hb1 e1
    have HM := Lib.hid (HM.out.below hb1)
    have HB := Lib.hid (HB.out.trans (hb1.mono HB.out.size))
    clear hb1
    go_wp2_with fail
    refine (refUpdate_any _ _ _ _ _ _ _ _ _ _ _ HM.out hs ht).mono ?_
    rintro e w' ⟨rfl, hb1⟩
    have d0 := cell_below hb1 d0
    have d1 := cell_below hb1 d1
    have e0 := cell_below hb1 e0
    have e1 := cell_below hb1 e1
    have HM := Lib.hid (HM.out.below hb1)
    have HB := Lib.hid (HB.out.trans (hb1.mono HB.out.size))
    clear hb1
    go_wp2_with fail
    refine (Erase_any _ _ _ _ _ _ _ _ _ _ _ HM.out hs ht).mono ?_
    rintro e w' ⟨rfl, hb1⟩
    have d0 := cell_below hb1 d0
    have d1 := cell_below hb1 d1
    have e0 := cell_below hb1 e0
    have e1 := cell_below hb1 e1
    have HM := Lib.hid (HM.out.below hb1)
    have HB := Lib.hid (HB.out.trans (hb1.mono HB.out.size))
    clear hb1
    go_wp2_with fail
    refine (refErase_any _ _ _ _ _ _ _ _ _ _ _ HM.out hs ht).mono ?_
    rintro e w' ⟨rfl, hb1⟩
    have d0 := cell_below hb1 d0
    have d1 := cell_below hb1 d1
    have e0 := cell_below hb1 e0
    have e1 := cell_below hb1 e1
    have HM := Lib.hid (HM.out.below hb1)
    have HB := Lib.hid (HB.out.trans (hb1.mono HB.out.size))
    clear hb1
    go_wp2
    go_ret
    exact ⟨rfl, HB.out⟩
end Go.Proofs.Ytgnmelmmcpmhoaa
