/-
  Walks: the law UpdateChecks, over whatever memory.
-/
import Derived.Test.YtgnmelmmcpmhoaaProg
import Derived.Test.YtgnmelmmcpmhoaaBase
import Derived.Test.YtgnmelmmcpmhoaaUpdA
import Derived.Test.YtgnmelmmcpmhoaaUpdB
import Derived.Test.YtgnmelmmcpmhoaaUpdC
import Derived.Test.YtgnmelmmcpmhoaaUpdD
import Derived.Test.YtgnmelmmcpmhoaaUpdE
import Derived.Test.YtgnmelmmcpmhoaaUpdF
import Derived.Test.YtgnmelmmcpmhoaaRefB
import Derived.Test.YtgnmelmmcpmhoaaRefC
import Derived.Test.YtgnmelmmcpmhoaaRefE
import Derived.Test.YtgnmelmmcpmhoaaLawA
import Derived.Test.YtgnmelmmcpmhoaaLawB
import Derived.Test.YtgnmelmmcpmhoaaLawC
namespace Go.Proofs.Ytgnmelmmcpmhoaa
open Go.RowKit

theorem famK_nat (k : Int) : ∃ kf : Nat, famK k = kf := by
  unfold famK
  by_cases h : 0 ≤ k ∧ k ≤ 3
  · rw [if_pos h]; exact Int.eq_ofNat_of_zero_le h.1
  · rw [if_neg h]; exact ⟨0, rfl⟩

set_option maxHeartbeats 4000000 in
theorem checks_core (k facts : Int) (A : Option Addr) (n c : Nat) (R : Nat → Option Addr) (m cc : Nat → Nat) (F : Nat → Nat → Nat) (w : World) (hM : Mat w A n R m cc F) :
    Calls Try.prog 3 #[.agg #[.int .i64 k, .slice A n c], .int .i64 facts] w fun e w' => e = .returned (.bool true) ∧ Below w.heap.size w w' := by
  have HM := Lib.hid hM
  clear hM
  cases hfew : fewB n m
  · go_enter Try.func3, Try.ntmps3
    go_wp2_with fail
    obtain ⟨d0, d1⟩ := cells_box2 w (.int .i64 k) (.slice A n c) 24
    have hB := below_alloc w (.cells #[.int .i64 k, .slice A n c] 24)
    generalize w.alloc (.cells #[.int .i64 k, .slice A n c] 24) = W at d0 d1 hB ⊢
    have HM := Lib.hid (HM.out.below hB)
    have HB := Lib.hid hB
    clear hB
    go_wp2_with (first | (go_at_call 14; refine (awake_any _).mono ?_; rintro e w' ⟨rfl, hb1⟩; have d0 := cell_below hb1 d0; have d1 := cell_below hb1 d1; have HM := Lib.hid (HM.out.below hb1); have HB := Lib.hid (HB.out.trans (hb1.mono HB.out.size)); clear hb1) | (go_at_call 15; refine (Few_any _ _ _ _ _ _ _ _ _ HM.out).mono ?_; rintro e w' ⟨rfl, hb1⟩; have d0 := cell_below hb1 d0; have d1 := cell_below hb1 d1; have HM := Lib.hid (HM.out.below hb1); have HB := Lib.hid (HB.out.trans (hb1.mono HB.out.size)); clear hb1))
    go_ret
    exact ⟨rfl, HB.out⟩
  · obtain ⟨kf, hkf⟩ := famK_nat facts
    obtain ⟨nf, hnf⟩ : ∃ nf, famN facts = nf := ⟨_, rfl⟩
    obtain ⟨ef, hef⟩ : ∃ ef, famE facts = ef := ⟨_, rfl⟩
    have hn8 : nf ≤ 8 := by
      rw [← hnf]; unfold famN
      split
      · exact Nat.le_trans (Nat.pow_le_pow_right (by decide) (show facts.toNat ≤ 3 by omega)) (by decide)
      · omega
    have HK := Lib.hid hkf
    have HF := Lib.hid hnf
    have HE := Lib.hid hef
    clear hkf hnf hef
    go_enter Try.func3, Try.ntmps3
    go_wp2_with fail
    obtain ⟨d0, d1⟩ := cells_box2 w (.int .i64 k) (.slice A n c) 24
    have hB := below_alloc w (.cells #[.int .i64 k, .slice A n c] 24)
    generalize w.alloc (.cells #[.int .i64 k, .slice A n c] 24) = W at d0 d1 hB ⊢
    have HM := Lib.hid (HM.out.below hB)
    have HB := Lib.hid hB
    clear hB
    go_wp2_with (first | (go_at_call 14; refine (awake_any _).mono ?_; rintro e w' ⟨rfl, hb1⟩; have d0 := cell_below hb1 d0; have d1 := cell_below hb1 d1; have HM := Lib.hid (HM.out.below hb1); have HB := Lib.hid (HB.out.trans (hb1.mono HB.out.size)); clear hb1) | (go_at_call 15; refine (Few_any _ _ _ _ _ _ _ _ _ HM.out).mono ?_; rintro e w' ⟨rfl, hb1⟩; have d0 := cell_below hb1 d0; have d1 := cell_below hb1 d1; have HM := Lib.hid (HM.out.below hb1); have HB := Lib.hid (HB.out.trans (hb1.mono HB.out.size)); clear hb1))
    refine (Winslett_any facts _).mono ?_
    intro e v1 h1
    unfold FamPost at h1
    rw [HK.out, HF.out, HE.out] at h1
    obtain ⟨A1, k1, R, cc, rfl, hm, hf, hb⟩ := h1
    clear hf
    go_upto_region 5 with (fail)
    have hst := hb.trans ((below_alloc v1 (.cells #[.int .i64 kf, .slice A1 nf k1] 24)).mono hb.size)
    have HG1 := Lib.hid (Fam.new (k := kf) (c := k1) 24 hm)
    have HB := Lib.hid (HB.out.trans (hst.mono HB.out.size))
    have d0 := cell_below hst d0
    have d1 := cell_below hst d1
    have HM := Lib.hid (HM.out.below hst)
    clear hm hb
    generalize v1.alloc _ = W at HB hst HG1 HM d0 d1 ⊢
    generalize v1.heap.size = b1 at HG1 ⊢
    refine (refWinslett_any facts _).mono ?_
    intro e v2 h1
    unfold FamPost at h1
    rw [HK.out, HF.out, HE.out] at h1
    obtain ⟨A2, k2, R, cc, rfl, hm, hf, hb⟩ := h1
    clear hf
    go_upto_region 6 with (fail)
    have hst := hb.trans ((below_alloc v2 (.cells #[.int .i64 kf, .slice A2 nf k2] 24)).mono hb.size)
    have HG2 := Lib.hid (Fam.new (k := kf) (c := k2) 24 hm)
    have HB := Lib.hid (HB.out.trans (hst.mono HB.out.size))
    have d0 := cell_below hst d0
    have d1 := cell_below hst d1
    have HM := Lib.hid (HM.out.below hst)
    clear hm hb
    generalize v2.alloc _ = W at HB hst HG2 HM d0 d1 ⊢
    generalize v2.heap.size = b2 at HG2 ⊢
    have HG1 := Lib.hid (HG1.out.below hst)
    refine (Forbus_any facts _).mono ?_
    intro e v3 h1
    unfold FamPost at h1
    rw [HK.out, HF.out, HE.out] at h1
    obtain ⟨A3, k3, R, cc, rfl, hm, hf, hb⟩ := h1
    clear hf
    go_upto_region 7 with (fail)
    have hst := hb.trans ((below_alloc v3 (.cells #[.int .i64 kf, .slice A3 nf k3] 24)).mono hb.size)
    have HG3 := Lib.hid (Fam.new (k := kf) (c := k3) 24 hm)
    have HB := Lib.hid (HB.out.trans (hst.mono HB.out.size))
    have d0 := cell_below hst d0
    have d1 := cell_below hst d1
    have HM := Lib.hid (HM.out.below hst)
    clear hm hb
    generalize v3.alloc _ = W at HB hst HG3 HM d0 d1 ⊢
    generalize v3.heap.size = b3 at HG3 ⊢
    have HG1 := Lib.hid (HG1.out.below hst)
    have HG2 := Lib.hid (HG2.out.below hst)
    refine (refForbus_any facts _).mono ?_
    intro e v4 h1
    unfold FamPost at h1
    rw [HK.out, HF.out, HE.out] at h1
    obtain ⟨A4, k4, R, cc, rfl, hm, hf, hb⟩ := h1
    clear hf
    go_upto_region 8 with (fail)
    have hst := hb.trans ((below_alloc v4 (.cells #[.int .i64 kf, .slice A4 nf k4] 24)).mono hb.size)
    have HG4 := Lib.hid (Fam.new (k := kf) (c := k4) 24 hm)
    have HB := Lib.hid (HB.out.trans (hst.mono HB.out.size))
    have d0 := cell_below hst d0
    have d1 := cell_below hst d1
    have HM := Lib.hid (HM.out.below hst)
    clear hm hb
    generalize v4.alloc _ = W at HB hst HG4 HM d0 d1 ⊢
    generalize v4.heap.size = b4 at HG4 ⊢
    have HG1 := Lib.hid (HG1.out.below hst)
    have HG2 := Lib.hid (HG2.out.below hst)
    have HG3 := Lib.hid (HG3.out.below hst)
    have a0 := HG1.out.c0
    have a1 := HG1.out.c1
    have b0 := HG2.out.c0
    have b1c := HG2.out.c1
    have g0 := HG3.out.c0
    have g1 := HG3.out.c1
    have h0 := HG4.out.c0
    have h1c := HG4.out.c1
    obtain ⟨R1, cc1, hm⟩ := HG1.out.mat
    have M1 := Lib.hid hm
    clear hm
    obtain ⟨R2, cc2, hm⟩ := HG2.out.mat
    have M2 := Lib.hid hm
    clear hm
    obtain ⟨R3, cc3, hm⟩ := HG3.out.mat
    have M3 := Lib.hid hm
    clear hm
    obtain ⟨R4, cc4, hm⟩ := HG4.out.mat
    have M4 := Lib.hid hm
    clear hm hst HG1 HG2 HG3 HG4
    go_region_held3 (fun x => x.cell? ⟨w.heap.size, 0, none⟩ = some (.int .i64 k) ∧ x.cell? ⟨w.heap.size, 1, none⟩ = some (.slice A n c) ∧ x.cell? ⟨b1, 0, none⟩ = some (.int .i64 kf) ∧ x.cell? ⟨b1, 1, none⟩ = some (.slice A1 nf k1) ∧ x.cell? ⟨b2, 0, none⟩ = some (.int .i64 kf) ∧ x.cell? ⟨b2, 1, none⟩ = some (.slice A2 nf k2) ∧ x.cell? ⟨b3, 0, none⟩ = some (.int .i64 kf) ∧ x.cell? ⟨b3, 1, none⟩ = some (.slice A3 nf k3) ∧ x.cell? ⟨b4, 0, none⟩ = some (.int .i64 kf) ∧ x.cell? ⟨b4, 1, none⟩ = some (.slice A4 nf k4)) (first | exact ⟨d0, d1, a0, a1, b0, b1c, g0, g1, h0, h1c⟩ | (exact ⟨by assumption, by assumption, by assumption, by assumption, by assumption, by assumption, by assumption, by assumption, by assumption, by assumption⟩))
      (first | (go_at_call 20; refine (updCheck_any _ _ _ _ _ _ _ _ _ (by exact HM.out)).mono ?_; rintro e w' ⟨rfl, hb1⟩; have d0 := cell_below hb1 d0; have d1 := cell_below hb1 d1; have a0 := cell_below hb1 a0; have a1 := cell_below hb1 a1; have b0 := cell_below hb1 b0; have b1c := cell_below hb1 b1c; have g0 := cell_below hb1 g0; have g1 := cell_below hb1 g1; have h0 := cell_below hb1 h0; have h1c := cell_below hb1 h1c; have HM := Lib.hid (HM.out.below ⟨hb1.os, hb1.tape, hb1.output, hb1.size, hb1.block⟩); have M1 := Lib.hid (M1.out.below ⟨hb1.os, hb1.tape, hb1.output, hb1.size, hb1.block⟩); have M2 := Lib.hid (M2.out.below ⟨hb1.os, hb1.tape, hb1.output, hb1.size, hb1.block⟩); have M3 := Lib.hid (M3.out.below ⟨hb1.os, hb1.tape, hb1.output, hb1.size, hb1.block⟩); have M4 := Lib.hid (M4.out.below ⟨hb1.os, hb1.tape, hb1.output, hb1.size, hb1.block⟩); have HB := Lib.hid (HB.out.trans (Below.mono ⟨hb1.os, hb1.tape, hb1.output, hb1.size, hb1.block⟩ HB.out.size)); clear hb1) | (go_at_call 21; refine (refCheck_any _ _ _ _ _ _ _ _ _ (by exact HM.out)).mono ?_; rintro e w' ⟨rfl, hb1⟩; have d0 := cell_below hb1 d0; have d1 := cell_below hb1 d1; have a0 := cell_below hb1 a0; have a1 := cell_below hb1 a1; have b0 := cell_below hb1 b0; have b1c := cell_below hb1 b1c; have g0 := cell_below hb1 g0; have g1 := cell_below hb1 g1; have h0 := cell_below hb1 h0; have h1c := cell_below hb1 h1c; have HM := Lib.hid (HM.out.below ⟨hb1.os, hb1.tape, hb1.output, hb1.size, hb1.block⟩); have M1 := Lib.hid (M1.out.below ⟨hb1.os, hb1.tape, hb1.output, hb1.size, hb1.block⟩); have M2 := Lib.hid (M2.out.below ⟨hb1.os, hb1.tape, hb1.output, hb1.size, hb1.block⟩); have M3 := Lib.hid (M3.out.below ⟨hb1.os, hb1.tape, hb1.output, hb1.size, hb1.block⟩); have M4 := Lib.hid (M4.out.below ⟨hb1.os, hb1.tape, hb1.output, hb1.size, hb1.block⟩); have HB := Lib.hid (HB.out.trans (Below.mono ⟨hb1.os, hb1.tape, hb1.output, hb1.size, hb1.block⟩ HB.out.size)); clear hb1) | (go_at_call 22; refine (Total_any _ _ _ _ _ _ _ _ _ (by exact HM.out)).mono ?_; rintro e w' ⟨rfl, hb1⟩; have d0 := cell_below hb1 d0; have d1 := cell_below hb1 d1; have a0 := cell_below hb1 a0; have a1 := cell_below hb1 a1; have b0 := cell_below hb1 b0; have b1c := cell_below hb1 b1c; have g0 := cell_below hb1 g0; have g1 := cell_below hb1 g1; have h0 := cell_below hb1 h0; have h1c := cell_below hb1 h1c; have HM := Lib.hid (HM.out.below ⟨hb1.os, hb1.tape, hb1.output, hb1.size, hb1.block⟩); have M1 := Lib.hid (M1.out.below ⟨hb1.os, hb1.tape, hb1.output, hb1.size, hb1.block⟩); have M2 := Lib.hid (M2.out.below ⟨hb1.os, hb1.tape, hb1.output, hb1.size, hb1.block⟩); have M3 := Lib.hid (M3.out.below ⟨hb1.os, hb1.tape, hb1.output, hb1.size, hb1.block⟩); have M4 := Lib.hid (M4.out.below ⟨hb1.os, hb1.tape, hb1.output, hb1.size, hb1.block⟩); have HB := Lib.hid (HB.out.trans (Below.mono ⟨hb1.os, hb1.tape, hb1.output, hb1.size, hb1.block⟩ HB.out.size)); clear hb1) | (go_at_call 23; refine (refTotal_any _ _ _ _ _ _ _ _ _ (by exact HM.out)).mono ?_; rintro e w' ⟨rfl, hb1⟩; have d0 := cell_below hb1 d0; have d1 := cell_below hb1 d1; have a0 := cell_below hb1 a0; have a1 := cell_below hb1 a1; have b0 := cell_below hb1 b0; have b1c := cell_below hb1 b1c; have g0 := cell_below hb1 g0; have g1 := cell_below hb1 g1; have h0 := cell_below hb1 h0; have h1c := cell_below hb1 h1c; have HM := Lib.hid (HM.out.below ⟨hb1.os, hb1.tape, hb1.output, hb1.size, hb1.block⟩); have M1 := Lib.hid (M1.out.below ⟨hb1.os, hb1.tape, hb1.output, hb1.size, hb1.block⟩); have M2 := Lib.hid (M2.out.below ⟨hb1.os, hb1.tape, hb1.output, hb1.size, hb1.block⟩); have M3 := Lib.hid (M3.out.below ⟨hb1.os, hb1.tape, hb1.output, hb1.size, hb1.block⟩); have M4 := Lib.hid (M4.out.below ⟨hb1.os, hb1.tape, hb1.output, hb1.size, hb1.block⟩); have HB := Lib.hid (HB.out.trans (Below.mono ⟨hb1.os, hb1.tape, hb1.output, hb1.size, hb1.block⟩ HB.out.size)); clear hb1) | (go_at_call 24; refine (same_yes _ _ _ _ _ _ _ _ _ _ _ _ _ (by exact M1.out) (by exact M2.out) (by omega)).mono ?_; rintro e w' ⟨rfl, hb1⟩; have d0 := cell_below hb1 d0; have d1 := cell_below hb1 d1; have a0 := cell_below hb1 a0; have a1 := cell_below hb1 a1; have b0 := cell_below hb1 b0; have b1c := cell_below hb1 b1c; have g0 := cell_below hb1 g0; have g1 := cell_below hb1 g1; have h0 := cell_below hb1 h0; have h1c := cell_below hb1 h1c; have HM := Lib.hid (HM.out.below ⟨hb1.os, hb1.tape, hb1.output, hb1.size, hb1.block⟩); have M1 := Lib.hid (M1.out.below ⟨hb1.os, hb1.tape, hb1.output, hb1.size, hb1.block⟩); have M2 := Lib.hid (M2.out.below ⟨hb1.os, hb1.tape, hb1.output, hb1.size, hb1.block⟩); have M3 := Lib.hid (M3.out.below ⟨hb1.os, hb1.tape, hb1.output, hb1.size, hb1.block⟩); have M4 := Lib.hid (M4.out.below ⟨hb1.os, hb1.tape, hb1.output, hb1.size, hb1.block⟩); have HB := Lib.hid (HB.out.trans (Below.mono ⟨hb1.os, hb1.tape, hb1.output, hb1.size, hb1.block⟩ HB.out.size)); clear hb1) | (go_at_call 24; refine (same_yes _ _ _ _ _ _ _ _ _ _ _ _ _ (by exact M3.out) (by exact M4.out) (by omega)).mono ?_; rintro e w' ⟨rfl, hb1⟩; have d0 := cell_below hb1 d0; have d1 := cell_below hb1 d1; have a0 := cell_below hb1 a0; have a1 := cell_below hb1 a1; have b0 := cell_below hb1 b0; have b1c := cell_below hb1 b1c; have g0 := cell_below hb1 g0; have g1 := cell_below hb1 g1; have h0 := cell_below hb1 h0; have h1c := cell_below hb1 h1c; have HM := Lib.hid (HM.out.below ⟨hb1.os, hb1.tape, hb1.output, hb1.size, hb1.block⟩); have M1 := Lib.hid (M1.out.below ⟨hb1.os, hb1.tape, hb1.output, hb1.size, hb1.block⟩); have M2 := Lib.hid (M2.out.below ⟨hb1.os, hb1.tape, hb1.output, hb1.size, hb1.block⟩); have M3 := Lib.hid (M3.out.below ⟨hb1.os, hb1.tape, hb1.output, hb1.size, hb1.block⟩); have M4 := Lib.hid (M4.out.below ⟨hb1.os, hb1.tape, hb1.output, hb1.size, hb1.block⟩); have HB := Lib.hid (HB.out.trans (Below.mono ⟨hb1.os, hb1.tape, hb1.output, hb1.size, hb1.block⟩ HB.out.size)); clear hb1))
    go_wp2
    go_ret
    exact ⟨rfl, HB.out⟩
end Go.Proofs.Ytgnmelmmcpmhoaa
