/-
  Walks: the laws UpdateUnions and UpdatePoints, over whatever memory.
-/
import Derived.Test.YtgnmelmmcpmhoaaProg
import Derived.Test.YtgnmelmmcpmhoaaBase
import Derived.Test.YtgnmelmmcpmhoaaUpdA
import Derived.Test.YtgnmelmmcpmhoaaUpdB
import Derived.Test.YtgnmelmmcpmhoaaUpdC
import Derived.Test.YtgnmelmmcpmhoaaUpdD
import Derived.Test.YtgnmelmmcpmhoaaRefB
import Derived.Test.YtgnmelmmcpmhoaaLawA
import Derived.Test.YtgnmelmmcpmhoaaLawB
import Derived.Test.YtgnmelmmcpmhoaaLawC
import Derived.Test.YtgnmelmmcpmhoaaPlain
namespace Go.Proofs.Ytgnmelmmcpmhoaa
open Go.RowKit

theorem updS_union (n : Nat) (F : Nat → Nat → Nat) (a b s : Nat) : updS n F (a ||| b) s = updS n F a s ||| updS n F b s := by
  apply Nat.eq_of_testBit_eq
  intro i
  rw [Bool.eq_iff_iff, Nat.testBit_or, Bool.or_eq_true, updS_bit, updS_bit, updS_bit]
  constructor
  · rintro ⟨v, h1, h2, h3⟩
    rw [Nat.testBit_or, Bool.or_eq_true] at h2
    rcases h2 with h2 | h2
    · exact .inl ⟨v, h1, h2, h3⟩
    · exact .inr ⟨v, h1, h2, h3⟩
  · rintro (⟨v, h1, h2, h3⟩ | ⟨v, h1, h2, h3⟩)
    · exact ⟨v, h1, by rw [Nat.testBit_or, h2]; rfl, h3⟩
    · exact ⟨v, h1, by rw [Nat.testBit_or, h2, Bool.or_true], h3⟩

set_option maxHeartbeats 4000000 in
theorem unions_core (k : Int) (b1 b2 s : Nat) (A : Option Addr) (n c : Nat) (R : Nat → Option Addr) (m cc : Nat → Nat) (F : Nat → Nat → Nat) (w : World) (hM : Mat w A n R m cc F) (hb1 : b1 < 18446744073709551616) (hb2 : b2 < 18446744073709551616) (hs : s < 18446744073709551616) :
    Calls Try.prog 7 #[.agg #[.int .i64 k, .slice A n c], .agg #[.int .u64 b1, .int .u64 b2], .int .u64 s] w fun e w' => e = .returned (.bool true) ∧ Below w.heap.size w w' := by
  have HM := Lib.hid hM
  clear hM
  cases hr : rightB k n m F
  · go_enter Try.func7, Try.ntmps7
    go_wp2_with fail
    obtain ⟨d0, d1, e0, e1, hB⟩ := cells_box22 w (.int .i64 k) (.slice A n c) (.int .u64 b1) (.int .u64 b2) 24 33
    generalize (w.alloc (.cells #[.int .i64 k, .slice A n c] 24)).alloc (.cells #[.int .u64 b1, .int .u64 b2] 33) = W at d0 d1 e0 e1 hB ⊢
    have HM := Lib.hid (HM.out.below hB)
    have HB := Lib.hid hB
    clear hB
    go_wp2_with (first | (go_at_call 14; refine (awake_any _).mono ?_; rintro e w' ⟨rfl, hb1⟩; have d0 := cell_below hb1 d0; have d1 := cell_below hb1 d1; have e0 := cell_below hb1 e0; have e1 := cell_below hb1 e1; have HM := Lib.hid (HM.out.below hb1); have HB := Lib.hid (HB.out.trans (hb1.mono HB.out.size)); clear hb1) | (go_at_call 31; refine (right_any _ _ _ _ _ _ _ _ _ HM.out).mono ?_; rintro e w' ⟨rfl, hb1⟩; have d0 := cell_below hb1 d0; have d1 := cell_below hb1 d1; have e0 := cell_below hb1 e0; have e1 := cell_below hb1 e1; have HM := Lib.hid (HM.out.below hb1); have HB := Lib.hid (HB.out.trans (hb1.mono HB.out.size)); clear hb1))
    go_ret
    exact ⟨rfl, HB.out⟩
  · have hchk := (rightB_ok hr).2
    have HC := Lib.hid hchk
    obtain ⟨kk, rfl, hk3, hnk, -⟩ := checkZ_ok hchk
    have hn8 := pow_le8 hnk hk3
    have HN := Lib.hid hnk
    clear hchk hnk
    go_enter Try.func7, Try.ntmps7
    go_wp2_with fail
    obtain ⟨d0, d1, e0, e1, hB⟩ := cells_box22 w (.int .i64 kk) (.slice A n c) (.int .u64 b1) (.int .u64 b2) 24 33
    generalize (w.alloc (.cells #[.int .i64 kk, .slice A n c] 24)).alloc (.cells #[.int .u64 b1, .int .u64 b2] 33) = W at d0 d1 e0 e1 hB ⊢
    have HM := Lib.hid (HM.out.below hB)
    have HB := Lib.hid hB
    clear hB
    go_wp2_with (first | (go_at_call 14; refine (awake_any _).mono ?_; rintro e w' ⟨rfl, hb1⟩; have d0 := cell_below hb1 d0; have d1 := cell_below hb1 d1; have e0 := cell_below hb1 e0; have e1 := cell_below hb1 e1; have HM := Lib.hid (HM.out.below hb1); have HB := Lib.hid (HB.out.trans (hb1.mono HB.out.size)); clear hb1) | (go_at_call 31; refine (right_any _ _ _ _ _ _ _ _ _ HM.out).mono ?_; rintro e w' ⟨rfl, hb1⟩; have d0 := cell_below hb1 d0; have d1 := cell_below hb1 d1; have e0 := cell_below hb1 e0; have e1 := cell_below hb1 e1; have HM := Lib.hid (HM.out.below hb1); have HB := Lib.hid (HB.out.trans (hb1.mono HB.out.size)); clear hb1))
    obtain ⟨bb, ebb⟩ : ∃ bb, bb = b1 &&& (2 ^ 2 ^ kk - 1) := ⟨_, rfl⟩
    obtain ⟨bd, ebd⟩ : ∃ bd, bd = b2 &&& (2 ^ 2 ^ kk - 1) := ⟨_, rfl⟩
    obtain ⟨b3, eb3⟩ : ∃ b3, b3 = b1 ||| b2 := ⟨_, rfl⟩
    obtain ⟨be, ebe⟩ : ∃ be, be = b3 &&& (2 ^ 2 ^ kk - 1) := ⟨_, rfl⟩
    obtain ⟨ss, ess⟩ : ∃ ss, ss = s &&& (2 ^ 2 ^ kk - 1) := ⟨_, rfl⟩
    obtain ⟨hmb, hbl⟩ := and_mask (by omega) hb1 ebb
    obtain ⟨hmd, hdl⟩ := and_mask (by omega) hb2 ebd
    have hb3 : b3 < 18446744073709551616 := by rw [eb3]; exact or_lt64 hb1 hb2
    have hor : bits .or .u64 (b1 : Int) (b2 : Int) = (b3 : Int) := by rw [u64_or_nat _ _ hb1 hb2, eb3]
    obtain ⟨hme, hel⟩ := and_mask (by omega) hb3 ebe
    obtain ⟨hms, hsl⟩ := and_mask (by omega) hs ess
    have e3 : be = bb ||| bd := by rw [ebe, ebb, ebd, eb3, Nat.and_or_distrib_right]
    clear ebb ebd ebe ess eb3
    rw [← HN.out] at hbl hdl hel hsl
    have h64 := pow_lt64 (k := n) (by omega)
    obtain ⟨X, eX⟩ : ∃ X, X = updS n F bb ss := ⟨_, rfl⟩
    obtain ⟨Y, eY⟩ : ∃ Y, Y = updS n F bd ss := ⟨_, rfl⟩
    obtain ⟨Z, eZ⟩ : ∃ Z, Z = updS n F be ss := ⟨_, rfl⟩
    have hXl : X < 2 ^ n := by rw [eX]; exact updS_lt _ _ _ _
    have hYl : Y < 2 ^ n := by rw [eY]; exact updS_lt _ _ _ _
    have hxy : bits .or .u64 (X : Int) (Y : Int) = (Z : Int) := by
      rw [u64_or_nat _ _ (by omega) (by omega), eZ, e3, updS_union, ← eX, ← eY]
    have HX := Lib.hid eX
    have HY := Lib.hid eY
    have HZ := Lib.hid eZ
    have LB := Lib.hid hbl
    have LD := Lib.hid hdl
    have LE := Lib.hid hel
    have LS := Lib.hid hsl
    clear eX eY eZ e3 hbl hdl hel hsl hXl hYl h64
    go_wp2_with fail
    go_region_held3 (fun x => x.cell? ⟨w.heap.size, 0, none⟩ = some (.int .i64 kk) ∧ x.cell? ⟨w.heap.size, 1, none⟩ = some (.slice A n c) ∧ x.cell? ⟨w.heap.size + 1, 0, none⟩ = some (.int .u64 b1) ∧ x.cell? ⟨w.heap.size + 1, 1, none⟩ = some (.int .u64 b2)) (first | exact ⟨d0, d1, e0, e1⟩ | (exact ⟨by assumption, by assumption, by assumption, by assumption⟩))
      (first | (go_at_call 32; refine (lawAll_any _ _ (by omega)).mono ?_; rintro e w' ⟨rfl, rfl⟩) | (go_at_call 33; refine (up_val kk bb ss X _ _ _ _ _ _ _ _ (by exact HM.out) HX.out HC.out LB.out LS.out).mono ?_; rintro e w' ⟨rfl, hb1⟩; have d0 := cell_below hb1 d0; have d1 := cell_below hb1 d1; have e0 := cell_below hb1 e0; have e1 := cell_below hb1 e1; have HM := Lib.hid (HM.out.below ⟨hb1.os, hb1.tape, hb1.output, hb1.size, hb1.block⟩); have HB := Lib.hid (HB.out.trans (Below.mono ⟨hb1.os, hb1.tape, hb1.output, hb1.size, hb1.block⟩ HB.out.size)); clear hb1))
    go_wp2_with fail
    go_region_held3 (fun x => x.cell? ⟨w.heap.size, 0, none⟩ = some (.int .i64 kk) ∧ x.cell? ⟨w.heap.size, 1, none⟩ = some (.slice A n c) ∧ x.cell? ⟨w.heap.size + 1, 0, none⟩ = some (.int .u64 b1) ∧ x.cell? ⟨w.heap.size + 1, 1, none⟩ = some (.int .u64 b2)) (first | exact ⟨d0, d1, e0, e1⟩ | (exact ⟨by assumption, by assumption, by assumption, by assumption⟩))
      (first | (go_at_call 32; refine (lawAll_any _ _ (by omega)).mono ?_; rintro e w' ⟨rfl, rfl⟩) | (go_at_call 33; refine (up_val kk bd ss Y _ _ _ _ _ _ _ _ (by exact HM.out) HY.out HC.out LD.out LS.out).mono ?_; rintro e w' ⟨rfl, hb1⟩; have d0 := cell_below hb1 d0; have d1 := cell_below hb1 d1; have e0 := cell_below hb1 e0; have e1 := cell_below hb1 e1; have HM := Lib.hid (HM.out.below ⟨hb1.os, hb1.tape, hb1.output, hb1.size, hb1.block⟩); have HB := Lib.hid (HB.out.trans (Below.mono ⟨hb1.os, hb1.tape, hb1.output, hb1.size, hb1.block⟩ HB.out.size)); clear hb1))
    go_wp2_with fail
    go_region_held3 (fun x => x.cell? ⟨w.heap.size, 0, none⟩ = some (.int .i64 kk) ∧ x.cell? ⟨w.heap.size, 1, none⟩ = some (.slice A n c) ∧ x.cell? ⟨w.heap.size + 1, 0, none⟩ = some (.int .u64 b1) ∧ x.cell? ⟨w.heap.size + 1, 1, none⟩ = some (.int .u64 b2)) (first | exact ⟨d0, d1, e0, e1⟩ | (exact ⟨by assumption, by assumption, by assumption, by assumption⟩))
      (first | (go_at_call 32; refine (lawAll_any _ _ (by omega)).mono ?_; rintro e w' ⟨rfl, rfl⟩) | (go_at_call 33; refine (up_val kk be ss Z _ _ _ _ _ _ _ _ (by exact HM.out) HZ.out HC.out LE.out LS.out).mono ?_; rintro e w' ⟨rfl, hb1⟩; have d0 := cell_below hb1 d0; have d1 := cell_below hb1 d1; have e0 := cell_below hb1 e0; have e1 := cell_below hb1 e1; have HM := Lib.hid (HM.out.below ⟨hb1.os, hb1.tape, hb1.output, hb1.size, hb1.block⟩); have HB := Lib.hid (HB.out.trans (Below.mono ⟨hb1.os, hb1.tape, hb1.output, hb1.size, hb1.block⟩ HB.out.size)); clear hb1))
    go_wp2
    go_ret
    exact ⟨by simp, HB.out⟩

/-! ### UpdatePoints -/
theorem updS_point {n : Nat} {F : Nat → Nat → Nat} {v s u : Nat} (hv : v < n) : (updS n F (2 ^ v) s).testBit u = true ↔ (minS n (F v) s).testBit u = true := by
  rw [updS_bit]
  constructor
  · rintro ⟨x, _, h2, h3⟩
    rw [Nat.testBit_two_pow] at h2
    have : v = x := by simpa using h2
    subst this; exact h3
  · intro h; exact ⟨v, hv, Nat.testBit_two_pow_self, h⟩
theorem u7 {n : Nat} {F : Nat → Nat → Nat} {v s t u : Nat} (hv : v < n) (h1 : (updS n F (2 ^ v) s).testBit u = true) (h2 : (updS n F (2 ^ v) t).testBit u = true) : (updS n F (2 ^ v) (s ||| t)).testBit u = true := by
  rw [updS_point hv, minS_bit] at *
  refine ⟨h1.1, by rw [Nat.testBit_or, h1.2.1]; rfl, fun x hx hxs => ?_⟩
  rw [Nat.testBit_or, Bool.or_eq_true] at hxs
  rcases hxs with h | h
  · exact h1.2.2 x hx h
  · exact h2.2.2 x hx h
theorem u9 {n : Nat} {F : Nat → Nat → Nat} (H : FamOk n F) (hT : allB n (totMat n F) = true) {v s t u u0 : Nat} (hv : v < n) (h0 : (updS n F (2 ^ v) s).testBit u0 = true) (ht : t.testBit u0 = true) (h : (updS n F (2 ^ v) (s &&& t)).testBit u = true) : (updS n F (2 ^ v) s).testBit u = true := by
  rw [updS_point hv, minS_bit] at *
  obtain ⟨a1, a2, a3⟩ := h0
  obtain ⟨b1, b2, b3⟩ := h
  rw [Nat.testBit_and, Bool.and_eq_true] at b2
  refine ⟨b1, b2.1, fun x hx hxs => ?_⟩
  cases hxu : strB (F v) x u
  · rfl
  · exfalso
    have P := H.pre v hv
    have htot := allB_iff.1 (allB_iff.1 (allB_iff.1 hT v hv) u b1) u0 a1
    unfold totIn at htot
    have hns := b3 u0 a1 (by rw [Nat.testBit_and, a2, ht]; rfl)
    have hle : (F v u).testBit u0 = true := by
      cases hc : (F v u).testBit u0
      · rw [hc, Bool.false_or] at htot
        have : strB (F v) u0 u = true := strB_iff.2 ⟨htot, hc⟩
        rw [hns] at this; cases this
      · rfl
    have hxu' := strB_iff.1 hxu
    have hx0 : (F v x).testBit u0 = true := P.trans x u u0 hx b1 a1 hxu'.1 hle
    have h0x : (F v u0).testBit x = true := by
      cases hc : (F v u0).testBit x
      · have : strB (F v) x u0 = true := strB_iff.2 ⟨hx0, hc⟩
        rw [a3 x hx hxs] at this; cases this
      · rfl
    have := P.trans u u0 x b1 a1 hx hle h0x
    rw [hxu'.2] at this; cases this

set_option maxHeartbeats 4000000 in
theorem points_core (k : Int) (x s t : Nat) (A : Option Addr) (n c : Nat) (R : Nat → Option Addr) (m cc : Nat → Nat) (F : Nat → Nat → Nat) (w : World) (hM : Mat w A n R m cc F) (hx : x < 256) (hs : s < 18446744073709551616) (ht : t < 18446744073709551616) :
    Calls Try.prog 6 #[.agg #[.int .i64 k, .slice A n c], .int .u8 x, .agg #[.int .u64 s, .int .u64 t]] w fun e w' => e = .returned (.bool true) ∧ Below w.heap.size w w' := by
  have HM := Lib.hid hM
  clear hM
  cases hr : rightB k n m F
  · go_enter Try.func6, Try.ntmps6
    go_wp2_with fail
    obtain ⟨d0, d1, e0, e1, hB⟩ := cells_box22 w (.int .i64 k) (.slice A n c) (.int .u64 s) (.int .u64 t) 24 33
    generalize (w.alloc (.cells #[.int .i64 k, .slice A n c] 24)).alloc (.cells #[.int .u64 s, .int .u64 t] 33) = W at d0 d1 e0 e1 hB ⊢
    have HM := Lib.hid (HM.out.below hB)
    have HB := Lib.hid hB
    clear hB
    go_wp2_with (first | (go_at_call 14; refine (awake_any _).mono ?_; rintro e w' ⟨rfl, hb1⟩; have d0 := cell_below hb1 d0; have d1 := cell_below hb1 d1; have e0 := cell_below hb1 e0; have e1 := cell_below hb1 e1; have HM := Lib.hid (HM.out.below hb1); have HB := Lib.hid (HB.out.trans (hb1.mono HB.out.size)); clear hb1) | (go_at_call 31; refine (right_any _ _ _ _ _ _ _ _ _ HM.out).mono ?_; rintro e w' ⟨rfl, hb1⟩; have d0 := cell_below hb1 d0; have d1 := cell_below hb1 d1; have e0 := cell_below hb1 e0; have e1 := cell_below hb1 e1; have HM := Lib.hid (HM.out.below hb1); have HB := Lib.hid (HB.out.trans (hb1.mono HB.out.size)); clear hb1))
    go_ret
    exact ⟨rfl, HB.out⟩
  · have hchk := (rightB_ok hr).2
    have HO := Lib.hid (famOk_of hchk)
    have HC := Lib.hid hchk
    obtain ⟨kk, rfl, hk3, hnk, -⟩ := checkZ_ok hchk
    have hn8 := pow_le8 hnk hk3
    have hn1 : 1 ≤ n := by rw [hnk]; exact Nat.two_pow_pos kk
    have hw := wrap_pow hnk (by omega)
    have HN := Lib.hid hnk
    clear hchk hnk
    obtain ⟨v, ev⟩ : ∃ v, v = x % n := ⟨_, rfl⟩
    have hvn : v < n := by rw [ev]; exact Nat.mod_lt _ (by omega)
    have hmod : (x : Int) % (n : Int) = (v : Int) := by rw [ev]; rfl
    obtain ⟨P, eP⟩ : ∃ P, P = 2 ^ v := ⟨_, rfl⟩
    have hsh := shl_one eP (by omega)
    have hP : P < 2 ^ n := by rw [eP]; exact Nat.pow_lt_pow_right (by decide) hvn
    have LP := Lib.hid hP
    clear ev
    go_enter Try.func6, Try.ntmps6
    go_wp2_with fail
    obtain ⟨d0, d1, e0, e1, hB⟩ := cells_box22 w (.int .i64 kk) (.slice A n c) (.int .u64 s) (.int .u64 t) 24 33
    generalize (w.alloc (.cells #[.int .i64 kk, .slice A n c] 24)).alloc (.cells #[.int .u64 s, .int .u64 t] 33) = W at d0 d1 e0 e1 hB ⊢
    have HM := Lib.hid (HM.out.below hB)
    have HB := Lib.hid hB
    clear hB
    obtain ⟨ss, ess⟩ : ∃ ss, ss = s &&& (2 ^ 2 ^ kk - 1) := ⟨_, rfl⟩
    obtain ⟨tt, ett⟩ : ∃ tt, tt = t &&& (2 ^ 2 ^ kk - 1) := ⟨_, rfl⟩
    obtain ⟨hms, hsl⟩ := and_mask (by omega) hs ess
    obtain ⟨hmt, htl⟩ := and_mask (by omega) ht ett
    clear ess ett
    rw [← HN.out] at hsl htl
    have h64 := pow_lt64 (k := n) (by omega)
    obtain ⟨so, eso⟩ : ∃ so, so = ss ||| tt := ⟨_, rfl⟩
    obtain ⟨sa, esa⟩ : ∃ sa, sa = ss &&& tt := ⟨_, rfl⟩
    have hso : bits .or .u64 (ss : Int) (tt : Int) = (so : Int) := by rw [u64_or_nat _ _ (by omega) (by omega), eso]
    have hsa : bits .and .u64 (ss : Int) (tt : Int) = (sa : Int) := by rw [u64_and_nat _ _ (by omega) (by omega), esa]
    have hsol : so < 2 ^ n := by rw [eso]; exact Nat.or_lt_two_pow hsl htl
    have hsal : sa < 2 ^ n := by rw [esa]; exact Nat.lt_of_le_of_lt Nat.and_le_left hsl
    obtain ⟨X, eX⟩ : ∃ X, X = updS n F P ss := ⟨_, rfl⟩
    obtain ⟨Y, eY⟩ : ∃ Y, Y = updS n F P tt := ⟨_, rfl⟩
    obtain ⟨E, eE⟩ : ∃ E, E = updS n F P so := ⟨_, rfl⟩
    obtain ⟨B, eB⟩ : ∃ B, B = updS n F P sa := ⟨_, rfl⟩
    have hXl : X < 2 ^ n := by rw [eX]; exact updS_lt _ _ _ _
    have hYl : Y < 2 ^ n := by rw [eY]; exact updS_lt _ _ _ _
    have hEl : E < 2 ^ n := by rw [eE]; exact updS_lt _ _ _ _
    have hBl : B < 2 ^ n := by rw [eB]; exact updS_lt _ _ _ _
    obtain ⟨XY, eXY⟩ : ∃ XY, XY = X &&& Y := ⟨_, rfl⟩
    have hXYl : XY < 2 ^ n := by rw [eXY]; exact Nat.lt_of_le_of_lt Nat.and_le_left hXl
    have hxy : bits .and .u64 (X : Int) (Y : Int) = (XY : Int) := by rw [u64_and_nat _ _ (by omega) (by omega), eXY]
    have hxe : bits .andNot .u64 (XY : Int) (E : Int) = 0 := by
      rw [bits_andNot _ _ (by omega) (by omega), (andNot_eq_zero (by omega) (by omega)).2 fun i hi => ?_]
      · rfl
      · rw [eXY, Nat.testBit_and, Bool.and_eq_true, eX, eY, eP] at hi
        rw [eE, eso, eP]
        exact u7 hvn hi.1 hi.2
    have h9 : totalB kk n m F = true → (bits .and .u64 (X : Int) (tt : Int) == 0) = true ∨ ((bits .and .u64 (X : Int) (tt : Int) == 0) = false ∧ (bits .andNot .u64 (B : Int) (X : Int) == 0) = true) := fun hT => by
      rw [u64_and_nat _ _ (by omega) (by omega), bits_andNot _ _ (by omega) (by omega)]
      by_cases h0 : X &&& tt = 0
      · exact .inl (by rw [h0]; rfl)
      · refine .inr ⟨by simpa using h0, ?_⟩
        obtain ⟨u0, hu0⟩ := Nat.exists_testBit_of_ne_zero h0
        rw [Nat.testBit_and, Bool.and_eq_true, eX, eP] at hu0
        unfold totalB at hT
        rw [Bool.and_eq_true] at hT
        have : andNot B X = 0 := (andNot_eq_zero (by omega) (by omega)).2 fun i hi => by
          rw [eB, esa, eP] at hi
          rw [eX, eP]
          exact u9 HO.out hT.2 hvn hu0.1 hu0.2 hi
        rw [this]; rfl
    have HX := Lib.hid eX
    have HY := Lib.hid eY
    have HE := Lib.hid eE
    have HBb := Lib.hid eB
    have H9 := Lib.hid h9
    have LS := Lib.hid hsl
    have LT := Lib.hid htl
    have LO := Lib.hid hsol
    have LA := Lib.hid hsal
    clear eX eY eE eB eXY eso esa hsl htl hsol hsal hXl hYl hEl hBl hXYl h64 h9 eP hP
    go_wp2_with (first | (go_at_call 14; refine (awake_any _).mono ?_; rintro e w' ⟨rfl, hb1⟩; have d0 := cell_below hb1 d0; have d1 := cell_below hb1 d1; have e0 := cell_below hb1 e0; have e1 := cell_below hb1 e1; have HM := Lib.hid (HM.out.below hb1); have HB := Lib.hid (HB.out.trans (hb1.mono HB.out.size)); clear hb1) | (go_at_call 31; refine (right_any _ _ _ _ _ _ _ _ _ HM.out).mono ?_; rintro e w' ⟨rfl, hb1⟩; have d0 := cell_below hb1 d0; have d1 := cell_below hb1 d1; have e0 := cell_below hb1 e0; have e1 := cell_below hb1 e1; have HM := Lib.hid (HM.out.below hb1); have HB := Lib.hid (HB.out.trans (hb1.mono HB.out.size)); clear hb1))
    go_quiet ((go_at_call 32; first | exact quiet_l0 (lawAll_any _ _ (by omega)) | exact quiet_l1 (lawAll_any _ _ (by omega))))
    generalize hV : World.drewN _ _ = V2
    have HM : Hid (Mat V2 A n R m cc F) := by rw [← hV]; exact HM.out
    have d0 : V2.cell? ⟨w.heap.size, 0, none⟩ = some (.int .i64 kk) := by rw [← hV]; exact d0
    have d1 : V2.cell? ⟨w.heap.size, 1, none⟩ = some (.slice A n c) := by rw [← hV]; exact d1
    have e0 : V2.cell? ⟨w.heap.size + 1, 0, none⟩ = some (.int .u64 s) := by rw [← hV]; exact e0
    have e1 : V2.cell? ⟨w.heap.size + 1, 1, none⟩ = some (.int .u64 t) := by rw [← hV]; exact e1
    have HB : Hid (Below w.heap.size w V2) := by rw [← hV]; exact below_drewN HB.out _
    clear hV
    clear hms hmt
    go_wp2_with fail
    refine (up_val kk P ss X _ _ _ _ _ _ _ _ HM.out HX.out HC.out LP.out LS.out).mono ?_
    rintro e w' ⟨rfl, hb1⟩
    have d0 := cell_below hb1 d0
    have d1 := cell_below hb1 d1
    have e0 := cell_below hb1 e0
    have e1 := cell_below hb1 e1
    have HM := Lib.hid (HM.out.below hb1)
    have HB := Lib.hid (HB.out.trans (hb1.mono HB.out.size))
    clear hb1
    go_wp2_with fail
    refine (up_val kk P tt Y _ _ _ _ _ _ _ _ HM.out HY.out HC.out LP.out LT.out).mono ?_
    rintro e w' ⟨rfl, hb1⟩
    have d0 := cell_below hb1 d0
    have d1 := cell_below hb1 d1
    have e0 := cell_below hb1 e0
    have e1 := cell_below hb1 e1
    have HM := Lib.hid (HM.out.below hb1)
    have HB := Lib.hid (HB.out.trans (hb1.mono HB.out.size))
    clear hb1
    go_wp2_with fail
    refine (up_val kk P so E _ _ _ _ _ _ _ _ HM.out HE.out HC.out LP.out LO.out).mono ?_
    rintro e w' ⟨rfl, hb1⟩
    have d0 := cell_below hb1 d0
    have d1 := cell_below hb1 d1
    have e0 := cell_below hb1 e0
    have e1 := cell_below hb1 e1
    have HM := Lib.hid (HM.out.below hb1)
    have HB := Lib.hid (HB.out.trans (hb1.mono HB.out.size))
    clear hb1
    go_wp2_with fail
    refine (up_val kk P sa B _ _ _ _ _ _ _ _ HM.out HBb.out HC.out LP.out LA.out).mono ?_
    rintro e w' ⟨rfl, hb1⟩
    have d0 := cell_below hb1 d0
    have d1 := cell_below hb1 d1
    have e0 := cell_below hb1 e0
    have e1 := cell_below hb1 e1
    have HM := Lib.hid (HM.out.below hb1)
    have HB := Lib.hid (HB.out.trans (hb1.mono HB.out.size))
    clear hb1
    cases hT : totalB kk n m F
    · go_wp2_with (first | (go_at_call 22; refine (Total_any _ _ _ _ _ _ _ _ _ HM.out).mono ?_; rintro e w' ⟨rfl, hb1⟩; have d0 := cell_below hb1 d0; have d1 := cell_below hb1 d1; have e0 := cell_below hb1 e0; have e1 := cell_below hb1 e1; have HM := Lib.hid (HM.out.below hb1); have HB := Lib.hid (HB.out.trans (hb1.mono HB.out.size)); clear hb1))
      go_ret
      exact ⟨rfl, HB.out⟩
    · rcases H9.out hT with h1 | ⟨h1, h2⟩
      all_goals
        go_wp2_with (first | (go_at_call 22; refine (Total_any _ _ _ _ _ _ _ _ _ HM.out).mono ?_; rintro e w' ⟨rfl, hb1⟩; have d0 := cell_below hb1 d0; have d1 := cell_below hb1 d1; have e0 := cell_below hb1 e0; have e1 := cell_below hb1 e1; have HM := Lib.hid (HM.out.below hb1); have HB := Lib.hid (HB.out.trans (hb1.mono HB.out.size)); clear hb1))
        go_ret
        exact ⟨rfl, HB.out⟩
end Go.Proofs.Ytgnmelmmcpmhoaa
