/-
  Walks: the law UpdatePostulates, over whatever memory.
-/
import Derived.Test.YtgnmelmmcpmhoaaProg
import Derived.Test.YtgnmelmmcpmhoaaBase
import Derived.Test.YtgnmelmmcpmhoaaUpdA
import Derived.Test.YtgnmelmmcpmhoaaUpdB
import Derived.Test.YtgnmelmmcpmhoaaUpdC
import Derived.Test.YtgnmelmmcpmhoaaUpdD
import Derived.Test.YtgnmelmmcpmhoaaRefB
import Derived.Test.YtgnmelmmcpmhoaaLawA
import Derived.Test.YtgnmelmmcpmhoaaLawB
import Derived.Test.YtgnmelmmcpmhoaaPlain
namespace Go.Proofs.Ytgnmelmmcpmhoaa
open Go.RowKit

theorem cells_box22 (w : World) (x y u v : Value) (T T2 : TypeId) : ((w.alloc (.cells #[x, y] T)).alloc (.cells #[u, v] T2)).cell? ⟨w.heap.size, 0, none⟩ = some x ∧ ((w.alloc (.cells #[x, y] T)).alloc (.cells #[u, v] T2)).cell? ⟨w.heap.size, 1, none⟩ = some y ∧
    ((w.alloc (.cells #[x, y] T)).alloc (.cells #[u, v] T2)).cell? ⟨w.heap.size + 1, 0, none⟩ = some u ∧ ((w.alloc (.cells #[x, y] T)).alloc (.cells #[u, v] T2)).cell? ⟨w.heap.size + 1, 1, none⟩ = some v ∧ Below w.heap.size w ((w.alloc (.cells #[x, y] T)).alloc (.cells #[u, v] T2)) :=
  ⟨by go_simp, by go_simp, by go_simp, by go_simp, ((Below.refl _ _).alloc (Nat.le_refl _) _).alloc (by simp) _⟩
theorem up_val (kk b s X : Nat) (A : Option Addr) (n c : Nat) (R : Nat → Option Addr) (m cc : Nat → Nat) (F : Nat → Nat → Nat) (w : World) (hM : Mat w A n R m cc F)
    (hX : X = updS n F b s) (hc : checkZ kk n m F = 0) (hb : b < 2 ^ n) (hs : s < 2 ^ n) :
    Calls Try.prog 33 #[.agg #[.int .i64 kk, .slice A n c], .int .u64 b, .int .u64 s] w fun e w' => e = .returned (.tuple #[.int .u64 X, .bool true]) ∧ Below w.heap.size w w' := by
  obtain ⟨kk', h1, h2, h3, -⟩ := checkZ_ok hc
  have h8 := pow_le8 h3 h2
  have h64 := pow_lt64 (k := n) (by omega)
  have h := up_any kk b s A n c R m cc F w hM (by omega) (by omega)
  have e1 : updV kk n m F b s = X := by unfold updV; rw [if_pos ⟨hc, hb, hs⟩, hX]
  have e2 : upOk kk n m F b s = true := by unfold upOk updE; rw [if_pos hc, if_pos ⟨hb, hs⟩]; rfl
  rw [e1, e2] at h
  exact h
/-- The tests of UpdatePostulates, for the results x, y and both of b at s, t and s & t. -/
theorem post_facts {n : Nat} {F : Nat → Nat → Nat} (H : FamOk n F) (hn : n ≤ 63) {b s t X Y Z : Nat} (hb : b < 2 ^ n) (hs : s < 2 ^ n) (ht : t < 2 ^ n) (hX : X = updS n F b s) (hY : Y = updS n F b t) (hZ : Z = updS n F b (s &&& t)) :
    (bits .andNot .u64 (X : Int) (s : Int) == 0) = true ∧
    ((bits .andNot .u64 (b : Int) (s : Int) != 0) = true ∨ ((bits .andNot .u64 (b : Int) (s : Int) != 0) = false ∧ ((X : Int) == (b : Int)) = true)) ∧
    (((b : Int) == 0) = true ∨ (((b : Int) == 0) = false ∧ ((s : Int) == 0) = true) ∨ (((b : Int) == 0) = false ∧ ((s : Int) == 0) = false ∧ ((X : Int) != 0) = true)) ∧
    (bits .andNot .u64 ((X &&& t : Nat) : Int) (Z : Int) == 0) = true ∧
    ((bits .andNot .u64 (X : Int) (t : Int) != 0) = true ∨ ((bits .andNot .u64 (X : Int) (t : Int) != 0) = false ∧ (bits .andNot .u64 (Y : Int) (s : Int) != 0) = true) ∨
      ((bits .andNot .u64 (X : Int) (t : Int) != 0) = false ∧ (bits .andNot .u64 (Y : Int) (s : Int) != 0) = false ∧ ((X : Int) == (Y : Int)) = true)) := by
  have h64 := pow_lt64 (k := n) (by omega)
  have hXl : X < 2 ^ n := by rw [hX]; exact updS_lt _ _ _ _
  have hYl : Y < 2 ^ n := by rw [hY]; exact updS_lt _ _ _ _
  have hZl : Z < 2 ^ n := by rw [hZ]; exact updS_lt _ _ _ _
  have hxt : X &&& t < 18446744073709551616 := and_lt64 (by omega)
  rw [bits_andNot X s (by omega) (by omega), bits_andNot b s (by omega) (by omega), bits_andNot (X &&& t) Z hxt (by omega), bits_andNot X t (by omega) (by omega), bits_andNot Y s (by omega) (by omega)]
  refine ⟨?_, ?_, ?_, ?_, ?_⟩
  · have : andNot X s = 0 := (andNot_eq_zero (by omega) (by omega)).2 fun i hi => by rw [hX] at hi; exact u1 hi
    rw [this]; rfl
  · by_cases h : andNot b s = 0
    · refine .inr ⟨int_ne0f.2 h, ?_⟩
      rw [hX, u2 H hb ((andNot_eq_zero (by omega) (by omega)).1 h)]; simp
    · exact .inl (int_ne0.2 h)
  · by_cases h0 : b = 0
    · exact .inl (by rw [h0]; rfl)
    · refine .inr ?_
      have hb' : ((b : Int) == 0) = false := by simpa using h0
      by_cases h1 : s = 0
      · exact .inl ⟨hb', by rw [h1]; rfl⟩
      · exact .inr ⟨hb', by simpa using h1, int_ne0.2 (by rw [hX]; exact u3 H hb hs h0 h1)⟩
  · have : andNot (X &&& t) Z = 0 := (andNot_eq_zero hxt (by omega)).2 fun i hi => by
      rw [Nat.testBit_and, Bool.and_eq_true, hX] at hi
      rw [hZ]; exact u5 hi.1 hi.2
    rw [this]; rfl
  · by_cases h : andNot X t = 0
    · refine .inr ?_
      by_cases h' : andNot Y s = 0
      · refine .inr ⟨int_ne0f.2 h, int_ne0f.2 h', ?_⟩
        have e : X = Y := by
          rw [hX, hY]
          exact u6 H (by rw [← hX]; exact (andNot_eq_zero (by omega) (by omega)).1 h) (by rw [← hY]; exact (andNot_eq_zero (by omega) (by omega)).1 h')
        rw [e]; simp
      · exact .inl ⟨int_ne0f.2 h, int_ne0.2 h'⟩
    · exact .inl (int_ne0.2 h)

set_option maxHeartbeats 4000000 in
theorem postulates_core (k : Int) (b s t : Nat) (A : Option Addr) (n c : Nat) (R : Nat → Option Addr) (m cc : Nat → Nat) (F : Nat → Nat → Nat) (w : World) (hM : Mat w A n R m cc F) (hb : b < 18446744073709551616) (hs : s < 18446744073709551616) (ht : t < 18446744073709551616) :
    Calls Try.prog 5 #[.agg #[.int .i64 k, .slice A n c], .int .u64 b, .agg #[.int .u64 s, .int .u64 t]] w fun e w' => e = .returned (.bool true) ∧ Below w.heap.size w w' := by
  have HM := Lib.hid hM
  clear hM
  cases hr : rightB k n m F
  · go_enter Try.func5, Try.ntmps5
    go_wp2_with fail
    obtain ⟨d0, d1, e0, e1, hB⟩ := cells_box22 w (.int .i64 k) (.slice A n c) (.int .u64 s) (.int .u64 t) 24 33
    generalize (w.alloc (.cells #[.int .i64 k, .slice A n c] 24)).alloc (.cells #[.int .u64 s, .int .u64 t] 33) = W at d0 d1 e0 e1 hB ⊢
    have HM := Lib.hid (HM.out.below hB)
    have HB := Lib.hid hB
    clear hB
    go_wp2_with (first | (go_at_call 14; refine (awake_any _).mono ?_; rintro e w' ⟨rfl, hb1⟩; have d0 := cell_below hb1 d0; have d1 := cell_below hb1 d1; have e0 := cell_below hb1 e0; have e1 := cell_below hb1 e1; have HM := Lib.hid (HM.out.below hb1); have HB := Lib.hid (HB.out.trans (hb1.mono HB.out.size)); clear hb1) | (go_at_call 31; refine (right_any _ _ _ _ _ _ _ _ _ HM.out).mono ?_; rintro e w' ⟨rfl, hb1⟩; have d0 := cell_below hb1 d0; have d1 := cell_below hb1 d1; have e0 := cell_below hb1 e0; have e1 := cell_below hb1 e1; have HM := Lib.hid (HM.out.below hb1); have HB := Lib.hid (HB.out.trans (hb1.mono HB.out.size)); clear hb1))
    go_ret
    exact ⟨rfl, HB.out⟩
  · have hchk := (rightB_ok hr).2
    have HO := Lib.hid (famOk_of hchk)
    have HC := Lib.hid hchk
    obtain ⟨kk, rfl, hk3, hnk, -⟩ := checkZ_ok hchk
    have hn8 := pow_le8 hnk hk3
    have HN := Lib.hid hnk
    clear hchk hnk
    go_enter Try.func5, Try.ntmps5
    go_wp2_with fail
    obtain ⟨d0, d1, e0, e1, hB⟩ := cells_box22 w (.int .i64 kk) (.slice A n c) (.int .u64 s) (.int .u64 t) 24 33
    generalize (w.alloc (.cells #[.int .i64 kk, .slice A n c] 24)).alloc (.cells #[.int .u64 s, .int .u64 t] 33) = W at d0 d1 e0 e1 hB ⊢
    have HM := Lib.hid (HM.out.below hB)
    have HB := Lib.hid hB
    clear hB
    go_wp2_with (first | (go_at_call 14; refine (awake_any _).mono ?_; rintro e w' ⟨rfl, hb1⟩; have d0 := cell_below hb1 d0; have d1 := cell_below hb1 d1; have e0 := cell_below hb1 e0; have e1 := cell_below hb1 e1; have HM := Lib.hid (HM.out.below hb1); have HB := Lib.hid (HB.out.trans (hb1.mono HB.out.size)); clear hb1) | (go_at_call 31; refine (right_any _ _ _ _ _ _ _ _ _ HM.out).mono ?_; rintro e w' ⟨rfl, hb1⟩; have d0 := cell_below hb1 d0; have d1 := cell_below hb1 d1; have e0 := cell_below hb1 e0; have e1 := cell_below hb1 e1; have HM := Lib.hid (HM.out.below hb1); have HB := Lib.hid (HB.out.trans (hb1.mono HB.out.size)); clear hb1))
    obtain ⟨bb, ebb⟩ : ∃ bb, bb = b &&& (2 ^ 2 ^ kk - 1) := ⟨_, rfl⟩
    obtain ⟨ss, ess⟩ : ∃ ss, ss = s &&& (2 ^ 2 ^ kk - 1) := ⟨_, rfl⟩
    obtain ⟨tt, ett⟩ : ∃ tt, tt = t &&& (2 ^ 2 ^ kk - 1) := ⟨_, rfl⟩
    obtain ⟨hmb, hbl⟩ := and_mask (by omega) hb ebb
    obtain ⟨hms, hsl⟩ := and_mask (by omega) hs ess
    obtain ⟨hmt, htl⟩ := and_mask (by omega) ht ett
    clear ebb ess ett
    rw [← HN.out] at hbl hsl htl
    have h64 := pow_lt64 (k := n) (by omega)
    obtain ⟨st, est⟩ : ∃ st, st = ss &&& tt := ⟨_, rfl⟩
    have hst : bits .and .u64 (ss : Int) (tt : Int) = (st : Int) := by rw [u64_and_nat _ _ (by omega) (by omega), est]
    have hstl : st < 2 ^ n := by rw [est]; exact Nat.lt_of_le_of_lt Nat.and_le_left hsl
    obtain ⟨X, eX⟩ : ∃ X, X = updS n F bb ss := ⟨_, rfl⟩
    obtain ⟨Y, eY⟩ : ∃ Y, Y = updS n F bb tt := ⟨_, rfl⟩
    obtain ⟨Z, eZ⟩ : ∃ Z, Z = updS n F bb st := ⟨_, rfl⟩
    obtain ⟨XT, eXT⟩ : ∃ XT, XT = X &&& tt := ⟨_, rfl⟩
    have hXl : X < 2 ^ n := by rw [eX]; exact updS_lt _ _ _ _
    have hxt : bits .and .u64 (X : Int) (tt : Int) = (XT : Int) := by rw [u64_and_nat _ _ (by omega) (by omega), eXT]
    obtain ⟨f1, f2, f3, f4, f5⟩ := post_facts HO.out (by omega) hbl hsl htl eX eY (Z := Z) (by rw [eZ, est])
    rw [← eXT] at f4
    have HX := Lib.hid eX
    have HY := Lib.hid eY
    have HZ := Lib.hid eZ
    have LB := Lib.hid hbl
    have LS := Lib.hid hsl
    have LT := Lib.hid htl
    have LST := Lib.hid hstl
    clear eX eY eZ eXT est hbl hsl htl hstl hXl h64
    go_quiet ((go_at_call 32; first | exact quiet_l0 (lawAll_any _ _ (by omega)) | exact quiet_l1 (lawAll_any _ _ (by omega))))
    generalize hV : World.drewN _ _ = V2
    have HM : Hid (Mat V2 A n R m cc F) := by rw [← hV]; exact HM.out
    have d0 : V2.cell? ⟨w.heap.size, 0, none⟩ = some (.int .i64 kk) := by rw [← hV]; exact d0
    have d1 : V2.cell? ⟨w.heap.size, 1, none⟩ = some (.slice A n c) := by rw [← hV]; exact d1
    have e0 : V2.cell? ⟨w.heap.size + 1, 0, none⟩ = some (.int .u64 s) := by rw [← hV]; exact e0
    have e1 : V2.cell? ⟨w.heap.size + 1, 1, none⟩ = some (.int .u64 t) := by rw [← hV]; exact e1
    have HB : Hid (Below w.heap.size w V2) := by rw [← hV]; exact below_drewN HB.out _
    clear hV
    clear hmb hms hmt
    have G2 := Lib.hid f2
    have G3 := Lib.hid f3
    have G5 := Lib.hid f5
    clear f2 f3 f5
    go_wp2_with fail
    refine (up_val kk bb ss X _ _ _ _ _ _ _ _ HM.out HX.out HC.out LB.out LS.out).mono ?_
    rintro e w' ⟨rfl, hb1⟩
    have d0 := cell_below hb1 d0
    have d1 := cell_below hb1 d1
    have e0 := cell_below hb1 e0
    have e1 := cell_below hb1 e1
    have HM := Lib.hid (HM.out.below hb1)
    have HB := Lib.hid (HB.out.trans (hb1.mono HB.out.size))
    clear hb1
    go_wp2_with fail
    refine (up_val kk bb tt Y _ _ _ _ _ _ _ _ HM.out HY.out HC.out LB.out LT.out).mono ?_
    rintro e w' ⟨rfl, hb1⟩
    have d0 := cell_below hb1 d0
    have d1 := cell_below hb1 d1
    have e0 := cell_below hb1 e0
    have e1 := cell_below hb1 e1
    have HM := Lib.hid (HM.out.below hb1)
    have HB := Lib.hid (HB.out.trans (hb1.mono HB.out.size))
    clear hb1
    go_wp2_with fail
    refine (up_val kk bb st Z _ _ _ _ _ _ _ _ HM.out HZ.out HC.out LB.out LST.out).mono ?_
    rintro e w' ⟨rfl, hb1⟩
    have d0 := cell_below hb1 d0
    have d1 := cell_below hb1 d1
    have e0 := cell_below hb1 e0
    have e1 := cell_below hb1 e1
    have HM := Lib.hid (HM.out.below hb1)
    have HB := Lib.hid (HB.out.trans (hb1.mono HB.out.size))
    clear hb1
    rcases G2.out with f2 | ⟨f2, f6⟩ <;> rcases G3.out with f3 | ⟨f3, f7⟩ | ⟨f3, f7, f8⟩ <;> rcases G5.out with f5 | ⟨f5, f9⟩ | ⟨f5, f9, f10⟩
    all_goals
      go_wp2
      go_ret
      exact ⟨rfl, HB.out⟩
end Go.Proofs.Ytgnmelmmcpmhoaa
