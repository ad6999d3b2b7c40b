/-
  Walks: right; the law UpdateErases, over whatever memory.
-/
import Derived.Test.YtgnmelmmcpmhoaaProg
import Derived.Test.YtgnmelmmcpmhoaaBase
import Derived.Test.YtgnmelmmcpmhoaaUpdA
import Derived.Test.YtgnmelmmcpmhoaaUpdB
import Derived.Test.YtgnmelmmcpmhoaaUpdC
import Derived.Test.YtgnmelmmcpmhoaaUpdD
import Derived.Test.YtgnmelmmcpmhoaaRefB
import Derived.Test.YtgnmelmmcpmhoaaLawA
import Derived.Test.YtgnmelmmcpmhoaaPlain
namespace Go.Proofs.Ytgnmelmmcpmhoaa
open Go.RowKit

def rightB (k : Int) (n : Nat) (m : Nat → Nat) (F : Nat → Nat → Nat) : Bool := fewB n m && checkZ k n m F == 0
theorem rightB_ok {k : Int} {n : Nat} {m : Nat → Nat} {F : Nat → Nat → Nat} (h : rightB k n m F = true) : fewB n m = true ∧ checkZ k n m F = 0 := by
  unfold rightB at h; simpa using h
set_option maxHeartbeats 400000 in
theorem right_any (k : Int) (A : Option Addr) (n c : Nat) (R : Nat → Option Addr) (m cc : Nat → Nat) (F : Nat → Nat → Nat) (w : World) (hM : Mat w A n R m cc F) :
    Calls Try.prog 31 #[.agg #[.int .i64 k, .slice A n c]] w fun e w' => e = .returned (.bool (rightB k n m F)) ∧ Below w.heap.size w w' := by
  have HM := Lib.hid hM
  clear hM
  cases hf : fewB n m
  · have HR := Lib.hid (show rightB k n m F = false by unfold rightB; rw [hf]; rfl)
    go_enter Try.func31, Try.ntmps31
    go_wp2_with fail
    obtain ⟨d0, d1⟩ := cells_box2 w (.int .i64 k) (.slice A n c) 24
    have hB := below_alloc w (.cells #[.int .i64 k, .slice A n c] 24)
    generalize w.alloc (.cells #[.int .i64 k, .slice A n c] 24) = W at d0 d1 hB ⊢
    have HM := Lib.hid (HM.out.below hB)
    have HB := Lib.hid hB
    clear hB
    go_wp2_with (go_at_call 15; refine (Few_any _ _ _ _ _ _ _ _ _ HM.out).mono ?_; rintro e w' ⟨rfl, hb1⟩; have d0 := cell_below hb1 d0; have d1 := cell_below hb1 d1; have HM := Lib.hid (HM.out.below hb1); have HB := Lib.hid (HB.out.trans (hb1.mono HB.out.size)); clear hb1)
    go_ret
    exact ⟨by rw [HR.out]; rfl, HB.out⟩
  · by_cases hc : checkZ k n m F = 0
    · have HR := Lib.hid (show rightB k n m F = true by unfold rightB; rw [hf, hc]; rfl)
      obtain ⟨kk, rfl, hk, -⟩ := checkZ_ok hc
      have hc' : ((checkZ kk n m F : Int) == 0) = true := by rw [hc]; rfl
      clear hc
      have hd1 : decide ((kk : Int) ≤ 3) = true := by simp; omega
      have hd2 : decide ((0 : Int) ≤ (kk : Int)) = true := by simp
      go_enter Try.func31, Try.ntmps31
      go_wp2_with fail
      obtain ⟨d0, d1⟩ := cells_box2 w (.int .i64 kk) (.slice A n c) 24
      have hB := below_alloc w (.cells #[.int .i64 kk, .slice A n c] 24)
      generalize w.alloc (.cells #[.int .i64 kk, .slice A n c] 24) = W at d0 d1 hB ⊢
      have HM := Lib.hid (HM.out.below hB)
      have HB := Lib.hid hB
      clear hB
      go_wp2_with (first | (go_at_call 15; refine (Few_any _ _ _ _ _ _ _ _ _ HM.out).mono ?_; rintro e w' ⟨rfl, hb1⟩; have d0 := cell_below hb1 d0; have d1 := cell_below hb1 d1; have HM := Lib.hid (HM.out.below hb1); have HB := Lib.hid (HB.out.trans (hb1.mono HB.out.size)); clear hb1) | (go_at_call 21; refine (refCheck_any _ _ _ _ _ _ _ _ _ HM.out).mono ?_; rintro e w' ⟨rfl, hb1⟩; have d0 := cell_below hb1 d0; have d1 := cell_below hb1 d1; have HM := Lib.hid (HM.out.below hb1); have HB := Lib.hid (HB.out.trans (hb1.mono HB.out.size)); clear hb1))
      go_ret
      exact ⟨by rw [HR.out]; first | rfl | (rw [hd1]; rfl), HB.out⟩
    · have HR := Lib.hid (show rightB k n m F = false by unfold rightB; rw [hf]; simpa using hc)
      have hc' : ((checkZ k n m F : Int) == 0) = false := by simpa using hc
      clear hc
      go_enter Try.func31, Try.ntmps31
      go_wp2_with fail
      obtain ⟨d0, d1⟩ := cells_box2 w (.int .i64 k) (.slice A n c) 24
      have hB := below_alloc w (.cells #[.int .i64 k, .slice A n c] 24)
      generalize w.alloc (.cells #[.int .i64 k, .slice A n c] 24) = W at d0 d1 hB ⊢
      have HM := Lib.hid (HM.out.below hB)
      have HB := Lib.hid hB
      clear hB
      go_wp2_with (first | (go_at_call 15; refine (Few_any _ _ _ _ _ _ _ _ _ HM.out).mono ?_; rintro e w' ⟨rfl, hb1⟩; have d0 := cell_below hb1 d0; have d1 := cell_below hb1 d1; have HM := Lib.hid (HM.out.below hb1); have HB := Lib.hid (HB.out.trans (hb1.mono HB.out.size)); clear hb1) | (go_at_call 21; refine (refCheck_any _ _ _ _ _ _ _ _ _ HM.out).mono ?_; rintro e w' ⟨rfl, hb1⟩; have d0 := cell_below hb1 d0; have d1 := cell_below hb1 d1; have HM := Lib.hid (HM.out.below hb1); have HB := Lib.hid (HB.out.trans (hb1.mono HB.out.size)); clear hb1))
      go_ret
      exact ⟨by rw [HR.out]; rfl, HB.out⟩

theorem Erase_val (kk b s X : Nat) (A : Option Addr) (n c : Nat) (R : Nat → Option Addr) (m cc : Nat → Nat) (F : Nat → Nat → Nat) (w : World) (hM : Mat w A n R m cc F) (hb : b < 18446744073709551616) (hs : s < 18446744073709551616)
    (hX : X = updS n F b (complS n s) ||| b) (he : updE kk n m F b s = 0) :
    Calls Try.prog 29 #[.agg #[.int .i64 kk, .slice A n c], .int .u64 b, .int .u64 s] w fun e w' => e = .returned (.tuple #[.int .u64 X, .int .i64 0]) ∧ Below w.heap.size w w' := by
  subst hX; exact Erase_in kk b s A n c R m cc F w hM hb hs he
theorem and_mask {b k bb : Nat} (hk : k ≤ 4) (hb : b < 18446744073709551616) (e : bb = b &&& (2 ^ 2 ^ k - 1)) : bits .and .u64 (b : Int) ((2 ^ 2 ^ k - 1 : Nat) : Int) = (bb : Int) ∧ bb < 2 ^ 2 ^ k := by
  refine ⟨by rw [u64_and_nat _ _ hb (mask_lt hk), e], ?_⟩
  have h0 : 0 < 2 ^ 2 ^ k := Nat.two_pow_pos _
  have : bb ≤ 2 ^ 2 ^ k - 1 := by rw [e]; exact Nat.and_le_right
  omega

set_option maxHeartbeats 1000000 in
theorem erases_core (k : Int) (b s : Nat) (A : Option Addr) (n c : Nat) (R : Nat → Option Addr) (m cc : Nat → Nat) (F : Nat → Nat → Nat) (w : World) (hM : Mat w A n R m cc F) (hb : b < 18446744073709551616) (hs : s < 18446744073709551616) :
    Calls Try.prog 8 #[.agg #[.int .i64 k, .slice A n c], .int .u64 b, .int .u64 s] w fun e w' => e = .returned (.bool true) ∧ Below w.heap.size w w' := by
  have HM := Lib.hid hM
  clear hM
  cases hr : rightB k n m F
  · go_enter Try.func8, Try.ntmps8
    go_wp2_with fail
    obtain ⟨d0, d1⟩ := cells_box2 w (.int .i64 k) (.slice A n c) 24
    have hB := below_alloc w (.cells #[.int .i64 k, .slice A n c] 24)
    generalize w.alloc (.cells #[.int .i64 k, .slice A n c] 24) = W at d0 d1 hB ⊢
    have HM := Lib.hid (HM.out.below hB)
    have HB := Lib.hid hB
    clear hB
    go_wp2_with (first | (go_at_call 14; refine (awake_any _).mono ?_; rintro e w' ⟨rfl, hb1⟩; have d0 := cell_below hb1 d0; have d1 := cell_below hb1 d1; have HM := Lib.hid (HM.out.below hb1); have HB := Lib.hid (HB.out.trans (hb1.mono HB.out.size)); clear hb1) | (go_at_call 31; refine (right_any _ _ _ _ _ _ _ _ _ HM.out).mono ?_; rintro e w' ⟨rfl, hb1⟩; have d0 := cell_below hb1 d0; have d1 := cell_below hb1 d1; have HM := Lib.hid (HM.out.below hb1); have HB := Lib.hid (HB.out.trans (hb1.mono HB.out.size)); clear hb1))
    go_ret
    exact ⟨rfl, HB.out⟩
  · have hchk := (rightB_ok hr).2
    have HO := Lib.hid (famOk_of hchk)
    have HC := Lib.hid hchk
    obtain ⟨kk, rfl, hk3, hnk, -⟩ := checkZ_ok hchk
    have hn8 := pow_le8 hnk hk3
    have HN := Lib.hid hnk
    clear hchk hnk
    go_enter Try.func8, Try.ntmps8
    go_wp2_with fail
    obtain ⟨d0, d1⟩ := cells_box2 w (.int .i64 kk) (.slice A n c) 24
    have hB := below_alloc w (.cells #[.int .i64 kk, .slice A n c] 24)
    generalize w.alloc (.cells #[.int .i64 kk, .slice A n c] 24) = W at d0 d1 hB ⊢
    have HM := Lib.hid (HM.out.below hB)
    have HB := Lib.hid hB
    clear hB
    go_wp2_with (first | (go_at_call 14; refine (awake_any _).mono ?_; rintro e w' ⟨rfl, hb1⟩; have d0 := cell_below hb1 d0; have d1 := cell_below hb1 d1; have HM := Lib.hid (HM.out.below hb1); have HB := Lib.hid (HB.out.trans (hb1.mono HB.out.size)); clear hb1) | (go_at_call 31; refine (right_any _ _ _ _ _ _ _ _ _ HM.out).mono ?_; rintro e w' ⟨rfl, hb1⟩; have d0 := cell_below hb1 d0; have d1 := cell_below hb1 d1; have HM := Lib.hid (HM.out.below hb1); have HB := Lib.hid (HB.out.trans (hb1.mono HB.out.size)); clear hb1))
    obtain ⟨bb, ebb⟩ : ∃ bb, bb = b &&& (2 ^ 2 ^ kk - 1) := ⟨_, rfl⟩
    obtain ⟨ss, ess⟩ : ∃ ss, ss = s &&& (2 ^ 2 ^ kk - 1) := ⟨_, rfl⟩
    obtain ⟨hmb, hbl⟩ := and_mask (by omega) hb ebb
    obtain ⟨hms, hsl⟩ := and_mask (by omega) hs ess
    clear ebb ess
    have hbl64 : bb < 18446744073709551616 := Nat.lt_trans hbl (pow_lt64 (by have := two_pow_le16 (k := kk) (by omega); omega))
    have hsl64 : ss < 18446744073709551616 := Nat.lt_trans hsl (pow_lt64 (by have := two_pow_le16 (k := kk) (by omega); omega))
    have HE := Lib.hid (show updE kk n m F bb ss = 0 by unfold updE; rw [if_pos HC.out, HN.out, if_pos ⟨hbl, hsl⟩])
    obtain ⟨X, eX⟩ : ∃ X, X = updS n F bb (complS n ss) ||| bb := ⟨_, rfl⟩
    rw [← HN.out] at hbl hsl
    have hX64 : X < 18446744073709551616 := by rw [eX]; exact Nat.lt_trans (Nat.or_lt_two_pow (updS_lt n F _ _) hbl) (pow_lt64 (by omega))
    have h1 : bits .andNot .u64 (bb : Int) (X : Int) = 0 := by
      rw [bits_andNot _ _ hbl64 hX64, eX, erase_keeps _ _ (by rw [← eX]; exact hX64) hbl64]; rfl
    have h2 : ((bb : Int) != 0) = false ∨ (((bb : Int) != 0) = true ∧ ((ss : Int) != ((2 ^ 2 ^ kk - 1 : Nat) : Int)) = false) ∨ (((bb : Int) != 0) = true ∧ ((ss : Int) != ((2 ^ 2 ^ kk - 1 : Nat) : Int)) = true ∧ (bits .andNot .u64 (X : Int) (ss : Int) == 0) = false) := by
      by_cases hb0 : bb = 0
      · exact .inl (int_ne0f.2 hb0)
      · refine .inr ?_
        by_cases hs1 : ss = 2 ^ 2 ^ kk - 1
        · exact .inl ⟨int_ne0.2 hb0, by rw [hs1]; simp⟩
        · refine .inr ⟨int_ne0.2 hb0, by rw [bne_iff_ne]; omega, ?_⟩
          rw [bits_andNot _ _ hX64 hsl64, eX]
          have := erase_gives_up HO.out (by omega) hbl hsl hb0 (by rw [HN.out]; exact hs1)
          simpa using this
    have h3 : (bits .and .u64 (bb : Int) (ss : Int) != 0) = true ∨ ((bits .and .u64 (bb : Int) (ss : Int) != 0) = false ∧ ((X : Int) == (bb : Int)) = true) := by
      rw [u64_and_nat _ _ hbl64 hsl64]
      by_cases h0 : bb &&& ss = 0
      · refine .inr ⟨int_ne0f.2 h0, ?_⟩
        rw [eX, erase_idle HO.out (by omega) hbl hsl64 h0]; simp
      · exact .inl (int_ne0.2 h0)
    have HX := Lib.hid eX
    clear eX hbl hsl
    go_quiet ((go_at_call 32; first | exact quiet_l0 (lawAll_any _ _ (by omega)) | exact quiet_l1 (lawAll_any _ _ (by omega))))
    generalize hV : World.drewN _ _ = V2
    have HM : Hid (Mat V2 A n R m cc F) := by rw [← hV]; exact HM.out
    have d0 : V2.cell? ⟨w.heap.size, 0, none⟩ = some (.int .i64 kk) := by rw [← hV]; exact d0
    have d1 : V2.cell? ⟨w.heap.size, 1, none⟩ = some (.slice A n c) := by rw [← hV]; exact d1
    have HB : Hid (Below w.heap.size w V2) := by rw [← hV]; exact below_drewN HB.out _
    clear hV
    rcases h2 with h2 | ⟨h2, h4⟩ | ⟨h2, h4, h5⟩ <;> rcases h3 with h3 | ⟨h3, h6⟩
    all_goals
      go_wp2_with (first | (go_at_call 29; refine (Erase_val _ _ _ _ _ _ _ _ _ _ _ _ HM.out (by assumption) (by assumption) HX.out HE.out).mono ?_; rintro e w' ⟨rfl, hb1⟩; have d0 := cell_below hb1 d0; have d1 := cell_below hb1 d1; have HM := Lib.hid (HM.out.below hb1); have HB := Lib.hid (HB.out.trans (hb1.mono HB.out.size)); clear hb1) | (go_at_call 32; refine (lawAll_any _ _ (by omega)).mono ?_; rintro e w' ⟨rfl, rfl⟩))
      go_ret
      exact ⟨rfl, HB.out⟩
end Go.Proofs.Ytgnmelmmcpmhoaa
