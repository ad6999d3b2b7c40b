/-
  Walks of layer 54: Time, After, Start, of the program and of the reference.
-/
import Derived.Test.YtgnkeecjaffnaaaProg
import Derived.Test.YtgnkeecjaffnaaaBase
import Derived.Test.YtgnkeecjaffnaaaPrP
namespace Go.Proofs.Ytgnkeecjaffnaaa
open Go.RowKit

theorem no_le {a b : Int} (h : ¬ a ≤ b) : b < a := by omega
set_option maxHeartbeats 1000000 in
theorem Time_any (a h : Int) (w : World) (hb : -9223372036854775808 ≤ h ∧ h ≤ 9223372036854775807) :
    Calls Try.prog 15 #[.int .i64 a, .int .i64 h] w fun e w' => e = .returned (.int .i64 (tmV a h)) ∧ w = w' := by
  by_cases h0 : a < 0
  · have hd1 : decide (a < 0) = true := decide_eq_true h0
    have HE := Lib.hid (show tmV a h = -1 from if_pos (.inl h0))
    clear h0
    go_enter Try.func15, Try.ntmps15
    go_wp2
    go_ret
    exact ⟨by rw [HE.out]; rfl, rfl⟩
  have hd1 : decide (a < 0) = false := decide_eq_false h0
  by_cases h1 : 1 < a
  · have hd2 : decide (1 < a) = true := decide_eq_true h1
    have HE := Lib.hid (show tmV a h = -1 from if_pos (.inr (.inl h1)))
    clear h0 h1
    go_enter Try.func15, Try.ntmps15
    go_wp2
    go_ret
    exact ⟨by rw [HE.out]; rfl, rfl⟩
  have hd2 : decide (1 < a) = false := decide_eq_false h1
  by_cases h4 : h < 4
  · have hd3 : decide (h < 4) = true := decide_eq_true h4
    have HE := Lib.hid (show tmV a h = -1 from if_pos (.inr (.inr h4)))
    clear h0 h1 h4
    go_enter Try.func15, Try.ntmps15
    go_wp2
    go_ret
    exact ⟨by rw [HE.out]; rfl, rfl⟩
  have hd3 : decide (h < 4) = false := decide_eq_false h4
  obtain ⟨H, rfl⟩ : ∃ H : Nat, h = H := ⟨h.toNat, by omega⟩
  have HE := Lib.hid (show tmV a H = tmN a H by unfold tmV; rw [if_neg (by omega)]; rfl)
  have ha0 : 0 ≤ a := by omega
  have ha1 : a ≤ 1 := by omega
  clear h0 h1 h4
  go_enter Try.func15, Try.ntmps15
  go_wp2
  go_loop [1, 5] (fun hv tv => ∃ c t : Nat, hv = .int .i64 c ∧ tv = .int .i64 t ∧ c ≤ 9223372036854775807 ∧ t + c ≤ 9223372036854775807 ∧ Hid (H / 4 ^ t = c) ∧ Hid (∀ s, s < t → 6 ≤ H / 4 ^ s)) (fun hv _ => (intOf hv).toNat)
  case atStart => exact ⟨H, 0, rfl, rfl, by omega, by omega, Lib.hid (by simp), Lib.hid fun s hs => absurd hs (Nat.not_lt_zero _)⟩
  case round =>
    obtain ⟨c, t, rfl, rfl, hc, htc, HC, HS⟩ := hrel
    by_cases h8 : 8 ≤ c
    · have hd4 : decide (8 ≤ c) = true := decide_eq_true h8
      have hd5 : decide ((8 : Int) ≤ (c : Int)) = true := decide_eq_true (by omega)
      have HC2 := Lib.hid (show H / 4 ^ (t + 1) = c / 4 by rw [div_pow_succ, HC.out])
      have HS2 : Hid (∀ s, s < t + 1 → 6 ≤ H / 4 ^ s) := Lib.hid fun s hs => by
        rcases Nat.lt_succ_iff_lt_or_eq.1 hs with h2 | rfl
        · exact HS.out s h2
        · rw [HC.out]; omega
      clear HC HS
      go_wp2_with fail
      go_round
      case rel => exact ⟨c / 4, t + 1, by first | rfl | go_num | (congr 1; omega), by go_num, by omega, by omega, HC2, HS2⟩
      case measure => simp [intOf]; omega
    · have hd4 : decide (8 ≤ c) = false := decide_eq_false h8
      have hd5 : decide ((8 : Int) ≤ (c : Int)) = false := decide_eq_false (by omega)
      have HF := Lib.hid (tm_end (a := a) HC.out (by omega) HS.out)
      clear HC HS
      by_cases c4 : c < 4
      · have e1 : decide (c < 4) = true := decide_eq_true c4
        have e1' : decide ((c : Int) < 4) = true := decide_eq_true (by omega)
        have HV := Lib.hid (show tmV a H = -1 by rw [HE.out, HF.out, if_neg (by omega)])
        clear c4 h8
        go_wp2_with fail
        go_ret
        exact ⟨by rw [HV.out]; rfl, rfl⟩
      have e1 : decide (c < 4) = false := decide_eq_false c4
      have e1' : decide ((c : Int) < 4) = false := decide_eq_false (by omega)
      by_cases c5 : 5 - a < c
      · have e2 : decide (5 - a < (c : Int)) = true := decide_eq_true c5
        have HV := Lib.hid (show tmV a H = -1 by rw [HE.out, HF.out, if_neg (by omega)])
        clear c4 h8 c5
        go_wp2_with fail
        go_ret
        exact ⟨by rw [HV.out]; rfl, rfl⟩
      have e2 : decide (5 - a < (c : Int)) = false := decide_eq_false c5
      by_cases t5 : 5 < t
      · have e3 : decide (5 < t) = true := decide_eq_true t5
        have e3' : decide ((5 : Int) < (t : Int)) = true := decide_eq_true (by omega)
        have HV := Lib.hid (show tmV a H = -1 by rw [HE.out, HF.out, if_neg (by omega)])
        clear c4 h8 c5 t5
        go_wp2_with fail
        go_ret
        exact ⟨by rw [HV.out]; rfl, rfl⟩
      · have e3 : decide (5 < t) = false := decide_eq_false t5
        have e3' : decide ((5 : Int) < (t : Int)) = false := decide_eq_false (by omega)
        have HV := Lib.hid (show tmV a H = t by rw [HE.out, HF.out, if_pos (by omega)])
        clear c4 h8 c5 t5
        go_wp2_with fail
        go_ret
        exact ⟨by rw [HV.out]; rfl, rfl⟩
set_option maxHeartbeats 1000000 in
theorem rTime_any (a h : Int) (w : World) (hb : -9223372036854775808 ≤ h ∧ h ≤ 9223372036854775807) :
    Calls Try.prog 16 #[.int .i64 a, .int .i64 h] w fun e w' => e = .returned (.int .i64 (tmV a h)) ∧ w = w' := by
  by_cases h0 : a < 0
  · have hd1 : decide (a < 0) = true := decide_eq_true h0
    have HE := Lib.hid (show tmV a h = -1 from if_pos (.inl h0))
    clear h0
    go_enter Try.func16, Try.ntmps16
    go_wp2
    go_ret
    exact ⟨by rw [HE.out]; rfl, rfl⟩
  have hd1 : decide (a < 0) = false := decide_eq_false h0
  by_cases h1 : 1 < a
  · have hd2 : decide (1 < a) = true := decide_eq_true h1
    have HE := Lib.hid (show tmV a h = -1 from if_pos (.inr (.inl h1)))
    clear h0 h1
    go_enter Try.func16, Try.ntmps16
    go_wp2
    go_ret
    exact ⟨by rw [HE.out]; rfl, rfl⟩
  have hd2 : decide (1 < a) = false := decide_eq_false h1
  by_cases h4 : h < 4
  · have hd3 : decide (h < 4) = true := decide_eq_true h4
    have HE := Lib.hid (show tmV a h = -1 from if_pos (.inr (.inr h4)))
    clear h0 h1 h4
    go_enter Try.func16, Try.ntmps16
    go_wp2
    go_ret
    exact ⟨by rw [HE.out]; rfl, rfl⟩
  have hd3 : decide (h < 4) = false := decide_eq_false h4
  obtain ⟨H, rfl⟩ : ∃ H : Nat, h = H := ⟨h.toNat, by omega⟩
  have HE := Lib.hid (show tmV a H = tmN a H by unfold tmV; rw [if_neg (by omega)]; rfl)
  by_cases hg : 16384 ≤ H
  · have hd6 : decide (16384 ≤ H) = true := decide_eq_true hg
    have hd7 : decide ((16384 : Int) ≤ (H : Int)) = true := decide_eq_true (by omega)
    have HV := Lib.hid (show tmV a H = -1 by rw [HE.out, tm_great hg])
    clear h0 h1 h4 hg
    go_enter Try.func16, Try.ntmps16
    go_wp2
    go_ret
    exact ⟨by rw [HV.out]; rfl, rfl⟩
  have hd6 : decide (16384 ≤ H) = false := decide_eq_false hg
  have hd7 : decide ((16384 : Int) ≤ (H : Int)) = false := decide_eq_false (by omega)
  have ha0 : 0 ≤ a := by omega
  have ha1 : a ≤ 1 := by omega
  clear h0 h1 h4
  go_enter Try.func16, Try.ntmps16
  go_wp2
  go_loop [5, 6] (fun tv hv => ∃ c t : Nat, hv = .int .i64 c ∧ tv = .int .i64 t ∧ c ≤ 9223372036854775807 ∧ t + c ≤ 9223372036854775807 ∧ Hid (H / 4 ^ t = c) ∧ Hid (∀ s, s < t → 6 ≤ H / 4 ^ s)) (fun _ hv => (intOf hv).toNat)
  case atStart => exact ⟨H, 0, rfl, rfl, by omega, by omega, Lib.hid (by simp), Lib.hid fun s hs => absurd hs (Nat.not_lt_zero _)⟩
  case round =>
    obtain ⟨c, t, rfl, rfl, hc, htc, HC, HS⟩ := hrel
    by_cases h8 : 16 ≤ c
    · have hd4 : decide (16 ≤ c) = true := decide_eq_true h8
      have hd5 : decide ((16 : Int) ≤ (c : Int)) = true := decide_eq_true (by omega)
      have HC2 := Lib.hid (show H / 4 ^ (t + 1) = c / 4 by rw [div_pow_succ, HC.out])
      have HS2 : Hid (∀ s, s < t + 1 → 6 ≤ H / 4 ^ s) := Lib.hid fun s hs => by
        rcases Nat.lt_succ_iff_lt_or_eq.1 hs with h2 | rfl
        · exact HS.out s h2
        · rw [HC.out]; omega
      clear HC HS
      go_wp2_with fail
      go_round
      case rel => exact ⟨c / 4, t + 1, by first | rfl | go_num | (congr 1; omega), by go_num, by omega, by omega, HC2, HS2⟩
      case measure => simp [intOf]; omega
    · have hd4 : decide (16 ≤ c) = false := decide_eq_false h8
      have hd5 : decide ((16 : Int) ≤ (c : Int)) = false := decide_eq_false (by omega)
      have HF := Lib.hid (tm_end (a := a) HC.out (by omega) HS.out)
      clear HC HS
      by_cases c4 : c = 4
      · have e1 : ((c : Int) != 4) = false := by rw [c4]; rfl
        by_cases t5 : 5 < t
        · have e3 : decide (5 < t) = true := decide_eq_true t5
          have e3' : decide ((5 : Int) < (t : Int)) = true := decide_eq_true (by omega)
          have HV := Lib.hid (show tmV a H = -1 by rw [HE.out, HF.out, if_neg (by omega)])
          clear c4 h8 t5
          go_wp2_with fail
          go_ret
          exact ⟨by rw [HV.out]; rfl, rfl⟩
        · have e3 : decide (5 < t) = false := decide_eq_false t5
          have e3' : decide ((5 : Int) < (t : Int)) = false := decide_eq_false (by omega)
          have HV := Lib.hid (show tmV a H = t by rw [HE.out, HF.out, if_pos (by omega)])
          clear c4 h8 t5
          go_wp2_with fail
          go_ret
          exact ⟨by rw [HV.out]; rfl, rfl⟩
      · have e1 : ((c : Int) != 4) = true := by rw [bne_iff_ne]; omega
        by_cases a0 : a = 0
        · have e2 : (a != 0) = false := by rw [a0]; rfl
          by_cases c5 : c = 5
          · have e4 : ((c : Int) != 5) = false := by rw [c5]; rfl
            by_cases t5 : 5 < t
            · have e3 : decide (5 < t) = true := decide_eq_true t5
              have e3' : decide ((5 : Int) < (t : Int)) = true := decide_eq_true (by omega)
              have HV := Lib.hid (show tmV a H = -1 by rw [HE.out, HF.out, if_neg (by omega)])
              clear c4 h8 t5 a0 c5
              go_wp2_with fail
              go_ret
              exact ⟨by rw [HV.out]; rfl, rfl⟩
            · have e3 : decide (5 < t) = false := decide_eq_false t5
              have e3' : decide ((5 : Int) < (t : Int)) = false := decide_eq_false (by omega)
              have HV := Lib.hid (show tmV a H = t by rw [HE.out, HF.out, if_pos (by omega)])
              clear c4 h8 t5 a0 c5
              go_wp2_with fail
              go_ret
              exact ⟨by rw [HV.out]; rfl, rfl⟩
          · have e4 : ((c : Int) != 5) = true := by rw [bne_iff_ne]; omega
            have HV := Lib.hid (show tmV a H = -1 by rw [HE.out, HF.out, if_neg (by omega)])
            clear c4 h8 a0 c5
            go_wp2_with fail
            go_ret
            exact ⟨by rw [HV.out]; rfl, rfl⟩
        · have e2 : (a != 0) = true := by rw [bne_iff_ne]; exact a0
          have HV := Lib.hid (show tmV a H = -1 by rw [HE.out, HF.out, if_neg (by omega)])
          clear c4 h8 a0
          go_wp2_with fail
          go_ret
          exact ⟨by rw [HV.out]; rfl, rfl⟩

/-! ### After -/
set_option maxHeartbeats 1000000 in
theorem After_any (h m : Int) (w : World) (hb : -9223372036854775808 ≤ h ∧ h ≤ 9223372036854775807) :
    Calls Try.prog 13 #[.int .i64 h, .int .i64 m] w fun e w' => e = .returned (.int .i64 (afV h m)) ∧ w = w' := by
  have HT := Lib.hid (Time_any 0 h w hb)
  have hr := tmV_range 0 h
  have hH := tmV_hist (h := h)
  obtain ⟨t, et⟩ : ∃ t, t = tmV 0 h := ⟨_, rfl⟩
  have HV := Lib.hid (show afV h m = if 0 ≤ t ∧ t ≤ 4 ∧ 0 ≤ m ∧ m ≤ 3 then 4 * h + m else -1 by rw [et]; rfl)
  rw [← et] at HT hr hH
  have hHH := Lib.hid hH
  clear et hH
  by_cases t0 : t < 0
  · have e1 : decide (t < 0) = true := decide_eq_true t0
    have HE := Lib.hid (show afV h m = -1 by rw [HV.out, if_neg (by omega)])
    clear t0
    go_enter Try.func13, Try.ntmps13
    go_wp2_with (go_at_call 15; refine (HT.out).mono ?_; rintro e w' ⟨rfl, rfl⟩)
    go_ret
    exact ⟨by rw [HE.out]; rfl, rfl⟩
  have e1 : decide (t < 0) = false := decide_eq_false t0
  by_cases t5 : 5 ≤ t
  · have e2 : decide (5 ≤ t) = true := decide_eq_true t5
    have HE := Lib.hid (show afV h m = -1 by rw [HV.out, if_neg (by omega)])
    clear t0 t5
    go_enter Try.func13, Try.ntmps13
    go_wp2_with (go_at_call 15; refine (HT.out).mono ?_; rintro e w' ⟨rfl, rfl⟩)
    go_ret
    exact ⟨by rw [HE.out]; rfl, rfl⟩
  have e2 : decide (5 ≤ t) = false := decide_eq_false t5
  by_cases m0 : m < 0
  · have e3 : decide (m < 0) = true := decide_eq_true m0
    have HE := Lib.hid (show afV h m = -1 by rw [HV.out, if_neg (by omega)])
    clear t0 t5 m0
    go_enter Try.func13, Try.ntmps13
    go_wp2_with (go_at_call 15; refine (HT.out).mono ?_; rintro e w' ⟨rfl, rfl⟩)
    go_ret
    exact ⟨by rw [HE.out]; rfl, rfl⟩
  have e3 : decide (m < 0) = false := decide_eq_false m0
  by_cases m3 : 3 < m
  · have e4 : decide (3 < m) = true := decide_eq_true m3
    have HE := Lib.hid (show afV h m = -1 by rw [HV.out, if_neg (by omega)])
    clear t0 t5 m0 m3
    go_enter Try.func13, Try.ntmps13
    go_wp2_with (go_at_call 15; refine (HT.out).mono ?_; rintro e w' ⟨rfl, rfl⟩)
    go_ret
    exact ⟨by rw [HE.out]; rfl, rfl⟩
  have e4 : decide (3 < m) = false := decide_eq_false m3
  have HE := Lib.hid (show afV h m = 4 * h + m by rw [HV.out, if_pos (by omega)])
  obtain ⟨hl, hu⟩ := hHH.out (by omega) (by omega)
  have hm0 : 0 ≤ m := by omega
  have hm3 : m ≤ 3 := by omega
  clear t0 t5 m0 m3 hHH hb
  go_enter Try.func13, Try.ntmps13
  go_wp2_with (go_at_call 15; refine (HT.out).mono ?_; rintro e w' ⟨rfl, rfl⟩)
  go_ret
  exact ⟨by rw [HE.out]; rfl, rfl⟩
set_option maxHeartbeats 1000000 in
theorem rAfter_any (h m : Int) (w : World) (hb : -9223372036854775808 ≤ h ∧ h ≤ 9223372036854775807) :
    Calls Try.prog 14 #[.int .i64 h, .int .i64 m] w fun e w' => e = .returned (.int .i64 (afV h m)) ∧ w = w' := by
  have HT := Lib.hid (rTime_any 0 h w hb)
  have HT1 := Lib.hid (rTime_any 1 h w hb)
  have hr := tmV_range 0 h
  have hr1 := tmV_range 1 h
  have hH := tmV_hist (h := h)
  have hM := tm_max h
  obtain ⟨t, et⟩ : ∃ t, t = tmV 0 h := ⟨_, rfl⟩
  obtain ⟨t1, et1⟩ : ∃ t, t = tmV 1 h := ⟨_, rfl⟩
  have HV := Lib.hid (show afV h m = if 0 ≤ t ∧ t ≤ 4 ∧ 0 ≤ m ∧ m ≤ 3 then 4 * h + m else -1 by rw [et]; rfl)
  rw [← et] at HT hr hH hM
  rw [← et1] at HT1 hr1 hM
  have hlt : t1 ≤ t := by omega
  have hHH := Lib.hid hH
  clear et hH et1
  by_cases t0 : t < 0
  · have e1 : decide (t < 0) = true := decide_eq_true t0
    have HE := Lib.hid (show afV h m = -1 by rw [HV.out, if_neg (by omega)])
    obtain rfl : t = -1 := by omega
    obtain rfl : t1 = -1 := by omega
    clear t0
    go_enter Try.func14, Try.ntmps14
    go_wp2_with fail
    refine HT.out.mono ?_
    rintro e w' ⟨rfl, rfl⟩
    go_wp2_with fail
    refine HT1.out.mono ?_
    rintro e w' ⟨rfl, rfl⟩
    go_wp2_with fail
    all_goals go_ret
    all_goals exact ⟨by rw [HE.out]; rfl, rfl⟩
  have e1 : decide (t < 0) = false := decide_eq_false t0
  by_cases t5 : 4 < t
  · have e2 : decide (4 < t) = true := decide_eq_true t5
    have HE := Lib.hid (show afV h m = -1 by rw [HV.out, if_neg (by omega)])
    clear t0 t5
    go_enter Try.func14, Try.ntmps14
    go_wp2_with fail
    refine HT.out.mono ?_
    rintro e w' ⟨rfl, rfl⟩
    go_wp2_with fail
    refine HT1.out.mono ?_
    rintro e w' ⟨rfl, rfl⟩
    go_wp2_with fail
    all_goals go_ret
    all_goals exact ⟨by rw [HE.out]; rfl, rfl⟩
  have e2 : decide (4 < t) = false := decide_eq_false t5
  by_cases m0 : m < 0
  · have e3 : decide (m < 0) = true := decide_eq_true m0
    have HE := Lib.hid (show afV h m = -1 by rw [HV.out, if_neg (by omega)])
    clear t0 t5 m0
    go_enter Try.func14, Try.ntmps14
    go_wp2_with fail
    refine HT.out.mono ?_
    rintro e w' ⟨rfl, rfl⟩
    go_wp2_with fail
    refine HT1.out.mono ?_
    rintro e w' ⟨rfl, rfl⟩
    go_wp2_with fail
    all_goals go_ret
    all_goals exact ⟨by rw [HE.out]; rfl, rfl⟩
  have e3 : decide (m < 0) = false := decide_eq_false m0
  by_cases m3 : 3 < m
  · have e4 : decide (3 < m) = true := decide_eq_true m3
    have HE := Lib.hid (show afV h m = -1 by rw [HV.out, if_neg (by omega)])
    clear t0 t5 m0 m3
    go_enter Try.func14, Try.ntmps14
    go_wp2_with fail
    refine HT.out.mono ?_
    rintro e w' ⟨rfl, rfl⟩
    go_wp2_with fail
    refine HT1.out.mono ?_
    rintro e w' ⟨rfl, rfl⟩
    go_wp2_with fail
    all_goals go_ret
    all_goals exact ⟨by rw [HE.out]; rfl, rfl⟩
  have e4 : decide (3 < m) = false := decide_eq_false m3
  have HE := Lib.hid (show afV h m = 4 * h + m by rw [HV.out, if_pos (by omega)])
  obtain ⟨hl, hu⟩ := hHH.out (by omega) (by omega)
  have hm0 : 0 ≤ m := by omega
  have hm3 : m ≤ 3 := by omega
  clear t0 t5 m0 m3 hHH hb
  go_enter Try.func14, Try.ntmps14
  go_wp2_with fail
  refine HT.out.mono ?_
  rintro e w' ⟨rfl, rfl⟩
  go_wp2_with fail
  refine HT1.out.mono ?_
  rintro e w' ⟨rfl, rfl⟩
  go_wp2_with fail
  all_goals go_ret
  all_goals exact ⟨by rw [HE.out]; rfl, rfl⟩
end Go.Proofs.Ytgnkeecjaffnaaa
