/-
  Walks: the reference of layer 43: fails, Revision, Order.
-/
import Derived.Test.YtflhngmfcpeamaaDoorProg
import Derived.Test.YtflhngmfcpeamaaDoorBase
import Derived.Test.YtflhngmfcpeamaaDoorRow
import Derived.Test.YtflhngmfcpeamaaDoorPoP
import Derived.Test.YtflhngmfcpeamaaDoorPoQ
import Derived.Test.YtflhngmfcpeamaaDoorPoA
import Derived.Test.YtflhngmfcpeamaaDoorPoB
import Derived.Test.YtflhngmfcpeamaaDoorPoC
import Derived.Test.YtflhngmfcpeamaaDoorPoD
import Derived.Test.YtflhngmfcpeamaaDoorPoE
import Derived.Test.YtflhngmfcpeamaaDoorPoRA
namespace Go.Proofs.YtflhngmfcpeamaaDoor
open Go.RowKit

/-- A test that does not look at the second set. -/
theorem fail_one {S : Nat} {fit : Nat → Nat → Bool} (hS : 1 ≤ S) (h : ∀ x y, fit x y = fit x 0) : failB S S fit = failB S 1 fit ∧ failX S S fit = failX S 1 fit ∧ failY S S fit = failY S 1 fit := by
  have e : (fun x => allB S (fit x)) = (fun x => allB 1 (fit x)) := by
    funext x
    rw [Bool.eq_iff_iff, allB_iff, allB_iff]
    exact ⟨fun g u hu => g u (by omega), fun g u _ => by rw [h x u]; exact g 0 (by omega)⟩
  have e1 : failB S S fit = failB S 1 fit := by unfold failB; rw [e]
  have e2 : failX S S fit = failX S 1 fit := by unfold failX; rw [e1, e]
  refine ⟨e1, e2, ?_⟩
  unfold failY
  rw [e1, e2]
  by_cases hb : failB S 1 fit = true
  · rw [if_pos hb, if_pos hb]
    have hf := (fail_at hb).2.2
    rw [h] at hf
    rw [firstNo_hit (n := S) (k := 0) (by omega) (fun i hi => absurd hi (Nat.not_lt_zero _)) hf, firstNo_hit (n := 1) (k := 0) (by omega) (fun i hi => absurd hi (Nat.not_lt_zero _)) hf]
  · rw [if_neg hb, if_neg hb]
theorem fail_last {S k i : Nat} {T : Nat → Nat} (hS : 1 ≤ S) (hi : i < 6) : failB S S (rvFit i k T) = failB S (rvLast S i) (rvFit i k T) ∧ failX S S (rvFit i k T) = failX S (rvLast S i) (rvFit i k T) ∧ failY S S (rvFit i k T) = failY S (rvLast S i) (rvFit i k T) := by
  have h6 : i = 0 ∨ i = 1 ∨ i = 2 ∨ i = 3 ∨ i = 4 ∨ i = 5 := by omega
  rcases h6 with rfl | rfl | rfl | rfl | rfl | rfl
  · exact fail_one hS fun x y => rfl
  · exact fail_one hS fun x y => rfl
  · exact fail_one hS fun x y => rfl
  · exact fail_one hS fun x y => rfl
  · exact ⟨rfl, rfl, rfl⟩
  · exact ⟨rfl, rfl, rfl⟩
set_option maxHeartbeats 1000000 in
theorem rfails_any (i S kb c : Nat) (A : Option Addr) (T : Nat → Nat) (w : World) (hi : i < 6) (hT : U64s w A S T) (hS1 : 1 ≤ S) (hS : S ≤ 256) (hkb : kb < 18446744073709551616) :
    Calls Tryd.prog 31 #[.int .i64 ((i + 1 : Nat) : Int), .int .u64 kb, .slice A S c] w (FailPost S (rvFit i kb T) (rvLast S i) w) := by
  have HT := Lib.hid hT
  obtain ⟨e1, e2, e3⟩ := fail_last (k := kb) (T := T) hS1 hi
  have HE := Lib.hid (show _ ∧ _ ∧ _ from ⟨e1, e2, e3⟩)
  obtain ⟨j, ej⟩ : ∃ j, j = i + 1 := ⟨_, rfl⟩
  have HH : Hid (∀ W x y, U64s W A S T → x < S → y < S → Calls Tryd.prog 43 #[.int .i64 j, .int .u64 kb, .slice A S c, .int .u64 x, .int .u64 y] W fun e w' => e = .returned (.bool (rvFit i kb T x y)) ∧ Below W.heap.size W w') := Lib.hid fun W x y h1 h2 h3 => by
    rw [ej]; exact rholds_any i kb x y S c A T W hi h1 h2 h3 hS hkb
  rw [← ej]
  clear hT e1 e2 e3 ej
  go_enter Tryd.func31, Tryd.ntmps31
  go_wp2
  go_loopw [13] (fun xv wr => ∃ x : Nat, x ≤ S ∧ xv = .int .i64 x ∧ Below w.heap.size w wr ∧ Hid (∀ x', x' < x → allB S (rvFit i kb T x') = true)) (fun xv _ => S - (intOf xv).toNat)
  case atStart => exact ⟨0, Nat.zero_le _, rfl, Below.refl _ _, Lib.hid fun x' h => absurd h (Nat.not_lt_zero _)⟩
  case round =>
    obtain ⟨x, hx, rfl, hbl, HX⟩ := hrel
    by_cases hlt : x < S
    · have HB := Lib.hid hbl
      clear hbl
      go_wp2_with fail
      go_loopw [18] (fun yv wr => ∃ y : Nat, y ≤ S ∧ yv = .int .i64 y ∧ Below w.heap.size w wr ∧ Hid (∀ y', y' < y → rvFit i kb T x y' = true)) (fun yv _ => S - (intOf yv).toNat)
      case atStart => exact ⟨0, Nat.zero_le _, rfl, HB.out, Lib.hid fun y' h => absurd h (Nat.not_lt_zero _)⟩
      case round =>
        clear HB
        obtain ⟨y, hy, rfl, hbl, HY⟩ := hrel
        by_cases hlty : y < S
        · have hcall := Lib.hid (HH.out _ x y (HT.out.below hbl) hlt hlty)
          have HB := Lib.hid hbl
          clear hbl
          obtain ⟨r, er⟩ : ∃ r, r = rvFit i kb T x y := ⟨_, rfl⟩
          rw [← er] at hcall
          have HR := Lib.hid er
          clear er
          cases r
          · go_wp2_with (go_at_call 43; refine hcall.out.mono ?_; rintro e w' ⟨rfl, hst⟩; have HB := Lib.hid (HB.out.trans (hst.mono HB.out.size)); clear hst)
            go_ret3
            obtain ⟨p1, p2, p3⟩ := fail_hit hlt hlty HX.out HY.out HR.out.symm
            exact ⟨by rw [← HE.out.1, ← HE.out.2.1, ← HE.out.2.2, p1, p2, p3]; rfl, HB.out⟩
          · go_wp2_with (go_at_call 43; refine hcall.out.mono ?_; rintro e w' ⟨rfl, hst⟩; have HB := Lib.hid (HB.out.trans (hst.mono HB.out.size)); clear hst)
            go_roundw
            case rel => exact ⟨y + 1, by omega, by go_num, HB.out, Lib.hid fun y' h => by
              rcases Nat.lt_succ_iff_lt_or_eq.1 h with h3 | rfl
              · exact HY.out y' h3
              · exact HR.out.symm⟩
            case measure => simp [intOf]; omega
        · obtain rfl : y = S := by omega
          have HB := Lib.hid hbl
          clear hbl
          go_wp2_with fail
          go_roundw
          case rel => exact ⟨x + 1, by omega, by go_num, HB.out, Lib.hid fun x' h => by
            rcases Nat.lt_succ_iff_lt_or_eq.1 h with h3 | rfl
            · exact HX.out x' h3
            · exact allB_iff.2 HY.out⟩
          case measure => simp [intOf]; omega
    · obtain rfl : x = S := by omega
      have HB := Lib.hid hbl
      clear hbl
      go_wp2_with fail
      go_ret3
      obtain ⟨p1, p2, p3⟩ := fail_none HX.out
      exact ⟨by rw [← HE.out.1, ← HE.out.2.1, ← HE.out.2.2, p1, p2, p3]; rfl, HB.out⟩

theorem mask_add {S k : Nat} {T : Nat → Nat} (i : Nat) : rvMask S k T i ||| 2 ^ i = rvMask S k T i + 2 ^ i := by
  have h : rvMask S k T i < 2 ^ i := mkSet_lt i _
  have h2 := Nat.two_pow_add_eq_or_of_lt h 1
  rw [Nat.mul_one] at h2
  rw [Nat.or_comm, ← h2, Nat.add_comm]
set_option maxHeartbeats 2000000 in
theorem rRevision_any (n : Int) (kb len c : Nat) (A : Option Addr) (T : Nat → Nat) (w : World) (hT : U64s w A len T) (hlen : len ≤ 9223372036854775807) (hkb : kb < 18446744073709551616) :
    Calls Tryd.prog 12 #[.int .i64 n, .int .u64 kb, .slice A len c] w fun e w' => e = .returned (.tuple #[.int .i64 (rvM n kb len T : Nat), .int .u64 (rvA n kb len T : Nat), .int .u64 (rvC n kb len T : Nat), .int .i64 (rvErr n kb len T : Nat)]) ∧ Below w.heap.size w w' := by
  have HF := Lib.hid (form_any n kb len c A T w hT hlen hkb)
  have HT := Lib.hid hT
  clear hT
  by_cases he : rvErr n kb len T = 0
  · obtain ⟨k, rfl, hk, hlS, hb, ht⟩ := rvErr_ok he
    obtain ⟨S, hS⟩ : ∃ S, S = 2 ^ 2 ^ k := ⟨_, rfl⟩
    rw [← hS] at hlS hb
    have hlen' : len = S := hlS
    subst hlen'
    have hS2 := sets_le hk hS
    have hV : rvM k kb len T = rvMask len kb T 6 ∧ rvA k kb len T = rvX len kb T 6 ∧ rvC k kb len T = rvY len kb T 6 := by
      unfold rvM rvA rvC
      rw [if_pos he, if_pos he, if_pos he, show setsZ k = len from hS.symm]
      exact ⟨rfl, rfl, rfl⟩
    have HV := Lib.hid hV
    have h0 : ((rvErr k kb len T : Int) != 0) = false := by rw [he]; rfl
    have HE0 := Lib.hid he
    clear he hlS ht hS hV
    go_enter Tryd.func12, Tryd.ntmps12
    go_wp2_with (go_at_call 30; refine HF.out.mono ?_; rintro e w1 ⟨rfl, hst⟩; have HB := Lib.hid hst; clear hst)
    have HB0 := Lib.hid HB.out
    clear HB
    go_loopw [11, 12, 13, 14, 15, 16] (fun mv pv fv av bv iv wr => ∃ i : Nat, i ≤ 6 ∧ iv = .int .i64 (i + 1 : Nat) ∧ pv = .int .i64 (2 ^ i : Nat) ∧ mv = .int .i64 (rvMask len kb T i : Nat) ∧ fv = .bool (!rvNone len kb T i) ∧ av = .int .u64 (rvX len kb T i : Nat) ∧ bv = .int .u64 (rvY len kb T i : Nat) ∧ Below w.heap.size w wr) (fun _ _ _ _ _ iv _ => 7 - (intOf iv).toNat)
    case atStart => exact ⟨0, Nat.zero_le _, rfl, rfl, rfl, rfl, rfl, rfl, HB0.out⟩
    case round =>
      clear HB0
      obtain ⟨i, hi, rfl, rfl, rfl, rfl, rfl, rfl, hbl⟩ := hrel
      by_cases hlt : i < 6
      · have hfa := Lib.hid (rfails_any i len kb c A T _ hlt (HT.out.below hbl) (by omega) hS2.2 hkb)
        have HB := Lib.hid hbl
        have hml : rvMask len kb T i < 64 := mask_lt64 (by omega)
        have hdi : decide (((i + 1 : Nat) : Int) ≤ 6) = true := by simp; omega
        obtain ⟨P, eP⟩ : ∃ P : Nat, P = 2 ^ i := ⟨_, rfl⟩
        obtain ⟨P2, eP2⟩ : ∃ P2 : Nat, P2 = 2 ^ (i + 1) := ⟨_, rfl⟩
        have hPP : P2 = P * 2 := by rw [eP2, eP, Nat.pow_succ]
        have hPl : P < 64 := by rw [eP]; exact Nat.pow_lt_pow_right (n := 6) (by decide) hlt
        have h1 := fun h => rv_good (S := len) (k := kb) (T := T) (i := i) h
        have h2 := fun h => rv_bad_first (S := len) (k := kb) (T := T) (i := i) h
        have h3 := fun h => rv_bad_later (S := len) (k := kb) (T := T) (i := i) h
        rw [mask_add] at h1
        obtain ⟨m1, em1⟩ : ∃ m, m = rvMask len kb T (i + 1) := ⟨_, rfl⟩
        obtain ⟨x1, ex1⟩ : ∃ m, m = rvX len kb T (i + 1) := ⟨_, rfl⟩
        obtain ⟨y1, ey1⟩ : ∃ m, m = rvY len kb T (i + 1) := ⟨_, rfl⟩
        obtain ⟨n1, en1⟩ : ∃ m, m = rvNone len kb T (i + 1) := ⟨_, rfl⟩
        obtain ⟨m0, em0⟩ : ∃ m, m = rvMask len kb T i := ⟨_, rfl⟩
        obtain ⟨x0, ex0⟩ : ∃ m, m = rvX len kb T i := ⟨_, rfl⟩
        obtain ⟨y0, ey0⟩ : ∃ m, m = rvY len kb T i := ⟨_, rfl⟩
        obtain ⟨n0, en0⟩ : ∃ m, m = rvNone len kb T i := ⟨_, rfl⟩
        obtain ⟨fx, efx⟩ : ∃ m, m = failX len (rvLast len i) (rvFit i kb T) := ⟨_, rfl⟩
        obtain ⟨fy, efy⟩ : ∃ m, m = failY len (rvLast len i) (rvFit i kb T) := ⟨_, rfl⟩
        obtain ⟨fb, efb⟩ : ∃ m, m = rvBad len kb T i := ⟨_, rfl⟩
        obtain ⟨j, ej⟩ : ∃ j, j = i + 1 := ⟨_, rfl⟩
        have hfa' : Hid (Calls Tryd.prog 31 #[.int .i64 j, .int .u64 kb, .slice A len c] wr fun e w' => e = .returned (.tuple #[.int .u64 fx, .int .u64 fy, .bool fb]) ∧ Below wr.heap.size wr w') := Lib.hid (by rw [efx, efy, efb, ej]; exact hfa.out)
        rw [← em1, ← em0, ← ex1, ← ex0, ← ey1, ← ey0, ← en1, ← en0, ← efb, ← eP] at h1
        rw [← em1, ← em0, ← ex1, ← ey1, ← en1, ← en0, ← efb, ← efx, ← efy] at h2
        rw [← em1, ← em0, ← ex1, ← ex0, ← ey1, ← ey0, ← en1, ← en0, ← efb] at h3
        rw [← em0] at hml
        rw [← ej] at hdi
        rw [← em0, ← ex0, ← ey0, ← en0, ← eP, ← ej]
        have E1 := Lib.hid (show _ ∧ _ ∧ _ ∧ _ from ⟨em1, ex1, ey1, en1⟩)
        have EP2 := Lib.hid eP2
        have hj6 : j ≤ 6 := by omega
        have EJ := Lib.hid ej
        clear em1 ex1 ey1 en1 em0 ex0 ey0 en0 efx efy efb eP eP2 hbl hfa
        have HPP := Lib.hid hPP
        clear ej hPP
        cases fb
        · have H := Lib.hid (h1 rfl)
          clear h1 h2 h3
          go_wp2_with fail
          refine hfa'.out.mono ?_
          rintro e w' ⟨rfl, hst⟩
          have HB := Lib.hid (HB.out.trans (hst.mono HB.out.size))
          clear hst
          cases n0
          all_goals
            go_wp2_with fail
            go_roundw
            case rel => exact ⟨i + 1, by omega, by rw [← EJ.out]; go_num, by rw [← EP2.out, HPP.out]; go_num, by rw [← E1.out.1, H.out.2.2.2]; go_num, by rw [← E1.out.2.2.2, H.out.2.2.1]; rfl, by rw [← E1.out.2.1, H.out.1], by rw [← E1.out.2.2.1, H.out.2.1], HB.out⟩
            case measure => have := EJ.out; simp [intOf]; omega
        · cases n0
          · have H := Lib.hid (h3 rfl rfl)
            clear h1 h2 h3
            go_wp2_with fail
            refine hfa'.out.mono ?_
            rintro e w' ⟨rfl, hst⟩
            have HB := Lib.hid (HB.out.trans (hst.mono HB.out.size))
            clear hst
            go_wp2_with fail
            go_roundw
            case rel => exact ⟨i + 1, by omega, by rw [← EJ.out]; go_num, by rw [← EP2.out, HPP.out]; go_num, by rw [← E1.out.1, H.out.2.2.2], by rw [← E1.out.2.2.2, H.out.2.2.1]; rfl, by rw [← E1.out.2.1, H.out.1], by rw [← E1.out.2.2.1, H.out.2.1], HB.out⟩
            case measure => have := EJ.out; simp [intOf]; omega
          · have H := Lib.hid (h2 rfl rfl)
            clear h1 h2 h3
            go_wp2_with fail
            refine hfa'.out.mono ?_
            rintro e w' ⟨rfl, hst⟩
            have HB := Lib.hid (HB.out.trans (hst.mono HB.out.size))
            clear hst
            go_wp2_with fail
            go_roundw
            case rel => exact ⟨i + 1, by omega, by rw [← EJ.out]; go_num, by rw [← EP2.out, HPP.out]; go_num, by rw [← E1.out.1, H.out.2.2.2], by rw [← E1.out.2.2.2, H.out.2.2.1]; rfl, by rw [← E1.out.2.1, H.out.1], by rw [← E1.out.2.2.1, H.out.2.1], HB.out⟩
            case measure => have := EJ.out; simp [intOf]; omega
      · obtain rfl : i = 6 := by omega
        have HB := Lib.hid hbl
        clear hbl
        go_wp2_with fail
        go_returns
        exact ⟨by rw [HV.out.1, HV.out.2.1, HV.out.2.2, HE0.out]; rfl, HB.out⟩
  · have h0 : ((rvErr n kb len T : Int) != 0) = true := by rw [bne_iff_ne]; omega
    have hV : rvM n kb len T = 0 ∧ rvA n kb len T = 0 ∧ rvC n kb len T = 0 := by
      unfold rvM rvA rvC
      rw [if_neg he, if_neg he, if_neg he]
      exact ⟨rfl, rfl, rfl⟩
    have HV := Lib.hid hV
    clear he hV
    go_enter Tryd.func12, Tryd.ntmps12
    go_wp2_with (go_at_call 30; refine HF.out.mono ?_; rintro e w1 ⟨rfl, hst⟩; have HB := Lib.hid hst; clear hst)
    go_returns
    exact ⟨by rw [HV.out.1, HV.out.2.1, HV.out.2.2]; rfl, HB.out⟩

/-! ### Order -/
theorem rOrder_err (n : Int) (kb len c : Nat) (A : Option Addr) (T : Nat → Nat) (w : World) (hT : U64s w A len T) (hlen : len ≤ 9223372036854775807) (hkb : kb < 18446744073709551616) (he : orErr n kb len T ≠ 0) :
    Calls Tryd.prog 14 #[.int .i64 n, .int .u64 kb, .slice A len c] w fun e w' => e = .returned (.tuple #[.slice none 0 0, .int .i64 (orErr n kb len T : Nat)]) ∧ Below w.heap.size w w' := by
  have HR := Lib.hid (rRevision_any n kb len c A T w hT hlen hkb)
  by_cases h0 : rvErr n kb len T = 0
  · have e1 : orErr n kb len T = if rvM n kb len T = 63 then 0 else 6 := if_pos h0
    by_cases h1 : rvM n kb len T = 63
    · rw [e1, if_pos h1] at he; exact absurd rfl he
    · rw [if_neg h1] at e1
      have h2 : ((rvErr n kb len T : Int) != 0) = false := by rw [h0]; rfl
      have h3 : ((rvM n kb len T : Int) != 63) = true := by rw [bne_iff_ne]; omega
      have HE := Lib.hid e1
      clear he h0 e1 h1 hT
      go_enter Tryd.func14, Tryd.ntmps14
      go_wp2_with (go_at_call 12; refine HR.out.mono ?_; rintro e w1 ⟨rfl, hb1⟩; have HB := Lib.hid hb1; clear hb1)
      go_ret2
      exact ⟨by rw [HE.out]; rfl, HB.out⟩
  · have e1 : orErr n kb len T = rvErr n kb len T := if_neg h0
    have h2 : ((rvErr n kb len T : Int) != 0) = true := by rw [bne_iff_ne]; omega
    have HE := Lib.hid e1
    clear he h0 e1 hT
    go_enter Tryd.func14, Tryd.ntmps14
    go_wp2_with (go_at_call 12; refine HR.out.mono ?_; rintro e w1 ⟨rfl, hb1⟩; have HB := Lib.hid hb1; clear hb1)
    go_ret2
    exact ⟨by rw [HE.out]; rfl, HB.out⟩
theorem bit_and {t v P : Nat} (hP : P = 2 ^ v) : (t &&& P != 0) = t.testBit v := by
  rw [hP, Bool.eq_iff_iff, bne_iff_ne]
  constructor
  · intro h
    obtain ⟨i, hi⟩ := Nat.exists_testBit_of_ne_zero h
    rw [Nat.testBit_and, Nat.testBit_two_pow, Bool.and_eq_true, decide_eq_true_eq] at hi
    rw [hi.2]; exact hi.1
  · intro h h0
    have := congrArg (fun x => Nat.testBit x v) h0
    simp [Nat.testBit_and, h] at this
set_option maxHeartbeats 4000000 in
set_option maxRecDepth 100000 in
theorem rOrder_in (k N S kb c : Nat) (A : Option Addr) (T : Nat → Nat) (w : World) (hT : U64s w A S T) (hk : k ≤ 3) (hN : N = 2 ^ k) (hS : S = 2 ^ N) (hkb : kb < S) (ht : tabErr S S T = 0) (hm : rvMask S kb T 6 = 63) :
    Calls Tryd.prog 14 #[.int .i64 k, .int .u64 kb, .slice A S c] w (OrdPost N (rankN S T S) w) := by
  have hSk : S = 2 ^ 2 ^ k := by rw [hS, hN]
  have hS2 := sets_le hk hSk
  have hN8 : N ≤ 8 := by rw [hN]; exact Nat.le_trans (Nat.pow_le_pow_right (by decide) hk) (by decide)
  have hok := rvOk_of hS2.1 hS2.2 (tab_lt ht) hm
  have he : rvErr k kb S T = 0 := by unfold rvErr; rw [if_pos (by omega), show setsZ k = S from hSk.symm, if_pos hkb, ht]
  have hR := rRevision_any k kb S c A T w hT (by omega) (by omega)
  rw [show rvM k kb S T = 63 by unfold rvM; rw [if_pos he, show setsZ k = S from hSk.symm, hm], he] at hR
  have HR := Lib.hid hR
  have hmk := run_make_row' (P := Tryd.prog) 27 3 (.int .i64 0) 8 Tryd.underlying27 Tryd.infoInt rfl .i64 .i64 N (by omega) (by omega)
  have HT := Lib.hid hT
  have HN := Lib.hid hN
  have HS := Lib.hid hS
  have OK := Lib.hid hok
  clear hR hT hN hS hSk hok ht hm he
  go_enter Tryd.func14, Tryd.ntmps14
  go_wp2_with (first | (go_at_call 32; refine (rsets_below k N S _ hk HN.out HS.out).mono ?_; rintro e w2 ⟨rfl, hst⟩; have HB := Lib.hid (HB.out.trans (hst.mono HB.out.size)); clear hst) | (go_at_call 12; refine HR.out.mono ?_; rintro e w1 ⟨rfl, hb1⟩; have HB := Lib.hid hb1; clear hb1))
  have hrow := RowI.made w2 N 3
  have hbl := HB.out.trans ((below_alloc w2 (.cells (madeCells #[.int .i64 0] N) 3)).mono HB.out.size)
  have hsz := HB.out.size
  clear hmk HB
  generalize hBB : w2.heap.size = BB at hrow hsz ⊢
  clear hBB
  generalize w2.alloc (.cells (madeCells #[.int .i64 0] N) 3) = W at hrow hbl ⊢
  have HW := Lib.hid hbl
  have HRo := Lib.hid hrow
  clear hrow hbl
  go_loopw [15, 16] (fun lv rv wr => ∃ j : Nat, j ≤ S ∧ lv = .int .u64 (leftN S T j : Nat) ∧ rv = .int .i64 j ∧ RowI wr BB N (rankN S T j) ∧ Below w.heap.size w wr) (fun lv _ _ => (intOf lv).toNat)
  case atStart =>
    refine ⟨0, Nat.zero_le _, ?_, rfl, HRo.out, HW.out⟩
    show Value.int .u64 _ = Value.int .u64 ((S - 1 : Nat) : Int)
    congr 1
    omega
  case round =>
    clear HW HRo
    obtain ⟨j, hj, rfl, rfl, hrow, hbl⟩ := hrel
    have hll := left_lt hS2.1 OK.out j
    obtain ⟨left, el⟩ : ∃ left : Nat, left = leftN S T j := ⟨_, rfl⟩
    have EL := Lib.hid el
    rw [← el] at hll ⊢
    have HRo := Lib.hid hrow
    have HB := Lib.hid hbl
    clear hrow hbl el
    by_cases hl0 : left = 0
    · have h1 : ((left : Int) != 0) = false := by rw [hl0]; rfl
      have HE := Lib.hid (rank_end hS2.1 OK.out (by rw [← EL.out]; exact hl0) hj)
      clear hl0
      go_wp2_with fail
      go_ret2
      exact ⟨BB, rfl, by rw [HE.out]; exact HRo.out, HB.out⟩
    · have h1 : ((left : Int) != 0) = true := by rw [bne_iff_ne]; omega
      obtain ⟨b, off, rfl, hc, hl⟩ := (HT.out.below HB.out) left hll
      obtain ⟨t, et⟩ : ∃ t : Nat, t = T left := ⟨_, rfl⟩
      rw [← et] at hc hl
      have ET := Lib.hid et
      clear et
      go_wp2_with fail
      obtain ⟨gg, hgg⟩ : ∃ gg : Nat → Nat → Nat, gg = fun v u => if u < v ∧ t.testBit u = true then j else rankN S T j u := ⟨_, rfl⟩
      have GE := Lib.hid hgg
      have hg0 : Hid (RowI wr BB N (gg 0)) := Lib.hid (HRo.out.congr fun u hu => by rw [hgg]; dsimp only; rw [if_neg (fun h => absurd h.1 (Nat.not_lt_zero _))])
      clear hgg HRo hc
      go_loopw [18] (fun iv wr => ∃ v : Nat, v ≤ N ∧ iv = .int .i64 v ∧ RowI wr BB N (gg v) ∧ Below w.heap.size w wr) (fun iv _ => N - (intOf iv).toNat)
      case atStart => exact ⟨0, Nat.zero_le _, rfl, hg0.out, HB.out⟩
      case round =>
        clear HB hg0
        obtain ⟨v, hv, rfl, hrow, hbl⟩ := hrel
        by_cases hlt : v < N
        · obtain ⟨P, eP⟩ : ∃ P : Nat, P = 2 ^ v := ⟨_, rfl⟩
          have hPl : P < 256 := by rw [eP]; exact Nat.pow_lt_pow_right (n := 8) (by decide) (by omega)
          obtain ⟨E, eE⟩ : ∃ E : Nat, E = t &&& P := ⟨_, rfl⟩
          have hand : bits .and .u64 (t : Int) (P : Int) = (E : Int) := by rw [u64_and_nat _ _ hl (by omega), eE]
          have hE : ((E : Int) != 0) = t.testBit v := by rw [ne0_nat, eE, bit_and eP]
          obtain ⟨hcv, hfv⟩ := hrow v hlt
          have HP := Lib.hid eP
          have HRo := Lib.hid hrow
          have HB := Lib.hid hbl
          clear eP eE hrow hbl
          cases hb : t.testBit v
          · rw [hb] at hE
            have HG2 : Hid (∀ u, u < N → gg v u = gg (v + 1) u) := Lib.hid fun u hu => by
              rw [GE.out]
              dsimp only
              by_cases h2 : u = v
              · subst h2; rw [if_neg (by omega), if_neg (by rw [hb]; exact fun h => by cases h.2)]
              · by_cases h3 : u < v ∧ t.testBit u = true
                · rw [if_pos h3, if_pos ⟨by omega, h3.2⟩]
                · rw [if_neg h3, if_neg fun h => h3 ⟨by omega, h.2⟩]
            clear hb
            go_wp2_with (go_at_call 33; refine (rbit_any v P _ (by omega) HP.out).mono ?_; rintro e w' ⟨rfl, rfl⟩)
            go_roundw
            case rel => exact ⟨v + 1, by omega, by go_num, HRo.out.congr HG2.out, HB.out⟩
            case measure => simp [intOf]; omega
          · rw [hb] at hE
            have HG2 : Hid (∀ u, u < N → upd (gg v) v j u = gg (v + 1) u) := Lib.hid fun u hu => by
              rw [GE.out]
              unfold upd
              dsimp only
              by_cases h2 : u = v
              · subst h2; rw [if_pos rfl, if_pos ⟨by omega, hb⟩]
              · rw [if_neg h2]
                by_cases h3 : u < v ∧ t.testBit u = true
                · rw [if_pos h3, if_pos ⟨by omega, h3.2⟩]
                · rw [if_neg h3, if_neg fun h => h3 ⟨by omega, h.2⟩]
            clear hb
            go_wp2_with (go_at_call 33; refine (rbit_any v P _ (by omega) HP.out).mono ?_; rintro e w' ⟨rfl, rfl⟩)
            go_roundw
            case rel => exact ⟨v + 1, by omega, by go_num, (HRo.out.set' hlt rfl).congr HG2.out, HB.out.setCell hsz _⟩
            case measure => simp [intOf]; omega
        · obtain rfl : v = N := by omega
          have hnx := left_next (j := j) hS2.1 hS2.2 OK.out
          have hlt2 := left_le hS2.1 hS2.2 OK.out (by rw [← EL.out]; exact hl0)
          have hjb := left_bound hS2.1 hS2.2 OK.out j (by rw [← EL.out]; exact hl0)
          rw [← EL.out] at hjb hlt2
          rw [← EL.out, ← ET.out] at hnx
          have hsub : T left ≤ left := by
            have h5 := left_next (j := j) hS2.1 hS2.2 OK.out
            have := Nat.and_le_left (n := left) (m := T left)
            have h6 : left &&& T left = T left := by
              apply Nat.eq_of_testBit_eq
              intro i
              rw [Nat.testBit_and]
              cases hi : (T left).testBit i
              · rw [Bool.and_false]
              · rw [OK.out.r1 left hll i hi]; rfl
            omega
          rw [← ET.out] at hsub
          have HNX := Lib.hid hnx
          have HLT := Lib.hid hlt2
          have HJ := Lib.hid hjb
          have HG2 : Hid (∀ x, x < v → gg v x = rankN S T (j + 1) x) := Lib.hid fun x hx => by
            rw [GE.out]
            show (if x < v ∧ t.testBit x = true then j else rankN S T j x) = if (T (leftN S T j)).testBit x = true then j else rankN S T j x
            rw [← EL.out, ← ET.out]
            by_cases h3 : t.testBit x = true
            · rw [if_pos ⟨hx, h3⟩, if_pos h3]
            · rw [if_neg fun h => h3 h.2, if_neg h3]
          have HRo := Lib.hid hrow
          have HB := Lib.hid hbl
          clear hrow hbl hnx hlt2 hjb
          go_wp2_with fail
          go_roundw
          case rel => exact ⟨j + 1, by have := HJ.out; omega, by rw [HNX.out]; go_num, by go_num, HRo.out.congr HG2.out, HB.out⟩
          case measure =>
            have h7 := HLT.out
            rw [HNX.out] at h7
            simp only [intOf]
            omega
end Go.Proofs.YtflhngmfcpeamaaDoor
