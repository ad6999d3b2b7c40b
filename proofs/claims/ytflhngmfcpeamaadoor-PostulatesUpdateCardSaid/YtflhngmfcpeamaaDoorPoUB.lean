/-
  Walks: the reference of layer 43: family, Update.
-/
import Derived.Test.YtflhngmfcpeamaaDoorProg
import Derived.Test.YtflhngmfcpeamaaDoorBase
import Derived.Test.YtflhngmfcpeamaaDoorRow
import Derived.Test.YtflhngmfcpeamaaDoorPoP
import Derived.Test.YtflhngmfcpeamaaDoorPoA
import Derived.Test.YtflhngmfcpeamaaDoorPoB
import Derived.Test.YtflhngmfcpeamaaDoorPoE
import Derived.Test.YtflhngmfcpeamaaDoorPoU
import Derived.Test.YtflhngmfcpeamaaDoorPoV
import Derived.Test.YtflhngmfcpeamaaDoorPoX
import Derived.Test.YtflhngmfcpeamaaDoorPoRA
import Derived.Test.YtflhngmfcpeamaaDoorPoRB
import Derived.Test.YtflhngmfcpeamaaDoorPoRT
import Derived.Test.YtflhngmfcpeamaaDoorPoUA
namespace Go.Proofs.YtflhngmfcpeamaaDoor
open Go.RowKit

set_option maxHeartbeats 2000000 in
theorem rfamily_any (n : Int) (A : Option Addr) (len c : Nat) (R : Nat → Option Addr) (m cc : Nat → Nat) (F : Nat → Nat → Nat) (w : World) (hM : Mat w A len R m cc F) (hlen : len ≤ 9223372036854775807) :
    Calls Tryd.prog 37 #[.int .i64 n, .slice A len c] w fun e w' => e = .returned (.int .i64 (upErr n len m F : Nat)) ∧ Below w.heap.size w w' := by
  have HM := Lib.hid hM
  clear hM
  by_cases h0 : n < 0
  · have hd1 : decide (n < 0) = true := decide_eq_true h0
    have HE := Lib.hid (show upErr n len m F = 2 from if_neg (by omega))
    clear h0
    go_enter Tryd.func37, Tryd.ntmps37
    go_wp2
    go_ret
    exact ⟨by rw [HE.out]; rfl, Below.refl _ _⟩
  · have hd1 : decide (n < 0) = false := decide_eq_false h0
    by_cases h3 : 2 < n
    · have hd2 : decide (2 < n) = true := decide_eq_true h3
      have HE := Lib.hid (show upErr n len m F = 2 from if_neg (by omega))
      clear h0 h3
      go_enter Tryd.func37, Tryd.ntmps37
      go_wp2
      go_ret
      exact ⟨by rw [HE.out]; rfl, Below.refl _ _⟩
    · have hd2 : decide (2 < n) = false := decide_eq_false h3
      obtain ⟨k, rfl⟩ : ∃ k : Nat, n = k := ⟨n.toNat, by omega⟩
      have hk : k ≤ 2 := by omega
      obtain ⟨N, hN⟩ : ∃ N, N = 2 ^ k := ⟨_, rfl⟩
      obtain ⟨S, hS⟩ : ∃ S, S = 2 ^ N := ⟨_, rfl⟩
      have hSk : S = 2 ^ 2 ^ k := by rw [hS, hN]
      have hS2 := sets_le (by omega) hSk
      have hE : upErr k len m F = if len = S ∧ fullB S len m = true then (if allB S (rowIn S F) = true then 0 else 2) else 3 := by
        unfold upErr; rw [if_pos (by omega), show setsZ k = S from hSk.symm]
      have HN := Lib.hid hN
      have HS := Lib.hid hS
      clear h0 h3 hN hS hSk
      by_cases hlS : len = S
      · subst hlS
        have h1 : ((len : Int) != (len : Int)) = false := by simp
        have HE := Lib.hid hE
        clear hE
        go_enter Tryd.func37, Tryd.ntmps37
        go_wp2_with (go_at_call 32; refine (rsets_below k N len _ (by omega) HN.out HS.out).mono ?_; rintro e w1 ⟨rfl, hst⟩; have HB := Lib.hid hst; clear hst)
        go_loop [30] (fun iv => ∃ v : Nat, v ≤ len ∧ iv = .int .i64 v ∧ Hid (∀ u, u < v → (m u == len) = true)) (fun iv => len - (intOf iv).toNat)
        case atStart => exact ⟨0, Nat.zero_le _, rfl, Lib.hid fun u h => absurd h (Nat.not_lt_zero _)⟩
        case round =>
          obtain ⟨v, hv, rfl, HI⟩ := hrel
          by_cases hlt : v < len
          · obtain ⟨b, off, rfl, hcv, hr, -⟩ := (HM.out.below HB.out) v hlt
            by_cases hmv : m v = len
            · have hd : ((m v : Int) != (len : Int)) = false := by rw [hmv]; simp
              have HI2 : Hid (∀ u, u < v + 1 → (m u == len) = true) := Lib.hid fun u h => by
                rcases Nat.lt_succ_iff_lt_or_eq.1 h with h3 | rfl
                · exact HI.out u h3
                · exact beq_iff_eq.2 hmv
              clear hmv
              go_wp2_with fail
              go_round
              case rel => exact ⟨v + 1, by omega, by go_num, HI2⟩
              case measure => simp [intOf]; omega
            · have hd : ((m v : Int) != (len : Int)) = true := by rw [bne_iff_ne]; omega
              have HF := Lib.hid (show fullB len len m = false from not_all (p := fun v => m v == len) hlt (beq_eq_false_iff_ne.2 hmv))
              clear hmv
              go_wp2_with fail
              go_ret
              exact ⟨by rw [HE.out, if_neg (fun h => by rw [HF.out] at h; cases h.2)]; rfl, HB.out⟩
          · obtain rfl : v = len := by omega
            have HFU := Lib.hid (show fullB v v m = true from allB_iff.2 HI.out)
            have HMV : Hid (∀ u, u < v → m u = v) := Lib.hid fun u hu => beq_iff_eq.1 (HI.out u hu)
            go_wp2_with fail
            go_loop [41] (fun iv => ∃ a : Nat, a ≤ v ∧ iv = .int .i64 a ∧ Hid (∀ u, u < a → rowIn v F u = true)) (fun iv => v - (intOf iv).toNat)
            case atStart => exact ⟨0, Nat.zero_le _, rfl, Lib.hid fun u h => absurd h (Nat.not_lt_zero _)⟩
            case round =>
              obtain ⟨a, ha, rfl, HJ⟩ := hrel
              by_cases hlta : a < v
              · obtain ⟨b, off, rfl, hcv, hr, hrow⟩ := (HM.out.below HB.out) a hlta
                rw [HMV.out a hlta] at hcv hr hrow
                have HRow := Lib.hid hrow
                clear hrow
                go_wp2_with fail
                go_loop [47] (fun iv => ∃ x : Nat, x ≤ v ∧ iv = .int .i64 x ∧ Hid (∀ u, u < x → decide (F a u < v) = true)) (fun iv => v - (intOf iv).toNat)
                case atStart => exact ⟨0, Nat.zero_le _, rfl, Lib.hid fun u h => absurd h (Nat.not_lt_zero _)⟩
                case round =>
                  obtain ⟨x, hx, rfl, HX⟩ := hrel
                  by_cases hltx : x < v
                  · obtain ⟨rb, ro, er, hcx, hlx⟩ := HRow.out x hltx
                    obtain ⟨z, ez⟩ : ∃ z, z = F a x := ⟨_, rfl⟩
                    rw [← ez] at hcx hlx
                    have EZ := Lib.hid ez
                    clear ez
                    rw [er]
                    by_cases hz : z < v
                    · have hd4 : decide (v ≤ z) = false := decide_eq_false (by omega)
                      have HX2 : Hid (∀ u, u < x + 1 → decide (F a u < v) = true) := Lib.hid fun u h => by
                        rcases Nat.lt_succ_iff_lt_or_eq.1 h with h3 | rfl
                        · exact HX.out u h3
                        · exact decide_eq_true (by rw [← EZ.out]; exact hz)
                      clear hz
                      have ER := Lib.hid er
                      clear er
                      go_wp2_with fail
                      go_round
                      case rel => exact ⟨x + 1, by omega, by go_num, HX2⟩
                      case measure => simp [intOf]; omega
                    · have hd4 : decide (v ≤ z) = true := decide_eq_true (by omega)
                      have HF := Lib.hid (show allB v (rowIn v F) = false from not_all hlta (not_all (p := fun u => decide (F a u < v)) hltx (decide_eq_false (by rw [← EZ.out]; exact hz))))
                      clear hz er
                      go_wp2_with fail
                      go_ret
                      exact ⟨by rw [HE.out, if_pos ⟨by first | exact rfl | exact trivial, HFU.out⟩, if_neg (by rw [HF.out]; exact fun h => by cases h)]; rfl, HB.out⟩
                  · obtain rfl : x = v := by omega
                    have HJ2 : Hid (∀ u, u < a + 1 → rowIn x F u = true) := Lib.hid fun u h => by
                      rcases Nat.lt_succ_iff_lt_or_eq.1 h with h3 | rfl
                      · exact HJ.out u h3
                      · exact allB_iff.2 HX.out
                    go_wp2_with fail
                    go_round
                    case rel => exact ⟨a + 1, by omega, by go_num, HJ2⟩
                    case measure => simp [intOf]; omega
              · obtain rfl : a = v := by omega
                have HF := Lib.hid (show allB a (rowIn a F) = true from allB_iff.2 HJ.out)
                go_wp2_with fail
                go_ret
                exact ⟨by rw [HE.out, if_pos ⟨by first | exact rfl | exact trivial, HFU.out⟩, if_pos HF.out]; rfl, HB.out⟩
      · have h1 : ((len : Int) != (S : Int)) = true := by rw [bne_iff_ne]; omega
        have HE := Lib.hid (show upErr k len m F = 3 by rw [hE, if_neg (fun h => hlS h.1)])
        clear hE hlS
        go_enter Tryd.func37, Tryd.ntmps37
        go_wp2_with (go_at_call 32; refine (rsets_below k N S _ (by omega) HN.out HS.out).mono ?_; rintro e w1 ⟨rfl, hst⟩; have HB := Lib.hid hst; clear hst)
        go_ret
        exact ⟨by rw [HE.out]; rfl, HB.out⟩

theorem upMask_add {S i : Nat} {F : Nat → Nat → Nat} (h : upAll S i F = true) : upMask S F (i + 1) = upMask S F i + 2 ^ i := mkSet_add (p := fun i => upAll S i F) h
set_option maxHeartbeats 4000000 in
set_option maxRecDepth 100000 in
theorem rUpdate_rows (k N S : Nat) (A : Option Addr) (c : Nat) (R : Nat → Option Addr) (m cc : Nat → Nat) (F : Nat → Nat → Nat) (w : World) (hT : Mat w A S R m cc F) (hk : k ≤ 2) (hN : N = 2 ^ k) (hS : S = 2 ^ N) (he : upErr k S m F = 0) :
    Calls Tryd.prog 17 #[.int .i64 k, .slice A S c] w fun e w' => e = .returned (.tuple #[.int .i64 (upMask S F 8 : Nat), .int .i64 0]) ∧ Below w.heap.size w w' := by
  have hSk : S = 2 ^ 2 ^ k := by rw [hS, hN]
  have hS2 := sets_le (by omega) hSk
  have hS16 : S ≤ 16 := by rw [hSk]; exact Nat.pow_le_pow_right (n := 2) (j := 4) (by decide) (Nat.pow_le_pow_right (n := 2) (j := 2) (by decide) hk)
  have hfull : fullB S S m = true := by
    unfold upErr at he
    rw [if_pos (by omega), show setsZ k = S from hSk.symm] at he
    by_cases h : fullB S S m = true
    · exact h
    · rw [if_neg (fun h2 => h h2.2)] at he; cases he
  have hms : ∀ v, v < S → m v = S := fun v hv => beq_iff_eq.1 (allB_iff.1 hfull v hv)
  have hT2 : Mat w A S R (fun _ => S) cc F := fun i hi => by
    obtain ⟨b, off, e, h1, h2, h3⟩ := hT i hi
    rw [hms i hi] at h1 h2 h3
    exact ⟨b, off, e, h1, h2, h3⟩
  have hfa := rfamily_any k A S c R m cc F w hT (by omega)
  rw [he] at hfa
  have HFA := Lib.hid hfa
  have HM := Lib.hid hT2
  have HS := Lib.hid hS
  clear hT hT2 hfa hms hfull he hN hS hSk
  go_enter Tryd.func17, Tryd.ntmps17
  go_wp2_with (go_at_call 37; refine HFA.out.mono ?_; rintro e w1 ⟨rfl, hst⟩; have HB := Lib.hid hst; clear hst)
  have HB0 := Lib.hid HB.out
  clear HB
  go_loopw [7, 8, 9] (fun mv pv iv wr => ∃ i : Nat, i ≤ 8 ∧ iv = .int .i64 (i + 1 : Nat) ∧ pv = .int .i64 (2 ^ i : Nat) ∧ mv = .int .i64 (upMask S F i : Nat) ∧ Below w.heap.size w wr) (fun _ _ iv _ => 9 - (intOf iv).toNat)
  case atStart => exact ⟨0, Nat.zero_le _, rfl, rfl, rfl, HB0.out⟩
  case round =>
    clear HB0
    obtain ⟨i, hi, rfl, rfl, rfl, hbl⟩ := hrel
    have HB := Lib.hid hbl
    clear hbl
    by_cases hlt : i < 8
    · have hml : upMask S F i < 256 := Nat.lt_of_lt_of_le (mkSet_lt i _) (Nat.pow_le_pow_right (n := 2) (i := i) (j := 8) (by decide) (by omega))
      obtain ⟨P, eP⟩ : ∃ P : Nat, P = 2 ^ i := ⟨_, rfl⟩
      obtain ⟨P2, eP2⟩ : ∃ P2 : Nat, P2 = 2 ^ (i + 1) := ⟨_, rfl⟩
      have hPP : P2 = P * 2 := by rw [eP2, eP, Nat.pow_succ]
      have hPl : P < 256 := by rw [eP]; exact Nat.pow_lt_pow_right (n := 8) (by decide) hlt
      have hyes := fun h => upMask_add (S := S) (i := i) (F := F) h
      have hno : upAll S i F = false → upMask S F (i + 1) = upMask S F i := fun h => mkSet_succ_no (p := fun i => upAll S i F) h
      obtain ⟨j, ej⟩ : ∃ j, j = i + 1 := ⟨_, rfl⟩
      have hdj : decide ((j : Int) ≤ 8) = true := decide_eq_true (by omega)
      have HU : Hid (∀ W ka x y, Mat W A S R (fun _ => S) cc F → ka < S → x < S → y < S → Calls Tryd.prog 38 #[.int .i64 j, .slice A S c, .int .u64 ka, .int .u64 x, .int .u64 y] W fun e w' => e = .returned (.bool (upIn i F ka x y)) ∧ Below W.heap.size W w') := Lib.hid fun W ka x y h1 h2 h3 h4 => by
        rw [ej]; exact rupdates_any ka x y S c A R cc F W i N hlt HS.out h1 h2 h3 h4 hS16
      obtain ⟨m0, em0⟩ : ∃ m0, m0 = upMask S F i := ⟨_, rfl⟩
      obtain ⟨m1, em1⟩ : ∃ m1, m1 = upMask S F (i + 1) := ⟨_, rfl⟩
      rw [← em0, ← em1, ← eP] at hyes
      rw [← em0, ← em1] at hno
      rw [← em0] at hml
      rw [← em0, ← eP, ← ej]
      have EJ := Lib.hid ej
      have EP2 := Lib.hid eP2
      have HPP := Lib.hid hPP
      have EM1 := Lib.hid em1
      have HYES := Lib.hid hyes
      have HNO := Lib.hid hno
      have hj9 : j ≤ 8 := by omega
      clear ej eP eP2 hPP em0 em1 hyes hno
      go_wp2_with fail
      go_loopw [10, 26] (fun ov kv wr => ∃ ka : Nat, ka ≤ S ∧ kv = .int .i64 ka ∧ ov = .bool (allB ka (upRow S i F)) ∧ Below w.heap.size w wr) (fun _ kv _ => S - (intOf kv).toNat)
      case atStart => exact ⟨0, Nat.zero_le _, rfl, rfl, HB.out⟩
      case round =>
        clear HB
        obtain ⟨ka, hka, rfl, rfl, hbl⟩ := hrel
        have HB := Lib.hid hbl
        clear hbl
        obtain ⟨fa, efa⟩ : ∃ fa, fa = allB ka (upRow S i F) := ⟨_, rfl⟩
        rw [← efa]
        have EFA := Lib.hid efa
        clear efa
        by_cases hltk : ka < S
        · go_wp2_with fail
          go_loopw [10, 31] (fun ov xv wr => ∃ x : Nat, x ≤ S ∧ xv = .int .i64 x ∧ ov = .bool (fa && allB x (fun x => allB S (upIn i F ka x))) ∧ Below w.heap.size w wr) (fun _ xv _ => S - (intOf xv).toNat)
          case atStart => exact ⟨0, Nat.zero_le _, rfl, by rw [show allB 0 (fun x => allB S (upIn i F ka x)) = true from rfl, Bool.and_true], HB.out⟩
          case round =>
            clear HB
            obtain ⟨x, hx, rfl, rfl, hbl⟩ := hrel
            have HB := Lib.hid hbl
            clear hbl
            obtain ⟨fb, efb⟩ : ∃ fb, fb = (fa && allB x (fun x => allB S (upIn i F ka x))) := ⟨_, rfl⟩
            rw [← efb]
            have EFB := Lib.hid efb
            clear efb
            by_cases hltx : x < S
            · go_wp2_with fail
              go_loopw [10, 36] (fun ov yv wr => ∃ y : Nat, y ≤ S ∧ yv = .int .i64 y ∧ ov = .bool (fb && allB y (upIn i F ka x)) ∧ Below w.heap.size w wr) (fun _ yv _ => S - (intOf yv).toNat)
              case atStart => exact ⟨0, Nat.zero_le _, rfl, by rw [show allB 0 (upIn i F ka x) = true from rfl, Bool.and_true], HB.out⟩
              case round =>
                clear HB
                obtain ⟨y, hy, rfl, rfl, hbl⟩ := hrel
                obtain ⟨fc, efc⟩ : ∃ fc, fc = (fb && allB y (upIn i F ka x)) := ⟨_, rfl⟩
                rw [← efc]
                have EFC := Lib.hid efc
                clear efc
                by_cases hlty : y < S
                · have hcall := HU.out wr ka x y (HM.out.below hbl) hltk hltx hlty
                  have hsu : (fb && allB (y + 1) (upIn i F ka x)) = (fc && upIn i F ka x y) := by rw [EFC.out, allB_succ, Bool.and_assoc]
                  obtain ⟨r, er⟩ : ∃ r, r = upIn i F ka x y := ⟨_, rfl⟩
                  rw [← er] at hcall hsu
                  have HC := Lib.hid hcall
                  have HSU := Lib.hid hsu
                  have HB := Lib.hid hbl
                  clear hcall hsu er hbl
                  cases fc
                  · go_wp2_with fail
                    go_roundw
                    case rel => exact ⟨y + 1, by omega, by go_num, by rw [HSU.out]; rfl, HB.out⟩
                    case measure => simp [intOf]; omega
                  · go_wp2_with (go_at_call 38; refine HC.out.mono ?_; rintro e w2 ⟨rfl, hst⟩; have HB := Lib.hid (HB.out.trans (hst.mono HB.out.size)); clear hst)
                    go_roundw
                    case rel => exact ⟨y + 1, by omega, by go_num, by rw [HSU.out]; rfl, HB.out⟩
                    case measure => simp [intOf]; omega
                · obtain rfl : y = S := by omega
                  have HB := Lib.hid hbl
                  clear hbl
                  go_wp2_with fail
                  go_roundw
                  case rel => exact ⟨x + 1, by omega, by go_num, by rw [allB_succ, ← Bool.and_assoc, ← EFB.out, EFC.out], HB.out⟩
                  case measure => simp [intOf]; omega
            · obtain rfl : x = S := by omega
              go_wp2_with fail
              go_roundw
              case rel => exact ⟨ka + 1, by omega, by go_num, by rw [allB_succ, ← EFA.out, EFB.out]; rfl, HB.out⟩
              case measure => simp [intOf]; omega
        · obtain rfl : ka = S := by omega
          have HAL := Lib.hid (show fa = upAll ka i F from EFA.out)
          cases fa
          · have HM1 := Lib.hid (HNO.out HAL.out.symm)
            go_wp2_with fail
            go_roundw
            case rel => exact ⟨i + 1, by omega, by rw [← EJ.out]; go_num, by rw [← EP2.out, HPP.out]; go_num, by rw [← EM1.out, HM1.out], HB.out⟩
            case measure => have := EJ.out; simp [intOf]; omega
          · have HM1 := Lib.hid (HYES.out HAL.out.symm)
            go_wp2_with fail
            go_roundw
            case rel => exact ⟨i + 1, by omega, by rw [← EJ.out]; go_num, by rw [← EP2.out, HPP.out]; go_num, by rw [← EM1.out, HM1.out]; go_num, HB.out⟩
            case measure => have := EJ.out; simp [intOf]; omega
    · obtain rfl : i = 8 := by omega
      go_wp2_with fail
      go_ret2
      exact ⟨rfl, HB.out⟩
theorem rUpdate_any (n : Int) (A : Option Addr) (len c : Nat) (R : Nat → Option Addr) (m cc : Nat → Nat) (F : Nat → Nat → Nat) (w : World) (hT : Mat w A len R m cc F) (hlen : len ≤ 9223372036854775807) :
    Calls Tryd.prog 17 #[.int .i64 n, .slice A len c] w fun e w' => e = .returned (.tuple #[.int .i64 (upVal n len m F : Nat), .int .i64 (upErr n len m F : Nat)]) ∧ Below w.heap.size w w' := by
  by_cases he : upErr n len m F = 0
  · have h1 : 0 ≤ n ∧ n ≤ 2 := by
      apply Classical.byContradiction
      intro h; unfold upErr at he; rw [if_neg h] at he; cases he
    obtain ⟨k, rfl⟩ : ∃ k : Nat, n = k := ⟨n.toNat, by omega⟩
    have h2 : len = setsZ k := by
      apply Classical.byContradiction
      intro h; unfold upErr at he; rw [if_pos h1, if_neg (fun h3 => h h3.1)] at he; cases he
    subst h2
    have h := rUpdate_rows k (2 ^ k) (setsZ k) A c R m cc F w hT (by omega) rfl rfl he
    rw [show upVal k (setsZ k) m F = upMask (setsZ k) F 8 from if_pos he, he]
    exact h
  · have h0 : ((upErr n len m F : Int) != 0) = true := by rw [bne_iff_ne]; omega
    have HV := Lib.hid (show upVal n len m F = 0 from if_neg he)
    have HF := Lib.hid (rfamily_any n A len c R m cc F w hT hlen)
    clear he hT
    go_enter Tryd.func17, Tryd.ntmps17
    go_wp2_with (go_at_call 37; refine HF.out.mono ?_; rintro e w1 ⟨rfl, hst⟩; have HB := Lib.hid hst; clear hst)
    go_ret2
    exact ⟨by rw [HV.out]; rfl, HB.out⟩
end Go.Proofs.YtflhngmfcpeamaaDoor
