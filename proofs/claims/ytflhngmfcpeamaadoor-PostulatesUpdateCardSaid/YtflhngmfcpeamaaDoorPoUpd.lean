/-
  Walks: the law PostulatesUpdate, over whatever memory in which the two tables are laid.
-/
import Derived.Test.YtflhngmfcpeamaaDoorProg
import Derived.Test.YtflhngmfcpeamaaDoorBase
import Derived.Test.YtflhngmfcpeamaaDoorRow
import Derived.Test.YtflhngmfcpeamaaDoorPoA
import Derived.Test.YtflhngmfcpeamaaDoorPoB
import Derived.Test.YtflhngmfcpeamaaDoorPoE
import Derived.Test.YtflhngmfcpeamaaDoorPoU
import Derived.Test.YtflhngmfcpeamaaDoorPoX
import Derived.Test.YtflhngmfcpeamaaDoorPoK
import Derived.Test.YtflhngmfcpeamaaDoorPoF
import Derived.Test.YtflhngmfcpeamaaDoorPoUB
import Derived.Test.YtflhngmfcpeamaaDoorPoRF
namespace Go.Proofs.YtflhngmfcpeamaaDoor
open Go.RowKit

set_option maxHeartbeats 4000000 in
set_option maxRecDepth 100000 in
theorem update_core (n : Int) (len c : Nat) (A : Option Addr) (R : Nat → Option Addr) (m cc : Nat → Nat) (F : Nat → Nat → Nat) (w : World) (hL : LaidR w) (hU : LaidU w) (hT : Mat w A len R m cc F) (hlen : len ≤ 9223372036854775807) :
    Calls Tryd.prog 5 #[.int .i64 n, .slice A len c] w fun e w' => e = .returned (.bool true) ∧ Below w.heap.size w w' := by
  have HL := Lib.hid hL
  have HU := Lib.hid hU
  have HT := Lib.hid hT
  clear hL hU hT
  by_cases h20 : 20 < len
  · have hd : decide (20 < (len : Int)) = true := decide_eq_true (by omega)
    clear h20
    go_enter Tryd.func5, Tryd.ntmps5
    go_wp2_with (go_at_call 10; refine (awake_any _ HL.out HU.out).mono ?_; rintro e w2 ⟨rfl, hst⟩; have HB := Lib.hid hst; clear hst)
    go_ret
    exact ⟨rfl, HB.out⟩
  · have hd : decide (20 < (len : Int)) = false := decide_eq_false (by omega)
    clear h20
    obtain ⟨x, ex⟩ : ∃ x, x = upVal n len m F := ⟨_, rfl⟩
    obtain ⟨E, eE⟩ : ∃ E, E = upErr n len m F := ⟨_, rfl⟩
    have HR1 : Hid (∀ W, LaidU W → Mat W A len R m cc F → Calls Tryd.prog 16 #[.int .i64 n, .slice A len c] W fun e w' => e = .returned (.tuple #[.int .i64 x, .int .i64 E]) ∧ Below W.heap.size W w') := Lib.hid fun W h1 h2 => by
      rw [ex, eE]; exact Update_any n A len c R m cc F W h1 h2 hlen
    have HR2 : Hid (∀ W, Mat W A len R m cc F → Calls Tryd.prog 17 #[.int .i64 n, .slice A len c] W fun e w' => e = .returned (.tuple #[.int .i64 x, .int .i64 E]) ∧ Below W.heap.size W w') := Lib.hid fun W h2 => by
      rw [ex, eE]; exact rUpdate_any n A len c R m cc F W h2 hlen
    by_cases ho : famErr n len m F = 0
    · obtain ⟨k, rfl, hk, hlS, -, -, -, -, -⟩ := famErr_ok ho
      obtain ⟨N, hN⟩ : ∃ N, N = 2 ^ k := ⟨_, rfl⟩
      have hS : len = 2 ^ N := by rw [hlS, hN]
      have hN4 : N ≤ 4 := by rw [hN]; exact Nat.pow_le_pow_right (n := 2) (j := 2) (by decide) hk
      have HO1 : Hid (∀ W, LaidU W → Mat W A len R m cc F → Calls Tryd.prog 18 #[.int .i64 k, .slice A len c] W (MatRead N (famG N F) W)) := Lib.hid fun W h1 h2 => Family_in k N len A c R m cc F W h1 h2 hk hN hS ho
      have HO2 : Hid (∀ W, Mat W A len R m cc F → Calls Tryd.prog 19 #[.int .i64 k, .slice A len c] W (MatRead N (famG N F) W)) := Lib.hid fun W h2 => rFamily_in k N len A c R m cc F W h2 hk hN hS ho
      clear ex eE ho hN hS hlS
      go_enter Tryd.func5, Tryd.ntmps5
      go_wp2_with fail
      go_loop [21] (fun iv => ∃ v : Nat, v ≤ len ∧ iv = .int .i64 v) (fun iv => len - (intOf iv).toNat)
      case atStart => exact ⟨0, Nat.zero_le _, rfl⟩
      case round =>
        obtain ⟨v, hv, rfl⟩ := hrel
        by_cases hlt : v < len
        · obtain ⟨b, off, rfl, hcv, hr, -⟩ := HT.out v hlt
          by_cases hm : 20 < m v
          · have hd2 : decide (20 < (m v : Int)) = true := decide_eq_true (by omega)
            clear hm
            go_wp2_with (go_at_call 10; refine (awake_any _ HL.out HU.out).mono ?_; rintro e w2 ⟨rfl, hst⟩; have HB := Lib.hid hst; clear hst)
            go_ret
            exact ⟨rfl, HB.out⟩
          · have hd2 : decide (20 < (m v : Int)) = false := decide_eq_false (by omega)
            clear hm
            go_wp2_with fail
            go_round
            case rel => exact ⟨v + 1, by omega, by go_num⟩
            case measure => simp [intOf]; omega
        · obtain rfl : v = len := by omega
          go_wp2_with fail
          refine (HR1.out _ HU.out HT.out).mono ?_
          rintro e w1 ⟨rfl, hst⟩
          have HB := Lib.hid hst
          clear hst
          go_wp2_with fail
          refine (HR2.out _ (HT.out.below HB.out)).mono ?_
          rintro e w2 ⟨rfl, hst⟩
          have HB := Lib.hid (HB.out.trans (hst.mono HB.out.size))
          clear hst
          go_wp2_with fail
          refine (HO1.out _ (HU.out.below HB.out) (HT.out.below HB.out)).mono ?_
          rintro e w3 ⟨A1, c1, R1, cc1, rfl, hm1, hst⟩
          have HB := Lib.hid (HB.out.trans (hst.mono HB.out.size))
          have HM1 := Lib.hid hm1
          clear hst hm1
          go_wp2_with fail
          refine (HO2.out _ (HT.out.below HB.out)).mono ?_
          rintro e w4 ⟨A2, c2, R2, cc2, rfl, hm2, hst⟩
          have HB := Lib.hid (HB.out.trans (hst.mono HB.out.size))
          have hsm := same_true N N c1 c2 A1 A2 R1 R2 cc1 cc2 (famG N F) w4 (HM1.out.below hst) hm2 (by omega) (by omega)
          have HSM := Lib.hid hsm
          clear hst hm2 hsm
          go_wp2_with (first | (go_at_call 20; refine HSM.out.mono ?_; rintro e w5 ⟨rfl, hst⟩; have HB := Lib.hid (HB.out.trans (hst.mono HB.out.size)); clear hst) | (go_at_call 10; refine (awake_any _ (HL.out.below HB.out) (HU.out.below HB.out)).mono ?_; rintro e w2 ⟨rfl, hst⟩; have HB := Lib.hid (HB.out.trans (hst.mono HB.out.size)); clear hst))
          go_ret
          exact ⟨rfl, HB.out⟩
    · obtain ⟨O, eO⟩ : ∃ O, O = famErr n len m F := ⟨_, rfl⟩
      have HO1 : Hid (∀ W, LaidU W → Mat W A len R m cc F → Calls Tryd.prog 18 #[.int .i64 n, .slice A len c] W fun e w' => e = .returned (.tuple #[.slice none 0 0, .int .i64 O]) ∧ Below W.heap.size W w') := Lib.hid fun W h1 h2 => by
        rw [eO]; exact Family_err n A len c R m cc F W h1 h2 hlen ho
      have HO2 : Hid (∀ W, Mat W A len R m cc F → Calls Tryd.prog 19 #[.int .i64 n, .slice A len c] W fun e w' => e = .returned (.tuple #[.slice none 0 0, .int .i64 O]) ∧ Below W.heap.size W w') := Lib.hid fun W h2 => by
        rw [eO]; exact rFamily_err n A len c R m cc F W h2 hlen ho
      clear ex eE ho eO
      go_enter Tryd.func5, Tryd.ntmps5
      go_wp2_with fail
      go_loop [21] (fun iv => ∃ v : Nat, v ≤ len ∧ iv = .int .i64 v) (fun iv => len - (intOf iv).toNat)
      case atStart => exact ⟨0, Nat.zero_le _, rfl⟩
      case round =>
        obtain ⟨v, hv, rfl⟩ := hrel
        by_cases hlt : v < len
        · obtain ⟨b, off, rfl, hcv, hr, -⟩ := HT.out v hlt
          by_cases hm : 20 < m v
          · have hd2 : decide (20 < (m v : Int)) = true := decide_eq_true (by omega)
            clear hm
            go_wp2_with (go_at_call 10; refine (awake_any _ HL.out HU.out).mono ?_; rintro e w2 ⟨rfl, hst⟩; have HB := Lib.hid hst; clear hst)
            go_ret
            exact ⟨rfl, HB.out⟩
          · have hd2 : decide (20 < (m v : Int)) = false := decide_eq_false (by omega)
            clear hm
            go_wp2_with fail
            go_round
            case rel => exact ⟨v + 1, by omega, by go_num⟩
            case measure => simp [intOf]; omega
        · obtain rfl : v = len := by omega
          go_wp2_with fail
          refine (HR1.out _ HU.out HT.out).mono ?_
          rintro e w1 ⟨rfl, hst⟩
          have HB := Lib.hid hst
          clear hst
          go_wp2_with fail
          refine (HR2.out _ (HT.out.below HB.out)).mono ?_
          rintro e w2 ⟨rfl, hst⟩
          have HB := Lib.hid (HB.out.trans (hst.mono HB.out.size))
          clear hst
          go_wp2_with fail
          refine (HO1.out _ (HU.out.below HB.out) (HT.out.below HB.out)).mono ?_
          rintro e w3 ⟨rfl, hst⟩
          have HB := Lib.hid (HB.out.trans (hst.mono HB.out.size))
          clear hst
          go_wp2_with fail
          refine (HO2.out _ (HT.out.below HB.out)).mono ?_
          rintro e w4 ⟨rfl, hst⟩
          have HB := Lib.hid (HB.out.trans (hst.mono HB.out.size))
          clear hst
          go_wp2_with (first | (go_at_call 20; refine (same_nil _).mono ?_; rintro e w5 ⟨rfl, hst⟩; have HB := Lib.hid (HB.out.trans (hst.mono HB.out.size)); clear hst) | (go_at_call 10; refine (awake_any _ (HL.out.below HB.out) (HU.out.below HB.out)).mono ?_; rintro e w2 ⟨rfl, hst⟩; have HB := Lib.hid (HB.out.trans (hst.mono HB.out.size)); clear hst))
          go_ret
          exact ⟨rfl, HB.out⟩
end Go.Proofs.YtflhngmfcpeamaaDoor
