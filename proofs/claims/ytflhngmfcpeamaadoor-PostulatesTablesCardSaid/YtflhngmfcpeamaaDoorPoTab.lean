/-
  Walks: the law PostulatesTables, over whatever memory in which the two tables are laid.
-/
import Derived.Test.YtflhngmfcpeamaaDoorProg
import Derived.Test.YtflhngmfcpeamaaDoorBase
import Derived.Test.YtflhngmfcpeamaaDoorRow
import Derived.Test.YtflhngmfcpeamaaDoorRowU
import Derived.Test.YtflhngmfcpeamaaDoorSlc
import Derived.Test.YtflhngmfcpeamaaDoorPoA
import Derived.Test.YtflhngmfcpeamaaDoorPoB
import Derived.Test.YtflhngmfcpeamaaDoorPoE
import Derived.Test.YtflhngmfcpeamaaDoorPoX
import Derived.Test.YtflhngmfcpeamaaDoorPoK
import Derived.Test.YtflhngmfcpeamaaDoorPoM
import Derived.Test.YtflhngmfcpeamaaDoorPoT
import Derived.Test.YtflhngmfcpeamaaDoorPoRA
import Derived.Test.YtflhngmfcpeamaaDoorPoRT
namespace Go.Proofs.YtflhngmfcpeamaaDoor
open Go.RowKit

set_option maxHeartbeats 4000000 in
set_option maxRecDepth 100000 in
theorem tables_core (n : Int) (kb len c : Nat) (A : Option Addr) (f : Nat → Int) (w : World) (hL : LaidR w) (hU : LaidU w) (hX : I64s w A len f) (hkb : kb < 18446744073709551616) :
    Calls Tryd.prog 7 #[.int .i64 n, .int .u64 kb, .slice A len c] w fun e w' => e = .returned (.bool true) ∧ Below w.heap.size w w' := by
  have HL := Lib.hid hL
  have HU := Lib.hid hU
  have HX := Lib.hid hX
  clear hL hU hX
  by_cases h300 : 300 < len
  · have hd : decide (300 < (len : Int)) = true := decide_eq_true (by omega)
    clear h300
    go_enter Tryd.func7, Tryd.ntmps7
    go_wp2_with (go_at_call 10; refine (awake_any _ HL.out HU.out).mono ?_; rintro e w2 ⟨rfl, hst⟩; have HB := Lib.hid hst; clear hst)
    go_ret
    exact ⟨rfl, HB.out⟩
  · have hd : decide (300 < (len : Int)) = false := decide_eq_false (by omega)
    clear h300
    obtain ⟨fb, efb⟩ : ∃ fb, fb = faithB n kb len f := ⟨_, rfl⟩
    have HF1 : Hid (∀ W, I64s W A len f → Calls Tryd.prog 25 #[.int .i64 n, .int .u64 kb, .slice A len c] W fun e w' => e = .returned (.bool fb) ∧ W = w') := Lib.hid fun W h => by
      rw [efb]; exact Faithful_any n kb len c A f W h hkb
    have HF2 : Hid (∀ W, I64s W A len f → Calls Tryd.prog 26 #[.int .i64 n, .int .u64 kb, .slice A len c] W fun e w' => e = .returned (.bool fb) ∧ Below W.heap.size W w') := Lib.hid fun W h => by
      rw [efb]; exact rFaithful_any n kb len c A f W h hkb
    have hbb : (fb == fb) = true := by cases fb <;> rfl
    by_cases ho : tblErr n len = 0
    · obtain ⟨k, rfl, hk, hN⟩ := tblErr_ok ho
      obtain ⟨S, hS⟩ : ∃ S, S = 2 ^ len := ⟨_, rfl⟩
      have hSk : S = 2 ^ 2 ^ k := by rw [hS, hN]
      have hS2 := sets_le hk hSk
      have HT1 : Hid (∀ W, I64s W A len f → Calls Tryd.prog 22 #[.int .i64 k, .slice A len c] W (TabPost S (tabF f len) W)) := Lib.hid fun W h => Table_in k len S c A f W h hk hN hS
      have HT2 : Hid (∀ W, I64s W A len f → Calls Tryd.prog 23 #[.int .i64 k, .slice A len c] W (TabRead S (tabF f len) W)) := Lib.hid fun W h => rTable_in k len S c A f W h hk hN hS
      have HTL : Hid (∀ x, x < S → tabF f len x < 18446744073709551616) := Lib.hid fun x hx => Nat.lt_of_lt_of_le (tabF_lt f len x) (by rw [← hS]; omega)
      have HEQ0 : Hid (eqU S S (tabF f len) (tabF f len) = true) := Lib.hid (eqU_iff.2 ⟨rfl, fun _ _ => rfl⟩)
      clear efb ho hN hS hSk
      go_enter Tryd.func7, Tryd.ntmps7
      go_wp2_with fail
      refine (HT1.out _ HX.out).mono ?_
      rintro e w1 ⟨B1, rfl, hrow, hst⟩
      have HB := Lib.hid hst
      have HU1 := Lib.hid (hrow.u64s HTL.out)
      clear hst hrow
      go_wp2_with fail
      refine (HT2.out _ (HX.out.below HB.out)).mono ?_
      rintro e w2 ⟨A2, c2, rfl, hu2, hst⟩
      have HB := Lib.hid (HB.out.trans (hst.mono HB.out.size))
      have heq := equalU_any (some ⟨B1, 0, none⟩) A2 S S S c2 _ _ w2 (HU1.out.below hst) hu2 (by omega) (by omega)
      rw [HEQ0.out] at heq
      have HEQ := Lib.hid heq
      clear hst hu2 heq
      go_wp2_with (first | (go_at_call 24; refine HEQ.out.mono ?_; rintro e w5 ⟨rfl, hst⟩; have HB := Lib.hid (HB.out.trans (hst.mono HB.out.size)); clear hst) | (go_at_call 25; refine (HF1.out _ (HX.out.below HB.out)).mono ?_; rintro e w5 ⟨rfl, rfl⟩) | (go_at_call 26; refine (HF2.out _ (HX.out.below HB.out)).mono ?_; rintro e w5 ⟨rfl, hst⟩; have HB := Lib.hid (HB.out.trans (hst.mono HB.out.size)); clear hst) | (go_at_call 10; refine (awake_any _ (HL.out.below HB.out) (HU.out.below HB.out)).mono ?_; rintro e w2 ⟨rfl, hst⟩; have HB := Lib.hid (HB.out.trans (hst.mono HB.out.size)); clear hst))
      go_ret
      exact ⟨rfl, HB.out⟩
    · obtain ⟨O, eO⟩ : ∃ O, O = tblErr n len := ⟨_, rfl⟩
      have HT1 : Hid (∀ W, Calls Tryd.prog 22 #[.int .i64 n, .slice A len c] W fun e w' => e = .returned (.tuple #[.slice none 0 0, .int .i64 O]) ∧ W = w') := Lib.hid fun W => by
        rw [eO]; exact Table_err n A len c W ho
      have HT2 : Hid (∀ W, Calls Tryd.prog 23 #[.int .i64 n, .slice A len c] W fun e w' => e = .returned (.tuple #[.slice none 0 0, .int .i64 O]) ∧ Below W.heap.size W w') := Lib.hid fun W => by
        rw [eO]; exact rTable_err n A len c W ho
      have HEQ : Hid (∀ W, Calls Tryd.prog 24 #[.slice none 0 0, .slice none 0 0] W fun e w' => e = .returned (.bool true) ∧ Below W.heap.size W w') := Lib.hid fun W =>
        equalU_any none none 0 0 0 0 (fun _ => 0) (fun _ => 0) W (u64s_nil _ _ _) (u64s_nil _ _ _) (by omega) (by omega)
      clear efb ho eO
      go_enter Tryd.func7, Tryd.ntmps7
      go_wp2_with fail
      refine (HT1.out _).mono ?_
      rintro e w1 ⟨rfl, rfl⟩
      go_wp2_with fail
      refine (HT2.out _).mono ?_
      rintro e w2 ⟨rfl, hst⟩
      have HB := Lib.hid hst
      clear hst
      go_wp2_with (first | (go_at_call 24; refine (HEQ.out _).mono ?_; rintro e w5 ⟨rfl, hst⟩; have HB := Lib.hid (HB.out.trans (hst.mono HB.out.size)); clear hst) | (go_at_call 25; refine (HF1.out _ (HX.out.below HB.out)).mono ?_; rintro e w5 ⟨rfl, rfl⟩) | (go_at_call 26; refine (HF2.out _ (HX.out.below HB.out)).mono ?_; rintro e w5 ⟨rfl, hst⟩; have HB := Lib.hid (HB.out.trans (hst.mono HB.out.size)); clear hst) | (go_at_call 10; refine (awake_any _ (HL.out.below HB.out) (HU.out.below HB.out)).mono ?_; rintro e w2 ⟨rfl, hst⟩; have HB := Lib.hid (HB.out.trans (hst.mono HB.out.size)); clear hst))
      go_ret
      exact ⟨rfl, HB.out⟩
end Go.Proofs.YtflhngmfcpeamaaDoor
