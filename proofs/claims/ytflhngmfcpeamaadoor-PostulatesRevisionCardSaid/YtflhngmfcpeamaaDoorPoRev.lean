/-
  Walks: the law PostulatesRevision, over whatever memory in which the two tables are laid.
-/
import Derived.Test.YtflhngmfcpeamaaDoorProg
import Derived.Test.YtflhngmfcpeamaaDoorBase
import Derived.Test.YtflhngmfcpeamaaDoorRow
import Derived.Test.YtflhngmfcpeamaaDoorSlc
import Derived.Test.YtflhngmfcpeamaaDoorPoP
import Derived.Test.YtflhngmfcpeamaaDoorPoQ
import Derived.Test.YtflhngmfcpeamaaDoorPoA
import Derived.Test.YtflhngmfcpeamaaDoorPoB
import Derived.Test.YtflhngmfcpeamaaDoorPoE
import Derived.Test.YtflhngmfcpeamaaDoorPoX
import Derived.Test.YtflhngmfcpeamaaDoorPoK
import Derived.Test.YtflhngmfcpeamaaDoorPoRA
import Derived.Test.YtflhngmfcpeamaaDoorPoRB
namespace Go.Proofs.YtflhngmfcpeamaaDoor
open Go.RowKit

set_option maxHeartbeats 4000000 in
set_option maxRecDepth 100000 in
theorem revision_core (n : Int) (kb len c : Nat) (A : Option Addr) (T : Nat → Nat) (w : World) (hL : LaidR w) (hU : LaidU w) (hT : U64s w A len T) (hlen : len ≤ 9223372036854775807) (hkb : kb < 18446744073709551616) :
    Calls Tryd.prog 3 #[.int .i64 n, .int .u64 kb, .slice A len c] w fun e w' => e = .returned (.bool true) ∧ Below w.heap.size w w' := by
  have HL := Lib.hid hL
  have HU := Lib.hid hU
  have HT := Lib.hid hT
  clear hL hU hT
  by_cases h300 : 300 < len
  · have hd : decide (300 < (len : Int)) = true := decide_eq_true (by omega)
    clear h300
    go_enter Tryd.func3, Tryd.ntmps3
    go_wp2_with (go_at_call 10; refine (awake_any _ HL.out HU.out).mono ?_; rintro e w2 ⟨rfl, hst⟩; have HB := Lib.hid hst; clear hst)
    go_ret
    exact ⟨rfl, HB.out⟩
  · have hd : decide (300 < (len : Int)) = false := decide_eq_false (by omega)
    clear h300
    obtain ⟨m, em⟩ : ∃ m, m = rvM n kb len T := ⟨_, rfl⟩
    obtain ⟨x, ex⟩ : ∃ x, x = rvA n kb len T := ⟨_, rfl⟩
    obtain ⟨y, ey⟩ : ∃ y, y = rvC n kb len T := ⟨_, rfl⟩
    obtain ⟨E, eE⟩ : ∃ E, E = rvErr n kb len T := ⟨_, rfl⟩
    have HR1 : Hid (∀ W, LaidR W → U64s W A len T → Calls Tryd.prog 11 #[.int .i64 n, .int .u64 kb, .slice A len c] W fun e w' => e = .returned (.tuple #[.int .i64 m, .int .u64 x, .int .u64 y, .int .i64 E]) ∧ Below W.heap.size W w') := Lib.hid fun W h1 h2 => by
      rw [em, ex, ey, eE]; exact Revision_any n kb len c A T W h1 h2 hlen hkb
    have HR2 : Hid (∀ W, U64s W A len T → Calls Tryd.prog 12 #[.int .i64 n, .int .u64 kb, .slice A len c] W fun e w' => e = .returned (.tuple #[.int .i64 m, .int .u64 x, .int .u64 y, .int .i64 E]) ∧ Below W.heap.size W w') := Lib.hid fun W h2 => by
      rw [em, ex, ey, eE]; exact rRevision_any n kb len c A T W h2 hlen hkb
    by_cases ho : orErr n kb len T = 0
    · have he : rvErr n kb len T = 0 := by
        unfold orErr at ho
        by_cases h : rvErr n kb len T = 0
        · exact h
        · rw [if_neg h] at ho; exact ho
      have hmm : rvM n kb len T = 63 := by
        unfold orErr at ho
        rw [if_pos he] at ho
        by_cases h : rvM n kb len T = 63
        · exact h
        · rw [if_neg h] at ho; cases ho
      obtain ⟨k, rfl, hk, hlS, hb, ht⟩ := rvErr_ok he
      obtain ⟨N, hN⟩ : ∃ N, N = 2 ^ k := ⟨_, rfl⟩
      obtain ⟨S, hS⟩ : ∃ S, S = 2 ^ N := ⟨_, rfl⟩
      have hSk : S = 2 ^ 2 ^ k := by rw [hS, hN]
      rw [← hSk] at hlS hb ht
      have hlen' : len = S := hlS
      subst hlen'
      have hN8 : N ≤ 8 := by rw [hN]; exact Nat.le_trans (Nat.pow_le_pow_right (by decide) hk) (by decide)
      have hS2 := sets_le hk hSk
      have hm : rvMask len kb T 6 = 63 := by
        unfold rvM at hmm; rw [if_pos he, show setsZ k = len from hSk.symm] at hmm; exact hmm
      have HO1 : Hid (∀ W, LaidR W → U64s W A len T → Calls Tryd.prog 13 #[.int .i64 k, .int .u64 kb, .slice A len c] W (OrdPost N (rankN len T len) W)) := Lib.hid fun W h1 h2 => Order_in k N len kb c A T W h1 h2 hk hN hS hb ht hm
      have HO2 : Hid (∀ W, U64s W A len T → Calls Tryd.prog 14 #[.int .i64 k, .int .u64 kb, .slice A len c] W (OrdPost N (rankN len T len) W)) := Lib.hid fun W h2 => rOrder_in k N len kb c A T W h2 hk hN hS hb ht hm
      have HRL : Hid (∀ v, rankN len T len v ≤ 9223372036854775807) := Lib.hid fun v => Nat.le_trans (rank_le len v) (by omega)
      have HEQ0 : Hid (eqI N N (fun v => (rankN len T len v : Int)) (fun v => (rankN len T len v : Int)) = true) := Lib.hid (eqI_iff.2 ⟨rfl, fun _ _ => rfl⟩)
      clear em ex ey eE ho he hmm hN hS hSk hlS ht hm
      go_enter Tryd.func3, Tryd.ntmps3
      go_wp2_with fail
      refine (HR1.out _ HL.out HT.out).mono ?_
      rintro e w1 ⟨rfl, hst⟩
      have HB := Lib.hid hst
      clear hst
      go_wp2_with fail
      refine (HR2.out _ (HT.out.below HB.out)).mono ?_
      rintro e w2 ⟨rfl, hst⟩
      have HB := Lib.hid (HB.out.trans (hst.mono HB.out.size))
      clear hst
      go_wp2_with fail
      refine (HO1.out _ (HL.out.below HB.out) (HT.out.below HB.out)).mono ?_
      rintro e w3 ⟨B1, rfl, hrow, hst⟩
      have HB := Lib.hid (HB.out.trans (hst.mono HB.out.size))
      have HI1 := Lib.hid (hrow.i64s HRL.out)
      clear hst hrow
      go_wp2_with fail
      refine (HO2.out _ (HT.out.below HB.out)).mono ?_
      rintro e w4 ⟨B2, rfl, hrow, hst⟩
      have HB := Lib.hid (HB.out.trans (hst.mono HB.out.size))
      have HI1 := Lib.hid (HI1.out.below hst)
      have heq := equalI_any (some ⟨B1, 0, none⟩) (some ⟨B2, 0, none⟩) N N N N _ _ w4 HI1.out (hrow.i64s HRL.out) (by omega) (by omega)
      rw [HEQ0.out] at heq
      have HEQ := Lib.hid heq
      clear hst hrow heq
      go_wp2_with (first | (go_at_call 15; refine HEQ.out.mono ?_; rintro e w5 ⟨rfl, hst⟩; have HB := Lib.hid (HB.out.trans (hst.mono HB.out.size)); clear hst) | (go_at_call 10; refine (awake_any _ (HL.out.below HB.out) (HU.out.below HB.out)).mono ?_; rintro e w2 ⟨rfl, hst⟩; have HB := Lib.hid (HB.out.trans (hst.mono HB.out.size)); clear hst))
      go_ret
      exact ⟨rfl, HB.out⟩
    · obtain ⟨O, eO⟩ : ∃ O, O = orErr n kb len T := ⟨_, rfl⟩
      have HO1 : Hid (∀ W, LaidR W → U64s W A len T → Calls Tryd.prog 13 #[.int .i64 n, .int .u64 kb, .slice A len c] W fun e w' => e = .returned (.tuple #[.slice none 0 0, .int .i64 O]) ∧ Below W.heap.size W w') := Lib.hid fun W h1 h2 => by
        rw [eO]; exact Order_err n kb len c A T W h1 h2 hlen hkb ho
      have HO2 : Hid (∀ W, U64s W A len T → Calls Tryd.prog 14 #[.int .i64 n, .int .u64 kb, .slice A len c] W fun e w' => e = .returned (.tuple #[.slice none 0 0, .int .i64 O]) ∧ Below W.heap.size W w') := Lib.hid fun W h2 => by
        rw [eO]; exact rOrder_err n kb len c A T W h2 hlen hkb ho
      have HEQ : Hid (∀ W, Calls Tryd.prog 15 #[.slice none 0 0, .slice none 0 0] W fun e w' => e = .returned (.bool true) ∧ Below W.heap.size W w') := Lib.hid fun W => by
        have h := equalI_any none none 0 0 0 0 (fun _ => 0) (fun _ => 0) W (i64s_nil _ _ _) (i64s_nil _ _ _) (by omega) (by omega)
        exact h
      clear em ex ey eE ho eO
      go_enter Tryd.func3, Tryd.ntmps3
      go_wp2_with fail
      refine (HR1.out _ HL.out HT.out).mono ?_
      rintro e w1 ⟨rfl, hst⟩
      have HB := Lib.hid hst
      clear hst
      go_wp2_with fail
      refine (HR2.out _ (HT.out.below HB.out)).mono ?_
      rintro e w2 ⟨rfl, hst⟩
      have HB := Lib.hid (HB.out.trans (hst.mono HB.out.size))
      clear hst
      go_wp2_with fail
      refine (HO1.out _ (HL.out.below HB.out) (HT.out.below HB.out)).mono ?_
      rintro e w3 ⟨rfl, hst⟩
      have HB := Lib.hid (HB.out.trans (hst.mono HB.out.size))
      clear hst
      go_wp2_with fail
      refine (HO2.out _ (HT.out.below HB.out)).mono ?_
      rintro e w4 ⟨rfl, hst⟩
      have HB := Lib.hid (HB.out.trans (hst.mono HB.out.size))
      clear hst
      go_wp2_with (first | (go_at_call 15; refine (HEQ.out _).mono ?_; rintro e w5 ⟨rfl, hst⟩; have HB := Lib.hid (HB.out.trans (hst.mono HB.out.size)); clear hst) | (go_at_call 10; refine (awake_any _ (HL.out.below HB.out) (HU.out.below HB.out)).mono ?_; rintro e w2 ⟨rfl, hst⟩; have HB := Lib.hid (HB.out.trans (hst.mono HB.out.size)); clear hst))
      go_ret
      exact ⟨rfl, HB.out⟩
end Go.Proofs.YtflhngmfcpeamaaDoor
