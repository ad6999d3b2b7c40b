/-
  Walks: the law PostulatesRecover, over whatever memory in which the two tables are laid.
-/
import Derived.Test.YtflhngmfcpeamaaDoorProg
import Derived.Test.YtflhngmfcpeamaaDoorBase
import Derived.Test.YtflhngmfcpeamaaDoorRow
import Derived.Test.YtflhngmfcpeamaaDoorRowU
import Derived.Test.YtflhngmfcpeamaaDoorSlc
import Derived.Test.YtflhngmfcpeamaaDoorLeast
import Derived.Test.YtflhngmfcpeamaaDoorPoP
import Derived.Test.YtflhngmfcpeamaaDoorPoQ
import Derived.Test.YtflhngmfcpeamaaDoorPoA
import Derived.Test.YtflhngmfcpeamaaDoorPoB
import Derived.Test.YtflhngmfcpeamaaDoorPoE
import Derived.Test.YtflhngmfcpeamaaDoorPoX
import Derived.Test.YtflhngmfcpeamaaDoorPoK
import Derived.Test.YtflhngmfcpeamaaDoorPoM
import Derived.Test.YtflhngmfcpeamaaDoorPoT
import Derived.Test.YtflhngmfcpeamaaDoorPoWit
namespace Go.Proofs.YtflhngmfcpeamaaDoor
open Go.RowKit

theorem faith_of {k N S kb : Nat} {f : Nat → Int} (hk : k ≤ 3) (hN : N = 2 ^ k) (hS : S = 2 ^ N) (hkb : kb < S) (h : kb ≠ 0 → kb = tabF f N (S - 1)) : faithB k kb N f = true := by
  have e1 : tblErr k N = 0 := by unfold tblErr; rw [if_pos (by omega), if_pos (by rw [hN]; rfl)]
  have e2 : setsZ k = S := by rw [hS, hN]; rfl
  have e3 : (2 : Nat) ^ (k : Int).toNat = N := hN.symm
  unfold faithB
  rw [e1, e2, e3, decide_eq_true hkb]
  by_cases h0 : kb = 0
  · rw [h0]; rfl
  · rw [show (kb == tabF f N (S - 1)) = true from beq_iff_eq.2 (h h0), Bool.or_true]; rfl
theorem whole_eq {S N kb : Nat} {T : Nat → Nat} (hS : S = 2 ^ N) (hS2 : 2 ≤ S) (H : RvOk S kb T) (hkb : kb < S) (h0 : kb ≠ 0) : T (S - 1) = kb := by
  have hand : kb &&& (S - 1) = kb := by
    apply Nat.eq_of_testBit_eq
    intro i
    rw [Nat.testBit_and]
    cases hi : kb.testBit i
    · rfl
    · have := bit_lt' (n := N) (by omega) hi
      rw [hS, Nat.testBit_two_pow_sub_one, decide_eq_true this]; rfl
  have h := H.r2 (S - 1) (by omega) (by rw [hand]; exact h0)
  rw [h, hand]

set_option maxHeartbeats 8000000 in
set_option maxRecDepth 100000 in
theorem recover_core (n : Int) (kb len c : Nat) (A : Option Addr) (T : Nat → Nat) (w : World) (hL : LaidR w) (hU : LaidU w) (hT : U64s w A len T) (hlen : len ≤ 9223372036854775807) (hkb : kb < 18446744073709551616) :
    Calls Tryd.prog 9 #[.int .i64 n, .int .u64 kb, .slice A len c] w fun e w' => e = .returned (.bool true) ∧ Below w.heap.size w w' := by
  have HL := Lib.hid hL
  have HU := Lib.hid hU
  have HT := Lib.hid hT
  by_cases hin : 0 ≤ n ∧ n ≤ 2 ∧ len ≤ 16
  · by_cases he : rvErr n kb len T = 0
    · obtain ⟨k, rfl, hk, hlS, hb, ht⟩ := rvErr_ok he
      have hk2 : k ≤ 2 := by omega
      obtain ⟨N, hN⟩ : ∃ N, N = 2 ^ k := ⟨_, rfl⟩
      obtain ⟨S, hS⟩ : ∃ S, S = 2 ^ N := ⟨_, rfl⟩
      have hSk : S = 2 ^ 2 ^ k := by rw [hS, hN]
      have hN8 : N ≤ 8 := by rw [hN]; exact Nat.le_trans (Nat.pow_le_pow_right (by decide) hk) (by decide)
      rw [← hSk] at hlS hb ht
      have hlen' : len = S := hlS
      subst hlen'
      have hS2 := sets_le hk hSk
      have hd1 : decide ((k : Int) < 0) = false := by simp
      have hd2 : decide (2 < (k : Int)) = false := decide_eq_false (by omega)
      have hd3 : decide (16 < (len : Int)) = false := decide_eq_false (by omega)
      have hR := Revision_in k len kb c A T w hL hT hk hSk hb ht
      by_cases hm : rvMask len kb T 6 = 63
      · have OK := rvOk_of hS2.1 hS2.2 (tab_lt ht) hm
        rw [hm] at hR
        have HR := Lib.hid hR
        have HF : Hid (faithB k kb N (fun v => (rankN len T len v : Int)) = true) := Lib.hid (faith_of hk hN hS hb fun h => by
          show kb = (leastP (len - 1) (fun v => (rankN len T len v : Int)) N).1
          rw [rank_tab hS hS2.1 hS2.2 OK (by omega), whole_eq hS hS2.1 OK hb h])
        have HE : Hid (eqU len len (tabF (fun v => (rankN len T len v : Int)) N) T = true) := Lib.hid (eqU_iff.2 ⟨rfl, fun x hx => rank_tab hS hS2.1 hS2.2 OK hx⟩)
        have HT64 : Hid (∀ x, x < len → tabF (fun v => (rankN len T len v : Int)) N x < 18446744073709551616) := Lib.hid fun x hx => Nat.lt_of_lt_of_le (tabF_lt _ _ _) (by rw [← hS]; omega)
        have HO : Hid (∀ W, LaidR W → U64s W A len T → Calls Tryd.prog 13 #[.int .i64 k, .int .u64 kb, .slice A len c] W (OrdPost N (rankN len T len) W)) := Lib.hid fun W h1 h2 => Order_in k N len kb c A T W h1 h2 hk hN hS hb ht hm
        have HN := Lib.hid hN
        have HS := Lib.hid hS
        have HRL : Hid (∀ v, rankN len T len v ≤ 9223372036854775807) := Lib.hid fun v => Nat.le_trans (rank_le len v) (by omega)
        clear hL hU hT hin he hlS ht hR hm OK hN hS hSk
        go_enter Tryd.func9, Tryd.ntmps9
        go_wp2_with fail
        refine HR.out.mono ?_
        rintro e w1 ⟨rfl, hst⟩
        have HB := Lib.hid hst
        clear hst
        go_wp2_with fail
        refine (HO.out _ (HL.out.below HB.out) (HT.out.below HB.out)).mono ?_
        rintro e w2 ⟨B, rfl, hrow, hst⟩
        have HB := Lib.hid (HB.out.trans (hst.mono HB.out.size))
        have HI := Lib.hid (hrow.i64s HRL.out)
        clear hrow hst
        go_wp2_with fail
        refine (Table_in k N len N _ _ _ HI.out hk HN.out HS.out).mono ?_
        rintro e w3 ⟨B2, rfl, hrow, hst⟩
        have HB := Lib.hid (HB.out.trans (hst.mono HB.out.size))
        have HI := Lib.hid (HI.out.below hst)
        have heq := equalU_any (some ⟨B2, 0, none⟩) A len len len c _ T w3 (hrow.u64s HT64.out) (HT.out.below HB.out) (by omega) (by omega)
        rw [HE.out] at heq
        have HEQ := Lib.hid heq
        have hfa : Hid (∀ W, I64s W (some ⟨B, 0, none⟩) N (fun v => (rankN len T len v : Int)) → Calls Tryd.prog 25 #[.int .i64 k, .int .u64 kb, .slice (some ⟨B, 0, none⟩) N N] W fun e w' => e = .returned (.bool true) ∧ W = w') := Lib.hid fun W h => by
          rw [← HF.out]; exact Faithful_any k kb N N _ _ W h hkb
        clear hrow hst heq
        go_wp2_with (first | (go_at_call 24; refine HEQ.out.mono ?_; rintro e w4 ⟨rfl, hst⟩; have HI := Lib.hid (HI.out.below hst); have HB := Lib.hid (HB.out.trans (hst.mono HB.out.size)); clear hst) | (go_at_call 25; refine (hfa.out _ HI.out).mono ?_; rintro e w5 ⟨rfl, rfl⟩) | (go_at_call 10; refine (awake_any _ (HL.out.below HB.out) (HU.out.below HB.out)).mono ?_; rintro e w2 ⟨rfl, hst⟩; have HB := Lib.hid (HB.out.trans (hst.mono HB.out.size)); clear hst))
        go_ret
        exact ⟨rfl, HB.out⟩
      · have hne : ((rvMask len kb T 6 : Int) != 63) = true := by rw [bne_iff_ne]; omega
        obtain ⟨hxl, hyl⟩ := rvXY_lt (S := len) (kb := kb) (T := T) hS2.1
        have hx16 : decide ((rvX len kb T 6 : Int) < 16) = true := decide_eq_true (by omega)
        have hy16 : decide ((rvY len kb T 6 : Int) < 16) = true := decide_eq_true (by omega)
        have HR := Lib.hid hR
        have hoe : orErr k kb len T = 6 := by
          unfold orErr
          rw [if_pos he, if_neg]
          show ¬ (if rvErr k kb len T = 0 then rvMask (setsZ k) kb T 6 else 0) = 63
          rw [if_pos he, show setsZ k = len from hSk.symm]; exact hm
        have HO : Hid (∀ W, LaidR W → U64s W A len T → Calls Tryd.prog 13 #[.int .i64 k, .int .u64 kb, .slice A len c] W fun e w' => e = .returned (.tuple #[.slice none 0 0, .int .i64 6]) ∧ Below W.heap.size W w') := Lib.hid fun W h1 h2 => by
          have h := Order_err k kb len c A T W h1 h2 hlen hkb (by rw [hoe]; decide)
          rw [hoe] at h; exact h
        clear hL hU hT hin he hlS ht hR hm hN hS hSk hoe
        go_enter Tryd.func9, Tryd.ntmps9
        go_wp2_with fail
        refine HR.out.mono ?_
        rintro e w1 ⟨rfl, hst⟩
        have HB := Lib.hid hst
        clear hst
        go_wp2_with fail
        refine (HO.out _ (HL.out.below HB.out) (HT.out.below HB.out)).mono ?_
        rintro e w2 ⟨rfl, hst⟩
        have HB := Lib.hid (HB.out.trans (hst.mono HB.out.size))
        clear hst
        go_wp2_with (go_at_call 10; refine (awake_any _ (HL.out.below HB.out) (HU.out.below HB.out)).mono ?_; rintro e w2 ⟨rfl, hst⟩; have HB := Lib.hid (HB.out.trans (hst.mono HB.out.size)); clear hst)
        go_ret
        exact ⟨rfl, HB.out⟩
    · have hd1 : decide (n < 0) = false := decide_eq_false (by omega)
      have hd2 : decide (2 < n) = false := decide_eq_false (by omega)
      have hd3 : decide (16 < (len : Int)) = false := decide_eq_false (by omega)
      have HR := Lib.hid (Revision_any n kb len c A T w hL hT hlen hkb)
      obtain ⟨E, eE⟩ : ∃ E, E = rvErr n kb len T := ⟨_, rfl⟩
      have hoe : orErr n kb len T = E := by rw [eE]; exact if_neg he
      have HO : Hid (∀ W, LaidR W → U64s W A len T → Calls Tryd.prog 13 #[.int .i64 n, .int .u64 kb, .slice A len c] W fun e w' => e = .returned (.tuple #[.slice none 0 0, .int .i64 E]) ∧ Below W.heap.size W w') := Lib.hid fun W h1 h2 => by
        have h := Order_err n kb len c A T W h1 h2 hlen hkb (by rw [hoe, eE]; exact he)
        rw [hoe] at h; exact h
      rw [← eE] at HR he
      have hne : ((E : Int) != 0) = true := by rw [bne_iff_ne]; omega
      clear hL hU hT hin he eE hoe
      go_enter Tryd.func9, Tryd.ntmps9
      go_wp2_with fail
      refine HR.out.mono ?_
      rintro e w1 ⟨rfl, hst⟩
      have HB := Lib.hid hst
      clear hst
      go_wp2_with fail
      refine (HO.out _ (HL.out.below HB.out) (HT.out.below HB.out)).mono ?_
      rintro e w2 ⟨rfl, hst⟩
      have HB := Lib.hid (HB.out.trans (hst.mono HB.out.size))
      clear hst
      go_wp2_with (go_at_call 10; refine (awake_any _ (HL.out.below HB.out) (HU.out.below HB.out)).mono ?_; rintro e w2 ⟨rfl, hst⟩; have HB := Lib.hid (HB.out.trans (hst.mono HB.out.size)); clear hst)
      go_ret
      exact ⟨rfl, HB.out⟩
  · clear hL hU hT
    by_cases h0 : n < 0
    · have hd1 : decide (n < 0) = true := decide_eq_true h0
      clear hin h0
      go_enter Tryd.func9, Tryd.ntmps9
      go_wp2_with (go_at_call 10; refine (awake_any _ HL.out HU.out).mono ?_; rintro e w2 ⟨rfl, hst⟩; have HB := Lib.hid hst; clear hst)
      go_ret
      exact ⟨rfl, HB.out⟩
    · have hd1 : decide (n < 0) = false := decide_eq_false h0
      by_cases h2 : 2 < n
      · have hd2 : decide (2 < n) = true := decide_eq_true h2
        clear hin h0 h2
        go_enter Tryd.func9, Tryd.ntmps9
        go_wp2_with (go_at_call 10; refine (awake_any _ HL.out HU.out).mono ?_; rintro e w2 ⟨rfl, hst⟩; have HB := Lib.hid hst; clear hst)
        go_ret
        exact ⟨rfl, HB.out⟩
      · have hd2 : decide (2 < n) = false := decide_eq_false h2
        have hd3 : decide (16 < (len : Int)) = true := decide_eq_true (by omega)
        clear hin h0 h2
        go_enter Tryd.func9, Tryd.ntmps9
        go_wp2_with (go_at_call 10; refine (awake_any _ HL.out HU.out).mono ?_; rintro e w2 ⟨rfl, hst⟩; have HB := Lib.hid hst; clear hst)
        go_ret
        exact ⟨rfl, HB.out⟩
end Go.Proofs.YtflhngmfcpeamaaDoor
