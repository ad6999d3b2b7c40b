/-
  Walks: package postulates: Revision.
-/
import Derived.Test.YtlcojpopngdigaaDoorProg
import Derived.Test.YtlcojpopngdigaaDoorBase
import Derived.Test.YtlcojpopngdigaaDoorPoP
import Derived.Test.YtlcojpopngdigaaDoorPoA
import Derived.Test.YtlcojpopngdigaaDoorPoB
import Derived.Test.YtlcojpopngdigaaDoorPoC
import Derived.Handy
namespace Go.Proofs.YtlcojpopngdigaaDoor
open Go.RowKit

theorem ofInt_i64 (a : Nat) (ha : a < 9223372036854775808) : (BitVec.ofInt 64 (a : Int)).toNat = a := by
  rw [BitVec.ofInt_natCast, BitVec.toNat_ofNat]; exact Nat.mod_eq_of_lt (by omega)
theorem i64_or_nat (a b : Nat) (ha : a < 9223372036854775808) (hb : b < 9223372036854775808) : bits .or .i64 (a : Int) (b : Int) = ((a ||| b : Nat) : Int) := by
  have hx : a ||| b < 2 ^ 63 := Nat.or_lt_two_pow (by omega) (by omega)
  show IntKind.i64.wrap ((BitVec.ofInt 64 (a : Int) ||| BitVec.ofInt 64 (b : Int)).toNat : Int) = _
  rw [BitVec.toNat_or, ofInt_i64 a ha, ofInt_i64 b hb, IntKind.wrap_i64]
  omega
theorem i64_shl_one {u P : Nat} (hP : P = 2 ^ u) (hu : u < 63) : IntKind.i64.wrap ((2 : Int) ^ u) = (P : Int) := by
  have h : (2 : Nat) ^ u < 2 ^ 63 := Nat.pow_lt_pow_right (by decide) hu
  have e : ((2 : Int) ^ u) = ((2 ^ u : Nat) : Int) := by rw [Int.natCast_pow]; rfl
  rw [e, hP, IntKind.wrap_i64]; omega

theorem mask_lt64 {S k i : Nat} {T : Nat → Nat} (hi : i ≤ 6) : rvMask S k T i < 64 := Nat.lt_of_lt_of_le (mkSet_lt i _) (Nat.pow_le_pow_right (n := 2) (i := i) (j := 6) (by decide) hi)
theorem failure_any (i k S kb c : Nat) (A : Option Addr) (T : Nat → Nat) (w : World) (hi : i < 6) (hL : LaidR w) (hT : U64s w A S T) (hk : k ≤ 3) (hS : S = 2 ^ 2 ^ k) (hkb : kb < 18446744073709551616) :
    Calls Tryd.prog 23 #[.int .i64 i, .int .i64 k, .int .u64 kb, .slice A S c] w (FailPost S (rvFit i kb T) (rvLast S i) w) := by
  have h : i = 0 ∨ i = 1 ∨ i = 2 ∨ i = 3 ∨ i = 4 ∨ i = 5 := by omega
  rcases h with rfl | rfl | rfl | rfl | rfl | rfl
  · exact failure_0 k S kb c A T w hL hT hk hS hkb
  · exact failure_1 k S kb c A T w hL hT hk hS hkb
  · exact failure_2 k S kb c A T w hL hT hk hS hkb
  · exact failure_3 k S kb c A T w hL hT hk hS hkb
  · exact failure_4 k S kb c A T w hL hT hk hS hkb
  · exact failure_5 k S kb c A T w hL hT hk hS hkb

set_option maxHeartbeats 1000000 in
/-- What Revision returns at arguments without error. -/
theorem Revision_in (k S kb c : Nat) (A : Option Addr) (T : Nat → Nat) (w : World) (hL : LaidR w) (hT : U64s w A S T) (hk : k ≤ 3) (hS : S = 2 ^ 2 ^ k) (hkb : kb < S) (ht : tabErr S S T = 0) :
    Calls Tryd.prog 9 #[.int .i64 k, .int .u64 kb, .slice A S c] w fun e w' => e = .returned (.tuple #[.int .i64 (rvMask S kb T 6 : Nat), .int .u64 (rvX S kb T 6 : Nat), .int .u64 (rvY S kb T 6 : Nat), .int .i64 0]) ∧ Below w.heap.size w w' := by
  have hS2 := sets_le hk hS
  have hd1 : decide ((k : Int) < 0) = false := by simp
  have hd2 : decide (3 < (k : Int)) = false := by simp; omega
  have hd3 : decide ((S : Int) ≤ (kb : Int)) = false := by simp; omega
  have hte := table_any A S c k S T w hT (by omega) hk hS
  rw [ht] at hte
  have HTE := Lib.hid hte
  have HL := Lib.hid hL
  obtain ⟨bG, oG, cG, gG, -⟩ := hL
  have GG := Lib.hid gG
  have HT := Lib.hid hT
  have HS := Lib.hid hS
  clear gG hT hS ht hte
  go_enter Tryd.func9, Tryd.ntmps9
  go_wp2_with (first | (go_at_call 21; refine (sets_any k S _ hk HS.out).mono ?_; rintro e w' ⟨rfl, rfl⟩) | (go_at_call 22; refine HTE.out.mono ?_; rintro e w1 ⟨rfl, hb1⟩; have g0 := cell_below hb1 GG.out; have HB := Lib.hid hb1; clear hb1))
  clear g0
  have HB0 := Lib.hid HB.out
  clear HB
  go_loopw [11, 12, 13, 14, 40] (fun mv fv av bv iv wr => ∃ i : Nat, i ≤ 6 ∧ iv = .int .i64 i ∧ mv = .int .i64 (rvMask S kb T i : Nat) ∧ fv = .bool (rvNone S kb T i) ∧ av = .int .u64 (rvX S kb T i : Nat) ∧ bv = .int .u64 (rvY S kb T i : Nat) ∧ Below w.heap.size w wr) (fun _ _ _ _ iv _ => 6 - (intOf iv).toNat)
  case atStart => exact ⟨0, Nat.zero_le _, rfl, rfl, rfl, rfl, rfl, HB0.out⟩
  case round =>
    clear HB0
    obtain ⟨i, hi, rfl, rfl, rfl, rfl, rfl, hbl⟩ := hrel
    by_cases hlt : i < 6
    · have hfa := Lib.hid (failure_any i k S kb c A T _ hlt (HL.out.below hbl) (HT.out.below hbl) hk HS.out (by omega))
      have HB := Lib.hid hbl
      have hml : rvMask S kb T i < 64 := mask_lt64 (by omega)
      obtain ⟨P, eP⟩ : ∃ P : Nat, P = 2 ^ i := ⟨_, rfl⟩
      have hPl : P < 64 := by rw [eP]; exact Nat.pow_lt_pow_right (n := 6) (by decide) hlt
      have hsh := i64_shl_one eP (by omega)
      have hor : bits .or .i64 (rvMask S kb T i : Int) (P : Int) = ((rvMask S kb T i ||| P : Nat) : Int) := i64_or_nat _ _ (by omega) (by omega)
      have h1 := fun h => rv_good (S := S) (k := kb) (T := T) (i := i) h
      have h2 := fun h => rv_bad_first (S := S) (k := kb) (T := T) (i := i) h
      have h3 := fun h => rv_bad_later (S := S) (k := kb) (T := T) (i := i) h
      obtain ⟨m1, em1⟩ : ∃ m, m = rvMask S kb T (i + 1) := ⟨_, rfl⟩
      obtain ⟨x1, ex1⟩ : ∃ m, m = rvX S kb T (i + 1) := ⟨_, rfl⟩
      obtain ⟨y1, ey1⟩ : ∃ m, m = rvY S kb T (i + 1) := ⟨_, rfl⟩
      obtain ⟨n1, en1⟩ : ∃ m, m = rvNone S kb T (i + 1) := ⟨_, rfl⟩
      obtain ⟨m0, em0⟩ : ∃ m, m = rvMask S kb T i := ⟨_, rfl⟩
      obtain ⟨x0, ex0⟩ : ∃ m, m = rvX S kb T i := ⟨_, rfl⟩
      obtain ⟨y0, ey0⟩ : ∃ m, m = rvY S kb T i := ⟨_, rfl⟩
      obtain ⟨n0, en0⟩ : ∃ m, m = rvNone S kb T i := ⟨_, rfl⟩
      obtain ⟨fx, efx⟩ : ∃ m, m = failX S (rvLast S i) (rvFit i kb T) := ⟨_, rfl⟩
      obtain ⟨fy, efy⟩ : ∃ m, m = failY S (rvLast S i) (rvFit i kb T) := ⟨_, rfl⟩
      obtain ⟨fb, efb⟩ : ∃ m, m = rvBad S kb T i := ⟨_, rfl⟩
      have hfa' : Hid (Calls Tryd.prog 23 #[.int .i64 i, .int .i64 k, .int .u64 kb, .slice A S c] wr fun e w' => e = .returned (.tuple #[.int .u64 fx, .int .u64 fy, .bool fb]) ∧ Below wr.heap.size wr w') := Lib.hid (by rw [efx, efy, efb]; exact hfa.out)
      rw [← em1, ← em0, ← ex1, ← ex0, ← ey1, ← ey0, ← en1, ← en0, ← efb, ← eP] at h1
      rw [← em1, ← em0, ← ex1, ← ey1, ← en1, ← en0, ← efb, ← efx, ← efy] at h2
      rw [← em1, ← em0, ← ex1, ← ex0, ← ey1, ← ey0, ← en1, ← en0, ← efb] at h3
      rw [← em0] at hml hor
      rw [← em0, ← ex0, ← ey0, ← en0]
      have E1 := Lib.hid (show _ ∧ _ ∧ _ ∧ _ from ⟨em1, ex1, ey1, en1⟩)
      clear em1 ex1 ey1 en1 em0 ex0 ey0 en0 efx efy efb eP hbl hfa
      cases fb
      · have H := Lib.hid (h1 rfl)
        clear h1 h2 h3
        go_wp2_with fail
        refine hfa'.out.mono ?_
        rintro e w' ⟨rfl, hst⟩
        have HB := Lib.hid (HB.out.trans (hst.mono HB.out.size))
        clear hst
        go_wp2_with fail
        go_roundw
        case rel => exact ⟨i + 1, by omega, by go_num, by rw [← E1.out.1, H.out.2.2.2], by rw [← E1.out.2.2.2, H.out.2.2.1], by rw [← E1.out.2.1, H.out.1], by rw [← E1.out.2.2.1, H.out.2.1], HB.out⟩
        case measure => simp [intOf]; omega
      · cases n0
        · have H := Lib.hid (h3 rfl rfl)
          clear h1 h2 h3
          go_wp2_with fail
          refine hfa'.out.mono ?_
          rintro e w' ⟨rfl, hst⟩
          have HB := Lib.hid (HB.out.trans (hst.mono HB.out.size))
          clear hst
          go_wp2_with fail
          go_roundw
          case rel => exact ⟨i + 1, by omega, by go_num, by rw [← E1.out.1, H.out.2.2.2], by rw [← E1.out.2.2.2, H.out.2.2.1], by rw [← E1.out.2.1, H.out.1], by rw [← E1.out.2.2.1, H.out.2.1], HB.out⟩
          case measure => simp [intOf]; omega
        · have H := Lib.hid (h2 rfl rfl)
          clear h1 h2 h3
          go_wp2_with fail
          refine hfa'.out.mono ?_
          rintro e w' ⟨rfl, hst⟩
          have HB := Lib.hid (HB.out.trans (hst.mono HB.out.size))
          clear hst
          go_wp2_with fail
          go_roundw
          case rel => exact ⟨i + 1, by omega, by go_num, by rw [← E1.out.1, H.out.2.2.2], by rw [← E1.out.2.2.2, H.out.2.2.1], by rw [← E1.out.2.1, H.out.1], by rw [← E1.out.2.2.1, H.out.2.1], HB.out⟩
          case measure => simp [intOf]; omega
    · obtain rfl : i = 6 := by omega
      have HB := Lib.hid hbl
      clear hbl
      go_wp2_with fail
      go_returns
      exact ⟨rfl, HB.out⟩
end Go.Proofs.YtlcojpopngdigaaDoor
