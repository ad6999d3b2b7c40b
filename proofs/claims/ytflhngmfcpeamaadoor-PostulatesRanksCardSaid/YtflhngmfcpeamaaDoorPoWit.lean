/-
  Walks: the law PostulatesWitness, over whatever memory in which the two tables are laid.
-/
import Derived.Test.YtflhngmfcpeamaaDoorProg
import Derived.Test.YtflhngmfcpeamaaDoorBase
import Derived.Test.YtflhngmfcpeamaaDoorRow
import Derived.Test.YtflhngmfcpeamaaDoorPoP
import Derived.Test.YtflhngmfcpeamaaDoorPoA
import Derived.Test.YtflhngmfcpeamaaDoorPoB
import Derived.Test.YtflhngmfcpeamaaDoorPoE
import Derived.Test.YtflhngmfcpeamaaDoorPoX
import Derived.Test.YtflhngmfcpeamaaDoorPoK
import Derived.Test.YtflhngmfcpeamaaDoorTail
namespace Go.Proofs.YtflhngmfcpeamaaDoor
open Go.RowKit

theorem bit_i64 (m i : Nat) (hm : m < 64) (hi : i < 6) : (bits .and .i64 ((m : Int) / 2 ^ i) 1 == 0) = !m.testBit i := by
  have key : ∀ m : Nat, m < 64 → ∀ i : Nat, i < 6 → (bits .and .i64 ((m : Int) / 2 ^ i) 1 == 0) = !m.testBit i := by decide +kernel
  exact key m hm i hi
/-- What PostulatesWitness says of the sets at which a postulate fails. -/
def witBad (k : Nat) (T : Nat → Nat) (x y : Nat) (i : Nat) : Bool := !rvFit i k T x y
theorem wit_low {S kb : Nat} {T : Nat → Nat} {i : Nat} (hi : i < 6) (hall : ∀ j, j < i → rvGood S kb T j = true) (hb : rvGood S kb T i = false) : witBad kb T (rvX S kb T 6) (rvY S kb T 6) i = true := by
  have hl : rvLow S kb T 6 = i := firstNo_hit hi hall hb
  have hbad : failB S (rvLast S i) (rvFit i kb T) = true := by unfold rvGood rvBad at hb; simpa using hb
  have h := (fail_at hbad).2.2
  have ex : rvX S kb T 6 = failX S (rvLast S i) (rvFit i kb T) := by unfold rvX; rw [hl, if_pos hi]
  have ey : rvY S kb T 6 = failY S (rvLast S i) (rvFit i kb T) := by unfold rvY; rw [hl, if_pos hi]
  unfold witBad; rw [ex, ey, h]; rfl
theorem wit_none {S kb : Nat} {T : Nat → Nat} (hall : ∀ j, j < 6 → rvGood S kb T j = true) : rvX S kb T 6 = 0 ∧ rvY S kb T 6 = 0 := by
  have hl : rvLow S kb T 6 = 6 := firstNo_all hall
  exact ⟨by unfold rvX; rw [hl]; rfl, by unfold rvY; rw [hl]; rfl⟩
theorem rvXY_lt {S kb : Nat} {T : Nat → Nat} (hS : 2 ≤ S) : rvX S kb T 6 < S ∧ rvY S kb T 6 < S := by
  by_cases h : rvLow S kb T 6 < 6
  · have hg := (firstNo_spec 6 (rvGood S kb T)).2.2 h
    have hb : failB S (rvLast S (rvLow S kb T 6)) (rvFit (rvLow S kb T 6) kb T) = true := by
      have : rvGood S kb T (rvLow S kb T 6) = false := hg
      unfold rvGood rvBad at this; simpa using this
    obtain ⟨h1, h2, -⟩ := fail_at hb
    have hl : rvLast S (rvLow S kb T 6) ≤ S := by unfold rvLast; split <;> omega
    unfold rvX rvY
    rw [if_pos h, if_pos h]
    exact ⟨h1, by omega⟩
  · unfold rvX rvY
    rw [if_neg h, if_neg h]
    exact ⟨by omega, by omega⟩

set_option maxHeartbeats 8000000 in
set_option maxRecDepth 100000 in
theorem witness_core (n : Int) (kb len c : Nat) (A : Option Addr) (T : Nat → Nat) (w : World) (hL : LaidR w) (hU : LaidU w) (hT : U64s w A len T) (hlen : len ≤ 9223372036854775807) (hkb : kb < 18446744073709551616) :
    Calls Tryd.prog 4 #[.int .i64 n, .int .u64 kb, .slice A len c] w fun e w' => e = .returned (.bool true) ∧ Below w.heap.size w w' := by
  have HL := Lib.hid hL
  have HU := Lib.hid hU
  have HT := Lib.hid hT
  have HR := Lib.hid (Revision_any n kb len c A T w hL hT hlen hkb)
  clear hL hU hT
  by_cases hin : 0 ≤ n ∧ n ≤ 2 ∧ len ≤ 16
  · have hd1 : decide (n < 0) = false := decide_eq_false (by omega)
    have hd2 : decide (2 < n) = false := decide_eq_false (by omega)
    have hd3 : decide (16 < (len : Int)) = false := decide_eq_false (by omega)
    by_cases he : rvErr n kb len T = 0
    · obtain ⟨k, rfl, hk, hlS, hb, ht⟩ := rvErr_ok he
      have hk2 : k ≤ 2 := by omega
      obtain ⟨S, hS⟩ : ∃ S, S = 2 ^ 2 ^ k := ⟨_, rfl⟩
      have hR := HR.out
      rw [show rvM k kb len T = rvMask (setsZ k) kb T 6 from if_pos he, show rvA k kb len T = rvX (setsZ k) kb T 6 from if_pos he, show rvC k kb len T = rvY (setsZ k) kb T 6 from if_pos he, he, show setsZ k = S from hS.symm] at hR
      rw [← hS] at hlS hb
      have hlen' : len = S := hlS
      clear he hd1 hd2 hd3 HR ht
      subst hlen'
      have hS2 := sets_le hk hS
      have hSv := sets_val hk hS
      have hd1 : decide ((k : Int) < 0) = false := by simp
      have hd2 : decide (2 < (k : Int)) = false := decide_eq_false (by omega)
      have hd3 : decide (16 < (len : Int)) = false := decide_eq_false (by omega)
      obtain ⟨hxl, hyl⟩ := rvXY_lt (S := len) (kb := kb) (T := T) hS2.1
      have hml : rvMask len kb T 6 < 64 := mask_lt64 (by omega)
      have hlow := fun i (hi : i < 6) ha hb => wit_low (S := len) (kb := kb) (T := T) (i := i) hi ha hb
      have hnone := fun ha => wit_none (S := len) (kb := kb) (T := T) ha
      have hmb : ∀ i, i < 6 → (rvMask len kb T 6).testBit i = rvGood len kb T i := fun i hi => by unfold rvMask; rw [testBit_mkSet, decide_eq_true hi, Bool.true_and]
      obtain ⟨x, ex⟩ : ∃ x, x = rvX len kb T 6 := ⟨_, rfl⟩
      obtain ⟨y, ey⟩ : ∃ y, y = rvY len kb T 6 := ⟨_, rfl⟩
      obtain ⟨m, em⟩ : ∃ m, m = rvMask len kb T 6 := ⟨_, rfl⟩
      rw [← ex, ← ey, ← em] at hR
      rw [← ex] at hxl
      rw [← ey] at hyl
      rw [← em] at hml hmb
      rw [← ex, ← ey] at hlow hnone
      have HR := Lib.hid hR
      have HLOW := Lib.hid hlow
      have HNONE := Lib.hid hnone
      have HMB := Lib.hid hmb
      have hq1 : decide (len ≤ x) = false := decide_eq_false (by omega)
      have hq2 : decide (len ≤ y) = false := decide_eq_false (by omega)
      clear ex ey em hR hlow hnone hmb hin hS
      obtain ⟨z, ez⟩ : ∃ z, z = x &&& y := ⟨_, rfl⟩
      have hzl : z < len := by have := and_le_left' x y; omega
      have ha1 : bits .and .u64 (x : Int) (y : Int) = (z : Int) := by rw [u64_and_nat _ _ (by omega) (by omega), ez]
      have EZ := Lib.hid ez
      clear ez
      go_enter Tryd.func4, Tryd.ntmps4
      go_wp2_with fail
      refine HR.out.mono ?_
      rintro e w1 ⟨rfl, hst⟩
      have HB := Lib.hid hst
      obtain ⟨b, off, rfl, hr⟩ := (HT.out.below hst).head (by omega)
      clear hst
      obtain ⟨hcx, hlx⟩ := hr x hxl
      obtain ⟨hcz, hlz⟩ := hr z hzl
      clear hr
      obtain ⟨e1, ee1⟩ : ∃ e1, e1 = andNot (T x) x := ⟨_, rfl⟩
      obtain ⟨e2, ee2⟩ : ∃ e2, e2 = kb &&& x := ⟨_, rfl⟩
      obtain ⟨e3, ee3⟩ : ∃ e3, e3 = T x &&& y := ⟨_, rfl⟩
      obtain ⟨e4, ee4⟩ : ∃ e4, e4 = andNot e3 (T z) := ⟨_, rfl⟩
      obtain ⟨e5, ee5⟩ : ∃ e5, e5 = andNot (T z) e3 := ⟨_, rfl⟩
      have hl3 : e3 < 18446744073709551616 := by rw [ee3]; exact Nat.lt_of_le_of_lt Nat.and_le_left hlx
      have hb1 : bits .andNot .u64 (T x : Int) (x : Int) = (e1 : Int) := by rw [bits_andNot _ _ hlx (by omega), ee1]
      have hb2 : bits .and .u64 (kb : Int) (x : Int) = (e2 : Int) := by rw [u64_and_nat _ _ hkb (by omega), ee2]
      have hb3 : bits .and .u64 (T x : Int) (y : Int) = (e3 : Int) := by rw [u64_and_nat _ _ hlx (by omega), ee3]
      have hb4 : bits .andNot .u64 (e3 : Int) (T z : Int) = (e4 : Int) := by rw [bits_andNot _ _ hl3 hlz, ee4]
      have hb5 : bits .andNot .u64 (T z : Int) (e3 : Int) = (e5 : Int) := by rw [bits_andNot _ _ hlz hl3, ee5]
      obtain ⟨tx, etx⟩ : ∃ tx, tx = T x := ⟨_, rfl⟩
      obtain ⟨tz, etz⟩ : ∃ tz, tz = T z := ⟨_, rfl⟩
      rw [← etx] at hcx hlx hb1 hb3
      rw [← etz] at hcz hlz hb4 hb5
      obtain ⟨P1, hP1⟩ : ∃ P, P = ((e1 : Int) != 0) := ⟨_, rfl⟩
      obtain ⟨P2, hP2⟩ : ∃ P, P = ((tx : Int) != (e2 : Int)) := ⟨_, rfl⟩
      obtain ⟨P3, hP3⟩ : ∃ P, P = ((tx : Int) == 0) := ⟨_, rfl⟩
      obtain ⟨P4, hP4⟩ : ∃ P, P = ((e4 : Int) != 0) := ⟨_, rfl⟩
      obtain ⟨P5, hP5⟩ : ∃ P, P = ((e5 : Int) != 0) := ⟨_, rfl⟩
      obtain ⟨G2, hG2⟩ : ∃ P, P = ((e2 : Int) != 0) := ⟨_, rfl⟩
      obtain ⟨G3, hG3⟩ : ∃ P, P = ((x : Int) != 0) := ⟨_, rfl⟩
      obtain ⟨G5, hG5⟩ : ∃ P, P = ((e3 : Int) != 0) := ⟨_, rfl⟩
      have hw : ∀ i, i < 6 → witBad kb T x y i = (if i = 0 then P1 else if i = 1 then (G2 && P2) else if i = 2 then (G3 && P3) else if i = 3 then false else if i = 4 then P4 else (G5 && P5)) := by
        intro i hi
        have h6 : i = 0 ∨ i = 1 ∨ i = 2 ∨ i = 3 ∨ i = 4 ∨ i = 5 := by omega
        have hz : x &&& y = z := EZ.out.symm
        rcases h6 with rfl | rfl | rfl | rfl | rfl | rfl
        · show (!(andNot (T x) x == 0)) = _
          rw [← ee1, if_pos rfl, hP1, ne0_nat]; rfl
        · show (!(kb &&& x == 0 || T x == kb &&& x)) = (G2 && P2)
          rw [← ee2, hG2, hP2, ne0_nat, ne_nat, etx, Bool.not_or]; rfl
        · show (!(x == 0 || T x != 0)) = (G3 && P3)
          rw [hG3, hP3, ne0_nat, eq0_nat, etx, Bool.not_or]; show (!(x == 0) && !!(T x == 0)) = _; rw [Bool.not_not]; rfl
        · rfl
        · show (!(andNot (T x &&& y) (T (x &&& y)) == 0)) = P4
          rw [hz, ← ee3, ← ee4, hP4, ne0_nat]; rfl
        · show (!(T x &&& y == 0 || andNot (T (x &&& y)) (T x &&& y) == 0)) = (G5 && P5)
          rw [hz, ← ee3, ← ee5, hG5, hP5, ne0_nat, ne0_nat, Bool.not_or]; rfl
      have HW := Lib.hid hw
      have hP1' := hP1.symm
      have hP2' := hP2.symm
      have hP3' := hP3.symm
      have hP4' := hP4.symm
      have hP5' := hP5.symm
      have hG2' := hG2.symm
      have hG3' := hG3.symm
      have hG5' := hG5.symm
      clear hw hP1 hP2 hP3 hP4 hP5 hG2 hG3 hG5 ee1 ee2 ee3 ee4 ee5 etx etz
      have hxb : (x : Int) < (len : Int) := by omega
      have hzb : (z : Int) < (len : Int) := by omega
      go_wp2_with fail
      cases G2 <;> cases G3 <;> cases G5
      all_goals
        refine wp_region_quiet_tail 57 (by kernel_rfl) (by kernel_rfl) ?_
        simp only [List.take_succ_cons, List.take_zero, List.drop_succ_cons, List.drop_zero]
        repeat (go_big_quiet_step (fail))
        refine wpQuiet_nil ?_
        generalize hV : w1.drew = V
        have HB : Hid (Below w.heap.size w V) := by rw [← hV]; exact Lib.hid (below_drewN HB.out 1)
        clear hV hcx hcz
        go_wp2_with fail
        generalize hO : World.alloc V _ = W
        have hcell : ∀ i, i < 6 → W.cell? ⟨V.heap.size, i, none⟩ = some (.bool (witBad kb T x y i)) := by
          rw [← hO]
          intro i hi
          rw [HW.out i hi]
          have h6 : i = 0 ∨ i = 1 ∨ i = 2 ∨ i = 3 ∨ i = 4 ∨ i = 5 := by omega
          rcases h6 with rfl | rfl | rfl | rfl | rfl | rfl <;> simp
        have HB : Hid (Below w.heap.size w W) := by rw [← hO]; exact Lib.hid (HB.out.trans ((below_alloc V _).mono HB.out.size))
        generalize V.heap.size = BV at hcell ⊢
        have HC := Lib.hid hcell
        clear hO hcell hP1' hP2' hP3' hP4' hP5' hG2' hG3' hG5' hb1 hb2 hb3 hb4 hb5
        go_loop [125] (fun iv => ∃ i : Nat, i ≤ 6 ∧ iv = .int .i64 i ∧ Hid (∀ j, j < i → rvGood len kb T j = true)) (fun iv => 6 - (intOf iv).toNat)
        case atStart => exact ⟨0, Nat.zero_le _, rfl, Lib.hid fun j h => absurd h (Nat.not_lt_zero _)⟩
        case round =>
          obtain ⟨i, hi, rfl, HI⟩ := hrel
          by_cases hlt : i < 6
          · have hcb := HC.out i hlt
            have hbit := bit_i64 m i hml hlt
            rw [HMB.out i hlt] at hbit
            cases hg : rvGood len kb T i
            · rw [hg] at hbit
              rw [HLOW.out i hlt HI.out hg] at hcb
              clear hg
              go_wp2_with (go_at_call 10; refine (awake_any _ (HL.out.below HB.out) (HU.out.below HB.out)).mono ?_; rintro e w2 ⟨rfl, hst⟩; have HB := Lib.hid (HB.out.trans (hst.mono HB.out.size)); clear hst)
              go_ret
              exact ⟨rfl, HB.out⟩
            · rw [hg] at hbit
              have HI2 : Hid (∀ j, j < i + 1 → rvGood len kb T j = true) := Lib.hid fun j h => by
                rcases Nat.lt_succ_iff_lt_or_eq.1 h with h3 | rfl
                · exact HI.out j h3
                · exact hg
              clear hg
              go_wp2_with fail
              go_round
              case rel => exact ⟨i + 1, by omega, by go_num, HI2⟩
              case measure => simp [intOf]; omega
          · obtain rfl : i = 6 := by omega
            obtain ⟨hx0, hy0⟩ := HNONE.out HI.out
            have hx1 : ((x : Int) == 0) = true := by rw [hx0]; rfl
            have hy1 : ((y : Int) == 0) = true := by rw [hy0]; rfl
            clear hx0 hy0
            go_wp2_with (go_at_call 10; refine (awake_any _ (HL.out.below HB.out) (HU.out.below HB.out)).mono ?_; rintro e w2 ⟨rfl, hst⟩; have HB := Lib.hid (HB.out.trans (hst.mono HB.out.size)); clear hst)
            go_ret
            exact ⟨rfl, HB.out⟩
    · have hne : ((rvErr n kb len T : Int) != 0) = true := by rw [bne_iff_ne]; omega
      clear he hin
      go_enter Tryd.func4, Tryd.ntmps4
      go_wp2_with (first | (go_at_call 11; refine HR.out.mono ?_; rintro e w1 ⟨rfl, hst⟩; have HB := Lib.hid hst; clear hst) | (go_at_call 10; refine (awake_any _ (HL.out.below HB.out) (HU.out.below HB.out)).mono ?_; rintro e w2 ⟨rfl, hst⟩; have HB := Lib.hid (HB.out.trans (hst.mono HB.out.size)); clear hst))
      go_ret
      exact ⟨rfl, HB.out⟩
  · by_cases h0 : n < 0
    · have hd1 : decide (n < 0) = true := decide_eq_true h0
      clear hin h0
      go_enter Tryd.func4, Tryd.ntmps4
      go_wp2_with (go_at_call 10; refine (awake_any _ HL.out HU.out).mono ?_; rintro e w2 ⟨rfl, hst⟩; have HB := Lib.hid hst; clear hst)
      go_ret
      exact ⟨rfl, HB.out⟩
    · have hd1 : decide (n < 0) = false := decide_eq_false h0
      by_cases h2 : 2 < n
      · have hd2 : decide (2 < n) = true := decide_eq_true h2
        clear hin h0 h2
        go_enter Tryd.func4, Tryd.ntmps4
        go_wp2_with (go_at_call 10; refine (awake_any _ HL.out HU.out).mono ?_; rintro e w2 ⟨rfl, hst⟩; have HB := Lib.hid hst; clear hst)
        go_ret
        exact ⟨rfl, HB.out⟩
      · have hd2 : decide (2 < n) = false := decide_eq_false h2
        have hd3 : decide (16 < (len : Int)) = true := decide_eq_true (by omega)
        clear hin h0 h2
        go_enter Tryd.func4, Tryd.ntmps4
        go_wp2_with (go_at_call 10; refine (awake_any _ HL.out HU.out).mono ?_; rintro e w2 ⟨rfl, hst⟩; have HB := Lib.hid hst; clear hst)
        go_ret
        exact ⟨rfl, HB.out⟩
end Go.Proofs.YtflhngmfcpeamaaDoor
