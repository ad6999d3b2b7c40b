/-
  Walks: package postulates: Family.
-/
import Derived.Test.YtflhngmfcpeamaaDoorProg
import Derived.Test.YtflhngmfcpeamaaDoorBase
import Derived.Test.YtflhngmfcpeamaaDoorRow
import Derived.Test.YtflhngmfcpeamaaDoorRowU
import Derived.Test.YtflhngmfcpeamaaDoorRowsOf
import Derived.Test.YtflhngmfcpeamaaDoorRowsM
import Derived.Test.YtflhngmfcpeamaaDoorPoP
import Derived.Test.YtflhngmfcpeamaaDoorPoA
import Derived.Test.YtflhngmfcpeamaaDoorPoB
import Derived.Test.YtflhngmfcpeamaaDoorPoD
import Derived.Test.YtflhngmfcpeamaaDoorPoE
import Derived.Test.YtflhngmfcpeamaaDoorPoU
import Derived.Test.YtflhngmfcpeamaaDoorPoV
import Derived.Test.YtflhngmfcpeamaaDoorPoX
namespace Go.Proofs.YtflhngmfcpeamaaDoor
open Go.RowKit

/-- The error of Family. -/
def famErr (n : Int) (len : Nat) (m : Nat → Nat) (F : Nat → Nat → Nat) : Nat := if upErr n len m F = 0 then (if upVal n len m F = 255 then 0 else 6) else upErr n len m F
def famIn (F : Nat → Nat → Nat) (a v u : Nat) : Bool := F (2 ^ a) (2 ^ v ||| 2 ^ u) == 2 ^ v
/-- The relations that Family returns. -/
def famG (N : Nat) (F : Nat → Nat → Nat) (a v : Nat) : Nat := mkSet N (famIn F a v)
theorem Family_err (n : Int) (A : Option Addr) (len c : Nat) (R : Nat → Option Addr) (m cc : Nat → Nat) (F : Nat → Nat → Nat) (w : World) (hL : LaidU w) (hT : Mat w A len R m cc F) (hn : len ≤ 9223372036854775807) (he : famErr n len m F ≠ 0) :
    Calls Tryd.prog 18 #[.int .i64 n, .slice A len c] w fun e w' => e = .returned (.tuple #[.slice none 0 0, .int .i64 (famErr n len m F : Nat)]) ∧ Below w.heap.size w w' := by
  have HR := Lib.hid (Update_any n A len c R m cc F w hL hT hn)
  obtain ⟨bG, oG, cG, gG, -⟩ := hL
  have GG := Lib.hid gG
  by_cases h0 : upErr n len m F = 0
  · have e1 : famErr n len m F = if upVal n len m F = 255 then 0 else 6 := if_pos h0
    by_cases h1 : upVal n len m F = 255
    · rw [e1, if_pos h1] at he; exact absurd rfl he
    · rw [if_neg h1] at e1
      have h2 : ((upErr n len m F : Int) != 0) = false := by rw [h0]; rfl
      have h3 : ((upVal n len m F : Int) != 255) = true := by rw [bne_iff_ne]; omega
      have HE := Lib.hid e1
      clear he h0 e1 h1 hT gG
      go_enter Tryd.func18, Tryd.ntmps18
      go_wp2_with (go_at_call 16; refine HR.out.mono ?_; rintro e w1 ⟨rfl, hb1⟩; have g0 := cell_below hb1 GG.out; have HB := Lib.hid hb1; clear hb1)
      go_ret2
      exact ⟨by rw [HE.out]; rfl, HB.out⟩
  · have e1 : famErr n len m F = upErr n len m F := if_neg h0
    have h2 : ((upErr n len m F : Int) != 0) = true := by rw [bne_iff_ne]; omega
    have HE := Lib.hid e1
    clear he h0 e1 hT gG
    go_enter Tryd.func18, Tryd.ntmps18
    go_wp2_with (go_at_call 16; refine HR.out.mono ?_; rintro e w1 ⟨rfl, hb1⟩; have HB := Lib.hid hb1; clear hb1)
    go_ret2
    exact ⟨by rw [HE.out]; rfl, HB.out⟩

/-- A list of relations that a call has made, as it reads. -/
def MatRead (N : Nat) (G : Nat → Nat → Nat) (w : World) (e : Ending) (w' : World) : Prop :=
  ∃ A c R cc, e = .returned (.tuple #[.slice A N c, .int .i64 0]) ∧ Mat w' A N R (fun _ => N) cc G ∧ Below w.heap.size w w'
/-- What the errors of a family say where there is none. -/
theorem famErr_ok {n : Int} {len : Nat} {m : Nat → Nat} {F : Nat → Nat → Nat} (h : famErr n len m F = 0) : ∃ k : Nat, n = k ∧ k ≤ 2 ∧ len = 2 ^ 2 ^ k ∧ (∀ v, v < len → m v = len) ∧ upErr n len m F = 0 ∧ upVal n len m F = 255 ∧ (∀ v, v < len → ∀ x, x < len → F v x < len) ∧ ∀ i, i < 8 → upAll len i F = true := by
  unfold famErr at h
  by_cases h0 : upErr n len m F = 0
  · rw [if_pos h0] at h
    by_cases h1 : upVal n len m F = 255
    · have hn : 0 ≤ n ∧ n ≤ 2 := by
        apply Classical.byContradiction
        intro h; unfold upErr at h0; rw [if_neg h] at h0; cases h0
      have h2 : len = setsZ n ∧ fullB (setsZ n) len m = true := by
        apply Classical.byContradiction
        intro h; unfold upErr at h0; rw [if_pos hn, if_neg h] at h0; cases h0
      have h3 : allB (setsZ n) (rowIn (setsZ n) F) = true := by
        apply Classical.byContradiction
        intro h; unfold upErr at h0; rw [if_pos hn, if_pos h2, if_neg h] at h0; cases h0
      obtain ⟨h4, h5⟩ := h2
      rw [← h4] at h3 h5
      refine ⟨n.toNat, by omega, by omega, h4, fun v hv => beq_iff_eq.1 (allB_iff.1 h5 v hv), h0, h1, fun v hv x hx => of_decide_eq_true (allB_iff.1 (allB_iff.1 h3 v hv) x hx), fun i hi => ?_⟩
      have hm : upMask len F 8 = 255 := by
        unfold upVal at h1; rw [if_pos h0, ← h4] at h1; exact h1
      have hb : (upMask len F 8).testBit i = (decide (i < 8) && upAll len i F) := testBit_mkSet _ _ _
      rw [hm, decide_eq_true hi, Bool.true_and] at hb
      rw [← hb]
      have : ∀ i : Nat, i < 8 → (255 : Nat).testBit i = true := by decide
      exact this i hi
    · rw [if_neg h1] at h; cases h
  · rw [if_neg h0] at h; exact absurd h h0

set_option maxHeartbeats 4000000 in
set_option maxRecDepth 100000 in
theorem Family_in (k N S : Nat) (A : Option Addr) (c : Nat) (R : Nat → Option Addr) (m cc : Nat → Nat) (F : Nat → Nat → Nat) (w : World) (hL : LaidU w) (hT : Mat w A S R m cc F) (hk : k ≤ 2) (hN : N = 2 ^ k) (hS : S = 2 ^ N) (he : famErr k S m F = 0) :
    Calls Tryd.prog 18 #[.int .i64 k, .slice A S c] w (MatRead N (famG N F) w) := by
  obtain ⟨-, -, -, -, hms, hue, huv, -, -⟩ := famErr_ok he
  have hSk : S = 2 ^ 2 ^ k := by rw [hS, hN]
  have hS2 := sets_le (by omega) hSk
  have hN4 : N ≤ 4 := by rw [hN]; exact Nat.pow_le_pow_right (n := 2) (j := 2) (by decide) hk
  have hw := wrap_pow hN (by omega)
  have hR := Update_any k A S c R m cc F w hL hT (by omega)
  rw [hue, huv] at hR
  have HR := Lib.hid hR
  have hT2 : Mat w A S R (fun _ => S) cc F := fun i hi => by
    obtain ⟨b, off, e, h1, h2, h3⟩ := hT i hi
    rw [hms i hi] at h1 h2 h3
    exact ⟨b, off, e, h1, h2, h3⟩
  obtain ⟨bG, oG, cG, gG, -⟩ := hL
  have GG := Lib.hid gG
  have HM := Lib.hid hT2
  have HS := Lib.hid hS
  clear hT hT2 hms hue huv hR gG hN hS hSk he
  obtain ⟨i0, hi, hz0, hz1, hz2⟩ := info_parts Tryd.infoU64
  obtain ⟨j0, hj, hy0, hy1, hy2⟩ := info_parts Tryd.infoU64s
  go_enter Tryd.func18, Tryd.ntmps18
  go_wp2_with (go_at_call 16; refine HR.out.mono ?_; rintro e w1 ⟨rfl, hb1⟩; have g0 := cell_below hb1 GG.out; have HB := Lib.hid hb1; clear hb1)
  have HB0 := Lib.hid HB.out
  clear HB g0
  go_loopw [8, 31] (fun ov iv wr => ∃ a : Nat, a ≤ N ∧ iv = .int .i64 a ∧ RowsInv w1 N (famG N F) a ov wr) (fun _ iv _ => N - (intOf iv).toNat)
  case atStart => exact ⟨0, Nat.zero_le _, rfl, RowsInv.start w1 N _⟩
  case round =>
    obtain ⟨a, ha, rfl, hinv⟩ := hrel
    by_cases hlt : a < N
    · have HINV := Lib.hid hinv
      clear hinv
      go_wp2_with fail
      obtain ⟨wo, rfl⟩ : ∃ wo : World, wo = wr := ⟨_, rfl⟩
      go_loopw [10, 36] (fun o iv wi => ∃ v : Nat, v ≤ N ∧ iv = .int .i64 v ∧ wi.ownsRow wo.heap.size 22 1 o v (u64L (famG N F a) v) ∧ Below wo.heap.size wo wi) (fun _ iv _ => N - (intOf iv).toNat)
      case atStart => exact ⟨0, Nat.zero_le _, rfl, World.ownsRow_nil _ _ _ _, Below.refl _ _⟩
      case round =>
        obtain ⟨v, hv, rfl, hown, hbl⟩ := hrel
        by_cases hltv : v < N
        · have HOWN := Lib.hid hown
          have HBL := Lib.hid hbl
          clear hown hbl
          go_wp2_with fail
          obtain ⟨wi, rfl⟩ : ∃ wi : World, wi = wr := ⟨_, rfl⟩
          go_loopw [12, 41] (fun sv iv wj => ∃ u : Nat, u ≤ N ∧ iv = .int .i64 u ∧ sv = .int .u64 (mkSet u (famIn F a v) : Nat) ∧ Below wi.heap.size wi wj) (fun _ iv _ => N - (intOf iv).toNat)
          case atStart => exact ⟨0, Nat.zero_le _, rfl, rfl, Below.refl _ _⟩
          case round =>
            obtain ⟨u, hu, rfl, rfl, hbj⟩ := hrel
            by_cases hltu : u < N
            · obtain ⟨Pa, ePa⟩ : ∃ P : Nat, P = 2 ^ a := ⟨_, rfl⟩
              obtain ⟨Pv, ePv⟩ : ∃ P : Nat, P = 2 ^ v := ⟨_, rfl⟩
              obtain ⟨Pu, ePu⟩ : ∃ P : Nat, P = 2 ^ u := ⟨_, rfl⟩
              obtain ⟨Q, eQ⟩ : ∃ Q : Nat, Q = Pv ||| Pu := ⟨_, rfl⟩
              have ha1 := i64_shl_one ePa (by omega)
              have hv1 := i64_shl_one ePv (by omega)
              have hu1 := i64_shl_one ePu (by omega)
              have hv2 := shl_one ePv (by omega)
              have hu2 := shl_one ePu (by omega)
              have hPa : Pa < S := by rw [ePa, HS.out]; exact Nat.pow_lt_pow_right (by decide) hlt
              have hPv : Pv < 16 := by rw [ePv]; exact Nat.pow_lt_pow_right (n := 4) (by decide) (by omega)
              have hPu : Pu < 16 := by rw [ePu]; exact Nat.pow_lt_pow_right (n := 4) (by decide) (by omega)
              have hQ : Q < S := by rw [eQ, ePv, ePu, HS.out]; exact Nat.or_lt_two_pow (Nat.pow_lt_pow_right (by decide) hltv) (Nat.pow_lt_pow_right (by decide) hltu)
              have hor : bits .or .i64 (Pv : Int) (Pu : Int) = (Q : Int) := by rw [i64_or_nat _ _ (by omega) (by omega), eQ]
              have hBall := HB0.out.trans (((HINV.out.choose_spec.choose_spec.choose_spec.2.2).trans ((HBL.out.trans (hbj.mono HBL.out.size)).mono (HINV.out.choose_spec.choose_spec.choose_spec.2.2).size)).mono HB0.out.size)
              obtain ⟨b, off, rfl, hr⟩ := rows_at (HM.out.below hBall) (by omega)
              obtain ⟨rb, ro, hc, hr1⟩ := hr Pa hPa
              obtain ⟨hcQ, hlQ⟩ := hr1 Q hQ
              have hin : famIn F a v u = (F Pa Q == Pv) := by unfold famIn; rw [eQ, ePa, ePv, ePu]
              obtain ⟨z, ez⟩ : ∃ z, z = F Pa Q := ⟨_, rfl⟩
              rw [← ez] at hcQ hlQ hin
              have hms := Nat.lt_of_lt_of_le (mkSet_lt u (famIn F a v)) (Nat.pow_le_pow_right (n := 2) (i := u) (j := 4) (by decide) (by omega))
              have hyes := fun h => or_mkSet (u := u) (p := famIn F a v) ePu (by omega) h
              have hno := fun h => mkSet_succ_no (k := u) (p := famIn F a v) h
              obtain ⟨m0, em0⟩ : ∃ m0, m0 = mkSet u (famIn F a v) := ⟨_, rfl⟩
              obtain ⟨m1, em1⟩ : ∃ m1, m1 = mkSet (u + 1) (famIn F a v) := ⟨_, rfl⟩
              rw [← em0, ← em1] at hyes hno
              rw [← em0] at hms
              rw [← em0]
              have EM1 := Lib.hid em1
              have hPab : (Pa : Int) < (S : Int) := by omega
              have hQb : (Q : Int) < (S : Int) := by omega
              have HBJ := Lib.hid hbj
              clear hr hr1 hBall ePa ePv ePu eQ ez em0 em1 hbj
              by_cases hzv : z = Pv
              · have ht : ((z : Int) == (Pv : Int)) = true := by rw [hzv]; simp
                have HY := hyes (by rw [hin, hzv]; simp)
                have HIN := Lib.hid hin
                clear hyes hno hzv hin
                go_wp2_with fail
                go_quiet (fail)
                go_wp2_with fail
                go_roundw
                case rel => exact ⟨u + 1, by omega, by go_num, by rw [← EM1.out], below_drewN HBJ.out _⟩
                case measure => simp [intOf]; omega
              · have ht : ((z : Int) == (Pv : Int)) = false := by rw [beq_eq_false_iff_ne]; omega
                have HNO := Lib.hid (hno (by rw [hin]; exact beq_eq_false_iff_ne.2 hzv))
                clear hyes hno hzv hin
                go_wp2_with fail
                go_quiet (fail)
                go_wp2_with fail
                go_roundw
                case rel => exact ⟨u + 1, by omega, by go_num, by rw [← EM1.out, HNO.out], below_drewN HBJ.out _⟩
                case measure => simp [intOf]; omega
            · obtain rfl : u = N := by omega
              have hown := own_below HOWN.out hbj (Nat.le_refl _)
              have hbl := HBL.out.trans (hbj.mono HBL.out.size)
              have hsz1 := hbl.size
              clear hbj
              go_wp2_with (at_builtin; refine wpList_append_own _ rfl _ _ 23 rfl wo.heap.size 22 i0 (.int .u64 0) 1 8 Tryd.underlying23 hi hz0 hz1 hz2 rfl (by decide) _ _ _ rfl (hown.alloc _) ⟨wr.heap.size, 0, none⟩ 1 1 [.int .u64 (mkSet u (famIn F a v) : Nat)] rfl rfl (cell_one_new _ _ _) (one_oneCell rfl) (by unfold maxLen; omega) (by omega) (by simp; omega) ?_; intro v' w3 hown' hgrow _)
              go_roundw
              case rel => exact ⟨v + 1, by omega, by go_num, by rw [u64L_succ]; exact hown', (hbl.alloc hsz1 _).grown hgrow (by simp; omega) (fun k hk => (hown.lt k hk).1)⟩
              case measure => simp [intOf]; omega
        · obtain rfl : v = N := by omega
          have hinv := HINV.out.below hbl
          obtain ⟨A1, c1, rows, rfl, hparts, hbw⟩ := hinv
          obtain ⟨_, _, _, _, _, hb1⟩ := HINV.out
          have hrow := own_mono hown hb1.size
          obtain ⟨A2, c2, rfl, _⟩ := own_form hrow
          have HP := Lib.hid hparts
          have HRW := Lib.hid hrow
          have HBW := Lib.hid hbw
          have hsz := hbw.size
          have HO := Lib.hid hparts.1
          clear hparts hrow hown hbw hb1
          go_wp2_with (at_builtin; refine wpList_append_own _ rfl _ _ 34 rfl w1.heap.size 23 j0 (.slice none 0 0) 1 24 Tryd.underlying34 hj hy0 hy1 hy2 rfl (by decide) _ _ _ rfl (HO.out.alloc _) ⟨wr.heap.size, 0, none⟩ 1 1 [.slice A2 v c2] rfl rfl (cell_one_new _ _ _) (one_oneCell rfl) (by unfold maxLen; omega) (by omega) (by simp; omega) ?_; intro v' w3 hown' hgrow _; obtain ⟨g', cap', rfl⟩ := own_succ hown')
          go_roundw
          case rel => exact ⟨a + 1, by omega, by go_num, RowsInv.step HP.out HBW.out HRW.out hown' hgrow⟩
          case measure => simp [intOf]; omega
    · obtain rfl : a = N := by omega
      obtain ⟨A1, c1, R1, cc1, rfl, hm1, hb1⟩ := hinv.mat (by omega) (fun i _ u _ => Nat.lt_trans (mkSet_lt a _) (pow_lt64 (by omega)))
      have HMM := Lib.hid hm1
      have HB := Lib.hid (HB0.out.trans (hb1.mono HB0.out.size))
      clear hinv hm1 hb1
      go_wp2_with fail
      go_ret2
      exact ⟨A1, c1, R1, cc1, rfl, HMM.out, HB.out⟩
end Go.Proofs.YtflhngmfcpeamaaDoor
