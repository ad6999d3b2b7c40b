/-
  Walks: the reference of layer 43: Family, Same.
-/
import Derived.Test.YtflhngmfcpeamaaDoorProg
import Derived.Test.YtflhngmfcpeamaaDoorBase
import Derived.Test.YtflhngmfcpeamaaDoorRow
import Derived.Test.YtflhngmfcpeamaaDoorRowU
import Derived.Test.YtflhngmfcpeamaaDoorRowsOf
import Derived.Test.YtflhngmfcpeamaaDoorRowsM
import Derived.Test.YtflhngmfcpeamaaDoorSlc
import Derived.Test.YtflhngmfcpeamaaDoorPoP
import Derived.Test.YtflhngmfcpeamaaDoorPoA
import Derived.Test.YtflhngmfcpeamaaDoorPoB
import Derived.Test.YtflhngmfcpeamaaDoorPoD
import Derived.Test.YtflhngmfcpeamaaDoorPoE
import Derived.Test.YtflhngmfcpeamaaDoorPoU
import Derived.Test.YtflhngmfcpeamaaDoorPoV
import Derived.Test.YtflhngmfcpeamaaDoorPoX
import Derived.Test.YtflhngmfcpeamaaDoorPoF
import Derived.Test.YtflhngmfcpeamaaDoorPoRA
import Derived.Test.YtflhngmfcpeamaaDoorPoRT
import Derived.Test.YtflhngmfcpeamaaDoorPoUB
namespace Go.Proofs.YtflhngmfcpeamaaDoor
open Go.RowKit

theorem rFamily_err (n : Int) (A : Option Addr) (len c : Nat) (R : Nat → Option Addr) (m cc : Nat → Nat) (F : Nat → Nat → Nat) (w : World) (hT : Mat w A len R m cc F) (hn : len ≤ 9223372036854775807) (he : famErr n len m F ≠ 0) :
    Calls Tryd.prog 19 #[.int .i64 n, .slice A len c] w fun e w' => e = .returned (.tuple #[.slice none 0 0, .int .i64 (famErr n len m F : Nat)]) ∧ Below w.heap.size w w' := by
  have HR := Lib.hid (rUpdate_any n A len c R m cc F w hT hn)
  by_cases h0 : upErr n len m F = 0
  · have e1 : famErr n len m F = if upVal n len m F = 255 then 0 else 6 := if_pos h0
    by_cases h1 : upVal n len m F = 255
    · rw [e1, if_pos h1] at he; exact absurd rfl he
    · rw [if_neg h1] at e1
      have h2 : ((upErr n len m F : Int) != 0) = false := by rw [h0]; rfl
      have h3 : ((upVal n len m F : Int) != 255) = true := by rw [bne_iff_ne]; omega
      have HE := Lib.hid e1
      clear he h0 e1 h1 hT
      go_enter Tryd.func19, Tryd.ntmps19
      go_wp2_with (go_at_call 17; refine HR.out.mono ?_; rintro e w1 ⟨rfl, hb1⟩; have HB := Lib.hid hb1; clear hb1)
      go_ret2
      exact ⟨by rw [HE.out]; rfl, HB.out⟩
  · have e1 : famErr n len m F = upErr n len m F := if_neg h0
    have h2 : ((upErr n len m F : Int) != 0) = true := by rw [bne_iff_ne]; omega
    have HE := Lib.hid e1
    clear he h0 e1 hT
    go_enter Tryd.func19, Tryd.ntmps19
    go_wp2_with (go_at_call 17; refine HR.out.mono ?_; rintro e w1 ⟨rfl, hb1⟩; have HB := Lib.hid hb1; clear hb1)
    go_ret2
    exact ⟨by rw [HE.out]; rfl, HB.out⟩

set_option maxHeartbeats 4000000 in
set_option maxRecDepth 100000 in
theorem rFamily_in (k N S : Nat) (A : Option Addr) (c : Nat) (R : Nat → Option Addr) (m cc : Nat → Nat) (F : Nat → Nat → Nat) (w : World) (hT : Mat w A S R m cc F) (hk : k ≤ 2) (hN : N = 2 ^ k) (hS : S = 2 ^ N) (he : famErr k S m F = 0) :
    Calls Tryd.prog 19 #[.int .i64 k, .slice A S c] w (MatRead N (famG N F) w) := by
  obtain ⟨-, -, -, -, hms, hue, huv, -, -⟩ := famErr_ok he
  have hSk : S = 2 ^ 2 ^ k := by rw [hS, hN]
  have hS2 := sets_le (by omega) hSk
  have hN4 : N ≤ 4 := by rw [hN]; exact Nat.pow_le_pow_right (n := 2) (j := 2) (by decide) hk
  have hw := wrap_pow hN (by omega)
  have hR := rUpdate_any k A S c R m cc F w hT (by omega)
  rw [hue, huv] at hR
  have HR := Lib.hid hR
  have hT2 : Mat w A S R (fun _ => S) cc F := fun i hi => by
    obtain ⟨b, off, e, h1, h2, h3⟩ := hT i hi
    rw [hms i hi] at h1 h2 h3
    exact ⟨b, off, e, h1, h2, h3⟩
  have HN := Lib.hid hN
  have HM := Lib.hid hT2
  have HS := Lib.hid hS
  clear hT hT2 hms hue huv hR hN hS hSk he
  obtain ⟨i0, hi, hz0, hz1, hz2⟩ := info_parts Tryd.infoU64
  obtain ⟨j0, hj, hy0, hy1, hy2⟩ := info_parts Tryd.infoU64s
  go_enter Tryd.func19, Tryd.ntmps19
  go_wp2_with fail
  refine HR.out.mono ?_
  rintro e w0 ⟨rfl, hst⟩
  have HB := Lib.hid hst
  clear hst
  go_wp2_with fail
  refine (rsets_below k N S _ (by omega) HN.out HS.out).mono ?_
  rintro e w1 ⟨rfl, hst⟩
  have HB0 := Lib.hid (HB.out.trans (hst.mono HB.out.size))
  clear HB hst
  go_wp2_with fail
  go_loopw [10, 11] (fun ov iv wr => ∃ a : Nat, a ≤ N ∧ iv = .int .i64 a ∧ RowsInv w1 N (famG N F) a ov wr) (fun _ iv _ => N - (intOf iv).toNat)
  case atStart => exact ⟨0, Nat.zero_le _, rfl, RowsInv.start w1 N _⟩
  case round =>
    obtain ⟨a, ha, rfl, hinv⟩ := hrel
    by_cases hlt : a < N
    · have HINV := Lib.hid hinv
      clear hinv
      go_wp2_with fail
      obtain ⟨wo, rfl⟩ : ∃ wo : World, wo = wr := ⟨_, rfl⟩
      go_loopw [12, 13] (fun o iv wi => ∃ v : Nat, v ≤ N ∧ iv = .int .i64 v ∧ wi.ownsRow wo.heap.size 22 1 o v (u64L (famG N F a) v) ∧ Below wo.heap.size wo wi) (fun _ iv _ => N - (intOf iv).toNat)
      case atStart => exact ⟨0, Nat.zero_le _, rfl, World.ownsRow_nil _ _ _ _, Below.refl _ _⟩
      case round =>
        obtain ⟨v, hv, rfl, hown, hbl⟩ := hrel
        by_cases hltv : v < N
        · have HOWN := Lib.hid hown
          have HBL := Lib.hid hbl
          clear hown hbl
          go_wp2_with fail
          obtain ⟨wi, rfl⟩ : ∃ wi : World, wi = wr := ⟨_, rfl⟩
          go_loopw [14, 15] (fun sv iv wj => ∃ u : Nat, u ≤ N ∧ iv = .int .i64 u ∧ sv = .int .u64 (mkSet u (famIn F a v) : Nat) ∧ Below wi.heap.size wi wj) (fun _ iv _ => N - (intOf iv).toNat)
          case atStart => exact ⟨0, Nat.zero_le _, rfl, rfl, Below.refl _ _⟩
          case round =>
            obtain ⟨u, hu, rfl, rfl, hbj⟩ := hrel
            by_cases hltu : u < N
            · obtain ⟨Pa, ePa⟩ : ∃ P : Nat, P = 2 ^ a := ⟨_, rfl⟩
              obtain ⟨Pv, ePv⟩ : ∃ P : Nat, P = 2 ^ v := ⟨_, rfl⟩
              obtain ⟨Pu, ePu⟩ : ∃ P : Nat, P = 2 ^ u := ⟨_, rfl⟩
              obtain ⟨Q, eQ⟩ : ∃ Q : Nat, Q = Pv ||| Pu := ⟨_, rfl⟩
              have hPa : Pa < S := by rw [ePa, HS.out]; exact Nat.pow_lt_pow_right (by decide) hlt
              have hPv : Pv < 16 := by rw [ePv]; exact Nat.pow_lt_pow_right (n := 4) (by decide) (by omega)
              have hPu : Pu < 16 := by rw [ePu]; exact Nat.pow_lt_pow_right (n := 4) (by decide) (by omega)
              have hQ : Q < S := by rw [eQ, ePv, ePu, HS.out]; exact Nat.or_lt_two_pow (Nat.pow_lt_pow_right (by decide) hltv) (Nat.pow_lt_pow_right (by decide) hltu)
              have hor : bits .or .u64 (Pv : Int) (Pu : Int) = (Q : Int) := by rw [u64_or_nat _ _ (by omega) (by omega), eQ]
              have hBall := HB0.out.trans (((HINV.out.choose_spec.choose_spec.choose_spec.2.2).trans ((HBL.out.trans (hbj.mono HBL.out.size)).mono (HINV.out.choose_spec.choose_spec.choose_spec.2.2).size)).mono HB0.out.size)
              obtain ⟨b, off, rfl, hr⟩ := rows_at (HM.out.below hBall) (by omega)
              obtain ⟨rb, ro, hc, hr1⟩ := hr Pa hPa
              obtain ⟨hcQ, hlQ⟩ := hr1 Q hQ
              have hin : famIn F a v u = (F Pa Q == Pv) := by unfold famIn; rw [eQ, ePa, ePv, ePu]
              obtain ⟨z, ez⟩ : ∃ z, z = F Pa Q := ⟨_, rfl⟩
              rw [← ez] at hcQ hlQ hin
              have hms := Nat.lt_of_lt_of_le (mkSet_lt u (famIn F a v)) (Nat.pow_le_pow_right (n := 2) (i := u) (j := 4) (by decide) (by omega))
              have hyes := fun h => mkSet_add (v := u) (p := famIn F a v) h
              have hno := fun h => mkSet_succ_no (k := u) (p := famIn F a v) h
              obtain ⟨m0, em0⟩ : ∃ m0, m0 = mkSet u (famIn F a v) := ⟨_, rfl⟩
              obtain ⟨m1, em1⟩ : ∃ m1, m1 = mkSet (u + 1) (famIn F a v) := ⟨_, rfl⟩
              rw [← em0, ← em1, ← ePu] at hyes
              rw [← em0, ← em1] at hno
              rw [← em0] at hms
              rw [← em0]
              have EM1 := Lib.hid em1
              have hPab : (Pa : Int) < (S : Int) := by omega
              have hQb : (Q : Int) < (S : Int) := by omega
              have HBJ := Lib.hid hbj
              have EPa := Lib.hid ePa
              have EPv := Lib.hid ePv
              have EPu := Lib.hid ePu
              clear hr hr1 hBall ePa ePv ePu eQ ez em0 em1 hbj
              by_cases hzv : z = Pv
              · have ht : ((z : Int) == (Pv : Int)) = true := by rw [hzv]; simp
                have HY := hyes (by rw [hin, hzv]; simp)
                have HY2 := Lib.hid HY
                clear HY
                clear hyes hno hzv hin
                go_wp2_with fail
                go_quiet ((first | (go_at_call 33; with_reducible exact rbit_quiet a Pa _ _ (by omega) EPa.out) | (go_at_call 33; with_reducible exact rbit_quiet v Pv _ _ (by omega) EPv.out) | (go_at_call 33; with_reducible exact rbit_quiet u Pu _ _ (by omega) EPu.out)))
                go_wp2_with (go_at_call 33; refine (rbit_any u Pu _ (by omega) EPu.out).mono ?_; rintro e w' ⟨rfl, rfl⟩)
                go_roundw
                case rel => exact ⟨u + 1, by omega, by go_num, by rw [← EM1.out, HY2.out]; go_num, below_drewN HBJ.out _⟩
                case measure => simp [intOf]; omega
              · have ht : ((z : Int) == (Pv : Int)) = false := by rw [beq_eq_false_iff_ne]; omega
                have HNO := Lib.hid (hno (by rw [hin]; exact beq_eq_false_iff_ne.2 hzv))
                clear hyes hno hzv hin
                go_wp2_with fail
                go_quiet ((first | (go_at_call 33; with_reducible exact rbit_quiet a Pa _ _ (by omega) EPa.out) | (go_at_call 33; with_reducible exact rbit_quiet v Pv _ _ (by omega) EPv.out) | (go_at_call 33; with_reducible exact rbit_quiet u Pu _ _ (by omega) EPu.out)))
                go_wp2_with fail
                go_roundw
                case rel => exact ⟨u + 1, by omega, by go_num, by rw [← EM1.out, HNO.out], below_drewN HBJ.out _⟩
                case measure => simp [intOf]; omega
            · obtain rfl : u = N := by omega
              have hown := own_below HOWN.out hbj (Nat.le_refl _)
              have hbl := HBL.out.trans (hbj.mono HBL.out.size)
              have hsz1 := hbl.size
              clear hbj
              go_wp2_with (at_builtin; refine wpList_append_own _ rfl _ _ 23 rfl wo.heap.size 22 i0 (.int .u64 0) 1 8 Tryd.underlying23 hi hz0 hz1 hz2 rfl (by decide) _ _ _ rfl (hown.alloc _) ⟨wr.heap.size, 0, none⟩ 1 1 [.int .u64 (mkSet u (famIn F a v) : Nat)] rfl rfl (cell_one_new _ _ _) (one_oneCell rfl) (by unfold maxLen; omega) (by omega) (by simp; omega) ?_; intro v' w3 hown' hgrow _)
              go_roundw
              case rel => exact ⟨v + 1, by omega, by go_num, by rw [u64L_succ]; exact hown', (hbl.alloc hsz1 _).grown hgrow (by simp; omega) (fun k hk => (hown.lt k hk).1)⟩
              case measure => simp [intOf]; omega
        · obtain rfl : v = N := by omega
          have hinv := HINV.out.below hbl
          obtain ⟨A1, c1, rows, rfl, hparts, hbw⟩ := hinv
          obtain ⟨_, _, _, _, _, hb1⟩ := HINV.out
          have hrow := own_mono hown hb1.size
          obtain ⟨A2, c2, rfl, _⟩ := own_form hrow
          have HP := Lib.hid hparts
          have HRW := Lib.hid hrow
          have HBW := Lib.hid hbw
          have hsz := hbw.size
          have HO := Lib.hid hparts.1
          clear hparts hrow hown hbw hb1
          go_wp2_with (at_builtin; refine wpList_append_own _ rfl _ _ 34 rfl w1.heap.size 23 j0 (.slice none 0 0) 1 24 Tryd.underlying34 hj hy0 hy1 hy2 rfl (by decide) _ _ _ rfl (HO.out.alloc _) ⟨wr.heap.size, 0, none⟩ 1 1 [.slice A2 v c2] rfl rfl (cell_one_new _ _ _) (one_oneCell rfl) (by unfold maxLen; omega) (by omega) (by simp; omega) ?_; intro v' w3 hown' hgrow _; obtain ⟨g', cap', rfl⟩ := own_succ hown')
          go_roundw
          case rel => exact ⟨a + 1, by omega, by go_num, RowsInv.step HP.out HBW.out HRW.out hown' hgrow⟩
          case measure => simp [intOf]; omega
    · obtain rfl : a = N := by omega
      obtain ⟨A1, c1, R1, cc1, rfl, hm1, hb1⟩ := hinv.mat (by omega) (fun i _ u _ => Nat.lt_trans (mkSet_lt a _) (pow_lt64 (by omega)))
      have HMM := Lib.hid hm1
      have HB := Lib.hid (HB0.out.trans (hb1.mono HB0.out.size))
      clear hinv hm1 hb1
      go_wp2_with fail
      go_ret2
      exact ⟨A1, c1, R1, cc1, rfl, HMM.out, HB.out⟩

/-! ### Same -/
def sameB (n n2 : Nat) (m m2 : Nat → Nat) (F G : Nat → Nat → Nat) : Bool := n == n2 && allB n (fun i => m i == m2 i && allB (m i) (fun j => F i j == G i j))
theorem same_refl (n : Nat) (m : Nat → Nat) (F : Nat → Nat → Nat) : sameB n n m m F F = true := by
  unfold sameB
  rw [beq_self_eq_true, Bool.true_and, allB_iff]
  intro i _
  rw [beq_self_eq_true, Bool.true_and, allB_iff]
  intro j _
  exact beq_self_eq_true _
set_option maxHeartbeats 2000000 in
/-- Two lists of relations that read alike are the same. -/
theorem same_true (n N c d : Nat) (A B : Option Addr) (R R2 : Nat → Option Addr) (cc cc2 : Nat → Nat) (F : Nat → Nat → Nat) (w : World) (hA : Mat w A n R (fun _ => N) cc F) (hB : Mat w B n R2 (fun _ => N) cc2 F) (hn : n ≤ 9223372036854775807) (hN : N ≤ 9223372036854775807) :
    Calls Tryd.prog 20 #[.slice A n c, .slice B n d] w fun e w' => e = .returned (.bool true) ∧ Below w.heap.size w w' := by
  have HA := Lib.hid hA
  have HB := Lib.hid hB
  clear hA hB
  go_enter Tryd.func20, Tryd.ntmps20
  go_wp2
  go_loopw [14] (fun i wr => ∃ v : Nat, v ≤ n ∧ i = .int .i64 v ∧ Below w.heap.size w wr) (fun i _ => n - (intOf i).toNat)
  case atStart => exact ⟨0, Nat.zero_le _, rfl, Below.refl _ _⟩
  case round =>
    obtain ⟨v, hv, rfl, hbl⟩ := hrel
    by_cases hlt : v < n
    · obtain ⟨b, off, rfl, hc, hr, hrow⟩ := HA.out.below hbl v hlt
      obtain ⟨b2, off2, rfl, hc2, hr2, hrow2⟩ := HB.out.below hbl v hlt
      have hvb : (v : Int) < (n : Int) := by omega
      have HBL := Lib.hid hbl
      have HR1 := Lib.hid hrow
      have HR2 := Lib.hid hrow2
      obtain ⟨r1, er1⟩ : ∃ r, r = R v := ⟨_, rfl⟩
      obtain ⟨r2, er2⟩ : ∃ r, r = R2 v := ⟨_, rfl⟩
      rw [← er1] at hc HR1
      rw [← er2] at hc2 HR2
      have HC1 := Lib.hid hc
      have HC2 := Lib.hid hc2
      clear hbl hrow hrow2 er1 er2
      go_wp2_with fail
      go_quiet (fail)
      go_wp2_with fail
      generalize hV : World.drewN _ _ = V
      have HBV : Hid (Below w.heap.size w V) := by rw [← hV]; exact Lib.hid (below_drewN HBL.out _)
      have HRV1 : Hid (U64s V r1 N (F v)) := by rw [← hV]; exact Lib.hid (HR1.out.below (below_drewN (Below.refl _ _) _))
      have HRV2 : Hid (U64s V r2 N (F v)) := by rw [← hV]; exact Lib.hid (HR2.out.below (below_drewN (Below.refl _ _) _))
      have HCV1 : Hid (V.cell? ⟨b, off + v, none⟩ = some (.slice r1 N (cc v))) := by rw [← hV]; exact Lib.hid (cell_below (below_drewN (Below.refl _ _) _) HC1.out)
      have HCV2 : Hid (V.cell? ⟨b2, off2 + v, none⟩ = some (.slice r2 N (cc2 v))) := by rw [← hV]; exact Lib.hid (cell_below (below_drewN (Below.refl _ _) _) HC2.out)
      clear hV hc hc2 HBL HR1 HR2 HC1 HC2
      go_loopw [33] (fun i wr => ∃ u : Nat, u ≤ N ∧ i = .int .i64 u ∧ Below V.heap.size V wr) (fun i _ => N - (intOf i).toNat)
      case atStart => exact ⟨0, Nat.zero_le _, rfl, Below.refl _ _⟩
      case round =>
        obtain ⟨u, hu, rfl, hbl⟩ := hrel
        by_cases hltu : u < N
        · have hc := cell_below hbl HCV1.out
          have hc2 := cell_below hbl HCV2.out
          obtain ⟨rb, ro, e1, hx1, hl1⟩ := HRV1.out.below hbl u hltu
          obtain ⟨rb2, ro2, e2, hx2, hl2⟩ := HRV2.out.below hbl u hltu
          rw [e1] at hc
          rw [e2] at hc2
          have hub : (u : Int) < (N : Int) := by omega
          obtain ⟨z, ez⟩ : ∃ z, z = F v u := ⟨_, rfl⟩
          rw [← ez] at hx1 hx2 hl1
          have E1 := Lib.hid e1
          have E2 := Lib.hid e2
          have HBL := Lib.hid hbl
          clear ez hl2 e1 e2 hbl
          go_wp2_with fail
          go_quiet (fail)
          go_wp2_with fail
          go_roundw
          case rel => exact ⟨u + 1, by omega, by go_num, below_drewN HBL.out _⟩
          case measure => simp [intOf]; omega
        · obtain rfl : u = N := by omega
          have HBL := Lib.hid (HBV.out.trans (hbl.mono HBV.out.size))
          clear hbl
          go_wp2_with fail
          go_roundw
          case rel => exact ⟨v + 1, by omega, by go_num, HBL.out⟩
          case measure => simp [intOf]; omega
    · obtain rfl : v = n := by omega
      have HBL := Lib.hid hbl
      clear hbl
      go_wp2_with fail
      go_ret
      exact ⟨rfl, HBL.out⟩
theorem same_nil (w : World) : Calls Tryd.prog 20 #[.slice none 0 0, .slice none 0 0] w fun e w' => e = .returned (.bool true) ∧ Below w.heap.size w w' :=
  same_true 0 0 0 0 none none (fun _ => none) (fun _ => none) (fun _ => 0) (fun _ => 0) (fun _ _ => 0) w (fun i hi => absurd hi (Nat.not_lt_zero _)) (fun i hi => absurd hi (Nat.not_lt_zero _)) (by omega) (by omega)
end Go.Proofs.YtflhngmfcpeamaaDoor
