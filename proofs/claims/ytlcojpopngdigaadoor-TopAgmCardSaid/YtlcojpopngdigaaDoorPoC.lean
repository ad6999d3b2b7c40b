/-
  Walks: package postulates: failure, at each postulate of revision.
-/
import Derived.Test.YtlcojpopngdigaaDoorProg
import Derived.Test.YtlcojpopngdigaaDoorBase
import Derived.Test.YtlcojpopngdigaaDoorPoP
import Derived.Test.YtlcojpopngdigaaDoorPoA
import Derived.Test.YtlcojpopngdigaaDoorPoB
namespace Go.Proofs.YtlcojpopngdigaaDoor
open Go.RowKit

/-- What the table of the postulates of revision holds. -/
def LaidR (w : World) : Prop := ∃ b off cap, w.cell? ⟨0, 0, none⟩ = some (.slice (some ⟨b, off, none⟩) 6 cap)
  ∧ w.cell? ⟨b, off, none⟩ = some (.bool false) ∧ w.cell? ⟨b, off + 1, none⟩ = some (.func (.func 67) #[] #[])
  ∧ w.cell? ⟨b, off + 2, none⟩ = some (.bool false) ∧ w.cell? ⟨b, off + 2 + 1, none⟩ = some (.func (.func 68) #[] #[])
  ∧ w.cell? ⟨b, off + 4, none⟩ = some (.bool false) ∧ w.cell? ⟨b, off + 4 + 1, none⟩ = some (.func (.func 69) #[] #[])
  ∧ w.cell? ⟨b, off + 6, none⟩ = some (.bool false) ∧ w.cell? ⟨b, off + 6 + 1, none⟩ = some (.func (.func 70) #[] #[])
  ∧ w.cell? ⟨b, off + 8, none⟩ = some (.bool true) ∧ w.cell? ⟨b, off + 8 + 1, none⟩ = some (.func (.func 71) #[] #[])
  ∧ w.cell? ⟨b, off + 10, none⟩ = some (.bool true) ∧ w.cell? ⟨b, off + 10 + 1, none⟩ = some (.func (.func 72) #[] #[])
theorem LaidR.below {w w' : World} (h : LaidR w) (hb : Below w.heap.size w w') : LaidR w' := by
  obtain ⟨b, off, cap, g0, a0, f0, a1, f1, a2, f2, a3, f3, a4, f4, a5, f5⟩ := h
  exact ⟨b, off, cap, cell_below hb g0, cell_below hb a0, cell_below hb f0, cell_below hb a1, cell_below hb f1, cell_below hb a2, cell_below hb f2, cell_below hb a3, cell_below hb f3, cell_below hb a4, cell_below hb f4, cell_below hb a5, cell_below hb f5⟩
/-- What 'failure' returns. -/
def FailPost (S : Nat) (fit : Nat → Nat → Bool) (last : Nat) (w : World) (e : Ending) (w' : World) : Prop :=
  e = .returned (.tuple #[.int .u64 (failX S last fit : Nat), .int .u64 (failY S last fit : Nat), .bool (failB S last fit)]) ∧ Below w.heap.size w w'

set_option maxHeartbeats 1000000 in
theorem failure_0 (k S kb c : Nat) (A : Option Addr) (T : Nat → Nat) (w : World) (hL : LaidR w) (hT : U64s w A S T) (hk : k ≤ 3) (hS : S = 2 ^ 2 ^ k) (_hkb : kb < 18446744073709551616) :
    Calls Tryd.prog 23 #[.int .i64 0, .int .i64 k, .int .u64 kb, .slice A S c] w (FailPost S (rvFit 0 kb T) (rvLast S 0) w) := by
  have hS2 := sets_le hk hS
  obtain ⟨b, off, cap, g0, a0, f0, a1, f1, a2, f2, a3, f3, a4, f4, a5, f5⟩ := hL
  have G0 := Lib.hid g0
  have F0 := Lib.hid f0
  have HT := Lib.hid hT
  have HS := Lib.hid hS
  have HL := Lib.hid (show rvLast S 0 = 1 from rfl)
  have hL1 : 1 ≤ 1 ∧ 1 ≤ S := by omega
  clear hT hS f0 f1 f2 f3 f4 f5
  go_enter Tryd.func23, Tryd.ntmps23
  go_wp2_with (go_at_call 21; refine (sets_any k S _ hk HS.out).mono ?_; rintro e w' ⟨rfl, rfl⟩)
  clear g0 a0 a1 a2 a3 a4 a5
  go_loopw [24] (fun xv wr => ∃ x : Nat, x ≤ S ∧ xv = .int .u64 x ∧ Below w.heap.size w wr ∧ Hid (∀ x', x' < x → allB (1) (rvFit 0 kb T x') = true)) (fun xv _ => S - (intOf xv).toNat)
  case atStart => exact ⟨0, Nat.zero_le _, rfl, Below.refl _ _, Lib.hid fun x' h => absurd h (Nat.not_lt_zero _)⟩
  case round =>
    obtain ⟨x, hx, rfl, hbl, HX⟩ := hrel
    by_cases hlt : x < S
    · have HB := Lib.hid hbl
      clear hbl
      go_wp2_with fail
      go_loopw [29] (fun yv wr => ∃ y : Nat, y ≤ 1 ∧ yv = .int .u64 y ∧ Below w.heap.size w wr ∧ Hid (∀ y', y' < y → rvFit 0 kb T x y' = true)) (fun yv _ => (1) - (intOf yv).toNat)
      case atStart => exact ⟨0, Nat.zero_le _, rfl, HB.out, Lib.hid fun y' h => absurd h (Nat.not_lt_zero _)⟩
      case round =>
        clear HB
        obtain ⟨y, hy, rfl, hbl, HY⟩ := hrel
        by_cases hlty : y < 1
        · have g0 := cell_below hbl G0.out
          have f0 := cell_below hbl F0.out
          have HTr := Lib.hid (HT.out.below hbl)
          have HB := Lib.hid hbl
          have HX' := Lib.hid HX.out
          clear hbl
          obtain ⟨r, er⟩ : ∃ r, r = rvFit 0 kb T x y := ⟨_, rfl⟩
          have hr : Hid (∀ W, U64s W A S T → Calls Tryd.prog 67 #[.int .u64 kb, .slice A S c, .int .u64 x, .int .u64 y] W fun e w' => e = .returned (.bool r) ∧ Below W.heap.size W w') := Lib.hid fun W hW => by
            rw [er]; exact same_below (rv1_any kb x y S c A T W hW hlt (by omega))
          have HR := Lib.hid er
          clear er
          cases r
          · go_wp2_with (go_at_call 67; refine (hr.out _ HTr.out).mono ?_; rintro e w' ⟨rfl, hst⟩; have HB := Lib.hid (HB.out.trans (hst.mono HB.out.size)); clear hst)
            all_goals
              go_ret3
              obtain ⟨p1, p2, p3⟩ := fail_hit hlt hlty HX.out HY.out HR.out.symm
              exact ⟨by rw [HL.out, p1, p2, p3]; rfl, HB.out⟩
          · go_wp2_with (go_at_call 67; refine (hr.out _ HTr.out).mono ?_; rintro e w' ⟨rfl, hst⟩; have HB := Lib.hid (HB.out.trans (hst.mono HB.out.size)); clear hst)
            go_roundw
            case rel => exact ⟨y + 1, by omega, by go_num, HB.out, Lib.hid fun y' h => by
              rcases Nat.lt_succ_iff_lt_or_eq.1 h with h3 | rfl
              · exact HY.out y' h3
              · exact HR.out.symm⟩
            case measure => simp [intOf]; omega
        · obtain rfl : y = 1 := by omega
          have HB := Lib.hid hbl
          clear hbl
          go_wp2_with fail
          go_roundw
          case rel => exact ⟨x + 1, by omega, by go_num, HB.out, Lib.hid fun x' h => by
            rcases Nat.lt_succ_iff_lt_or_eq.1 h with h3 | rfl
            · exact HX.out x' h3
            · exact allB_iff.2 HY.out⟩
          case measure => simp [intOf]; omega
    · obtain rfl : x = S := by omega
      have HB := Lib.hid hbl
      clear hbl
      go_wp2_with fail
      go_ret3
      obtain ⟨p1, p2, p3⟩ := fail_none HX.out
      exact ⟨by rw [HL.out, p1, p2, p3]; rfl, HB.out⟩
set_option maxHeartbeats 1000000 in
theorem failure_1 (k S kb c : Nat) (A : Option Addr) (T : Nat → Nat) (w : World) (hL : LaidR w) (hT : U64s w A S T) (hk : k ≤ 3) (hS : S = 2 ^ 2 ^ k) (hkb : kb < 18446744073709551616) :
    Calls Tryd.prog 23 #[.int .i64 1, .int .i64 k, .int .u64 kb, .slice A S c] w (FailPost S (rvFit 1 kb T) (rvLast S 1) w) := by
  have hS2 := sets_le hk hS
  obtain ⟨b, off, cap, g0, a0, f0, a1, f1, a2, f2, a3, f3, a4, f4, a5, f5⟩ := hL
  have G0 := Lib.hid g0
  have F0 := Lib.hid f1
  have HT := Lib.hid hT
  have HS := Lib.hid hS
  have HL := Lib.hid (show rvLast S 1 = 1 from rfl)
  have hL1 : 1 ≤ 1 ∧ 1 ≤ S := by omega
  clear hT hS f0 f1 f2 f3 f4 f5
  go_enter Tryd.func23, Tryd.ntmps23
  go_wp2_with (go_at_call 21; refine (sets_any k S _ hk HS.out).mono ?_; rintro e w' ⟨rfl, rfl⟩)
  clear g0 a0 a1 a2 a3 a4 a5
  go_loopw [24] (fun xv wr => ∃ x : Nat, x ≤ S ∧ xv = .int .u64 x ∧ Below w.heap.size w wr ∧ Hid (∀ x', x' < x → allB (1) (rvFit 1 kb T x') = true)) (fun xv _ => S - (intOf xv).toNat)
  case atStart => exact ⟨0, Nat.zero_le _, rfl, Below.refl _ _, Lib.hid fun x' h => absurd h (Nat.not_lt_zero _)⟩
  case round =>
    obtain ⟨x, hx, rfl, hbl, HX⟩ := hrel
    by_cases hlt : x < S
    · have HB := Lib.hid hbl
      clear hbl
      go_wp2_with fail
      go_loopw [29] (fun yv wr => ∃ y : Nat, y ≤ 1 ∧ yv = .int .u64 y ∧ Below w.heap.size w wr ∧ Hid (∀ y', y' < y → rvFit 1 kb T x y' = true)) (fun yv _ => (1) - (intOf yv).toNat)
      case atStart => exact ⟨0, Nat.zero_le _, rfl, HB.out, Lib.hid fun y' h => absurd h (Nat.not_lt_zero _)⟩
      case round =>
        clear HB
        obtain ⟨y, hy, rfl, hbl, HY⟩ := hrel
        by_cases hlty : y < 1
        · have g0 := cell_below hbl G0.out
          have f0 := cell_below hbl F0.out
          have HTr := Lib.hid (HT.out.below hbl)
          have HB := Lib.hid hbl
          have HX' := Lib.hid HX.out
          clear hbl
          obtain ⟨r, er⟩ : ∃ r, r = rvFit 1 kb T x y := ⟨_, rfl⟩
          have hr : Hid (∀ W, U64s W A S T → Calls Tryd.prog 68 #[.int .u64 kb, .slice A S c, .int .u64 x, .int .u64 y] W fun e w' => e = .returned (.bool r) ∧ Below W.heap.size W w') := Lib.hid fun W hW => by
            rw [er]; exact same_below (rv2_any kb x y S c A T W hW hlt (by omega) hkb)
          have HR := Lib.hid er
          clear er
          cases r
          · go_wp2_with (go_at_call 68; refine (hr.out _ HTr.out).mono ?_; rintro e w' ⟨rfl, hst⟩; have HB := Lib.hid (HB.out.trans (hst.mono HB.out.size)); clear hst)
            all_goals
              go_ret3
              obtain ⟨p1, p2, p3⟩ := fail_hit hlt hlty HX.out HY.out HR.out.symm
              exact ⟨by rw [HL.out, p1, p2, p3]; rfl, HB.out⟩
          · go_wp2_with (go_at_call 68; refine (hr.out _ HTr.out).mono ?_; rintro e w' ⟨rfl, hst⟩; have HB := Lib.hid (HB.out.trans (hst.mono HB.out.size)); clear hst)
            go_roundw
            case rel => exact ⟨y + 1, by omega, by go_num, HB.out, Lib.hid fun y' h => by
              rcases Nat.lt_succ_iff_lt_or_eq.1 h with h3 | rfl
              · exact HY.out y' h3
              · exact HR.out.symm⟩
            case measure => simp [intOf]; omega
        · obtain rfl : y = 1 := by omega
          have HB := Lib.hid hbl
          clear hbl
          go_wp2_with fail
          go_roundw
          case rel => exact ⟨x + 1, by omega, by go_num, HB.out, Lib.hid fun x' h => by
            rcases Nat.lt_succ_iff_lt_or_eq.1 h with h3 | rfl
            · exact HX.out x' h3
            · exact allB_iff.2 HY.out⟩
          case measure => simp [intOf]; omega
    · obtain rfl : x = S := by omega
      have HB := Lib.hid hbl
      clear hbl
      go_wp2_with fail
      go_ret3
      obtain ⟨p1, p2, p3⟩ := fail_none HX.out
      exact ⟨by rw [HL.out, p1, p2, p3]; rfl, HB.out⟩
set_option maxHeartbeats 1000000 in
theorem failure_2 (k S kb c : Nat) (A : Option Addr) (T : Nat → Nat) (w : World) (hL : LaidR w) (hT : U64s w A S T) (hk : k ≤ 3) (hS : S = 2 ^ 2 ^ k) (_hkb : kb < 18446744073709551616) :
    Calls Tryd.prog 23 #[.int .i64 2, .int .i64 k, .int .u64 kb, .slice A S c] w (FailPost S (rvFit 2 kb T) (rvLast S 2) w) := by
  have hS2 := sets_le hk hS
  obtain ⟨b, off, cap, g0, a0, f0, a1, f1, a2, f2, a3, f3, a4, f4, a5, f5⟩ := hL
  have G0 := Lib.hid g0
  have F0 := Lib.hid f2
  have HT := Lib.hid hT
  have HS := Lib.hid hS
  have HL := Lib.hid (show rvLast S 2 = 1 from rfl)
  have hL1 : 1 ≤ 1 ∧ 1 ≤ S := by omega
  clear hT hS f0 f1 f2 f3 f4 f5
  go_enter Tryd.func23, Tryd.ntmps23
  go_wp2_with (go_at_call 21; refine (sets_any k S _ hk HS.out).mono ?_; rintro e w' ⟨rfl, rfl⟩)
  clear g0 a0 a1 a2 a3 a4 a5
  go_loopw [24] (fun xv wr => ∃ x : Nat, x ≤ S ∧ xv = .int .u64 x ∧ Below w.heap.size w wr ∧ Hid (∀ x', x' < x → allB (1) (rvFit 2 kb T x') = true)) (fun xv _ => S - (intOf xv).toNat)
  case atStart => exact ⟨0, Nat.zero_le _, rfl, Below.refl _ _, Lib.hid fun x' h => absurd h (Nat.not_lt_zero _)⟩
  case round =>
    obtain ⟨x, hx, rfl, hbl, HX⟩ := hrel
    by_cases hlt : x < S
    · have HB := Lib.hid hbl
      clear hbl
      go_wp2_with fail
      go_loopw [29] (fun yv wr => ∃ y : Nat, y ≤ 1 ∧ yv = .int .u64 y ∧ Below w.heap.size w wr ∧ Hid (∀ y', y' < y → rvFit 2 kb T x y' = true)) (fun yv _ => (1) - (intOf yv).toNat)
      case atStart => exact ⟨0, Nat.zero_le _, rfl, HB.out, Lib.hid fun y' h => absurd h (Nat.not_lt_zero _)⟩
      case round =>
        clear HB
        obtain ⟨y, hy, rfl, hbl, HY⟩ := hrel
        by_cases hlty : y < 1
        · have g0 := cell_below hbl G0.out
          have f0 := cell_below hbl F0.out
          have HTr := Lib.hid (HT.out.below hbl)
          have HB := Lib.hid hbl
          have HX' := Lib.hid HX.out
          clear hbl
          obtain ⟨r, er⟩ : ∃ r, r = rvFit 2 kb T x y := ⟨_, rfl⟩
          have hr : Hid (∀ W, U64s W A S T → Calls Tryd.prog 69 #[.int .u64 kb, .slice A S c, .int .u64 x, .int .u64 y] W fun e w' => e = .returned (.bool r) ∧ Below W.heap.size W w') := Lib.hid fun W hW => by
            rw [er]; exact same_below (rv3_any kb x y S c A T W hW hlt (by omega))
          have HR := Lib.hid er
          clear er
          cases r
          · go_wp2_with (go_at_call 69; refine (hr.out _ HTr.out).mono ?_; rintro e w' ⟨rfl, hst⟩; have HB := Lib.hid (HB.out.trans (hst.mono HB.out.size)); clear hst)
            all_goals
              go_ret3
              obtain ⟨p1, p2, p3⟩ := fail_hit hlt hlty HX.out HY.out HR.out.symm
              exact ⟨by rw [HL.out, p1, p2, p3]; rfl, HB.out⟩
          · go_wp2_with (go_at_call 69; refine (hr.out _ HTr.out).mono ?_; rintro e w' ⟨rfl, hst⟩; have HB := Lib.hid (HB.out.trans (hst.mono HB.out.size)); clear hst)
            go_roundw
            case rel => exact ⟨y + 1, by omega, by go_num, HB.out, Lib.hid fun y' h => by
              rcases Nat.lt_succ_iff_lt_or_eq.1 h with h3 | rfl
              · exact HY.out y' h3
              · exact HR.out.symm⟩
            case measure => simp [intOf]; omega
        · obtain rfl : y = 1 := by omega
          have HB := Lib.hid hbl
          clear hbl
          go_wp2_with fail
          go_roundw
          case rel => exact ⟨x + 1, by omega, by go_num, HB.out, Lib.hid fun x' h => by
            rcases Nat.lt_succ_iff_lt_or_eq.1 h with h3 | rfl
            · exact HX.out x' h3
            · exact allB_iff.2 HY.out⟩
          case measure => simp [intOf]; omega
    · obtain rfl : x = S := by omega
      have HB := Lib.hid hbl
      clear hbl
      go_wp2_with fail
      go_ret3
      obtain ⟨p1, p2, p3⟩ := fail_none HX.out
      exact ⟨by rw [HL.out, p1, p2, p3]; rfl, HB.out⟩
set_option maxHeartbeats 1000000 in
theorem failure_3 (k S kb c : Nat) (A : Option Addr) (T : Nat → Nat) (w : World) (hL : LaidR w) (hT : U64s w A S T) (hk : k ≤ 3) (hS : S = 2 ^ 2 ^ k) (_hkb : kb < 18446744073709551616) :
    Calls Tryd.prog 23 #[.int .i64 3, .int .i64 k, .int .u64 kb, .slice A S c] w (FailPost S (rvFit 3 kb T) (rvLast S 3) w) := by
  have hS2 := sets_le hk hS
  obtain ⟨b, off, cap, g0, a0, f0, a1, f1, a2, f2, a3, f3, a4, f4, a5, f5⟩ := hL
  have G0 := Lib.hid g0
  have F0 := Lib.hid f3
  have HT := Lib.hid hT
  have HS := Lib.hid hS
  have HL := Lib.hid (show rvLast S 3 = 1 from rfl)
  have hL1 : 1 ≤ 1 ∧ 1 ≤ S := by omega
  clear hT hS f0 f1 f2 f3 f4 f5
  go_enter Tryd.func23, Tryd.ntmps23
  go_wp2_with (go_at_call 21; refine (sets_any k S _ hk HS.out).mono ?_; rintro e w' ⟨rfl, rfl⟩)
  clear g0 a0 a1 a2 a3 a4 a5
  go_loopw [24] (fun xv wr => ∃ x : Nat, x ≤ S ∧ xv = .int .u64 x ∧ Below w.heap.size w wr ∧ Hid (∀ x', x' < x → allB (1) (rvFit 3 kb T x') = true)) (fun xv _ => S - (intOf xv).toNat)
  case atStart => exact ⟨0, Nat.zero_le _, rfl, Below.refl _ _, Lib.hid fun x' h => absurd h (Nat.not_lt_zero _)⟩
  case round =>
    obtain ⟨x, hx, rfl, hbl, HX⟩ := hrel
    by_cases hlt : x < S
    · have HB := Lib.hid hbl
      clear hbl
      go_wp2_with fail
      go_loopw [29] (fun yv wr => ∃ y : Nat, y ≤ 1 ∧ yv = .int .u64 y ∧ Below w.heap.size w wr ∧ Hid (∀ y', y' < y → rvFit 3 kb T x y' = true)) (fun yv _ => (1) - (intOf yv).toNat)
      case atStart => exact ⟨0, Nat.zero_le _, rfl, HB.out, Lib.hid fun y' h => absurd h (Nat.not_lt_zero _)⟩
      case round =>
        clear HB
        obtain ⟨y, hy, rfl, hbl, HY⟩ := hrel
        by_cases hlty : y < 1
        · have g0 := cell_below hbl G0.out
          have f0 := cell_below hbl F0.out
          have HTr := Lib.hid (HT.out.below hbl)
          have HB := Lib.hid hbl
          have HX' := Lib.hid HX.out
          clear hbl
          obtain ⟨r, er⟩ : ∃ r, r = rvFit 3 kb T x y := ⟨_, rfl⟩
          have hr : Hid (∀ W, U64s W A S T → Calls Tryd.prog 70 #[.int .u64 kb, .slice A S c, .int .u64 x, .int .u64 y] W fun e w' => e = .returned (.bool r) ∧ Below W.heap.size W w') := Lib.hid fun W hW => by
            rw [er]; exact same_below (rv4_any kb x y S c A T W)
          have HR := Lib.hid er
          clear er
          cases r
          · go_wp2_with (go_at_call 70; refine (hr.out _ HTr.out).mono ?_; rintro e w' ⟨rfl, hst⟩; have HB := Lib.hid (HB.out.trans (hst.mono HB.out.size)); clear hst)
            all_goals
              go_ret3
              obtain ⟨p1, p2, p3⟩ := fail_hit hlt hlty HX.out HY.out HR.out.symm
              exact ⟨by rw [HL.out, p1, p2, p3]; rfl, HB.out⟩
          · go_wp2_with (go_at_call 70; refine (hr.out _ HTr.out).mono ?_; rintro e w' ⟨rfl, hst⟩; have HB := Lib.hid (HB.out.trans (hst.mono HB.out.size)); clear hst)
            go_roundw
            case rel => exact ⟨y + 1, by omega, by go_num, HB.out, Lib.hid fun y' h => by
              rcases Nat.lt_succ_iff_lt_or_eq.1 h with h3 | rfl
              · exact HY.out y' h3
              · exact HR.out.symm⟩
            case measure => simp [intOf]; omega
        · obtain rfl : y = 1 := by omega
          have HB := Lib.hid hbl
          clear hbl
          go_wp2_with fail
          go_roundw
          case rel => exact ⟨x + 1, by omega, by go_num, HB.out, Lib.hid fun x' h => by
            rcases Nat.lt_succ_iff_lt_or_eq.1 h with h3 | rfl
            · exact HX.out x' h3
            · exact allB_iff.2 HY.out⟩
          case measure => simp [intOf]; omega
    · obtain rfl : x = S := by omega
      have HB := Lib.hid hbl
      clear hbl
      go_wp2_with fail
      go_ret3
      obtain ⟨p1, p2, p3⟩ := fail_none HX.out
      exact ⟨by rw [HL.out, p1, p2, p3]; rfl, HB.out⟩
set_option maxHeartbeats 1000000 in
theorem failure_4 (k S kb c : Nat) (A : Option Addr) (T : Nat → Nat) (w : World) (hL : LaidR w) (hT : U64s w A S T) (hk : k ≤ 3) (hS : S = 2 ^ 2 ^ k) (_hkb : kb < 18446744073709551616) :
    Calls Tryd.prog 23 #[.int .i64 4, .int .i64 k, .int .u64 kb, .slice A S c] w (FailPost S (rvFit 4 kb T) (rvLast S 4) w) := by
  have hS2 := sets_le hk hS
  obtain ⟨b, off, cap, g0, a0, f0, a1, f1, a2, f2, a3, f3, a4, f4, a5, f5⟩ := hL
  have G0 := Lib.hid g0
  have F0 := Lib.hid f4
  have HT := Lib.hid hT
  have HS := Lib.hid hS
  have HL := Lib.hid (show rvLast S 4 = S from rfl)
  have hL1 : 1 ≤ S ∧ S ≤ S := by omega
  clear hT hS f0 f1 f2 f3 f4 f5
  go_enter Tryd.func23, Tryd.ntmps23
  go_wp2_with (go_at_call 21; refine (sets_any k S _ hk HS.out).mono ?_; rintro e w' ⟨rfl, rfl⟩)
  clear g0 a0 a1 a2 a3 a4 a5
  go_loopw [24] (fun xv wr => ∃ x : Nat, x ≤ S ∧ xv = .int .u64 x ∧ Below w.heap.size w wr ∧ Hid (∀ x', x' < x → allB (S) (rvFit 4 kb T x') = true)) (fun xv _ => S - (intOf xv).toNat)
  case atStart => exact ⟨0, Nat.zero_le _, rfl, Below.refl _ _, Lib.hid fun x' h => absurd h (Nat.not_lt_zero _)⟩
  case round =>
    obtain ⟨x, hx, rfl, hbl, HX⟩ := hrel
    by_cases hlt : x < S
    · have HB := Lib.hid hbl
      clear hbl
      go_wp2_with fail
      go_loopw [29] (fun yv wr => ∃ y : Nat, y ≤ S ∧ yv = .int .u64 y ∧ Below w.heap.size w wr ∧ Hid (∀ y', y' < y → rvFit 4 kb T x y' = true)) (fun yv _ => (S) - (intOf yv).toNat)
      case atStart => exact ⟨0, Nat.zero_le _, rfl, HB.out, Lib.hid fun y' h => absurd h (Nat.not_lt_zero _)⟩
      case round =>
        clear HB
        obtain ⟨y, hy, rfl, hbl, HY⟩ := hrel
        by_cases hlty : y < S
        · have g0 := cell_below hbl G0.out
          have f0 := cell_below hbl F0.out
          have HTr := Lib.hid (HT.out.below hbl)
          have HB := Lib.hid hbl
          have HX' := Lib.hid HX.out
          clear hbl
          obtain ⟨r, er⟩ : ∃ r, r = rvFit 4 kb T x y := ⟨_, rfl⟩
          have hr : Hid (∀ W, U64s W A S T → Calls Tryd.prog 71 #[.int .u64 kb, .slice A S c, .int .u64 x, .int .u64 y] W fun e w' => e = .returned (.bool r) ∧ Below W.heap.size W w') := Lib.hid fun W hW => by
            rw [er]; exact drew_below (rv5_any kb x y S c A T W hW hlt hlty (by omega))
          have HR := Lib.hid er
          clear er
          cases r
          · go_wp2_with (go_at_call 71; refine (hr.out _ HTr.out).mono ?_; rintro e w' ⟨rfl, hst⟩; have HB := Lib.hid (HB.out.trans (hst.mono HB.out.size)); clear hst)
            all_goals
              go_ret3
              obtain ⟨p1, p2, p3⟩ := fail_hit hlt hlty HX.out HY.out HR.out.symm
              exact ⟨by rw [HL.out, p1, p2, p3]; rfl, HB.out⟩
          · go_wp2_with (go_at_call 71; refine (hr.out _ HTr.out).mono ?_; rintro e w' ⟨rfl, hst⟩; have HB := Lib.hid (HB.out.trans (hst.mono HB.out.size)); clear hst)
            go_roundw
            case rel => exact ⟨y + 1, by omega, by go_num, HB.out, Lib.hid fun y' h => by
              rcases Nat.lt_succ_iff_lt_or_eq.1 h with h3 | rfl
              · exact HY.out y' h3
              · exact HR.out.symm⟩
            case measure => simp [intOf]; omega
        · obtain rfl : y = S := by omega
          have HB := Lib.hid hbl
          clear hbl
          go_wp2_with fail
          go_roundw
          case rel => exact ⟨x + 1, by omega, by go_num, HB.out, Lib.hid fun x' h => by
            rcases Nat.lt_succ_iff_lt_or_eq.1 h with h3 | rfl
            · exact HX.out x' h3
            · exact allB_iff.2 HY.out⟩
          case measure => simp [intOf]; omega
    · obtain rfl : x = S := by omega
      have HB := Lib.hid hbl
      clear hbl
      go_wp2_with fail
      go_ret3
      obtain ⟨p1, p2, p3⟩ := fail_none HX.out
      exact ⟨by rw [HL.out, p1, p2, p3]; rfl, HB.out⟩
set_option maxHeartbeats 1000000 in
theorem failure_5 (k S kb c : Nat) (A : Option Addr) (T : Nat → Nat) (w : World) (hL : LaidR w) (hT : U64s w A S T) (hk : k ≤ 3) (hS : S = 2 ^ 2 ^ k) (_hkb : kb < 18446744073709551616) :
    Calls Tryd.prog 23 #[.int .i64 5, .int .i64 k, .int .u64 kb, .slice A S c] w (FailPost S (rvFit 5 kb T) (rvLast S 5) w) := by
  have hS2 := sets_le hk hS
  obtain ⟨b, off, cap, g0, a0, f0, a1, f1, a2, f2, a3, f3, a4, f4, a5, f5⟩ := hL
  have G0 := Lib.hid g0
  have F0 := Lib.hid f5
  have HT := Lib.hid hT
  have HS := Lib.hid hS
  have HL := Lib.hid (show rvLast S 5 = S from rfl)
  have hL1 : 1 ≤ S ∧ S ≤ S := by omega
  clear hT hS f0 f1 f2 f3 f4 f5
  go_enter Tryd.func23, Tryd.ntmps23
  go_wp2_with (go_at_call 21; refine (sets_any k S _ hk HS.out).mono ?_; rintro e w' ⟨rfl, rfl⟩)
  clear g0 a0 a1 a2 a3 a4 a5
  go_loopw [24] (fun xv wr => ∃ x : Nat, x ≤ S ∧ xv = .int .u64 x ∧ Below w.heap.size w wr ∧ Hid (∀ x', x' < x → allB (S) (rvFit 5 kb T x') = true)) (fun xv _ => S - (intOf xv).toNat)
  case atStart => exact ⟨0, Nat.zero_le _, rfl, Below.refl _ _, Lib.hid fun x' h => absurd h (Nat.not_lt_zero _)⟩
  case round =>
    obtain ⟨x, hx, rfl, hbl, HX⟩ := hrel
    by_cases hlt : x < S
    · have HB := Lib.hid hbl
      clear hbl
      go_wp2_with fail
      go_loopw [29] (fun yv wr => ∃ y : Nat, y ≤ S ∧ yv = .int .u64 y ∧ Below w.heap.size w wr ∧ Hid (∀ y', y' < y → rvFit 5 kb T x y' = true)) (fun yv _ => (S) - (intOf yv).toNat)
      case atStart => exact ⟨0, Nat.zero_le _, rfl, HB.out, Lib.hid fun y' h => absurd h (Nat.not_lt_zero _)⟩
      case round =>
        clear HB
        obtain ⟨y, hy, rfl, hbl, HY⟩ := hrel
        by_cases hlty : y < S
        · have g0 := cell_below hbl G0.out
          have f0 := cell_below hbl F0.out
          have HTr := Lib.hid (HT.out.below hbl)
          have HB := Lib.hid hbl
          have HX' := Lib.hid HX.out
          clear hbl
          obtain ⟨r, er⟩ : ∃ r, r = rvFit 5 kb T x y := ⟨_, rfl⟩
          have hr : Hid (∀ W, U64s W A S T → Calls Tryd.prog 72 #[.int .u64 kb, .slice A S c, .int .u64 x, .int .u64 y] W fun e w' => e = .returned (.bool r) ∧ Below W.heap.size W w') := Lib.hid fun W hW => by
            rw [er]; exact drew_below (rv6_any kb x y S c A T W hW hlt hlty (by omega))
          have HR := Lib.hid er
          clear er
          cases r
          · go_wp2_with (go_at_call 72; refine (hr.out _ HTr.out).mono ?_; rintro e w' ⟨rfl, hst⟩; have HB := Lib.hid (HB.out.trans (hst.mono HB.out.size)); clear hst)
            all_goals
              go_ret3
              obtain ⟨p1, p2, p3⟩ := fail_hit hlt hlty HX.out HY.out HR.out.symm
              exact ⟨by rw [HL.out, p1, p2, p3]; rfl, HB.out⟩
          · go_wp2_with (go_at_call 72; refine (hr.out _ HTr.out).mono ?_; rintro e w' ⟨rfl, hst⟩; have HB := Lib.hid (HB.out.trans (hst.mono HB.out.size)); clear hst)
            go_roundw
            case rel => exact ⟨y + 1, by omega, by go_num, HB.out, Lib.hid fun y' h => by
              rcases Nat.lt_succ_iff_lt_or_eq.1 h with h3 | rfl
              · exact HY.out y' h3
              · exact HR.out.symm⟩
            case measure => simp [intOf]; omega
        · obtain rfl : y = S := by omega
          have HB := Lib.hid hbl
          clear hbl
          go_wp2_with fail
          go_roundw
          case rel => exact ⟨x + 1, by omega, by go_num, HB.out, Lib.hid fun x' h => by
            rcases Nat.lt_succ_iff_lt_or_eq.1 h with h3 | rfl
            · exact HX.out x' h3
            · exact allB_iff.2 HY.out⟩
          case measure => simp [intOf]; omega
    · obtain rfl : x = S := by omega
      have HB := Lib.hid hbl
      clear hbl
      go_wp2_with fail
      go_ret3
      obtain ⟨p1, p2, p3⟩ := fail_none HX.out
      exact ⟨by rw [HL.out, p1, p2, p3]; rfl, HB.out⟩
end Go.Proofs.YtlcojpopngdigaaDoor
