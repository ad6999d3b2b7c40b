/-
  Walks: package postulates: holds, at each postulate of update (5 to 8).
-/
import Derived.Test.YtflhngmfcpeamaaDoorProg
import Derived.Test.YtflhngmfcpeamaaDoorBase
import Derived.Test.YtflhngmfcpeamaaDoorPoP
import Derived.Test.YtflhngmfcpeamaaDoorPoA
import Derived.Test.YtflhngmfcpeamaaDoorPoB
import Derived.Test.YtflhngmfcpeamaaDoorPoU
import Derived.Test.YtflhngmfcpeamaaDoorPoV
namespace Go.Proofs.YtflhngmfcpeamaaDoor
open Go.RowKit

set_option maxHeartbeats 1000000 in
theorem holds_4 (k S N c : Nat) (A : Option Addr) (R : Nat → Option Addr) (cc : Nat → Nat) (F : Nat → Nat → Nat) (w : World) (hL : LaidU w) (hM : Mat w A S R (fun _ => S) cc F) (hk : k ≤ 2) (hS : S = 2 ^ 2 ^ k) (hN : S = 2 ^ N) :
    Calls Tryd.prog 36 #[.int .i64 4, .int .i64 k, .slice A S c] w fun e w' => e = .returned (.bool (upAll S 4 F)) ∧ Below w.heap.size w w' := by
  have hS2 := sets_le (by omega) hS
  have hS16 : S ≤ 16 := by rw [hS]; exact Nat.pow_le_pow_right (n := 2) (j := 4) (by decide) (Nat.pow_le_pow_right (n := 2) (j := 2) (by decide) hk)
  obtain ⟨b, off, cap, g0, f0, f1, f2, f3, f4, f5, f6, f7⟩ := hL
  have G0 := Lib.hid g0
  have F0 := Lib.hid f4
  have HM := Lib.hid hM
  have HS := Lib.hid hS
  have HN := Lib.hid hN
  clear hM hS hN f0 f1 f2 f3 f4 f5 f6 f7 g0
  go_enter Tryd.func36, Tryd.ntmps36
  go_wp2_with (go_at_call 27; refine (sets_any k S _ (by omega) HS.out).mono ?_; rintro e w' ⟨rfl, rfl⟩)
  go_loopw [17] (fun kv wr => ∃ ka : Nat, ka ≤ S ∧ kv = .int .u64 ka ∧ Below w.heap.size w wr ∧ Hid (∀ ka', ka' < ka → upRow S 4 F ka' = true)) (fun kv _ => S - (intOf kv).toNat)
  case atStart => exact ⟨0, Nat.zero_le _, rfl, Below.refl _ _, Lib.hid fun x' h => absurd h (Nat.not_lt_zero _)⟩
  case round =>
    obtain ⟨ka, hka, rfl, hbl, HK⟩ := hrel
    by_cases hltk : ka < S
    · have HB := Lib.hid hbl
      clear hbl
      go_wp2_with fail
      go_loopw [21] (fun xv wr => ∃ x : Nat, x ≤ S ∧ xv = .int .u64 x ∧ Below w.heap.size w wr ∧ Hid (∀ x', x' < x → allB S (upIn 4 F ka x') = true)) (fun xv _ => S - (intOf xv).toNat)
      case atStart => exact ⟨0, Nat.zero_le _, rfl, HB.out, Lib.hid fun x' h => absurd h (Nat.not_lt_zero _)⟩
      case round =>
        clear HB
        obtain ⟨x, hx, rfl, hbl, HX⟩ := hrel
        by_cases hltx : x < S
        · have HB := Lib.hid hbl
          clear hbl
          go_wp2_with fail
          go_loopw [25] (fun zv wr => ∃ z : Nat, z ≤ S ∧ zv = .int .u64 z ∧ Below w.heap.size w wr ∧ Hid (∀ z', z' < z → upIn 4 F ka x z' = true)) (fun zv _ => S - (intOf zv).toNat)
          case atStart => exact ⟨0, Nat.zero_le _, rfl, HB.out, Lib.hid fun z' h => absurd h (Nat.not_lt_zero _)⟩
          case round =>
            clear HB
            obtain ⟨z, hz, rfl, hbl, HZ⟩ := hrel
            by_cases hltz : z < S
            · have g0 := cell_below hbl G0.out
              have f0 := cell_below hbl F0.out
              have HMr := Lib.hid (HM.out.below hbl)
              have HB := Lib.hid hbl
              clear hbl
              obtain ⟨r, er⟩ : ∃ r, r = upIn 4 F ka x z := ⟨_, rfl⟩
              have hr : Hid (∀ W, Mat W A S R (fun _ => S) cc F → Calls Tryd.prog 74 #[.slice A S c, .int .u64 ka, .int .u64 (0 : Nat), .int .u64 x, .int .u64 z] W fun e w' => e = .returned (.bool r) ∧ Below W.heap.size W w') := Lib.hid fun W hW => by
                rw [er]; exact drew_below (up5_any ka 0 x z S c A R cc F W hW hltk hltx hltz hS16)
              have HR := Lib.hid er
              clear er
              cases r
              · go_wp2_with (go_at_call 74; refine (hr.out _ HMr.out).mono ?_; rintro e w' ⟨rfl, hst⟩; have HB := Lib.hid (HB.out.trans (hst.mono HB.out.size)); clear hst)
                all_goals
                  go_ret
                  exact ⟨by rw [up_no hltk hltx hltz HR.out.symm]; rfl, HB.out⟩
              · go_wp2_with (go_at_call 74; refine (hr.out _ HMr.out).mono ?_; rintro e w' ⟨rfl, hst⟩; have HB := Lib.hid (HB.out.trans (hst.mono HB.out.size)); clear hst)
                go_roundw
                case rel => exact ⟨z + 1, by omega, by go_num, HB.out, Lib.hid fun z' h => by
                  rcases Nat.lt_succ_iff_lt_or_eq.1 h with h3 | rfl
                  · exact HZ.out z' h3
                  · exact HR.out.symm⟩
                case measure => simp [intOf]; omega
            · obtain rfl : z = S := by omega
              have HB := Lib.hid hbl
              clear hbl
              go_wp2_with fail
              go_roundw
              case rel => exact ⟨x + 1, by omega, by go_num, HB.out, Lib.hid fun x' h => by
                rcases Nat.lt_succ_iff_lt_or_eq.1 h with h3 | rfl
                · exact HX.out x' h3
                · exact allB_iff.2 HZ.out⟩
              case measure => simp [intOf]; omega
        · obtain rfl : x = S := by omega
          have HB := Lib.hid hbl
          clear hbl
          go_wp2_with fail
          go_roundw
          case rel => exact ⟨ka + 1, by omega, by go_num, HB.out, Lib.hid fun x' h => by
            rcases Nat.lt_succ_iff_lt_or_eq.1 h with h3 | rfl
            · exact HK.out x' h3
            · exact allB_iff.2 HX.out⟩
          case measure => simp [intOf]; omega
    · obtain rfl : ka = S := by omega
      have HB := Lib.hid hbl
      clear hbl
      go_wp2_with fail
      go_ret
      exact ⟨by rw [show upAll ka 4 F = true from allB_iff.2 HK.out]; rfl, HB.out⟩
set_option maxHeartbeats 1000000 in
theorem holds_5 (k S N c : Nat) (A : Option Addr) (R : Nat → Option Addr) (cc : Nat → Nat) (F : Nat → Nat → Nat) (w : World) (hL : LaidU w) (hM : Mat w A S R (fun _ => S) cc F) (hk : k ≤ 2) (hS : S = 2 ^ 2 ^ k) (hN : S = 2 ^ N) :
    Calls Tryd.prog 36 #[.int .i64 5, .int .i64 k, .slice A S c] w fun e w' => e = .returned (.bool (upAll S 5 F)) ∧ Below w.heap.size w w' := by
  have hS2 := sets_le (by omega) hS
  have hS16 : S ≤ 16 := by rw [hS]; exact Nat.pow_le_pow_right (n := 2) (j := 4) (by decide) (Nat.pow_le_pow_right (n := 2) (j := 2) (by decide) hk)
  obtain ⟨b, off, cap, g0, f0, f1, f2, f3, f4, f5, f6, f7⟩ := hL
  have G0 := Lib.hid g0
  have F0 := Lib.hid f5
  have HM := Lib.hid hM
  have HS := Lib.hid hS
  have HN := Lib.hid hN
  clear hM hS hN f0 f1 f2 f3 f4 f5 f6 f7 g0
  go_enter Tryd.func36, Tryd.ntmps36
  go_wp2_with (go_at_call 27; refine (sets_any k S _ (by omega) HS.out).mono ?_; rintro e w' ⟨rfl, rfl⟩)
  go_loopw [17] (fun kv wr => ∃ ka : Nat, ka ≤ S ∧ kv = .int .u64 ka ∧ Below w.heap.size w wr ∧ Hid (∀ ka', ka' < ka → upRow S 5 F ka' = true)) (fun kv _ => S - (intOf kv).toNat)
  case atStart => exact ⟨0, Nat.zero_le _, rfl, Below.refl _ _, Lib.hid fun x' h => absurd h (Nat.not_lt_zero _)⟩
  case round =>
    obtain ⟨ka, hka, rfl, hbl, HK⟩ := hrel
    by_cases hltk : ka < S
    · have HB := Lib.hid hbl
      clear hbl
      go_wp2_with fail
      go_loopw [21] (fun xv wr => ∃ x : Nat, x ≤ S ∧ xv = .int .u64 x ∧ Below w.heap.size w wr ∧ Hid (∀ x', x' < x → allB S (upIn 5 F ka x') = true)) (fun xv _ => S - (intOf xv).toNat)
      case atStart => exact ⟨0, Nat.zero_le _, rfl, HB.out, Lib.hid fun x' h => absurd h (Nat.not_lt_zero _)⟩
      case round =>
        clear HB
        obtain ⟨x, hx, rfl, hbl, HX⟩ := hrel
        by_cases hltx : x < S
        · have HB := Lib.hid hbl
          clear hbl
          go_wp2_with fail
          go_loopw [25] (fun zv wr => ∃ z : Nat, z ≤ S ∧ zv = .int .u64 z ∧ Below w.heap.size w wr ∧ Hid (∀ z', z' < z → upIn 5 F ka x z' = true)) (fun zv _ => S - (intOf zv).toNat)
          case atStart => exact ⟨0, Nat.zero_le _, rfl, HB.out, Lib.hid fun z' h => absurd h (Nat.not_lt_zero _)⟩
          case round =>
            clear HB
            obtain ⟨z, hz, rfl, hbl, HZ⟩ := hrel
            by_cases hltz : z < S
            · have g0 := cell_below hbl G0.out
              have f0 := cell_below hbl F0.out
              have HMr := Lib.hid (HM.out.below hbl)
              have HB := Lib.hid hbl
              clear hbl
              obtain ⟨r, er⟩ : ∃ r, r = upIn 5 F ka x z := ⟨_, rfl⟩
              have hr : Hid (∀ W, Mat W A S R (fun _ => S) cc F → Calls Tryd.prog 75 #[.slice A S c, .int .u64 ka, .int .u64 (0 : Nat), .int .u64 x, .int .u64 z] W fun e w' => e = .returned (.bool r) ∧ Below W.heap.size W w') := Lib.hid fun W hW => by
                rw [er]; exact drew_below (up6_any ka 0 x z S c A R cc F W hW hltk hltx hltz hS16)
              have HR := Lib.hid er
              clear er
              cases r
              · go_wp2_with (go_at_call 75; refine (hr.out _ HMr.out).mono ?_; rintro e w' ⟨rfl, hst⟩; have HB := Lib.hid (HB.out.trans (hst.mono HB.out.size)); clear hst)
                all_goals
                  go_ret
                  exact ⟨by rw [up_no hltk hltx hltz HR.out.symm]; rfl, HB.out⟩
              · go_wp2_with (go_at_call 75; refine (hr.out _ HMr.out).mono ?_; rintro e w' ⟨rfl, hst⟩; have HB := Lib.hid (HB.out.trans (hst.mono HB.out.size)); clear hst)
                go_roundw
                case rel => exact ⟨z + 1, by omega, by go_num, HB.out, Lib.hid fun z' h => by
                  rcases Nat.lt_succ_iff_lt_or_eq.1 h with h3 | rfl
                  · exact HZ.out z' h3
                  · exact HR.out.symm⟩
                case measure => simp [intOf]; omega
            · obtain rfl : z = S := by omega
              have HB := Lib.hid hbl
              clear hbl
              go_wp2_with fail
              go_roundw
              case rel => exact ⟨x + 1, by omega, by go_num, HB.out, Lib.hid fun x' h => by
                rcases Nat.lt_succ_iff_lt_or_eq.1 h with h3 | rfl
                · exact HX.out x' h3
                · exact allB_iff.2 HZ.out⟩
              case measure => simp [intOf]; omega
        · obtain rfl : x = S := by omega
          have HB := Lib.hid hbl
          clear hbl
          go_wp2_with fail
          go_roundw
          case rel => exact ⟨ka + 1, by omega, by go_num, HB.out, Lib.hid fun x' h => by
            rcases Nat.lt_succ_iff_lt_or_eq.1 h with h3 | rfl
            · exact HK.out x' h3
            · exact allB_iff.2 HX.out⟩
          case measure => simp [intOf]; omega
    · obtain rfl : ka = S := by omega
      have HB := Lib.hid hbl
      clear hbl
      go_wp2_with fail
      go_ret
      exact ⟨by rw [show upAll ka 5 F = true from allB_iff.2 HK.out]; rfl, HB.out⟩
set_option maxHeartbeats 1000000 in
theorem holds_6 (k S N c : Nat) (A : Option Addr) (R : Nat → Option Addr) (cc : Nat → Nat) (F : Nat → Nat → Nat) (w : World) (hL : LaidU w) (hM : Mat w A S R (fun _ => S) cc F) (hk : k ≤ 2) (hS : S = 2 ^ 2 ^ k) (hN : S = 2 ^ N) :
    Calls Tryd.prog 36 #[.int .i64 6, .int .i64 k, .slice A S c] w fun e w' => e = .returned (.bool (upAll S 6 F)) ∧ Below w.heap.size w w' := by
  have hS2 := sets_le (by omega) hS
  have hS16 : S ≤ 16 := by rw [hS]; exact Nat.pow_le_pow_right (n := 2) (j := 4) (by decide) (Nat.pow_le_pow_right (n := 2) (j := 2) (by decide) hk)
  obtain ⟨b, off, cap, g0, f0, f1, f2, f3, f4, f5, f6, f7⟩ := hL
  have G0 := Lib.hid g0
  have F0 := Lib.hid f6
  have HM := Lib.hid hM
  have HS := Lib.hid hS
  have HN := Lib.hid hN
  clear hM hS hN f0 f1 f2 f3 f4 f5 f6 f7 g0
  go_enter Tryd.func36, Tryd.ntmps36
  go_wp2_with (go_at_call 27; refine (sets_any k S _ (by omega) HS.out).mono ?_; rintro e w' ⟨rfl, rfl⟩)
  go_loopw [17] (fun kv wr => ∃ ka : Nat, ka ≤ S ∧ kv = .int .u64 ka ∧ Below w.heap.size w wr ∧ Hid (∀ ka', ka' < ka → upRow S 6 F ka' = true)) (fun kv _ => S - (intOf kv).toNat)
  case atStart => exact ⟨0, Nat.zero_le _, rfl, Below.refl _ _, Lib.hid fun x' h => absurd h (Nat.not_lt_zero _)⟩
  case round =>
    obtain ⟨ka, hka, rfl, hbl, HK⟩ := hrel
    by_cases hltk : ka < S
    · have HB := Lib.hid hbl
      clear hbl
      go_wp2_with fail
      go_loopw [21] (fun xv wr => ∃ x : Nat, x ≤ S ∧ xv = .int .u64 x ∧ Below w.heap.size w wr ∧ Hid (∀ x', x' < x → allB S (upIn 6 F ka x') = true)) (fun xv _ => S - (intOf xv).toNat)
      case atStart => exact ⟨0, Nat.zero_le _, rfl, HB.out, Lib.hid fun x' h => absurd h (Nat.not_lt_zero _)⟩
      case round =>
        clear HB
        obtain ⟨x, hx, rfl, hbl, HX⟩ := hrel
        by_cases hltx : x < S
        · have HB := Lib.hid hbl
          clear hbl
          go_wp2_with fail
          go_loopw [25] (fun zv wr => ∃ z : Nat, z ≤ S ∧ zv = .int .u64 z ∧ Below w.heap.size w wr ∧ Hid (∀ z', z' < z → upIn 6 F ka x z' = true)) (fun zv _ => S - (intOf zv).toNat)
          case atStart => exact ⟨0, Nat.zero_le _, rfl, HB.out, Lib.hid fun z' h => absurd h (Nat.not_lt_zero _)⟩
          case round =>
            clear HB
            obtain ⟨z, hz, rfl, hbl, HZ⟩ := hrel
            by_cases hltz : z < S
            · have g0 := cell_below hbl G0.out
              have f0 := cell_below hbl F0.out
              have HMr := Lib.hid (HM.out.below hbl)
              have HB := Lib.hid hbl
              clear hbl
              obtain ⟨r, er⟩ : ∃ r, r = upIn 6 F ka x z := ⟨_, rfl⟩
              have hr : Hid (∀ W, Mat W A S R (fun _ => S) cc F → Calls Tryd.prog 76 #[.slice A S c, .int .u64 ka, .int .u64 (0 : Nat), .int .u64 x, .int .u64 z] W fun e w' => e = .returned (.bool r) ∧ Below W.heap.size W w') := Lib.hid fun W hW => by
                rw [er]; exact drew_below (up7_any ka 0 x z S c A R cc F W N HN.out hW hltk hltx hltz hS16)
              have HR := Lib.hid er
              clear er
              cases r
              · go_wp2_with (go_at_call 76; refine (hr.out _ HMr.out).mono ?_; rintro e w' ⟨rfl, hst⟩; have HB := Lib.hid (HB.out.trans (hst.mono HB.out.size)); clear hst)
                all_goals
                  go_ret
                  exact ⟨by rw [up_no hltk hltx hltz HR.out.symm]; rfl, HB.out⟩
              · go_wp2_with (go_at_call 76; refine (hr.out _ HMr.out).mono ?_; rintro e w' ⟨rfl, hst⟩; have HB := Lib.hid (HB.out.trans (hst.mono HB.out.size)); clear hst)
                go_roundw
                case rel => exact ⟨z + 1, by omega, by go_num, HB.out, Lib.hid fun z' h => by
                  rcases Nat.lt_succ_iff_lt_or_eq.1 h with h3 | rfl
                  · exact HZ.out z' h3
                  · exact HR.out.symm⟩
                case measure => simp [intOf]; omega
            · obtain rfl : z = S := by omega
              have HB := Lib.hid hbl
              clear hbl
              go_wp2_with fail
              go_roundw
              case rel => exact ⟨x + 1, by omega, by go_num, HB.out, Lib.hid fun x' h => by
                rcases Nat.lt_succ_iff_lt_or_eq.1 h with h3 | rfl
                · exact HX.out x' h3
                · exact allB_iff.2 HZ.out⟩
              case measure => simp [intOf]; omega
        · obtain rfl : x = S := by omega
          have HB := Lib.hid hbl
          clear hbl
          go_wp2_with fail
          go_roundw
          case rel => exact ⟨ka + 1, by omega, by go_num, HB.out, Lib.hid fun x' h => by
            rcases Nat.lt_succ_iff_lt_or_eq.1 h with h3 | rfl
            · exact HK.out x' h3
            · exact allB_iff.2 HX.out⟩
          case measure => simp [intOf]; omega
    · obtain rfl : ka = S := by omega
      have HB := Lib.hid hbl
      clear hbl
      go_wp2_with fail
      go_ret
      exact ⟨by rw [show upAll ka 6 F = true from allB_iff.2 HK.out]; rfl, HB.out⟩
set_option maxHeartbeats 1000000 in
theorem holds_7 (k S N c : Nat) (A : Option Addr) (R : Nat → Option Addr) (cc : Nat → Nat) (F : Nat → Nat → Nat) (w : World) (hL : LaidU w) (hM : Mat w A S R (fun _ => S) cc F) (hk : k ≤ 2) (hS : S = 2 ^ 2 ^ k) (hN : S = 2 ^ N) :
    Calls Tryd.prog 36 #[.int .i64 7, .int .i64 k, .slice A S c] w fun e w' => e = .returned (.bool (upAll S 7 F)) ∧ Below w.heap.size w w' := by
  have hS2 := sets_le (by omega) hS
  have hS16 : S ≤ 16 := by rw [hS]; exact Nat.pow_le_pow_right (n := 2) (j := 4) (by decide) (Nat.pow_le_pow_right (n := 2) (j := 2) (by decide) hk)
  obtain ⟨b, off, cap, g0, f0, f1, f2, f3, f4, f5, f6, f7⟩ := hL
  have G0 := Lib.hid g0
  have F0 := Lib.hid f7
  have HM := Lib.hid hM
  have HS := Lib.hid hS
  have HN := Lib.hid hN
  clear hM hS hN f0 f1 f2 f3 f4 f5 f6 f7 g0
  go_enter Tryd.func36, Tryd.ntmps36
  go_wp2_with (go_at_call 27; refine (sets_any k S _ (by omega) HS.out).mono ?_; rintro e w' ⟨rfl, rfl⟩)
  go_loopw [17] (fun kv wr => ∃ ka : Nat, ka ≤ S ∧ kv = .int .u64 ka ∧ Below w.heap.size w wr ∧ Hid (∀ ka', ka' < ka → upRow S 7 F ka' = true)) (fun kv _ => S - (intOf kv).toNat)
  case atStart => exact ⟨0, Nat.zero_le _, rfl, Below.refl _ _, Lib.hid fun x' h => absurd h (Nat.not_lt_zero _)⟩
  case round =>
    obtain ⟨ka, hka, rfl, hbl, HK⟩ := hrel
    by_cases hltk : ka < S
    · have HB := Lib.hid hbl
      clear hbl
      go_wp2_with fail
      go_loopw [21] (fun xv wr => ∃ x : Nat, x ≤ S ∧ xv = .int .u64 x ∧ Below w.heap.size w wr ∧ Hid (∀ x', x' < x → allB S (upIn 7 F ka x') = true)) (fun xv _ => S - (intOf xv).toNat)
      case atStart => exact ⟨0, Nat.zero_le _, rfl, HB.out, Lib.hid fun x' h => absurd h (Nat.not_lt_zero _)⟩
      case round =>
        clear HB
        obtain ⟨x, hx, rfl, hbl, HX⟩ := hrel
        by_cases hltx : x < S
        · have HB := Lib.hid hbl
          clear hbl
          go_wp2_with fail
          go_loopw [25] (fun zv wr => ∃ z : Nat, z ≤ S ∧ zv = .int .u64 z ∧ Below w.heap.size w wr ∧ Hid (∀ z', z' < z → upIn 7 F ka x z' = true)) (fun zv _ => S - (intOf zv).toNat)
          case atStart => exact ⟨0, Nat.zero_le _, rfl, HB.out, Lib.hid fun z' h => absurd h (Nat.not_lt_zero _)⟩
          case round =>
            clear HB
            obtain ⟨z, hz, rfl, hbl, HZ⟩ := hrel
            by_cases hltz : z < S
            · have g0 := cell_below hbl G0.out
              have f0 := cell_below hbl F0.out
              have HMr := Lib.hid (HM.out.below hbl)
              have HB := Lib.hid hbl
              clear hbl
              obtain ⟨r, er⟩ : ∃ r, r = upIn 7 F ka x z := ⟨_, rfl⟩
              have hr : Hid (∀ W, Mat W A S R (fun _ => S) cc F → Calls Tryd.prog 78 #[.slice A S c, .int .u64 ka, .int .u64 z, .int .u64 x, .int .u64 (0 : Nat)] W fun e w' => e = .returned (.bool r) ∧ Below W.heap.size W w') := Lib.hid fun W hW => by
                rw [er]; exact drew_below (up8_any ka z x 0 S c A R cc F W N HN.out hW hltk hltz hltx hS16)
              have HR := Lib.hid er
              clear er
              cases r
              · go_wp2_with (go_at_call 78; refine (hr.out _ HMr.out).mono ?_; rintro e w' ⟨rfl, hst⟩; have HB := Lib.hid (HB.out.trans (hst.mono HB.out.size)); clear hst)
                all_goals
                  go_ret
                  exact ⟨by rw [up_no hltk hltx hltz HR.out.symm]; rfl, HB.out⟩
              · go_wp2_with (go_at_call 78; refine (hr.out _ HMr.out).mono ?_; rintro e w' ⟨rfl, hst⟩; have HB := Lib.hid (HB.out.trans (hst.mono HB.out.size)); clear hst)
                go_roundw
                case rel => exact ⟨z + 1, by omega, by go_num, HB.out, Lib.hid fun z' h => by
                  rcases Nat.lt_succ_iff_lt_or_eq.1 h with h3 | rfl
                  · exact HZ.out z' h3
                  · exact HR.out.symm⟩
                case measure => simp [intOf]; omega
            · obtain rfl : z = S := by omega
              have HB := Lib.hid hbl
              clear hbl
              go_wp2_with fail
              go_roundw
              case rel => exact ⟨x + 1, by omega, by go_num, HB.out, Lib.hid fun x' h => by
                rcases Nat.lt_succ_iff_lt_or_eq.1 h with h3 | rfl
                · exact HX.out x' h3
                · exact allB_iff.2 HZ.out⟩
              case measure => simp [intOf]; omega
        · obtain rfl : x = S := by omega
          have HB := Lib.hid hbl
          clear hbl
          go_wp2_with fail
          go_roundw
          case rel => exact ⟨ka + 1, by omega, by go_num, HB.out, Lib.hid fun x' h => by
            rcases Nat.lt_succ_iff_lt_or_eq.1 h with h3 | rfl
            · exact HK.out x' h3
            · exact allB_iff.2 HX.out⟩
          case measure => simp [intOf]; omega
    · obtain rfl : ka = S := by omega
      have HB := Lib.hid hbl
      clear hbl
      go_wp2_with fail
      go_ret
      exact ⟨by rw [show upAll ka 7 F = true from allB_iff.2 HK.out]; rfl, HB.out⟩
theorem holds_any (i k S N c : Nat) (A : Option Addr) (R : Nat → Option Addr) (cc : Nat → Nat) (F : Nat → Nat → Nat) (w : World) (hi : i < 8) (hL : LaidU w) (hM : Mat w A S R (fun _ => S) cc F) (hk : k ≤ 2) (hS : S = 2 ^ 2 ^ k) (hN : S = 2 ^ N) :
    Calls Tryd.prog 36 #[.int .i64 i, .int .i64 k, .slice A S c] w fun e w' => e = .returned (.bool (upAll S i F)) ∧ Below w.heap.size w w' := by
  have h : i = 0 ∨ i = 1 ∨ i = 2 ∨ i = 3 ∨ i = 4 ∨ i = 5 ∨ i = 6 ∨ i = 7 := by omega
  rcases h with rfl | rfl | rfl | rfl | rfl | rfl | rfl | rfl
  · exact holds_0 k S N c A R cc F w hL hM hk hS hN
  · exact holds_1 k S N c A R cc F w hL hM hk hS hN
  · exact holds_2 k S N c A R cc F w hL hM hk hS hN
  · exact holds_3 k S N c A R cc F w hL hM hk hS hN
  · exact holds_4 k S N c A R cc F w hL hM hk hS hN
  · exact holds_5 k S N c A R cc F w hL hM hk hS hN
  · exact holds_6 k S N c A R cc F w hL hM hk hS hN
  · exact holds_7 k S N c A R cc F w hL hM hk hS hN
end Go.Proofs.YtflhngmfcpeamaaDoor
