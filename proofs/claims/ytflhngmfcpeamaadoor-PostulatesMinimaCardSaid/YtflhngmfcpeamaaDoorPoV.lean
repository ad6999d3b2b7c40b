/-
  Walks: package postulates: holds, at each postulate of update (1 to 4).
-/
import Derived.Test.YtflhngmfcpeamaaDoorProg
import Derived.Test.YtflhngmfcpeamaaDoorBase
import Derived.Test.YtflhngmfcpeamaaDoorPoP
import Derived.Test.YtflhngmfcpeamaaDoorPoA
import Derived.Test.YtflhngmfcpeamaaDoorPoB
import Derived.Test.YtflhngmfcpeamaaDoorPoU
namespace Go.Proofs.YtflhngmfcpeamaaDoor
open Go.RowKit

/-- What the table of the postulates of update holds. -/
def LaidU (w : World) : Prop := ∃ b off cap, w.cell? ⟨1, 0, none⟩ = some (.slice (some ⟨b, off, none⟩) 8 cap)
  ∧ w.cell? ⟨b, off, none⟩ = some (.func (.func 70) #[] #[])
  ∧ w.cell? ⟨b, off + 1, none⟩ = some (.func (.func 71) #[] #[])
  ∧ w.cell? ⟨b, off + 2, none⟩ = some (.func (.func 72) #[] #[])
  ∧ w.cell? ⟨b, off + 3, none⟩ = some (.func (.func 73) #[] #[])
  ∧ w.cell? ⟨b, off + 4, none⟩ = some (.func (.func 74) #[] #[])
  ∧ w.cell? ⟨b, off + 5, none⟩ = some (.func (.func 75) #[] #[])
  ∧ w.cell? ⟨b, off + 6, none⟩ = some (.func (.func 76) #[] #[])
  ∧ w.cell? ⟨b, off + 7, none⟩ = some (.func (.func 78) #[] #[])
theorem LaidU.below {w w' : World} (h : LaidU w) (hb : Below w.heap.size w w') : LaidU w' := by
  obtain ⟨b, off, cap, g0, f0, f1, f2, f3, f4, f5, f6, f7⟩ := h
  exact ⟨b, off, cap, cell_below hb g0, cell_below hb f0, cell_below hb f1, cell_below hb f2, cell_below hb f3, cell_below hb f4, cell_below hb f5, cell_below hb f6, cell_below hb f7⟩
def upIn (i : Nat) (F : Nat → Nat → Nat) (k x z : Nat) : Bool := if i = 7 then upFit 7 F k z x 0 else upFit i F k 0 x z
def upRow (S i : Nat) (F : Nat → Nat → Nat) (k : Nat) : Bool := allB S fun x => allB S (upIn i F k x)
/-- Postulate i holds for all sets. -/
def upAll (S i : Nat) (F : Nat → Nat → Nat) : Bool := allB S (upRow S i F)
theorem up_no {S i k x z : Nat} {F : Nat → Nat → Nat} (hk : k < S) (hx : x < S) (hz : z < S) (h : upIn i F k x z = false) : upAll S i F = false :=
  not_all hk (not_all (p := fun x => allB S (upIn i F k x)) hx (not_all hz h))

set_option maxHeartbeats 1000000 in
theorem holds_0 (k S N c : Nat) (A : Option Addr) (R : Nat → Option Addr) (cc : Nat → Nat) (F : Nat → Nat → Nat) (w : World) (hL : LaidU w) (hM : Mat w A S R (fun _ => S) cc F) (hk : k ≤ 2) (hS : S = 2 ^ 2 ^ k) (hN : S = 2 ^ N) :
    Calls Tryd.prog 36 #[.int .i64 0, .int .i64 k, .slice A S c] w fun e w' => e = .returned (.bool (upAll S 0 F)) ∧ Below w.heap.size w w' := by
  have hS2 := sets_le (by omega) hS
  have hS16 : S ≤ 16 := by rw [hS]; exact Nat.pow_le_pow_right (n := 2) (j := 4) (by decide) (Nat.pow_le_pow_right (n := 2) (j := 2) (by decide) hk)
  obtain ⟨b, off, cap, g0, f0, f1, f2, f3, f4, f5, f6, f7⟩ := hL
  have G0 := Lib.hid g0
  have F0 := Lib.hid f0
  have HM := Lib.hid hM
  have HS := Lib.hid hS
  have HN := Lib.hid hN
  clear hM hS hN f0 f1 f2 f3 f4 f5 f6 f7 g0
  go_enter Tryd.func36, Tryd.ntmps36
  go_wp2_with (go_at_call 27; refine (sets_any k S _ (by omega) HS.out).mono ?_; rintro e w' ⟨rfl, rfl⟩)
  go_loopw [17] (fun kv wr => ∃ ka : Nat, ka ≤ S ∧ kv = .int .u64 ka ∧ Below w.heap.size w wr ∧ Hid (∀ ka', ka' < ka → upRow S 0 F ka' = true)) (fun kv _ => S - (intOf kv).toNat)
  case atStart => exact ⟨0, Nat.zero_le _, rfl, Below.refl _ _, Lib.hid fun x' h => absurd h (Nat.not_lt_zero _)⟩
  case round =>
    obtain ⟨ka, hka, rfl, hbl, HK⟩ := hrel
    by_cases hltk : ka < S
    · have HB := Lib.hid hbl
      clear hbl
      go_wp2_with fail
      go_loopw [21] (fun xv wr => ∃ x : Nat, x ≤ S ∧ xv = .int .u64 x ∧ Below w.heap.size w wr ∧ Hid (∀ x', x' < x → allB S (upIn 0 F ka x') = true)) (fun xv _ => S - (intOf xv).toNat)
      case atStart => exact ⟨0, Nat.zero_le _, rfl, HB.out, Lib.hid fun x' h => absurd h (Nat.not_lt_zero _)⟩
      case round =>
        clear HB
        obtain ⟨x, hx, rfl, hbl, HX⟩ := hrel
        by_cases hltx : x < S
        · have HB := Lib.hid hbl
          clear hbl
          go_wp2_with fail
          go_loopw [25] (fun zv wr => ∃ z : Nat, z ≤ S ∧ zv = .int .u64 z ∧ Below w.heap.size w wr ∧ Hid (∀ z', z' < z → upIn 0 F ka x z' = true)) (fun zv _ => S - (intOf zv).toNat)
          case atStart => exact ⟨0, Nat.zero_le _, rfl, HB.out, Lib.hid fun z' h => absurd h (Nat.not_lt_zero _)⟩
          case round =>
            clear HB
            obtain ⟨z, hz, rfl, hbl, HZ⟩ := hrel
            by_cases hltz : z < S
            · have g0 := cell_below hbl G0.out
              have f0 := cell_below hbl F0.out
              have HMr := Lib.hid (HM.out.below hbl)
              have HB := Lib.hid hbl
              clear hbl
              obtain ⟨r, er⟩ : ∃ r, r = upIn 0 F ka x z := ⟨_, rfl⟩
              have hr : Hid (∀ W, Mat W A S R (fun _ => S) cc F → Calls Tryd.prog 70 #[.slice A S c, .int .u64 ka, .int .u64 (0 : Nat), .int .u64 x, .int .u64 z] W fun e w' => e = .returned (.bool r) ∧ Below W.heap.size W w') := Lib.hid fun W hW => by
                rw [er]; exact same_below (up1_any ka 0 x z S c A R cc F W hW hltk hltx hS16)
              have HR := Lib.hid er
              clear er
              cases r
              · go_wp2_with (go_at_call 70; refine (hr.out _ HMr.out).mono ?_; rintro e w' ⟨rfl, hst⟩; have HB := Lib.hid (HB.out.trans (hst.mono HB.out.size)); clear hst)
                all_goals
                  go_ret
                  exact ⟨by rw [up_no hltk hltx hltz HR.out.symm]; rfl, HB.out⟩
              · go_wp2_with (go_at_call 70; refine (hr.out _ HMr.out).mono ?_; rintro e w' ⟨rfl, hst⟩; have HB := Lib.hid (HB.out.trans (hst.mono HB.out.size)); clear hst)
                go_roundw
                case rel => exact ⟨z + 1, by omega, by go_num, HB.out, Lib.hid fun z' h => by
                  rcases Nat.lt_succ_iff_lt_or_eq.1 h with h3 | rfl
                  · exact HZ.out z' h3
                  · exact HR.out.symm⟩
                case measure => simp [intOf]; omega
            · obtain rfl : z = S := by omega
              have HB := Lib.hid hbl
              clear hbl
              go_wp2_with fail
              go_roundw
              case rel => exact ⟨x + 1, by omega, by go_num, HB.out, Lib.hid fun x' h => by
                rcases Nat.lt_succ_iff_lt_or_eq.1 h with h3 | rfl
                · exact HX.out x' h3
                · exact allB_iff.2 HZ.out⟩
              case measure => simp [intOf]; omega
        · obtain rfl : x = S := by omega
          have HB := Lib.hid hbl
          clear hbl
          go_wp2_with fail
          go_roundw
          case rel => exact ⟨ka + 1, by omega, by go_num, HB.out, Lib.hid fun x' h => by
            rcases Nat.lt_succ_iff_lt_or_eq.1 h with h3 | rfl
            · exact HK.out x' h3
            · exact allB_iff.2 HX.out⟩
          case measure => simp [intOf]; omega
    · obtain rfl : ka = S := by omega
      have HB := Lib.hid hbl
      clear hbl
      go_wp2_with fail
      go_ret
      exact ⟨by rw [show upAll ka 0 F = true from allB_iff.2 HK.out]; rfl, HB.out⟩
set_option maxHeartbeats 1000000 in
theorem holds_1 (k S N c : Nat) (A : Option Addr) (R : Nat → Option Addr) (cc : Nat → Nat) (F : Nat → Nat → Nat) (w : World) (hL : LaidU w) (hM : Mat w A S R (fun _ => S) cc F) (hk : k ≤ 2) (hS : S = 2 ^ 2 ^ k) (hN : S = 2 ^ N) :
    Calls Tryd.prog 36 #[.int .i64 1, .int .i64 k, .slice A S c] w fun e w' => e = .returned (.bool (upAll S 1 F)) ∧ Below w.heap.size w w' := by
  have hS2 := sets_le (by omega) hS
  have hS16 : S ≤ 16 := by rw [hS]; exact Nat.pow_le_pow_right (n := 2) (j := 4) (by decide) (Nat.pow_le_pow_right (n := 2) (j := 2) (by decide) hk)
  obtain ⟨b, off, cap, g0, f0, f1, f2, f3, f4, f5, f6, f7⟩ := hL
  have G0 := Lib.hid g0
  have F0 := Lib.hid f1
  have HM := Lib.hid hM
  have HS := Lib.hid hS
  have HN := Lib.hid hN
  clear hM hS hN f0 f1 f2 f3 f4 f5 f6 f7 g0
  go_enter Tryd.func36, Tryd.ntmps36
  go_wp2_with (go_at_call 27; refine (sets_any k S _ (by omega) HS.out).mono ?_; rintro e w' ⟨rfl, rfl⟩)
  go_loopw [17] (fun kv wr => ∃ ka : Nat, ka ≤ S ∧ kv = .int .u64 ka ∧ Below w.heap.size w wr ∧ Hid (∀ ka', ka' < ka → upRow S 1 F ka' = true)) (fun kv _ => S - (intOf kv).toNat)
  case atStart => exact ⟨0, Nat.zero_le _, rfl, Below.refl _ _, Lib.hid fun x' h => absurd h (Nat.not_lt_zero _)⟩
  case round =>
    obtain ⟨ka, hka, rfl, hbl, HK⟩ := hrel
    by_cases hltk : ka < S
    · have HB := Lib.hid hbl
      clear hbl
      go_wp2_with fail
      go_loopw [21] (fun xv wr => ∃ x : Nat, x ≤ S ∧ xv = .int .u64 x ∧ Below w.heap.size w wr ∧ Hid (∀ x', x' < x → allB S (upIn 1 F ka x') = true)) (fun xv _ => S - (intOf xv).toNat)
      case atStart => exact ⟨0, Nat.zero_le _, rfl, HB.out, Lib.hid fun x' h => absurd h (Nat.not_lt_zero _)⟩
      case round =>
        clear HB
        obtain ⟨x, hx, rfl, hbl, HX⟩ := hrel
        by_cases hltx : x < S
        · have HB := Lib.hid hbl
          clear hbl
          go_wp2_with fail
          go_loopw [25] (fun zv wr => ∃ z : Nat, z ≤ S ∧ zv = .int .u64 z ∧ Below w.heap.size w wr ∧ Hid (∀ z', z' < z → upIn 1 F ka x z' = true)) (fun zv _ => S - (intOf zv).toNat)
          case atStart => exact ⟨0, Nat.zero_le _, rfl, HB.out, Lib.hid fun z' h => absurd h (Nat.not_lt_zero _)⟩
          case round =>
            clear HB
            obtain ⟨z, hz, rfl, hbl, HZ⟩ := hrel
            by_cases hltz : z < S
            · have g0 := cell_below hbl G0.out
              have f0 := cell_below hbl F0.out
              have HMr := Lib.hid (HM.out.below hbl)
              have HB := Lib.hid hbl
              clear hbl
              obtain ⟨r, er⟩ : ∃ r, r = upIn 1 F ka x z := ⟨_, rfl⟩
              have hr : Hid (∀ W, Mat W A S R (fun _ => S) cc F → Calls Tryd.prog 71 #[.slice A S c, .int .u64 ka, .int .u64 (0 : Nat), .int .u64 x, .int .u64 z] W fun e w' => e = .returned (.bool r) ∧ Below W.heap.size W w') := Lib.hid fun W hW => by
                rw [er]; exact same_below (up2_any ka 0 x z S c A R cc F W hW hltk hltx hS16)
              have HR := Lib.hid er
              clear er
              cases r
              · go_wp2_with (go_at_call 71; refine (hr.out _ HMr.out).mono ?_; rintro e w' ⟨rfl, hst⟩; have HB := Lib.hid (HB.out.trans (hst.mono HB.out.size)); clear hst)
                all_goals
                  go_ret
                  exact ⟨by rw [up_no hltk hltx hltz HR.out.symm]; rfl, HB.out⟩
              · go_wp2_with (go_at_call 71; refine (hr.out _ HMr.out).mono ?_; rintro e w' ⟨rfl, hst⟩; have HB := Lib.hid (HB.out.trans (hst.mono HB.out.size)); clear hst)
                go_roundw
                case rel => exact ⟨z + 1, by omega, by go_num, HB.out, Lib.hid fun z' h => by
                  rcases Nat.lt_succ_iff_lt_or_eq.1 h with h3 | rfl
                  · exact HZ.out z' h3
                  · exact HR.out.symm⟩
                case measure => simp [intOf]; omega
            · obtain rfl : z = S := by omega
              have HB := Lib.hid hbl
              clear hbl
              go_wp2_with fail
              go_roundw
              case rel => exact ⟨x + 1, by omega, by go_num, HB.out, Lib.hid fun x' h => by
                rcases Nat.lt_succ_iff_lt_or_eq.1 h with h3 | rfl
                · exact HX.out x' h3
                · exact allB_iff.2 HZ.out⟩
              case measure => simp [intOf]; omega
        · obtain rfl : x = S := by omega
          have HB := Lib.hid hbl
          clear hbl
          go_wp2_with fail
          go_roundw
          case rel => exact ⟨ka + 1, by omega, by go_num, HB.out, Lib.hid fun x' h => by
            rcases Nat.lt_succ_iff_lt_or_eq.1 h with h3 | rfl
            · exact HK.out x' h3
            · exact allB_iff.2 HX.out⟩
          case measure => simp [intOf]; omega
    · obtain rfl : ka = S := by omega
      have HB := Lib.hid hbl
      clear hbl
      go_wp2_with fail
      go_ret
      exact ⟨by rw [show upAll ka 1 F = true from allB_iff.2 HK.out]; rfl, HB.out⟩
set_option maxHeartbeats 1000000 in
theorem holds_2 (k S N c : Nat) (A : Option Addr) (R : Nat → Option Addr) (cc : Nat → Nat) (F : Nat → Nat → Nat) (w : World) (hL : LaidU w) (hM : Mat w A S R (fun _ => S) cc F) (hk : k ≤ 2) (hS : S = 2 ^ 2 ^ k) (hN : S = 2 ^ N) :
    Calls Tryd.prog 36 #[.int .i64 2, .int .i64 k, .slice A S c] w fun e w' => e = .returned (.bool (upAll S 2 F)) ∧ Below w.heap.size w w' := by
  have hS2 := sets_le (by omega) hS
  have hS16 : S ≤ 16 := by rw [hS]; exact Nat.pow_le_pow_right (n := 2) (j := 4) (by decide) (Nat.pow_le_pow_right (n := 2) (j := 2) (by decide) hk)
  obtain ⟨b, off, cap, g0, f0, f1, f2, f3, f4, f5, f6, f7⟩ := hL
  have G0 := Lib.hid g0
  have F0 := Lib.hid f2
  have HM := Lib.hid hM
  have HS := Lib.hid hS
  have HN := Lib.hid hN
  clear hM hS hN f0 f1 f2 f3 f4 f5 f6 f7 g0
  go_enter Tryd.func36, Tryd.ntmps36
  go_wp2_with (go_at_call 27; refine (sets_any k S _ (by omega) HS.out).mono ?_; rintro e w' ⟨rfl, rfl⟩)
  go_loopw [17] (fun kv wr => ∃ ka : Nat, ka ≤ S ∧ kv = .int .u64 ka ∧ Below w.heap.size w wr ∧ Hid (∀ ka', ka' < ka → upRow S 2 F ka' = true)) (fun kv _ => S - (intOf kv).toNat)
  case atStart => exact ⟨0, Nat.zero_le _, rfl, Below.refl _ _, Lib.hid fun x' h => absurd h (Nat.not_lt_zero _)⟩
  case round =>
    obtain ⟨ka, hka, rfl, hbl, HK⟩ := hrel
    by_cases hltk : ka < S
    · have HB := Lib.hid hbl
      clear hbl
      go_wp2_with fail
      go_loopw [21] (fun xv wr => ∃ x : Nat, x ≤ S ∧ xv = .int .u64 x ∧ Below w.heap.size w wr ∧ Hid (∀ x', x' < x → allB S (upIn 2 F ka x') = true)) (fun xv _ => S - (intOf xv).toNat)
      case atStart => exact ⟨0, Nat.zero_le _, rfl, HB.out, Lib.hid fun x' h => absurd h (Nat.not_lt_zero _)⟩
      case round =>
        clear HB
        obtain ⟨x, hx, rfl, hbl, HX⟩ := hrel
        by_cases hltx : x < S
        · have HB := Lib.hid hbl
          clear hbl
          go_wp2_with fail
          go_loopw [25] (fun zv wr => ∃ z : Nat, z ≤ S ∧ zv = .int .u64 z ∧ Below w.heap.size w wr ∧ Hid (∀ z', z' < z → upIn 2 F ka x z' = true)) (fun zv _ => S - (intOf zv).toNat)
          case atStart => exact ⟨0, Nat.zero_le _, rfl, HB.out, Lib.hid fun z' h => absurd h (Nat.not_lt_zero _)⟩
          case round =>
            clear HB
            obtain ⟨z, hz, rfl, hbl, HZ⟩ := hrel
            by_cases hltz : z < S
            · have g0 := cell_below hbl G0.out
              have f0 := cell_below hbl F0.out
              have HMr := Lib.hid (HM.out.below hbl)
              have HB := Lib.hid hbl
              clear hbl
              obtain ⟨r, er⟩ : ∃ r, r = upIn 2 F ka x z := ⟨_, rfl⟩
              have hr : Hid (∀ W, Mat W A S R (fun _ => S) cc F → Calls Tryd.prog 72 #[.slice A S c, .int .u64 ka, .int .u64 (0 : Nat), .int .u64 x, .int .u64 z] W fun e w' => e = .returned (.bool r) ∧ Below W.heap.size W w') := Lib.hid fun W hW => by
                rw [er]; exact same_below (up3_any ka 0 x z S c A R cc F W hW hltk hltx hS16)
              have HR := Lib.hid er
              clear er
              cases r
              · go_wp2_with (go_at_call 72; refine (hr.out _ HMr.out).mono ?_; rintro e w' ⟨rfl, hst⟩; have HB := Lib.hid (HB.out.trans (hst.mono HB.out.size)); clear hst)
                all_goals
                  go_ret
                  exact ⟨by rw [up_no hltk hltx hltz HR.out.symm]; rfl, HB.out⟩
              · go_wp2_with (go_at_call 72; refine (hr.out _ HMr.out).mono ?_; rintro e w' ⟨rfl, hst⟩; have HB := Lib.hid (HB.out.trans (hst.mono HB.out.size)); clear hst)
                go_roundw
                case rel => exact ⟨z + 1, by omega, by go_num, HB.out, Lib.hid fun z' h => by
                  rcases Nat.lt_succ_iff_lt_or_eq.1 h with h3 | rfl
                  · exact HZ.out z' h3
                  · exact HR.out.symm⟩
                case measure => simp [intOf]; omega
            · obtain rfl : z = S := by omega
              have HB := Lib.hid hbl
              clear hbl
              go_wp2_with fail
              go_roundw
              case rel => exact ⟨x + 1, by omega, by go_num, HB.out, Lib.hid fun x' h => by
                rcases Nat.lt_succ_iff_lt_or_eq.1 h with h3 | rfl
                · exact HX.out x' h3
                · exact allB_iff.2 HZ.out⟩
              case measure => simp [intOf]; omega
        · obtain rfl : x = S := by omega
          have HB := Lib.hid hbl
          clear hbl
          go_wp2_with fail
          go_roundw
          case rel => exact ⟨ka + 1, by omega, by go_num, HB.out, Lib.hid fun x' h => by
            rcases Nat.lt_succ_iff_lt_or_eq.1 h with h3 | rfl
            · exact HK.out x' h3
            · exact allB_iff.2 HX.out⟩
          case measure => simp [intOf]; omega
    · obtain rfl : ka = S := by omega
      have HB := Lib.hid hbl
      clear hbl
      go_wp2_with fail
      go_ret
      exact ⟨by rw [show upAll ka 2 F = true from allB_iff.2 HK.out]; rfl, HB.out⟩
set_option maxHeartbeats 1000000 in
theorem holds_3 (k S N c : Nat) (A : Option Addr) (R : Nat → Option Addr) (cc : Nat → Nat) (F : Nat → Nat → Nat) (w : World) (hL : LaidU w) (hM : Mat w A S R (fun _ => S) cc F) (hk : k ≤ 2) (hS : S = 2 ^ 2 ^ k) (hN : S = 2 ^ N) :
    Calls Tryd.prog 36 #[.int .i64 3, .int .i64 k, .slice A S c] w fun e w' => e = .returned (.bool (upAll S 3 F)) ∧ Below w.heap.size w w' := by
  have hS2 := sets_le (by omega) hS
  have hS16 : S ≤ 16 := by rw [hS]; exact Nat.pow_le_pow_right (n := 2) (j := 4) (by decide) (Nat.pow_le_pow_right (n := 2) (j := 2) (by decide) hk)
  obtain ⟨b, off, cap, g0, f0, f1, f2, f3, f4, f5, f6, f7⟩ := hL
  have G0 := Lib.hid g0
  have F0 := Lib.hid f3
  have HM := Lib.hid hM
  have HS := Lib.hid hS
  have HN := Lib.hid hN
  clear hM hS hN f0 f1 f2 f3 f4 f5 f6 f7 g0
  go_enter Tryd.func36, Tryd.ntmps36
  go_wp2_with (go_at_call 27; refine (sets_any k S _ (by omega) HS.out).mono ?_; rintro e w' ⟨rfl, rfl⟩)
  go_loopw [17] (fun kv wr => ∃ ka : Nat, ka ≤ S ∧ kv = .int .u64 ka ∧ Below w.heap.size w wr ∧ Hid (∀ ka', ka' < ka → upRow S 3 F ka' = true)) (fun kv _ => S - (intOf kv).toNat)
  case atStart => exact ⟨0, Nat.zero_le _, rfl, Below.refl _ _, Lib.hid fun x' h => absurd h (Nat.not_lt_zero _)⟩
  case round =>
    obtain ⟨ka, hka, rfl, hbl, HK⟩ := hrel
    by_cases hltk : ka < S
    · have HB := Lib.hid hbl
      clear hbl
      go_wp2_with fail
      go_loopw [21] (fun xv wr => ∃ x : Nat, x ≤ S ∧ xv = .int .u64 x ∧ Below w.heap.size w wr ∧ Hid (∀ x', x' < x → allB S (upIn 3 F ka x') = true)) (fun xv _ => S - (intOf xv).toNat)
      case atStart => exact ⟨0, Nat.zero_le _, rfl, HB.out, Lib.hid fun x' h => absurd h (Nat.not_lt_zero _)⟩
      case round =>
        clear HB
        obtain ⟨x, hx, rfl, hbl, HX⟩ := hrel
        by_cases hltx : x < S
        · have HB := Lib.hid hbl
          clear hbl
          go_wp2_with fail
          go_loopw [25] (fun zv wr => ∃ z : Nat, z ≤ S ∧ zv = .int .u64 z ∧ Below w.heap.size w wr ∧ Hid (∀ z', z' < z → upIn 3 F ka x z' = true)) (fun zv _ => S - (intOf zv).toNat)
          case atStart => exact ⟨0, Nat.zero_le _, rfl, HB.out, Lib.hid fun z' h => absurd h (Nat.not_lt_zero _)⟩
          case round =>
            clear HB
            obtain ⟨z, hz, rfl, hbl, HZ⟩ := hrel
            by_cases hltz : z < S
            · have g0 := cell_below hbl G0.out
              have f0 := cell_below hbl F0.out
              have HMr := Lib.hid (HM.out.below hbl)
              have HB := Lib.hid hbl
              clear hbl
              obtain ⟨r, er⟩ : ∃ r, r = upIn 3 F ka x z := ⟨_, rfl⟩
              have hr : Hid (∀ W, Mat W A S R (fun _ => S) cc F → Calls Tryd.prog 73 #[.slice A S c, .int .u64 ka, .int .u64 (0 : Nat), .int .u64 x, .int .u64 z] W fun e w' => e = .returned (.bool r) ∧ Below W.heap.size W w') := Lib.hid fun W hW => by
                rw [er]; exact same_below (up4_any ka 0 x z S c A F W)
              have HR := Lib.hid er
              clear er
              cases r
              · go_wp2_with (go_at_call 73; refine (hr.out _ HMr.out).mono ?_; rintro e w' ⟨rfl, hst⟩; have HB := Lib.hid (HB.out.trans (hst.mono HB.out.size)); clear hst)
                all_goals
                  go_ret
                  exact ⟨by rw [up_no hltk hltx hltz HR.out.symm]; rfl, HB.out⟩
              · go_wp2_with (go_at_call 73; refine (hr.out _ HMr.out).mono ?_; rintro e w' ⟨rfl, hst⟩; have HB := Lib.hid (HB.out.trans (hst.mono HB.out.size)); clear hst)
                go_roundw
                case rel => exact ⟨z + 1, by omega, by go_num, HB.out, Lib.hid fun z' h => by
                  rcases Nat.lt_succ_iff_lt_or_eq.1 h with h3 | rfl
                  · exact HZ.out z' h3
                  · exact HR.out.symm⟩
                case measure => simp [intOf]; omega
            · obtain rfl : z = S := by omega
              have HB := Lib.hid hbl
              clear hbl
              go_wp2_with fail
              go_roundw
              case rel => exact ⟨x + 1, by omega, by go_num, HB.out, Lib.hid fun x' h => by
                rcases Nat.lt_succ_iff_lt_or_eq.1 h with h3 | rfl
                · exact HX.out x' h3
                · exact allB_iff.2 HZ.out⟩
              case measure => simp [intOf]; omega
        · obtain rfl : x = S := by omega
          have HB := Lib.hid hbl
          clear hbl
          go_wp2_with fail
          go_roundw
          case rel => exact ⟨ka + 1, by omega, by go_num, HB.out, Lib.hid fun x' h => by
            rcases Nat.lt_succ_iff_lt_or_eq.1 h with h3 | rfl
            · exact HK.out x' h3
            · exact allB_iff.2 HX.out⟩
          case measure => simp [intOf]; omega
    · obtain rfl : ka = S := by omega
      have HB := Lib.hid hbl
      clear hbl
      go_wp2_with fail
      go_ret
      exact ⟨by rw [show upAll ka 3 F = true from allB_iff.2 HK.out]; rfl, HB.out⟩
end Go.Proofs.YtflhngmfcpeamaaDoor
