/-
  Walks: the reference of layer 41: Has, All, closer, strictly, preorder.
-/
import Derived.Test.YtgnmelmmcpmhoaaProg
import Derived.Test.YtgnmelmmcpmhoaaBase
import Derived.Test.YtgnmelmmcpmhoaaUpdA
import Derived.Test.YtgnmelmmcpmhoaaUpdB
namespace Go.Proofs.Ytgnmelmmcpmhoaa
open Go.RowKit

theorem rem_has (s v : Nat) (hs : s < 18446744073709551616) : (((s : Int) / 2 ^ min v 64) % 2 == 1) = s.testBit v := by
  rw [natCast_shr]
  by_cases hv : v ≤ 64
  · rw [Nat.min_eq_left hv, Nat.testBit_eq_decide_div_mod_eq, Bool.eq_iff_iff, beq_iff_eq, decide_eq_true_iff]; omega
  · rw [Nat.min_eq_right (by omega)]
    have h0 : s / 2 ^ 64 = 0 := Nat.div_eq_of_lt hs
    have h1 : s.testBit v = false := Nat.testBit_lt_two_pow (Nat.lt_of_lt_of_le hs (Nat.pow_le_pow_right (n := 2) (i := 64) (by decide) (by omega)))
    rw [h0, h1]; rfl
theorem refHas_any (s v : Nat) (w : World) (hs : s < 18446744073709551616) :
    Calls Try.prog 53 #[.int .u64 s, .int .i64 v] w fun e w' => e = .returned (.bool (s.testBit v)) ∧ w = w' := by
  have h := Lib.hid (rem_has s v hs)
  have hq : (0 : Int) ≤ (s : Int) / 2 ^ min v 64 := by rw [natCast_shr]; exact Int.natCast_nonneg _
  go_enter Try.func53, Try.ntmps53
  go_wp2
  go_ret
  exact ⟨by rw [h.out]; rfl, rfl⟩
theorem refAll_val (k : Nat) (hk : k ≤ 4) : IntKind.u64.wrap (IntKind.u64.wrap (2 ^ min (IntKind.u64.wrap (2 ^ k)).toNat 64) - 1) = ((2 ^ 2 ^ k - 1 : Nat) : Int) := all_val k hk
theorem refAll_any (k : Nat) (w : World) (hk : k ≤ 4) :
    Calls Try.prog 46 #[.int .i64 k] w fun e w' => e = .returned (.int .u64 (2 ^ 2 ^ k - 1 : Nat)) ∧ w = w' := by
  go_enter Try.func46, Try.ntmps46
  go_wp2
  go_ret
  exact ⟨ret_int (all_val k hk), rfl⟩

theorem closer_any (k : Int) (A : Option Addr) (n c v u x : Nat) (R : Nat → Option Addr) (m cc : Nat → Nat) (F : Nat → Nat → Nat) (w : World) (hM : Mat w A n R m cc F) (hv : v < n) (hu : u < m v) :
    Calls Try.prog 50 #[.agg #[.int .i64 k, .slice A n c], .int .i64 v, .int .i64 u, .int .i64 x] w fun e w' => e = .returned (.bool ((F v u).testBit x)) ∧ Below w.heap.size w w' := by
  obtain ⟨b, off, rfl, hc, hm, hr⟩ := hM v hv
  obtain ⟨b', off', hR, hc', hb'⟩ := hr u hu
  rw [hR] at hc
  clear hM hR hr hm
  have hb0 := World.block_lt_of_cell? w _ hc
  have hb1 := World.block_lt_of_cell? w _ hc'
  dsimp only at hb0 hb1
  go_enter Try.func50, Try.ntmps50
  go_wp2_with (go_at_call 53; refine (refHas_any _ _ _ (by assumption)).mono ?_; rintro e w' ⟨rfl, rfl⟩)
  go_ret
  exact ⟨rfl, below_alloc _ _⟩

/-- The reference's 'strictly' is the program's. -/
theorem refStrictly_any (k : Int) (A : Option Addr) (n c v u x : Nat) (R : Nat → Option Addr) (m cc : Nat → Nat) (F : Nat → Nat → Nat) (w : World) (hM : Mat w A n R m cc F) (hv : v < n) (hu : u < m v) (hx : x < m v) :
    Calls Try.prog 48 #[.agg #[.int .i64 k, .slice A n c], .int .i64 v, .int .i64 u, .int .i64 x] w fun e w' => e = .returned (.bool (strB (F v) u x)) ∧ Below w.heap.size w w' := by
  have HM := Lib.hid hM
  clear hM
  have HS := Lib.hid (show strB (F v) u x = ((F v u).testBit x && !(F v x).testBit u) from rfl)
  cases h1 : (F v u).testBit x
  all_goals
    go_enter Try.func48, Try.ntmps48
    go_wp2_with fail
    obtain ⟨d0, d1⟩ := cells_box2 w (.int .i64 k) (.slice A n c) 24
    have hB := below_alloc w (.cells #[.int .i64 k, .slice A n c] 24)
    generalize w.alloc (.cells #[.int .i64 k, .slice A n c] 24) = W at d0 d1 hB ⊢
    have HM := Lib.hid (HM.out.below hB)
    have HB := Lib.hid hB
    clear hB
    go_wp2_with (first | (go_at_call 50; refine (closer_any _ _ _ _ _ _ _ _ _ _ _ _ HM.out (by omega) (by omega)).mono ?_; rintro e w' ⟨rfl, hb1⟩; have d0 := cell_below hb1 d0; have d1 := cell_below hb1 d1; have HM := Lib.hid (HM.out.below hb1); have HB := Lib.hid (HB.out.trans (hb1.mono HB.out.size)); clear hb1))
    go_ret
    exact ⟨by rw [HS.out, h1]; rfl, HB.out⟩

/-! ### preorder -/
def trn (f : Nat → Nat) (u x y : Nat) : Bool := !((f u).testBit x && (f x).testBit y && !(f u).testBit y)
def rpIn (n : Nat) (f : Nat → Nat) (u x : Nat) : Bool := allB n (trn f u x)
def rpRow (n : Nat) (f : Nat → Nat) (u : Nat) : Bool := (f u).testBit u && allB n (rpIn n f u)
def rpreB (n : Nat) (f : Nat → Nat) : Bool := allB n (rpRow n f)

set_option maxHeartbeats 1000000 in
theorem refPre_any (kk N c v : Nat) (A : Option Addr) (R : Nat → Option Addr) (m cc : Nat → Nat) (F : Nat → Nat → Nat) (w : World) (hM : Mat w A N R m cc F) (hk : kk ≤ 3) (hN : N = 2 ^ kk) (hv : v < N) (hmv : m v = N) :
    Calls Try.prog 47 #[.agg #[.int .i64 kk, .slice A N c], .int .i64 v] w fun e w' => e = .returned (.bool (rpreB N (F v))) ∧ Below w.heap.size w w' := by
  have hw := wrap_pow hN (by omega)
  have hN8 := pow_le8 hN hk
  have HM := Lib.hid hM
  have HV := Lib.hid hmv
  have hle : N ≤ m v := by omega
  clear hN hM hmv
  go_enter Try.func47, Try.ntmps47
  go_wp2_with fail
  obtain ⟨d0, d1⟩ := cells_box2 w (.int .i64 kk) (.slice A N c) 24
  have hB := below_alloc w (.cells #[.int .i64 kk, .slice A N c] 24)
  generalize w.alloc (.cells #[.int .i64 kk, .slice A N c] 24) = W at d0 d1 hB ⊢
  have HM0 := Lib.hid (HM.out.below hB)
  have HB0 := Lib.hid hB
  have D0 := Lib.hid d0
  have D1 := Lib.hid d1
  clear hB HM
  go_loopw [6] (fun i wr => ∃ u : Nat, u ≤ N ∧ i = .int .i64 u ∧ Upto (rpRow N (F v)) u ∧ Below W.heap.size W wr) (fun i _ => N - (intOf i).toNat)
  case atStart => exact ⟨0, Nat.zero_le _, rfl, upto_zero _, Below.refl _ _⟩
  case round =>
    obtain ⟨u, hu, rfl, hU, hbl⟩ := hrel
    have HM := Lib.hid (HM0.out.below hbl)
    have d0 := cell_below hbl D0.out
    have d1 := cell_below hbl D1.out
    have HB := Lib.hid hbl
    clear hbl
    by_cases hlt : u < N
    · cases h1 : (F v u).testBit u
      · go_wp2_with (first | (go_at_call 50; refine (closer_any _ _ _ _ _ _ _ _ _ _ _ _ HM.out (by omega) (by omega)).mono ?_; rintro e w' ⟨rfl, hb1⟩; have d0 := cell_below hb1 d0; have d1 := cell_below hb1 d1; have HM := Lib.hid (HM.out.below hb1); have HB := Lib.hid (HB.out.trans (hb1.mono HB.out.size)); clear hb1))
        go_ret
        exact ⟨ret_bool (not_all hlt (by unfold rpRow; rw [h1]; rfl)).symm, HB0.out.trans (HB.out.mono HB0.out.size)⟩
      · go_wp2_with (first | (go_at_call 50; refine (closer_any _ _ _ _ _ _ _ _ _ _ _ _ HM.out (by omega) (by omega)).mono ?_; rintro e w' ⟨rfl, hb1⟩; have d0 := cell_below hb1 d0; have d1 := cell_below hb1 d1; have HM := Lib.hid (HM.out.below hb1); have HB := Lib.hid (HB.out.trans (hb1.mono HB.out.size)); clear hb1))
        clear d0 d1 HM
        go_loopw [7] (fun i wr => ∃ x : Nat, x ≤ N ∧ i = .int .i64 x ∧ Upto (rpIn N (F v) u) x ∧ Below W.heap.size W wr) (fun i _ => N - (intOf i).toNat)
        case atStart => exact ⟨0, Nat.zero_le _, rfl, upto_zero _, HB.out⟩
        case round =>
          clear HB
          obtain ⟨x, hx, rfl, hX, hbl⟩ := hrel
          have HB := Lib.hid hbl
          clear hbl
          by_cases hxlt : x < N
          · go_wp2
            go_loopw [8] (fun i wr => ∃ y : Nat, y ≤ N ∧ i = .int .i64 y ∧ Upto (trn (F v) u x) y ∧ Below W.heap.size W wr) (fun i _ => N - (intOf i).toNat)
            case atStart => exact ⟨0, Nat.zero_le _, rfl, upto_zero _, HB.out⟩
            case round =>
              clear HB
              obtain ⟨y, hy, rfl, hY, hbl⟩ := hrel
              have HM := Lib.hid (HM0.out.below hbl)
              have d0 := cell_below hbl D0.out
              have d1 := cell_below hbl D1.out
              have HB := Lib.hid hbl
              clear hbl
              by_cases hylt : y < N
              · have HT := Lib.hid (show trn (F v) u x y = !((F v u).testBit x && (F v x).testBit y && !(F v u).testBit y) from rfl)
                cases ha : (F v u).testBit x
                · go_wp2_with (first | (go_at_call 50; refine (closer_any _ _ _ _ _ _ _ _ _ _ _ _ HM.out (by omega) (by omega)).mono ?_; rintro e w' ⟨rfl, hb1⟩; have d0 := cell_below hb1 d0; have d1 := cell_below hb1 d1; have HM := Lib.hid (HM.out.below hb1); have HB := Lib.hid (HB.out.trans (hb1.mono HB.out.size)); clear hb1))
                  go_round
                  case rel => exact ⟨y + 1, by omega, by go_num, hY.succ (by rw [HT.out, ha]; rfl), HB.out⟩
                  case measure => simp [intOf]; omega
                · cases hb : (F v x).testBit y
                  · go_wp2_with (first | (go_at_call 50; refine (closer_any _ _ _ _ _ _ _ _ _ _ _ _ HM.out (by omega) (by omega)).mono ?_; rintro e w' ⟨rfl, hb1⟩; have d0 := cell_below hb1 d0; have d1 := cell_below hb1 d1; have HM := Lib.hid (HM.out.below hb1); have HB := Lib.hid (HB.out.trans (hb1.mono HB.out.size)); clear hb1))
                    go_round
                    case rel => exact ⟨y + 1, by omega, by go_num, hY.succ (by rw [HT.out, ha, hb]; rfl), HB.out⟩
                    case measure => simp [intOf]; omega
                  · cases hc : (F v u).testBit y
                    · go_wp2_with (first | (go_at_call 50; refine (closer_any _ _ _ _ _ _ _ _ _ _ _ _ HM.out (by omega) (by omega)).mono ?_; rintro e w' ⟨rfl, hb1⟩; have d0 := cell_below hb1 d0; have d1 := cell_below hb1 d1; have HM := Lib.hid (HM.out.below hb1); have HB := Lib.hid (HB.out.trans (hb1.mono HB.out.size)); clear hb1))
                      go_ret
                      exact ⟨ret_bool (not_all hlt (by unfold rpRow; rw [not_all hxlt (not_all hylt (by rw [HT.out, ha, hb, hc]; rfl)), Bool.and_false])).symm, HB0.out.trans (HB.out.mono HB0.out.size)⟩
                    · go_wp2_with (first | (go_at_call 50; refine (closer_any _ _ _ _ _ _ _ _ _ _ _ _ HM.out (by omega) (by omega)).mono ?_; rintro e w' ⟨rfl, hb1⟩; have d0 := cell_below hb1 d0; have d1 := cell_below hb1 d1; have HM := Lib.hid (HM.out.below hb1); have HB := Lib.hid (HB.out.trans (hb1.mono HB.out.size)); clear hb1))
                      go_round
                      case rel => exact ⟨y + 1, by omega, by go_num, hY.succ (by rw [HT.out, ha, hb, hc]; rfl), HB.out⟩
                      case measure => simp [intOf]; omega
              · go_wp2
                go_round
                case rel => exact ⟨x + 1, by omega, by go_num, hX.succ (hY.all (by omega)), HB.out⟩
                case measure => simp [intOf]; omega
          · go_wp2
            go_round
            case rel => exact ⟨u + 1, by omega, by go_num, hU.succ (by unfold rpRow; rw [h1, hX.all (by omega)]; rfl), HB.out⟩
            case measure => simp [intOf]; omega
    · go_wp2
      go_ret
      exact ⟨ret_bool (hU.all (by omega)).symm, HB0.out.trans (HB.out.mono HB0.out.size)⟩
end Go.Proofs.Ytgnmelmmcpmhoaa
