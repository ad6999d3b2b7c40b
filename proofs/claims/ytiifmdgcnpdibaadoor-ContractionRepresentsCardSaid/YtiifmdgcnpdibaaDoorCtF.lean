/-
  Walks: package contraction: Holds.
-/
import Derived.Test.YtiifmdgcnpdibaaDoorProg
import Derived.Test.YtiifmdgcnpdibaaDoorBase
import Derived.Test.YtiifmdgcnpdibaaDoorRow
import Derived.Test.YtiifmdgcnpdibaaDoorRowU
import Derived.Test.YtiifmdgcnpdibaaDoorRowsOf
import Derived.Test.YtiifmdgcnpdibaaDoorLeast
import Derived.Test.YtiifmdgcnpdibaaDoorRkQ
import Derived.Test.YtiifmdgcnpdibaaDoorRkB
import Derived.Test.YtiifmdgcnpdibaaDoorRkC3
import Derived.Test.YtiifmdgcnpdibaaDoorPoP
import Derived.Test.YtiifmdgcnpdibaaDoorCtP
import Derived.Test.YtiifmdgcnpdibaaDoorCtQ
import Derived.Test.YtiifmdgcnpdibaaDoorCtA
import Derived.Test.YtiifmdgcnpdibaaDoorCtB
import Derived.Test.YtiifmdgcnpdibaaDoorCtC
import Derived.Test.YtiifmdgcnpdibaaDoorCtD
import Derived.Test.YtiifmdgcnpdibaaDoorCtE
import Derived.Test.YtiifmdgcnpdibaaDoorPc
import Derived.Laws.EntriesVeiled
import Derived.Deep.LoopGhost
import Derived.WalkMore
namespace Go.Proofs.YtiifmdgcnpdibaaDoor
open Go.RowKit

def HoPost (ok : Bool) (x y : Int) (E : Nat) (w : World) (e : Ending) (w' : World) : Prop := e = .returned (.tuple #[.bool ok, .int .i64 x, .int .i64 y, .int .i64 E]) ∧ Below w.heap.size w w'
/-- What Holds returns at a table without error, for a postulate. -/
def hoV (S last : Nat) (fit : Nat → Nat → Bool) (w : World) (e : Ending) (w' : World) : Prop :=
  HoPost (!failB S last fit) (if failB S last fit then (failX S last fit : Nat) else -1) (if failB S last fit then (failY S last fit : Nat) else -1) 0 w e w'
theorem hoV_hit {S last x y : Nat} {fit : Nat → Nat → Bool} {w : World} {e : Ending} {w' : World} (hx : x < S) (hy : y < last) (h1 : ∀ x', x' < x → allB last (fit x') = true) (h2 : ∀ y', y' < y → fit x y' = true) (h3 : fit x y = false)
    (he : e = .returned (.tuple #[.bool false, .int .i64 x, .int .i64 y, .int .i64 0])) (hb : Below w.heap.size w w') : hoV S last fit w e w' := by
  obtain ⟨a, b, c⟩ := fail_hit hx hy h1 h2 h3
  unfold hoV HoPost
  rw [a, b, c]
  exact ⟨he, hb⟩
theorem hoV_none {S last : Nat} {fit : Nat → Nat → Bool} {w : World} {e : Ending} {w' : World} (h : ∀ x, x < S → allB last (fit x) = true)
    (he : e = .returned (.tuple #[.bool true, .int .i64 (-1), .int .i64 (-1), .int .i64 0])) (hb : Below w.heap.size w w') : hoV S last fit w e w' := by
  obtain ⟨a, b, c⟩ := fail_none h
  unfold hoV HoPost
  rw [a]
  exact ⟨he, hb⟩
theorem cells_two (w : World) (x y : Value) (T : TypeId) : (w.alloc (.cells #[x, y] T)).cell? ⟨w.heap.size, 0, none⟩ = some x ∧ (w.alloc (.cells #[x, y] T)).cell? ⟨w.heap.size, 1, none⟩ = some y ∧ Below w.heap.size w (w.alloc (.cells #[x, y] T)) :=
  ⟨by go_simp, by go_simp, below_alloc w _⟩
theorem u64_of_i64 {x : Nat} (h : x < 18446744073709551616) : IntKind.u64.wrap (x : Int) = (x : Int) := by rw [IntKind.wrap_u64]; omega
theorem allB_one {p : Nat → Bool} (h : p 0 = true) : allB 1 p = true := by
  refine allB_iff.2 fun u hu => ?_
  obtain rfl : u = 0 := by omega
  exact h
set_option maxHeartbeats 4000000 in
set_option maxRecDepth 100000 in
theorem Holds_1 (k N S b c : Nat) (A : Option Addr) (T : Nat → Nat) (w : World) (hL : LaidC w) (hT : U64s w A S T) (hk : k ≤ 3) (hN : N = 2 ^ k) (hS : S = 2 ^ N) (hb : b < S) (ht : ctChk k b S T = 0) :
    Calls Tryd.prog 23 #[.int .i64 k, .int .u64 b, .slice A S c, .int .i64 1] w (hoV S 1 (ctFit 0 S b T) w) := by
  have hN8 : N ≤ 8 := by rw [hN]; exact Nat.le_trans (Nat.pow_le_pow_right (n := 2) (j := 3) (by decide) hk) (by decide)
  have h1N : 1 ≤ N := by rw [hN]; exact Nat.two_pow_pos k
  have hS2 : 2 ≤ S := by rw [hS]; exact Nat.pow_le_pow_right (n := 2) (i := 1) (by decide) h1N
  obtain ⟨v1, v2, v3, v4⟩ := two_val8 hN8 hS
  have hC := ctChk_any k b S c A T w hT (by omega) (by omega)
  rw [ht] at hC
  have HC := Lib.hid hC
  obtain ⟨bm, g, hr⟩ := hL
  have GG := Lib.hid g
  have HR := Lib.hid hr
  have HT := Lib.hid hT
  have HN := Lib.hid hN
  have HS := Lib.hid hS
  clear hC hr g hT ht v1 v2 hN hS
  go_enter Tryd.func23, Tryd.ntmps23
  go_wp2
  go_step3
  go_upto_region 4 with (go_at_call 25; refine HC.out.mono ?_; rintro e w1 ⟨rfl, hb1⟩; have HB1 := Lib.hid hb1; clear hb1)
  have g0 := cell_below HB1.out GG.out
  have hrun : (Instr.lookup 70 (.map (some bm)) (.int .i64 1) true).run Tryd.prog w1 = .ok (.tuple #[.agg #[.func (.func 114) #[] #[], .bool false], .bool true]) w1 := (HR.out w1 HB1.out).1 1 (by decide) (by decide)
  go_upto_region 5 with (fail)
  obtain ⟨p0, p1, hBX⟩ := cells_two w1 (.func (.func 114) #[] #[]) (.bool false) 68
  generalize w1.alloc (.cells #[.func (.func 114) #[] #[], .bool false] 68) = X at p0 p1 hBX ⊢
  have HBX := Lib.hid (HB1.out.trans (hBX.mono HB1.out.size))
  generalize w1.heap.size = bp at p0 p1 ⊢
  clear g0 hrun hBX
  go_upto_region 8 with (fail)
  obtain ⟨d0, d1, d2, hBV⟩ := cells_box3 X (.int .i64 k) (.int .u64 b) (.slice A S c) 72
  generalize X.alloc (.cells #[.int .i64 k, .int .u64 b, .slice A S c] 72) = V at d0 d1 d2 hBV ⊢
  have HD := Lib.hid (show V.cell? ⟨bp, 0, none⟩ = _ ∧ V.cell? ⟨bp, 1, none⟩ = _ ∧ V.cell? ⟨X.heap.size, 0, none⟩ = _ ∧ V.cell? ⟨X.heap.size, 1, none⟩ = _ ∧ V.cell? ⟨X.heap.size, 2, none⟩ = _ from ⟨cell_below hBV p0, cell_below hBV p1, d0, d1, d2⟩)
  have HBV := Lib.hid (HBX.out.trans (hBV.mono HBX.out.size))
  have HTV := Lib.hid (HT.out.below HBV.out)
  generalize X.heap.size = be at HD ⊢
  clear d0 d1 d2 p0 p1 hBV HBX HT HC GG HR HB1
  go_step3
  go_wp2
  go_loopg [39] S (fun g i wx => ∃ x : Nat, x + g = S ∧ i = .int .i64 x ∧ Hid (∀ x', x' < x → allB 1 (ctFit 0 S b T x') = true) ∧ Below V.heap.size V wx)
  case atStart => exact ⟨0, by omega, rfl, Lib.hid (fun x' h => absurd h (Nat.not_lt_zero _)), Below.refl _ _⟩
  case round =>
    obtain ⟨x, hxg, rfl, HX, hbx⟩ := hrel
    cases gk with
    | zero =>
      have hkz : ¬ ((x : Int) < (S : Int)) := by omega
      obtain rfl : x = S := by omega
      have HB := Lib.hid (HBV.out.trans (hbx.mono HBV.out.size))
      clear hbx
      go_wp2_with fail
      try rw [Exit.noGoto_ret]
      go_returns
      exact hoV_none HX.out rfl HB.out
    | succ g =>
      have hkz : (x : Int) < (S : Int) := by omega
      have hx : x < S := by omega
      have HBX := Lib.hid hbx
      clear hbx
      go_wp2_with fail
      go_loopg [44] 1 (fun g i wx => ∃ y : Nat, y + g = 1 ∧ i = .int .i64 y ∧ Hid (∀ y', y' < y → ctFit 0 S b T x y' = true) ∧ Below V.heap.size V wx)
      case atStart => exact ⟨0, by omega, rfl, Lib.hid (fun x' h => absurd h (Nat.not_lt_zero _)), HBX.out⟩
      case round =>
        clear HBX
        obtain ⟨y, hyg, rfl, HY, hby⟩ := hrel
        have HBY := Lib.hid hby
        have c0 := cell_below hby HD.out.1
        have c1 := cell_below hby HD.out.2.1
        have d0 := cell_below hby HD.out.2.2.1
        have d1 := cell_below hby HD.out.2.2.2.1
        have d2 := cell_below hby HD.out.2.2.2.2
        have HTr := Lib.hid (HTV.out.below hby)
        clear hby
        by_cases hy0 : y = 0
        · subst hy0
          have hyz : (((0 : Nat) : Int) < (S : Int)) := by omega
          have hcx := u64_of_i64 (x := x) (by omega)
          have hS256 : S ≤ 256 := v3
          have HCALL := Lib.hid ((fun y => ct1_any k b x y S c A T _ HTr.out hx hS256 hb) 0)
          obtain ⟨q, eq⟩ : ∃ q, q = ctFit 0 S b T x 0 := ⟨_, rfl⟩
          rw [← eq] at HCALL
          have EQ := Lib.hid eq
          clear eq
          have hd0 : decide ((0 : Int) < ((0 : Nat) : Int)) = false := rfl
          cases gk with
          | zero => omega
          | succ g2 =>
          cases q
          · go_wp2_with (go_at_call 114; refine HCALL.out.mono ?_; rintro e w3 ⟨rfl, hb3⟩; have HB3 := Lib.hid hb3; clear hb3)
            try rw [Exit.noGoto_ret]
            go_returns
            exact hoV_hit hx (by decide) HX.out (fun y' h => absurd h (Nat.not_lt_zero _)) EQ.out.symm rfl (HBV.out.trans ((HBY.out.trans (HB3.out.mono HBY.out.size)).mono HBV.out.size))
          · have HY2 : Hid (∀ y', y' < 0 + 1 → ctFit 0 S b T x y' = true) := Lib.hid fun y' h => by
              obtain rfl : y' = 0 := by omega
              exact EQ.out.symm
            go_wp2_with (go_at_call 114; refine HCALL.out.mono ?_; rintro e w3 ⟨rfl, hb3⟩; have HB3 := Lib.hid hb3; clear hb3)
            go_roundg g2
            case rel => exact ⟨0 + 1, by omega, by go_num, HY2, HBY.out.trans (HB3.out.mono HBY.out.size)⟩
            case measure => omega
        · have hy1 : y = 1 := by omega
          subst hy1
          have hyz : (((1 : Nat) : Int) < (S : Int)) := by omega
          have hd0 : decide ((0 : Int) < ((1 : Nat) : Int)) = true := rfl
          have HX2 : Hid (∀ x', x' < x + 1 → allB 1 (ctFit 0 S b T x') = true) := Lib.hid fun x' h => by
            rcases Nat.lt_succ_iff_lt_or_eq.1 h with h1 | rfl
            · exact HX.out x' h1
            · exact allB_one (HY.out 0 (by decide))
          go_wp2_with fail
          go_roundg g
          case rel => exact ⟨x + 1, by omega, by go_num, HX2, HBY.out⟩
          case measure => omega
set_option maxHeartbeats 4000000 in
set_option maxRecDepth 100000 in
theorem Holds_2 (k N S b c : Nat) (A : Option Addr) (T : Nat → Nat) (w : World) (hL : LaidC w) (hT : U64s w A S T) (hk : k ≤ 3) (hN : N = 2 ^ k) (hS : S = 2 ^ N) (hb : b < S) (ht : ctChk k b S T = 0) :
    Calls Tryd.prog 23 #[.int .i64 k, .int .u64 b, .slice A S c, .int .i64 2] w (hoV S 1 (ctFit 1 S b T) w) := by
  have hN8 : N ≤ 8 := by rw [hN]; exact Nat.le_trans (Nat.pow_le_pow_right (n := 2) (j := 3) (by decide) hk) (by decide)
  have h1N : 1 ≤ N := by rw [hN]; exact Nat.two_pow_pos k
  have hS2 : 2 ≤ S := by rw [hS]; exact Nat.pow_le_pow_right (n := 2) (i := 1) (by decide) h1N
  obtain ⟨v1, v2, v3, v4⟩ := two_val8 hN8 hS
  have hC := ctChk_any k b S c A T w hT (by omega) (by omega)
  rw [ht] at hC
  have HC := Lib.hid hC
  obtain ⟨bm, g, hr⟩ := hL
  have GG := Lib.hid g
  have HR := Lib.hid hr
  have HT := Lib.hid hT
  have HN := Lib.hid hN
  have HS := Lib.hid hS
  clear hC hr g hT ht v1 v2 hN hS
  go_enter Tryd.func23, Tryd.ntmps23
  go_wp2
  go_step3
  go_upto_region 4 with (go_at_call 25; refine HC.out.mono ?_; rintro e w1 ⟨rfl, hb1⟩; have HB1 := Lib.hid hb1; clear hb1)
  have g0 := cell_below HB1.out GG.out
  have hrun : (Instr.lookup 70 (.map (some bm)) (.int .i64 2) true).run Tryd.prog w1 = .ok (.tuple #[.agg #[.func (.func 115) #[] #[], .bool false], .bool true]) w1 := (HR.out w1 HB1.out).1 2 (by decide) (by decide)
  go_upto_region 5 with (fail)
  obtain ⟨p0, p1, hBX⟩ := cells_two w1 (.func (.func 115) #[] #[]) (.bool false) 68
  generalize w1.alloc (.cells #[.func (.func 115) #[] #[], .bool false] 68) = X at p0 p1 hBX ⊢
  have HBX := Lib.hid (HB1.out.trans (hBX.mono HB1.out.size))
  generalize w1.heap.size = bp at p0 p1 ⊢
  clear g0 hrun hBX
  go_upto_region 8 with (fail)
  obtain ⟨d0, d1, d2, hBV⟩ := cells_box3 X (.int .i64 k) (.int .u64 b) (.slice A S c) 72
  generalize X.alloc (.cells #[.int .i64 k, .int .u64 b, .slice A S c] 72) = V at d0 d1 d2 hBV ⊢
  have HD := Lib.hid (show V.cell? ⟨bp, 0, none⟩ = _ ∧ V.cell? ⟨bp, 1, none⟩ = _ ∧ V.cell? ⟨X.heap.size, 0, none⟩ = _ ∧ V.cell? ⟨X.heap.size, 1, none⟩ = _ ∧ V.cell? ⟨X.heap.size, 2, none⟩ = _ from ⟨cell_below hBV p0, cell_below hBV p1, d0, d1, d2⟩)
  have HBV := Lib.hid (HBX.out.trans (hBV.mono HBX.out.size))
  have HTV := Lib.hid (HT.out.below HBV.out)
  generalize X.heap.size = be at HD ⊢
  clear d0 d1 d2 p0 p1 hBV HBX HT HC GG HR HB1
  go_step3
  go_wp2
  go_loopg [39] S (fun g i wx => ∃ x : Nat, x + g = S ∧ i = .int .i64 x ∧ Hid (∀ x', x' < x → allB 1 (ctFit 1 S b T x') = true) ∧ Below V.heap.size V wx)
  case atStart => exact ⟨0, by omega, rfl, Lib.hid (fun x' h => absurd h (Nat.not_lt_zero _)), Below.refl _ _⟩
  case round =>
    obtain ⟨x, hxg, rfl, HX, hbx⟩ := hrel
    cases gk with
    | zero =>
      have hkz : ¬ ((x : Int) < (S : Int)) := by omega
      obtain rfl : x = S := by omega
      have HB := Lib.hid (HBV.out.trans (hbx.mono HBV.out.size))
      clear hbx
      go_wp2_with fail
      try rw [Exit.noGoto_ret]
      go_returns
      exact hoV_none HX.out rfl HB.out
    | succ g =>
      have hkz : (x : Int) < (S : Int) := by omega
      have hx : x < S := by omega
      have HBX := Lib.hid hbx
      clear hbx
      go_wp2_with fail
      go_loopg [44] 1 (fun g i wx => ∃ y : Nat, y + g = 1 ∧ i = .int .i64 y ∧ Hid (∀ y', y' < y → ctFit 1 S b T x y' = true) ∧ Below V.heap.size V wx)
      case atStart => exact ⟨0, by omega, rfl, Lib.hid (fun x' h => absurd h (Nat.not_lt_zero _)), HBX.out⟩
      case round =>
        clear HBX
        obtain ⟨y, hyg, rfl, HY, hby⟩ := hrel
        have HBY := Lib.hid hby
        have c0 := cell_below hby HD.out.1
        have c1 := cell_below hby HD.out.2.1
        have d0 := cell_below hby HD.out.2.2.1
        have d1 := cell_below hby HD.out.2.2.2.1
        have d2 := cell_below hby HD.out.2.2.2.2
        have HTr := Lib.hid (HTV.out.below hby)
        clear hby
        by_cases hy0 : y = 0
        · subst hy0
          have hyz : (((0 : Nat) : Int) < (S : Int)) := by omega
          have hcx := u64_of_i64 (x := x) (by omega)
          have hS256 : S ≤ 256 := v3
          have HCALL := Lib.hid ((fun y => ct2_any k b x y S c A T _ HTr.out hx hS256 hb) 0)
          obtain ⟨q, eq⟩ : ∃ q, q = ctFit 1 S b T x 0 := ⟨_, rfl⟩
          rw [← eq] at HCALL
          have EQ := Lib.hid eq
          clear eq
          have hd0 : decide ((0 : Int) < ((0 : Nat) : Int)) = false := rfl
          cases gk with
          | zero => omega
          | succ g2 =>
          cases q
          · go_wp2_with (go_at_call 115; refine HCALL.out.mono ?_; rintro e w3 ⟨rfl, hb3⟩; have HB3 := Lib.hid hb3; clear hb3)
            try rw [Exit.noGoto_ret]
            go_returns
            exact hoV_hit hx (by decide) HX.out (fun y' h => absurd h (Nat.not_lt_zero _)) EQ.out.symm rfl (HBV.out.trans ((HBY.out.trans (HB3.out.mono HBY.out.size)).mono HBV.out.size))
          · have HY2 : Hid (∀ y', y' < 0 + 1 → ctFit 1 S b T x y' = true) := Lib.hid fun y' h => by
              obtain rfl : y' = 0 := by omega
              exact EQ.out.symm
            go_wp2_with (go_at_call 115; refine HCALL.out.mono ?_; rintro e w3 ⟨rfl, hb3⟩; have HB3 := Lib.hid hb3; clear hb3)
            go_roundg g2
            case rel => exact ⟨0 + 1, by omega, by go_num, HY2, HBY.out.trans (HB3.out.mono HBY.out.size)⟩
            case measure => omega
        · have hy1 : y = 1 := by omega
          subst hy1
          have hyz : (((1 : Nat) : Int) < (S : Int)) := by omega
          have hd0 : decide ((0 : Int) < ((1 : Nat) : Int)) = true := rfl
          have HX2 : Hid (∀ x', x' < x + 1 → allB 1 (ctFit 1 S b T x') = true) := Lib.hid fun x' h => by
            rcases Nat.lt_succ_iff_lt_or_eq.1 h with h1 | rfl
            · exact HX.out x' h1
            · exact allB_one (HY.out 0 (by decide))
          go_wp2_with fail
          go_roundg g
          case rel => exact ⟨x + 1, by omega, by go_num, HX2, HBY.out⟩
          case measure => omega
set_option maxHeartbeats 4000000 in
set_option maxRecDepth 100000 in
theorem Holds_3 (k N S b c : Nat) (A : Option Addr) (T : Nat → Nat) (w : World) (hL : LaidC w) (hT : U64s w A S T) (hk : k ≤ 3) (hN : N = 2 ^ k) (hS : S = 2 ^ N) (hb : b < S) (ht : ctChk k b S T = 0) :
    Calls Tryd.prog 23 #[.int .i64 k, .int .u64 b, .slice A S c, .int .i64 3] w (hoV S 1 (ctFit 2 S b T) w) := by
  have hN8 : N ≤ 8 := by rw [hN]; exact Nat.le_trans (Nat.pow_le_pow_right (n := 2) (j := 3) (by decide) hk) (by decide)
  have h1N : 1 ≤ N := by rw [hN]; exact Nat.two_pow_pos k
  have hS2 : 2 ≤ S := by rw [hS]; exact Nat.pow_le_pow_right (n := 2) (i := 1) (by decide) h1N
  obtain ⟨v1, v2, v3, v4⟩ := two_val8 hN8 hS
  have hC := ctChk_any k b S c A T w hT (by omega) (by omega)
  rw [ht] at hC
  have HC := Lib.hid hC
  obtain ⟨bm, g, hr⟩ := hL
  have GG := Lib.hid g
  have HR := Lib.hid hr
  have HT := Lib.hid hT
  have HN := Lib.hid hN
  have HS := Lib.hid hS
  clear hC hr g hT ht v1 v2 hN hS
  go_enter Tryd.func23, Tryd.ntmps23
  go_wp2
  go_step3
  go_upto_region 4 with (go_at_call 25; refine HC.out.mono ?_; rintro e w1 ⟨rfl, hb1⟩; have HB1 := Lib.hid hb1; clear hb1)
  have g0 := cell_below HB1.out GG.out
  have hrun : (Instr.lookup 70 (.map (some bm)) (.int .i64 3) true).run Tryd.prog w1 = .ok (.tuple #[.agg #[.func (.func 116) #[] #[], .bool false], .bool true]) w1 := (HR.out w1 HB1.out).1 3 (by decide) (by decide)
  go_upto_region 5 with (fail)
  obtain ⟨p0, p1, hBX⟩ := cells_two w1 (.func (.func 116) #[] #[]) (.bool false) 68
  generalize w1.alloc (.cells #[.func (.func 116) #[] #[], .bool false] 68) = X at p0 p1 hBX ⊢
  have HBX := Lib.hid (HB1.out.trans (hBX.mono HB1.out.size))
  generalize w1.heap.size = bp at p0 p1 ⊢
  clear g0 hrun hBX
  go_upto_region 8 with (fail)
  obtain ⟨d0, d1, d2, hBV⟩ := cells_box3 X (.int .i64 k) (.int .u64 b) (.slice A S c) 72
  generalize X.alloc (.cells #[.int .i64 k, .int .u64 b, .slice A S c] 72) = V at d0 d1 d2 hBV ⊢
  have HD := Lib.hid (show V.cell? ⟨bp, 0, none⟩ = _ ∧ V.cell? ⟨bp, 1, none⟩ = _ ∧ V.cell? ⟨X.heap.size, 0, none⟩ = _ ∧ V.cell? ⟨X.heap.size, 1, none⟩ = _ ∧ V.cell? ⟨X.heap.size, 2, none⟩ = _ from ⟨cell_below hBV p0, cell_below hBV p1, d0, d1, d2⟩)
  have HBV := Lib.hid (HBX.out.trans (hBV.mono HBX.out.size))
  have HTV := Lib.hid (HT.out.below HBV.out)
  generalize X.heap.size = be at HD ⊢
  clear d0 d1 d2 p0 p1 hBV HBX HT HC GG HR HB1
  go_step3
  go_wp2
  go_loopg [39] S (fun g i wx => ∃ x : Nat, x + g = S ∧ i = .int .i64 x ∧ Hid (∀ x', x' < x → allB 1 (ctFit 2 S b T x') = true) ∧ Below V.heap.size V wx)
  case atStart => exact ⟨0, by omega, rfl, Lib.hid (fun x' h => absurd h (Nat.not_lt_zero _)), Below.refl _ _⟩
  case round =>
    obtain ⟨x, hxg, rfl, HX, hbx⟩ := hrel
    cases gk with
    | zero =>
      have hkz : ¬ ((x : Int) < (S : Int)) := by omega
      obtain rfl : x = S := by omega
      have HB := Lib.hid (HBV.out.trans (hbx.mono HBV.out.size))
      clear hbx
      go_wp2_with fail
      try rw [Exit.noGoto_ret]
      go_returns
      exact hoV_none HX.out rfl HB.out
    | succ g =>
      have hkz : (x : Int) < (S : Int) := by omega
      have hx : x < S := by omega
      have HBX := Lib.hid hbx
      clear hbx
      go_wp2_with fail
      go_loopg [44] 1 (fun g i wx => ∃ y : Nat, y + g = 1 ∧ i = .int .i64 y ∧ Hid (∀ y', y' < y → ctFit 2 S b T x y' = true) ∧ Below V.heap.size V wx)
      case atStart => exact ⟨0, by omega, rfl, Lib.hid (fun x' h => absurd h (Nat.not_lt_zero _)), HBX.out⟩
      case round =>
        clear HBX
        obtain ⟨y, hyg, rfl, HY, hby⟩ := hrel
        have HBY := Lib.hid hby
        have c0 := cell_below hby HD.out.1
        have c1 := cell_below hby HD.out.2.1
        have d0 := cell_below hby HD.out.2.2.1
        have d1 := cell_below hby HD.out.2.2.2.1
        have d2 := cell_below hby HD.out.2.2.2.2
        have HTr := Lib.hid (HTV.out.below hby)
        clear hby
        by_cases hy0 : y = 0
        · subst hy0
          have hyz : (((0 : Nat) : Int) < (S : Int)) := by omega
          have hcx := u64_of_i64 (x := x) (by omega)
          have hS256 : S ≤ 256 := v3
          have HCALL := Lib.hid ((fun y => ct3_any k b x y S c N A T _ HTr.out hx hS256 hb hk HN.out HS.out) 0)
          obtain ⟨q, eq⟩ : ∃ q, q = ctFit 2 S b T x 0 := ⟨_, rfl⟩
          rw [← eq] at HCALL
          have EQ := Lib.hid eq
          clear eq
          have hd0 : decide ((0 : Int) < ((0 : Nat) : Int)) = false := rfl
          cases gk with
          | zero => omega
          | succ g2 =>
          cases q
          · go_wp2_with (go_at_call 116; refine HCALL.out.mono ?_; rintro e w3 ⟨rfl, hb3⟩; have HB3 := Lib.hid hb3; clear hb3)
            try rw [Exit.noGoto_ret]
            go_returns
            exact hoV_hit hx (by decide) HX.out (fun y' h => absurd h (Nat.not_lt_zero _)) EQ.out.symm rfl (HBV.out.trans ((HBY.out.trans (HB3.out.mono HBY.out.size)).mono HBV.out.size))
          · have HY2 : Hid (∀ y', y' < 0 + 1 → ctFit 2 S b T x y' = true) := Lib.hid fun y' h => by
              obtain rfl : y' = 0 := by omega
              exact EQ.out.symm
            go_wp2_with (go_at_call 116; refine HCALL.out.mono ?_; rintro e w3 ⟨rfl, hb3⟩; have HB3 := Lib.hid hb3; clear hb3)
            go_roundg g2
            case rel => exact ⟨0 + 1, by omega, by go_num, HY2, HBY.out.trans (HB3.out.mono HBY.out.size)⟩
            case measure => omega
        · have hy1 : y = 1 := by omega
          subst hy1
          have hyz : (((1 : Nat) : Int) < (S : Int)) := by omega
          have hd0 : decide ((0 : Int) < ((1 : Nat) : Int)) = true := rfl
          have HX2 : Hid (∀ x', x' < x + 1 → allB 1 (ctFit 2 S b T x') = true) := Lib.hid fun x' h => by
            rcases Nat.lt_succ_iff_lt_or_eq.1 h with h1 | rfl
            · exact HX.out x' h1
            · exact allB_one (HY.out 0 (by decide))
          go_wp2_with fail
          go_roundg g
          case rel => exact ⟨x + 1, by omega, by go_num, HX2, HBY.out⟩
          case measure => omega
set_option maxHeartbeats 4000000 in
set_option maxRecDepth 100000 in
theorem Holds_4 (k N S b c : Nat) (A : Option Addr) (T : Nat → Nat) (w : World) (hL : LaidC w) (hT : U64s w A S T) (hk : k ≤ 3) (hN : N = 2 ^ k) (hS : S = 2 ^ N) (hb : b < S) (ht : ctChk k b S T = 0) :
    Calls Tryd.prog 23 #[.int .i64 k, .int .u64 b, .slice A S c, .int .i64 4] w (hoV S 1 (ctFit 3 S b T) w) := by
  have hN8 : N ≤ 8 := by rw [hN]; exact Nat.le_trans (Nat.pow_le_pow_right (n := 2) (j := 3) (by decide) hk) (by decide)
  have h1N : 1 ≤ N := by rw [hN]; exact Nat.two_pow_pos k
  have hS2 : 2 ≤ S := by rw [hS]; exact Nat.pow_le_pow_right (n := 2) (i := 1) (by decide) h1N
  obtain ⟨v1, v2, v3, v4⟩ := two_val8 hN8 hS
  have hC := ctChk_any k b S c A T w hT (by omega) (by omega)
  rw [ht] at hC
  have HC := Lib.hid hC
  obtain ⟨bm, g, hr⟩ := hL
  have GG := Lib.hid g
  have HR := Lib.hid hr
  have HT := Lib.hid hT
  have HN := Lib.hid hN
  have HS := Lib.hid hS
  clear hC hr g hT ht v1 v2 hN hS
  go_enter Tryd.func23, Tryd.ntmps23
  go_wp2
  go_step3
  go_upto_region 4 with (go_at_call 25; refine HC.out.mono ?_; rintro e w1 ⟨rfl, hb1⟩; have HB1 := Lib.hid hb1; clear hb1)
  have g0 := cell_below HB1.out GG.out
  have hrun : (Instr.lookup 70 (.map (some bm)) (.int .i64 4) true).run Tryd.prog w1 = .ok (.tuple #[.agg #[.func (.func 117) #[] #[], .bool false], .bool true]) w1 := (HR.out w1 HB1.out).1 4 (by decide) (by decide)
  go_upto_region 5 with (fail)
  obtain ⟨p0, p1, hBX⟩ := cells_two w1 (.func (.func 117) #[] #[]) (.bool false) 68
  generalize w1.alloc (.cells #[.func (.func 117) #[] #[], .bool false] 68) = X at p0 p1 hBX ⊢
  have HBX := Lib.hid (HB1.out.trans (hBX.mono HB1.out.size))
  generalize w1.heap.size = bp at p0 p1 ⊢
  clear g0 hrun hBX
  go_upto_region 8 with (fail)
  obtain ⟨d0, d1, d2, hBV⟩ := cells_box3 X (.int .i64 k) (.int .u64 b) (.slice A S c) 72
  generalize X.alloc (.cells #[.int .i64 k, .int .u64 b, .slice A S c] 72) = V at d0 d1 d2 hBV ⊢
  have HD := Lib.hid (show V.cell? ⟨bp, 0, none⟩ = _ ∧ V.cell? ⟨bp, 1, none⟩ = _ ∧ V.cell? ⟨X.heap.size, 0, none⟩ = _ ∧ V.cell? ⟨X.heap.size, 1, none⟩ = _ ∧ V.cell? ⟨X.heap.size, 2, none⟩ = _ from ⟨cell_below hBV p0, cell_below hBV p1, d0, d1, d2⟩)
  have HBV := Lib.hid (HBX.out.trans (hBV.mono HBX.out.size))
  have HTV := Lib.hid (HT.out.below HBV.out)
  generalize X.heap.size = be at HD ⊢
  clear d0 d1 d2 p0 p1 hBV HBX HT HC GG HR HB1
  go_step3
  go_wp2
  go_loopg [39] S (fun g i wx => ∃ x : Nat, x + g = S ∧ i = .int .i64 x ∧ Hid (∀ x', x' < x → allB 1 (ctFit 3 S b T x') = true) ∧ Below V.heap.size V wx)
  case atStart => exact ⟨0, by omega, rfl, Lib.hid (fun x' h => absurd h (Nat.not_lt_zero _)), Below.refl _ _⟩
  case round =>
    obtain ⟨x, hxg, rfl, HX, hbx⟩ := hrel
    cases gk with
    | zero =>
      have hkz : ¬ ((x : Int) < (S : Int)) := by omega
      obtain rfl : x = S := by omega
      have HB := Lib.hid (HBV.out.trans (hbx.mono HBV.out.size))
      clear hbx
      go_wp2_with fail
      try rw [Exit.noGoto_ret]
      go_returns
      exact hoV_none HX.out rfl HB.out
    | succ g =>
      have hkz : (x : Int) < (S : Int) := by omega
      have hx : x < S := by omega
      have HBX := Lib.hid hbx
      clear hbx
      go_wp2_with fail
      go_loopg [44] 1 (fun g i wx => ∃ y : Nat, y + g = 1 ∧ i = .int .i64 y ∧ Hid (∀ y', y' < y → ctFit 3 S b T x y' = true) ∧ Below V.heap.size V wx)
      case atStart => exact ⟨0, by omega, rfl, Lib.hid (fun x' h => absurd h (Nat.not_lt_zero _)), HBX.out⟩
      case round =>
        clear HBX
        obtain ⟨y, hyg, rfl, HY, hby⟩ := hrel
        have HBY := Lib.hid hby
        have c0 := cell_below hby HD.out.1
        have c1 := cell_below hby HD.out.2.1
        have d0 := cell_below hby HD.out.2.2.1
        have d1 := cell_below hby HD.out.2.2.2.1
        have d2 := cell_below hby HD.out.2.2.2.2
        have HTr := Lib.hid (HTV.out.below hby)
        clear hby
        by_cases hy0 : y = 0
        · subst hy0
          have hyz : (((0 : Nat) : Int) < (S : Int)) := by omega
          have hcx := u64_of_i64 (x := x) (by omega)
          have hS256 : S ≤ 256 := v3
          have HCALL := Lib.hid ((fun y => ct4_any k b x y S c A T _ HTr.out hx hS256 hb) 0)
          obtain ⟨q, eq⟩ : ∃ q, q = ctFit 3 S b T x 0 := ⟨_, rfl⟩
          rw [← eq] at HCALL
          have EQ := Lib.hid eq
          clear eq
          have hd0 : decide ((0 : Int) < ((0 : Nat) : Int)) = false := rfl
          cases gk with
          | zero => omega
          | succ g2 =>
          cases q
          · go_wp2_with (go_at_call 117; refine HCALL.out.mono ?_; rintro e w3 ⟨rfl, hb3⟩; have HB3 := Lib.hid hb3; clear hb3)
            try rw [Exit.noGoto_ret]
            go_returns
            exact hoV_hit hx (by decide) HX.out (fun y' h => absurd h (Nat.not_lt_zero _)) EQ.out.symm rfl (HBV.out.trans ((HBY.out.trans (HB3.out.mono HBY.out.size)).mono HBV.out.size))
          · have HY2 : Hid (∀ y', y' < 0 + 1 → ctFit 3 S b T x y' = true) := Lib.hid fun y' h => by
              obtain rfl : y' = 0 := by omega
              exact EQ.out.symm
            go_wp2_with (go_at_call 117; refine HCALL.out.mono ?_; rintro e w3 ⟨rfl, hb3⟩; have HB3 := Lib.hid hb3; clear hb3)
            go_roundg g2
            case rel => exact ⟨0 + 1, by omega, by go_num, HY2, HBY.out.trans (HB3.out.mono HBY.out.size)⟩
            case measure => omega
        · have hy1 : y = 1 := by omega
          subst hy1
          have hyz : (((1 : Nat) : Int) < (S : Int)) := by omega
          have hd0 : decide ((0 : Int) < ((1 : Nat) : Int)) = true := rfl
          have HX2 : Hid (∀ x', x' < x + 1 → allB 1 (ctFit 3 S b T x') = true) := Lib.hid fun x' h => by
            rcases Nat.lt_succ_iff_lt_or_eq.1 h with h1 | rfl
            · exact HX.out x' h1
            · exact allB_one (HY.out 0 (by decide))
          go_wp2_with fail
          go_roundg g
          case rel => exact ⟨x + 1, by omega, by go_num, HX2, HBY.out⟩
          case measure => omega
set_option maxHeartbeats 4000000 in
set_option maxRecDepth 100000 in
theorem Holds_5 (k N S b c : Nat) (A : Option Addr) (T : Nat → Nat) (w : World) (hL : LaidC w) (hT : U64s w A S T) (hk : k ≤ 3) (hN : N = 2 ^ k) (hS : S = 2 ^ N) (hb : b < S) (ht : ctChk k b S T = 0) :
    Calls Tryd.prog 23 #[.int .i64 k, .int .u64 b, .slice A S c, .int .i64 5] w (hoV S S (ctFit 4 S b T) w) := by
  have hN8 : N ≤ 8 := by rw [hN]; exact Nat.le_trans (Nat.pow_le_pow_right (n := 2) (j := 3) (by decide) hk) (by decide)
  have h1N : 1 ≤ N := by rw [hN]; exact Nat.two_pow_pos k
  have hS2 : 2 ≤ S := by rw [hS]; exact Nat.pow_le_pow_right (n := 2) (i := 1) (by decide) h1N
  obtain ⟨v1, v2, v3, v4⟩ := two_val8 hN8 hS
  have hC := ctChk_any k b S c A T w hT (by omega) (by omega)
  rw [ht] at hC
  have HC := Lib.hid hC
  obtain ⟨bm, g, hr⟩ := hL
  have GG := Lib.hid g
  have HR := Lib.hid hr
  have HT := Lib.hid hT
  have HN := Lib.hid hN
  have HS := Lib.hid hS
  clear hC hr g hT ht v1 v2 hN hS
  go_enter Tryd.func23, Tryd.ntmps23
  go_wp2
  go_step3
  go_upto_region 4 with (go_at_call 25; refine HC.out.mono ?_; rintro e w1 ⟨rfl, hb1⟩; have HB1 := Lib.hid hb1; clear hb1)
  have g0 := cell_below HB1.out GG.out
  have hrun : (Instr.lookup 70 (.map (some bm)) (.int .i64 5) true).run Tryd.prog w1 = .ok (.tuple #[.agg #[.func (.func 118) #[] #[], .bool true], .bool true]) w1 := (HR.out w1 HB1.out).1 5 (by decide) (by decide)
  go_upto_region 5 with (fail)
  obtain ⟨p0, p1, hBX⟩ := cells_two w1 (.func (.func 118) #[] #[]) (.bool true) 68
  generalize w1.alloc (.cells #[.func (.func 118) #[] #[], .bool true] 68) = X at p0 p1 hBX ⊢
  have HBX := Lib.hid (HB1.out.trans (hBX.mono HB1.out.size))
  generalize w1.heap.size = bp at p0 p1 ⊢
  clear g0 hrun hBX
  go_upto_region 8 with (fail)
  obtain ⟨d0, d1, d2, hBV⟩ := cells_box3 X (.int .i64 k) (.int .u64 b) (.slice A S c) 72
  generalize X.alloc (.cells #[.int .i64 k, .int .u64 b, .slice A S c] 72) = V at d0 d1 d2 hBV ⊢
  have HD := Lib.hid (show V.cell? ⟨bp, 0, none⟩ = _ ∧ V.cell? ⟨bp, 1, none⟩ = _ ∧ V.cell? ⟨X.heap.size, 0, none⟩ = _ ∧ V.cell? ⟨X.heap.size, 1, none⟩ = _ ∧ V.cell? ⟨X.heap.size, 2, none⟩ = _ from ⟨cell_below hBV p0, cell_below hBV p1, d0, d1, d2⟩)
  have HBV := Lib.hid (HBX.out.trans (hBV.mono HBX.out.size))
  have HTV := Lib.hid (HT.out.below HBV.out)
  generalize X.heap.size = be at HD ⊢
  clear d0 d1 d2 p0 p1 hBV HBX HT HC GG HR HB1
  go_step3
  go_wp2
  go_loopg [39] S (fun g i wx => ∃ x : Nat, x + g = S ∧ i = .int .i64 x ∧ Hid (∀ x', x' < x → allB S (ctFit 4 S b T x') = true) ∧ Below V.heap.size V wx)
  case atStart => exact ⟨0, by omega, rfl, Lib.hid (fun x' h => absurd h (Nat.not_lt_zero _)), Below.refl _ _⟩
  case round =>
    obtain ⟨x, hxg, rfl, HX, hbx⟩ := hrel
    cases gk with
    | zero =>
      have hkz : ¬ ((x : Int) < (S : Int)) := by omega
      obtain rfl : x = S := by omega
      have HB := Lib.hid (HBV.out.trans (hbx.mono HBV.out.size))
      clear hbx
      go_wp2_with fail
      try rw [Exit.noGoto_ret]
      go_returns
      exact hoV_none HX.out rfl HB.out
    | succ g =>
      have hkz : (x : Int) < (S : Int) := by omega
      have hx : x < S := by omega
      have HBX := Lib.hid hbx
      clear hbx
      go_wp2_with fail
      go_loopg [44] S (fun g i wx => ∃ y : Nat, y + g = S ∧ i = .int .i64 y ∧ Hid (∀ y', y' < y → ctFit 4 S b T x y' = true) ∧ Below V.heap.size V wx)
      case atStart => exact ⟨0, by omega, rfl, Lib.hid (fun x' h => absurd h (Nat.not_lt_zero _)), HBX.out⟩
      case round =>
        clear HBX
        obtain ⟨y, hyg, rfl, HY, hby⟩ := hrel
        have HBY := Lib.hid hby
        have c0 := cell_below hby HD.out.1
        have c1 := cell_below hby HD.out.2.1
        have d0 := cell_below hby HD.out.2.2.1
        have d1 := cell_below hby HD.out.2.2.2.1
        have d2 := cell_below hby HD.out.2.2.2.2
        have HTr := Lib.hid (HTV.out.below hby)
        clear hby
        cases gk with
        | zero =>
          have hyz : ¬ ((y : Int) < (S : Int)) := by omega
          obtain rfl : y = S := by omega
          have HX2 : Hid (∀ x', x' < x + 1 → allB y (ctFit 4 y b T x') = true) := Lib.hid fun x' h => by
            rcases Nat.lt_succ_iff_lt_or_eq.1 h with h1 | rfl
            · exact HX.out x' h1
            · exact allB_iff.2 HY.out
          go_wp2_with fail
          go_roundg g
          case rel => exact ⟨x + 1, by omega, by go_num, HX2, HBY.out⟩
          case measure => omega
        | succ g2 =>
          have hyz : (y : Int) < (S : Int) := by omega
          have hy : y < S := by omega
          have hcx := u64_of_i64 (x := x) (by omega)
          have hcy := u64_of_i64 (x := y) (by omega)
          have hS256 : S ≤ 256 := v3
          have HCALL := Lib.hid (ct5_any k b x y S c A T _ HTr.out hx hy hS256)
          obtain ⟨q, eq⟩ : ∃ q, q = ctFit 4 S b T x y := ⟨_, rfl⟩
          rw [← eq] at HCALL
          have EQ := Lib.hid eq
          clear eq
          cases q
          · go_wp2_with (go_at_call 118; refine HCALL.out.mono ?_; rintro e w3 ⟨rfl, hb3⟩; have HB3 := Lib.hid hb3; clear hb3)
            try rw [Exit.noGoto_ret]
            go_returns
            exact hoV_hit hx hy HX.out HY.out EQ.out.symm rfl (HBV.out.trans ((HBY.out.trans (HB3.out.mono HBY.out.size)).mono HBV.out.size))
          · have HY2 : Hid (∀ y', y' < y + 1 → ctFit 4 S b T x y' = true) := Lib.hid fun y' h => by
              rcases Nat.lt_succ_iff_lt_or_eq.1 h with h1 | rfl
              · exact HY.out y' h1
              · exact EQ.out.symm
            go_wp2_with (go_at_call 118; refine HCALL.out.mono ?_; rintro e w3 ⟨rfl, hb3⟩; have HB3 := Lib.hid hb3; clear hb3)
            go_roundg g2
            case rel => exact ⟨y + 1, by omega, by go_num, HY2, HBY.out.trans (HB3.out.mono HBY.out.size)⟩
            case measure => omega
set_option maxHeartbeats 4000000 in
set_option maxRecDepth 100000 in
theorem Holds_6 (k N S b c : Nat) (A : Option Addr) (T : Nat → Nat) (w : World) (hL : LaidC w) (hT : U64s w A S T) (hk : k ≤ 3) (hN : N = 2 ^ k) (hS : S = 2 ^ N) (hb : b < S) (ht : ctChk k b S T = 0) :
    Calls Tryd.prog 23 #[.int .i64 k, .int .u64 b, .slice A S c, .int .i64 6] w (hoV S S (ctFit 5 S b T) w) := by
  have hN8 : N ≤ 8 := by rw [hN]; exact Nat.le_trans (Nat.pow_le_pow_right (n := 2) (j := 3) (by decide) hk) (by decide)
  have h1N : 1 ≤ N := by rw [hN]; exact Nat.two_pow_pos k
  have hS2 : 2 ≤ S := by rw [hS]; exact Nat.pow_le_pow_right (n := 2) (i := 1) (by decide) h1N
  obtain ⟨v1, v2, v3, v4⟩ := two_val8 hN8 hS
  have hC := ctChk_any k b S c A T w hT (by omega) (by omega)
  rw [ht] at hC
  have HC := Lib.hid hC
  obtain ⟨bm, g, hr⟩ := hL
  have GG := Lib.hid g
  have HR := Lib.hid hr
  have HT := Lib.hid hT
  have HN := Lib.hid hN
  have HS := Lib.hid hS
  clear hC hr g hT ht v1 v2 hN hS
  go_enter Tryd.func23, Tryd.ntmps23
  go_wp2
  go_step3
  go_upto_region 4 with (go_at_call 25; refine HC.out.mono ?_; rintro e w1 ⟨rfl, hb1⟩; have HB1 := Lib.hid hb1; clear hb1)
  have g0 := cell_below HB1.out GG.out
  have hrun : (Instr.lookup 70 (.map (some bm)) (.int .i64 6) true).run Tryd.prog w1 = .ok (.tuple #[.agg #[.func (.func 119) #[] #[], .bool true], .bool true]) w1 := (HR.out w1 HB1.out).1 6 (by decide) (by decide)
  go_upto_region 5 with (fail)
  obtain ⟨p0, p1, hBX⟩ := cells_two w1 (.func (.func 119) #[] #[]) (.bool true) 68
  generalize w1.alloc (.cells #[.func (.func 119) #[] #[], .bool true] 68) = X at p0 p1 hBX ⊢
  have HBX := Lib.hid (HB1.out.trans (hBX.mono HB1.out.size))
  generalize w1.heap.size = bp at p0 p1 ⊢
  clear g0 hrun hBX
  go_upto_region 8 with (fail)
  obtain ⟨d0, d1, d2, hBV⟩ := cells_box3 X (.int .i64 k) (.int .u64 b) (.slice A S c) 72
  generalize X.alloc (.cells #[.int .i64 k, .int .u64 b, .slice A S c] 72) = V at d0 d1 d2 hBV ⊢
  have HD := Lib.hid (show V.cell? ⟨bp, 0, none⟩ = _ ∧ V.cell? ⟨bp, 1, none⟩ = _ ∧ V.cell? ⟨X.heap.size, 0, none⟩ = _ ∧ V.cell? ⟨X.heap.size, 1, none⟩ = _ ∧ V.cell? ⟨X.heap.size, 2, none⟩ = _ from ⟨cell_below hBV p0, cell_below hBV p1, d0, d1, d2⟩)
  have HBV := Lib.hid (HBX.out.trans (hBV.mono HBX.out.size))
  have HTV := Lib.hid (HT.out.below HBV.out)
  generalize X.heap.size = be at HD ⊢
  clear d0 d1 d2 p0 p1 hBV HBX HT HC GG HR HB1
  go_step3
  go_wp2
  go_loopg [39] S (fun g i wx => ∃ x : Nat, x + g = S ∧ i = .int .i64 x ∧ Hid (∀ x', x' < x → allB S (ctFit 5 S b T x') = true) ∧ Below V.heap.size V wx)
  case atStart => exact ⟨0, by omega, rfl, Lib.hid (fun x' h => absurd h (Nat.not_lt_zero _)), Below.refl _ _⟩
  case round =>
    obtain ⟨x, hxg, rfl, HX, hbx⟩ := hrel
    cases gk with
    | zero =>
      have hkz : ¬ ((x : Int) < (S : Int)) := by omega
      obtain rfl : x = S := by omega
      have HB := Lib.hid (HBV.out.trans (hbx.mono HBV.out.size))
      clear hbx
      go_wp2_with fail
      try rw [Exit.noGoto_ret]
      go_returns
      exact hoV_none HX.out rfl HB.out
    | succ g =>
      have hkz : (x : Int) < (S : Int) := by omega
      have hx : x < S := by omega
      have HBX := Lib.hid hbx
      clear hbx
      go_wp2_with fail
      go_loopg [44] S (fun g i wx => ∃ y : Nat, y + g = S ∧ i = .int .i64 y ∧ Hid (∀ y', y' < y → ctFit 5 S b T x y' = true) ∧ Below V.heap.size V wx)
      case atStart => exact ⟨0, by omega, rfl, Lib.hid (fun x' h => absurd h (Nat.not_lt_zero _)), HBX.out⟩
      case round =>
        clear HBX
        obtain ⟨y, hyg, rfl, HY, hby⟩ := hrel
        have HBY := Lib.hid hby
        have c0 := cell_below hby HD.out.1
        have c1 := cell_below hby HD.out.2.1
        have d0 := cell_below hby HD.out.2.2.1
        have d1 := cell_below hby HD.out.2.2.2.1
        have d2 := cell_below hby HD.out.2.2.2.2
        have HTr := Lib.hid (HTV.out.below hby)
        clear hby
        cases gk with
        | zero =>
          have hyz : ¬ ((y : Int) < (S : Int)) := by omega
          obtain rfl : y = S := by omega
          have HX2 : Hid (∀ x', x' < x + 1 → allB y (ctFit 5 y b T x') = true) := Lib.hid fun x' h => by
            rcases Nat.lt_succ_iff_lt_or_eq.1 h with h1 | rfl
            · exact HX.out x' h1
            · exact allB_iff.2 HY.out
          go_wp2_with fail
          go_roundg g
          case rel => exact ⟨x + 1, by omega, by go_num, HX2, HBY.out⟩
          case measure => omega
        | succ g2 =>
          have hyz : (y : Int) < (S : Int) := by omega
          have hy : y < S := by omega
          have hcx := u64_of_i64 (x := x) (by omega)
          have hcy := u64_of_i64 (x := y) (by omega)
          have hS256 : S ≤ 256 := v3
          have HCALL := Lib.hid (ct6_any k b x y S c A T _ HTr.out hx hy hS256)
          obtain ⟨q, eq⟩ : ∃ q, q = ctFit 5 S b T x y := ⟨_, rfl⟩
          rw [← eq] at HCALL
          have EQ := Lib.hid eq
          clear eq
          cases q
          · go_wp2_with (go_at_call 119; refine HCALL.out.mono ?_; rintro e w3 ⟨rfl, hb3⟩; have HB3 := Lib.hid hb3; clear hb3)
            try rw [Exit.noGoto_ret]
            go_returns
            exact hoV_hit hx hy HX.out HY.out EQ.out.symm rfl (HBV.out.trans ((HBY.out.trans (HB3.out.mono HBY.out.size)).mono HBV.out.size))
          · have HY2 : Hid (∀ y', y' < y + 1 → ctFit 5 S b T x y' = true) := Lib.hid fun y' h => by
              rcases Nat.lt_succ_iff_lt_or_eq.1 h with h1 | rfl
              · exact HY.out y' h1
              · exact EQ.out.symm
            go_wp2_with (go_at_call 119; refine HCALL.out.mono ?_; rintro e w3 ⟨rfl, hb3⟩; have HB3 := Lib.hid hb3; clear hb3)
            go_roundg g2
            case rel => exact ⟨y + 1, by omega, by go_num, HY2, HBY.out.trans (HB3.out.mono HBY.out.size)⟩
            case measure => omega
theorem Holds_at (p k N S b c : Nat) (A : Option Addr) (T : Nat → Nat) (w : World) (hp1 : 1 ≤ p) (hp6 : p ≤ 6) (hL : LaidC w) (hT : U64s w A S T) (hk : k ≤ 3) (hN : N = 2 ^ k) (hS : S = 2 ^ N) (hb : b < S) (ht : ctChk k b S T = 0) :
    Calls Tryd.prog 23 #[.int .i64 k, .int .u64 b, .slice A S c, .int .i64 p] w (hoV S (ctLast S (p - 1)) (ctFit (p - 1) S b T) w) := by
  have hp : p = 1 ∨ p = 2 ∨ p = 3 ∨ p = 4 ∨ p = 5 ∨ p = 6 := by omega
  rcases hp with rfl | rfl | rfl | rfl | rfl | rfl
  · exact Holds_1 k N S b c A T w hL hT hk hN hS hb ht
  · exact Holds_2 k N S b c A T w hL hT hk hN hS hb ht
  · exact Holds_3 k N S b c A T w hL hT hk hN hS hb ht
  · exact Holds_4 k N S b c A T w hL hT hk hN hS hb ht
  · exact Holds_5 k N S b c A T w hL hT hk hN hS hb ht
  · exact Holds_6 k N S b c A T w hL hT hk hN hS hb ht
set_option maxHeartbeats 2000000 in
set_option maxRecDepth 100000 in
theorem Holds_err (n p : Int) (b len c : Nat) (A : Option Addr) (T : Nat → Nat) (w : World) (hL : LaidC w) (hT : U64s w A len T) (hlen : len ≤ 9223372036854775807) (hb : b < 18446744073709551616) (hp : -9223372036854775808 ≤ p ∧ p ≤ 9223372036854775807) (he : hoE n b len T p ≠ 0) :
    Calls Tryd.prog 23 #[.int .i64 n, .int .u64 b, .slice A len c, .int .i64 p] w (HoPost false 0 0 (hoE n b len T p) w) := by
  have HC := Lib.hid (ctChk_any n b len c A T w hT hlen hb)
  by_cases h0 : ctChk n b len T = 0
  · have hn : ¬ (1 ≤ p ∧ p ≤ 6) := fun h => he (by unfold hoE; rw [if_pos h0, if_pos h])
    have hE : hoE n b len T p = 1 := by unfold hoE; rw [if_pos h0, if_neg hn]
    rw [hE]
    rw [h0] at HC
    obtain ⟨bm, g, hr⟩ := hL
    have GG := Lib.hid g
    have HR := Lib.hid hr
    clear hr g hT h0 hE he
    go_enter Tryd.func23, Tryd.ntmps23
    go_wp2
    go_step3
    go_upto_region 4 with (go_at_call 25; refine HC.out.mono ?_; rintro e w1 ⟨rfl, hb1⟩; have HB1 := Lib.hid hb1; clear hb1)
    have g0 := cell_below HB1.out GG.out
    have hrun : (Instr.lookup 70 (.map (some bm)) (.int .i64 p) true).run Tryd.prog w1 = .ok (.tuple #[.agg #[.nilFunc, .bool false], .bool false]) w1 := (HR.out w1 HB1.out).2 p hp hn
    go_upto_region 5 with (fail)
    have hBX := below_alloc w1 (.cells #[.nilFunc, .bool false] 68)
    have HBX := Lib.hid (HB1.out.trans (hBX.mono HB1.out.size))
    clear hBX g0 hrun
    go_wp2_with fail
    try rw [Exit.noGoto_ret]
    go_returns
    exact ⟨rfl, HBX.out⟩
  · have hE : hoE n b len T p = ctChk n b len T := by unfold hoE; rw [if_neg h0]
    rw [hE]
    obtain ⟨E, eE⟩ : ∃ E, E = ctChk n b len T := ⟨_, rfl⟩
    rw [← eE] at HC h0 ⊢
    have hne : ((E : Int) != 0) = true := by rw [bne_iff_ne]; omega
    clear eE hE he hT hL
    go_enter Tryd.func23, Tryd.ntmps23
    go_wp2
    go_step3
    go_wp2_with (go_at_call 25; refine HC.out.mono ?_; rintro e w1 ⟨rfl, hb1⟩; have HB1 := Lib.hid hb1; clear hb1)
    try rw [Exit.noGoto_ret]
    go_returns
    exact ⟨rfl, HB1.out⟩
/-- Holds, at all arguments. -/
theorem Holds_any (n p : Int) (b len c : Nat) (A : Option Addr) (T : Nat → Nat) (w : World) (hL : LaidC w) (hT : U64s w A len T) (hlen : len ≤ 9223372036854775807) (hb : b < 18446744073709551616) (hp : -9223372036854775808 ≤ p ∧ p ≤ 9223372036854775807) :
    Calls Tryd.prog 23 #[.int .i64 n, .int .u64 b, .slice A len c, .int .i64 p] w (HoPost (hoOk n b len T p) (hoX n b len T p) (hoY n b len T p) (hoE n b len T p) w) := by
  by_cases he : hoE n b len T p = 0
  · have h0 : ctChk n b len T = 0 := by
      unfold hoE at he
      by_cases h : ctChk n b len T = 0
      · exact h
      · rw [if_neg h] at he; exact he
    have hpp : 1 ≤ p ∧ p ≤ 6 := by
      unfold hoE at he
      rw [if_pos h0] at he
      by_cases h : 1 ≤ p ∧ p ≤ 6
      · exact h
      · rw [if_neg h] at he; cases he
    obtain ⟨k, rfl, hk, rfl, hbS, _⟩ := ctChk_ok h0
    obtain ⟨q, rfl⟩ : ∃ q : Nat, p = q := ⟨p.toNat, by omega⟩
    have hq : ((q : Int) - 1).toNat = q - 1 := by omega
    refine (Holds_at q k _ _ b c A T w (by omega) (by omega) hL hT hk rfl rfl hbS h0).mono fun e w' h => ?_
    unfold hoV at h
    unfold hoOk hoX hoY
    rw [if_pos he, if_pos he, if_pos he, he, hq]
    exact h
  · have e1 : hoOk n b len T p = false := if_neg he
    have e2 : hoX n b len T p = 0 := if_neg he
    have e3 : hoY n b len T p = 0 := if_neg he
    rw [e1, e2, e3]
    exact Holds_err n p b len c A T w hL hT hlen hb hp he
end Go.Proofs.YtiifmdgcnpdibaaDoor
