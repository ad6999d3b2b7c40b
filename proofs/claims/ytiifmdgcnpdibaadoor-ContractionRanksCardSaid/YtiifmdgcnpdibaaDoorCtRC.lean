/-
  Walks: the reference of layer 40: holds, Holds.
-/
import Derived.Test.YtiifmdgcnpdibaaDoorProg
import Derived.Test.YtiifmdgcnpdibaaDoorBase
import Derived.Test.YtiifmdgcnpdibaaDoorRow
import Derived.Test.YtiifmdgcnpdibaaDoorRowU
import Derived.Test.YtiifmdgcnpdibaaDoorRowsOf
import Derived.Test.YtiifmdgcnpdibaaDoorLeast
import Derived.Test.YtiifmdgcnpdibaaDoorRkQ
import Derived.Test.YtiifmdgcnpdibaaDoorRkB
import Derived.Test.YtiifmdgcnpdibaaDoorRkC3
import Derived.Test.YtiifmdgcnpdibaaDoorRkR3
import Derived.Test.YtiifmdgcnpdibaaDoorPoP
import Derived.Test.YtiifmdgcnpdibaaDoorCtP
import Derived.Test.YtiifmdgcnpdibaaDoorCtQ
import Derived.Test.YtiifmdgcnpdibaaDoorCtA
import Derived.Test.YtiifmdgcnpdibaaDoorCtB
import Derived.Test.YtiifmdgcnpdibaaDoorCtD
import Derived.Test.YtiifmdgcnpdibaaDoorCtF
import Derived.Test.YtiifmdgcnpdibaaDoorCtG
import Derived.Test.YtiifmdgcnpdibaaDoorCtRA
import Derived.Test.YtiifmdgcnpdibaaDoorCtRB
namespace Go.Proofs.YtiifmdgcnpdibaaDoor
open Go.RowKit

theorem ofInt_i64 (a : Nat) (ha : a < 9223372036854775808) : (BitVec.ofInt 64 (a : Int)).toNat = a := by
  rw [BitVec.ofInt_natCast, BitVec.toNat_ofNat]; exact Nat.mod_eq_of_lt (by omega)
theorem i64_and_nat (a b : Nat) (ha : a < 9223372036854775808) (hb : b < 9223372036854775808) : bits .and .i64 (a : Int) (b : Int) = ((a &&& b : Nat) : Int) := by
  have hx : a &&& b < 2 ^ 63 := Nat.lt_of_le_of_lt Nat.and_le_left (by omega)
  show IntKind.i64.wrap ((BitVec.ofInt 64 (a : Int) &&& BitVec.ofInt 64 (b : Int)).toNat : Int) = _
  rw [BitVec.toNat_and, ofInt_i64 a ha, ofInt_i64 b hb, IntKind.wrap_i64]
  omega
set_option maxHeartbeats 2000000 in
theorem rh_1 (k N S b c x y : Nat) (A : Option Addr) (T : Nat → Nat) (w : World) (hT : U64s w A S T) (_hk : k ≤ 3) (_hN : N = 2 ^ k) (_hS : S = 2 ^ N) (hS256 : S ≤ 256) (hb : b < S) (hx : x < S) (_hy : y < S) :
    Calls Tryd.prog 53 #[.int .i64 k, .int .u64 b, .slice A S c, .int .i64 1, .int .i64 x, .int .i64 y] w (FitPost (ctFit 0 S b T x y) w) := by
  have hcx := wrap_self (x := x) (by omega)
  have hlt : ∀ z, z < S → T z < 18446744073709551616 := fun z hz => by obtain ⟨_, _, _, _, h⟩ := hT z hz; exact h
  have hl := hlt x hx
  obtain ⟨b', off, rfl, hc, -⟩ := hT x hx
  have ha := bits_andNot b (T x) (by omega) hl
  have HF := Lib.hid (show ctFit 0 S b T x y = (andNot b (T x) == 0) from rfl)
  clear hT hlt _hN _hS
  go_enter Tryd.func53, Tryd.ntmps53
  go_wp2
  go_ret
  exact ⟨by rw [HF.out, ← eq0_nat]; rfl, Below.refl _ _⟩
set_option maxHeartbeats 2000000 in
theorem rh_2 (k N S b c x y : Nat) (A : Option Addr) (T : Nat → Nat) (w : World) (hT : U64s w A S T) (_hk : k ≤ 3) (_hN : N = 2 ^ k) (_hS : S = 2 ^ N) (hS256 : S ≤ 256) (hb : b < S) (hx : x < S) (_hy : y < S) :
    Calls Tryd.prog 53 #[.int .i64 k, .int .u64 b, .slice A S c, .int .i64 2, .int .i64 x, .int .i64 y] w (FitPost (ctFit 1 S b T x y) w) := by
  have hcx := wrap_self (x := x) (by omega)
  have hlt : ∀ z, z < S → T z < 18446744073709551616 := fun z hz => by obtain ⟨_, _, _, _, h⟩ := hT z hz; exact h
  have hl := hlt x hx
  obtain ⟨b', off, rfl, hc, -⟩ := hT x hx
  have ha := bits_andNot b x (by omega) (by omega)
  have hF : ctFit 1 S b T x y = (andNot b x == 0 || T x == b) := rfl
  obtain ⟨E, eE⟩ : ∃ E, E = andNot b x := ⟨_, rfl⟩
  rw [← eE] at ha hF
  clear hT hlt eE _hN _hS
  cases h1 : (E == 0)
  · have h1' : ((E : Int) == 0) = false := by rw [eq0_nat, h1]
    rw [h1] at hF
    have HF := Lib.hid hF
    clear hF h1
    go_enter Tryd.func53, Tryd.ntmps53
    go_wp2
    go_ret
    exact ⟨by rw [HF.out, Bool.false_or, ← eq_nat]; rfl, Below.refl _ _⟩
  · have h1' : ((E : Int) == 0) = true := by rw [eq0_nat, h1]
    rw [h1] at hF
    have HF := Lib.hid hF
    clear hF h1
    go_enter Tryd.func53, Tryd.ntmps53
    go_wp2
    go_ret
    exact ⟨by rw [HF.out]; rfl, Below.refl _ _⟩
set_option maxHeartbeats 2000000 in
theorem rh_3 (k N S b c x y : Nat) (A : Option Addr) (T : Nat → Nat) (w : World) (hT : U64s w A S T) (_hk : k ≤ 3) (_hN : N = 2 ^ k) (_hS : S = 2 ^ N) (hS256 : S ≤ 256) (_hb : b < S) (hx : x < S) (_hy : y < S) :
    Calls Tryd.prog 53 #[.int .i64 k, .int .u64 b, .slice A S c, .int .i64 3, .int .i64 x, .int .i64 y] w (FitPost (ctFit 2 S b T x y) w) := by
  have hcx := wrap_self (x := x) (by omega)
  have hlt : ∀ z, z < S → T z < 18446744073709551616 := fun z hz => by obtain ⟨_, _, _, _, h⟩ := hT z hz; exact h
  have hl := hlt x hx
  obtain ⟨b', off, rfl, hc, -⟩ := hT x hx
  have ha := bits_andNot (T x) x hl (by omega)
  have HA := Lib.hid (fun w => all40_any k N S w (by omega) _hN _hS)
  have hF : ctFit 2 S b T x y = (x == S - 1 || andNot (T x) x != 0) := rfl
  obtain ⟨E, eE⟩ : ∃ E, E = andNot (T x) x := ⟨_, rfl⟩
  rw [← eE] at ha hF
  obtain ⟨Q, eQ⟩ : ∃ Q, Q = S - 1 := ⟨_, rfl⟩
  rw [← eQ] at hF HA
  clear hT hlt eE eQ _hN _hS
  cases h1 : (x == Q)
  · have h1' : ((x : Int) == (Q : Int)) = false := by rw [eq_nat, h1]
    rw [h1] at hF
    have HF := Lib.hid hF
    clear hF h1
    go_enter Tryd.func53, Tryd.ntmps53
    go_wp2_with (go_at_call 40; refine (HA.out _).mono ?_; rintro e w' ⟨rfl, rfl⟩)
    go_ret
    exact ⟨by rw [HF.out, Bool.false_or, ← ne0_nat]; rfl, Below.refl _ _⟩
  · have h1' : ((x : Int) == (Q : Int)) = true := by rw [eq_nat, h1]
    rw [h1] at hF
    have HF := Lib.hid hF
    clear hF h1
    go_enter Tryd.func53, Tryd.ntmps53
    go_wp2_with (go_at_call 40; refine (HA.out _).mono ?_; rintro e w' ⟨rfl, rfl⟩)
    go_ret
    exact ⟨by rw [HF.out]; rfl, Below.refl _ _⟩
set_option maxHeartbeats 2000000 in
theorem rh_4 (k N S b c x y : Nat) (A : Option Addr) (T : Nat → Nat) (w : World) (hT : U64s w A S T) (_hk : k ≤ 3) (_hN : N = 2 ^ k) (_hS : S = 2 ^ N) (hS256 : S ≤ 256) (hb : b < S) (hx : x < S) (_hy : y < S) :
    Calls Tryd.prog 53 #[.int .i64 k, .int .u64 b, .slice A S c, .int .i64 4, .int .i64 x, .int .i64 y] w (FitPost (ctFit 3 S b T x y) w) := by
  have hcx := wrap_self (x := x) (by omega)
  have hlt : ∀ z, z < S → T z < 18446744073709551616 := fun z hz => by obtain ⟨_, _, _, _, h⟩ := hT z hz; exact h
  have hl := hlt x hx
  obtain ⟨b', off, rfl, hc, -⟩ := hT x hx
  have hF : ctFit 3 S b T x y = (andNot (T x &&& x) b == 0) := rfl
  obtain ⟨E, eE⟩ : ∃ E, E = T x &&& x := ⟨_, rfl⟩
  have hEl : E < 18446744073709551616 := by rw [eE]; exact and_lt64 hl
  have hn : bits .and .u64 (T x : Int) (x : Int) = (E : Int) := by rw [u64_and_nat _ _ hl (by omega), eE]
  rw [← eE] at hF
  have ha := bits_andNot E b hEl (by omega)
  have HF := Lib.hid hF
  clear hT hlt eE hF _hN _hS
  go_enter Tryd.func53, Tryd.ntmps53
  go_wp2
  go_ret
  exact ⟨by rw [HF.out, ← eq0_nat]; rfl, Below.refl _ _⟩
set_option maxHeartbeats 2000000 in
theorem rh_5 (k N S b c x y : Nat) (A : Option Addr) (T : Nat → Nat) (w : World) (hT : U64s w A S T) (_hk : k ≤ 3) (_hN : N = 2 ^ k) (_hS : S = 2 ^ N) (hS256 : S ≤ 256) (_hb : b < S) (hx : x < S) (_hy : y < S) :
    Calls Tryd.prog 53 #[.int .i64 k, .int .u64 b, .slice A S c, .int .i64 5, .int .i64 x, .int .i64 y] w (FitPost (ctFit 4 S b T x y) w) := by
  have hcx := wrap_self (x := x) (by omega)
  have hlt : ∀ z, z < S → T z < 18446744073709551616 := fun z hz => by obtain ⟨_, _, _, _, h⟩ := hT z hz; exact h
  have hl := hlt x hx
  have hF : ctFit 4 S b T x y = (andNot (T (x &&& y)) (T x ||| T y) == 0) := rfl
  obtain ⟨z, ez⟩ : ∃ z, z = x &&& y := ⟨_, rfl⟩
  have hz : z < S := by have := and_le_left' x y; omega
  have hzn : bits .and .i64 (x : Int) (y : Int) = (z : Int) := by rw [i64_and_nat _ _ (by omega) (by omega), ez]
  obtain ⟨E, eE⟩ : ∃ E, E = T x ||| T y := ⟨_, rfl⟩
  have hEl : E < 18446744073709551616 := by rw [eE]; exact or_lt64 (hlt x hx) (hlt y _hy)
  have hor : bits .or .u64 (T x : Int) (T y : Int) = (E : Int) := by rw [u64_or_nat _ _ (hlt x hx) (hlt y _hy), eE]
  have ha := bits_andNot (T z) E (hlt z hz) hEl
  rw [← ez, ← eE] at hF
  have HF := Lib.hid hF
  have hxb : (x : Int) < (S : Int) := by omega
  have hyb : (y : Int) < (S : Int) := by omega
  have hzb : (z : Int) < (S : Int) := by omega
  obtain ⟨b', off, rfl, hc, -⟩ := hT x hx
  have hc2 := (u64s_fix hT _hy).1
  have hc3 := (u64s_fix hT hz).1
  clear hT ez eE hF hlt _hN _hS
  go_enter Tryd.func53, Tryd.ntmps53
  go_wp2
  go_quiet (fail)
  go_wp2
  go_ret
  exact ⟨by rw [HF.out, ← eq0_nat]; rfl, below_drewN (Below.refl _ _) _⟩
set_option maxHeartbeats 2000000 in
theorem rh_6 (k N S b c x y : Nat) (A : Option Addr) (T : Nat → Nat) (w : World) (hT : U64s w A S T) (_hk : k ≤ 3) (_hN : N = 2 ^ k) (_hS : S = 2 ^ N) (hS256 : S ≤ 256) (_hb : b < S) (hx : x < S) (_hy : y < S) :
    Calls Tryd.prog 53 #[.int .i64 k, .int .u64 b, .slice A S c, .int .i64 6, .int .i64 x, .int .i64 y] w (FitPost (ctFit 5 S b T x y) w) := by
  have hcx := wrap_self (x := x) (by omega)
  have hlt : ∀ z, z < S → T z < 18446744073709551616 := fun z hz => by obtain ⟨_, _, _, _, h⟩ := hT z hz; exact h
  have hl := hlt x hx
  have hF : ctFit 5 S b T x y = (andNot (T (x &&& y)) x == 0 || andNot (T x) (T (x &&& y)) == 0) := rfl
  obtain ⟨z, ez⟩ : ∃ z, z = x &&& y := ⟨_, rfl⟩
  have hz : z < S := by have := and_le_left' x y; omega
  have hzn : bits .and .i64 (x : Int) (y : Int) = (z : Int) := by rw [i64_and_nat _ _ (by omega) (by omega), ez]
  rw [← ez] at hF
  have ha := bits_andNot (T z) x (hlt z hz) (by omega)
  have ha2 := bits_andNot (T x) (T z) (hlt x hx) (hlt z hz)
  obtain ⟨E, eE⟩ : ∃ E, E = andNot (T z) x := ⟨_, rfl⟩
  rw [← eE] at hF ha
  have hxb : (x : Int) < (S : Int) := by omega
  have hzb : (z : Int) < (S : Int) := by omega
  obtain ⟨b', off, rfl, hc, -⟩ := hT x hx
  have hc3 := (u64s_fix hT hz).1
  clear hT ez eE hlt _hN _hS
  cases h1 : (E == 0)
  · have h1' : ((E : Int) == 0) = false := by rw [eq0_nat, h1]
    rw [h1] at hF
    have HF := Lib.hid hF
    clear hF h1
    go_enter Tryd.func53, Tryd.ntmps53
    go_wp2
    go_quiet (fail)
    go_wp2
    go_ret
    exact ⟨by rw [HF.out, Bool.false_or, ← eq0_nat]; rfl, below_drewN (Below.refl _ _) _⟩
  · have h1' : ((E : Int) == 0) = true := by rw [eq0_nat, h1]
    rw [h1] at hF
    have HF := Lib.hid hF
    clear hF h1
    go_enter Tryd.func53, Tryd.ntmps53
    go_wp2
    go_quiet (fail)
    go_wp2
    go_ret
    exact ⟨by rw [HF.out]; rfl, below_drewN (Below.refl _ _) _⟩
theorem rh_any (p k N S b c x y : Nat) (A : Option Addr) (T : Nat → Nat) (w : World) (h1 : 1 ≤ p) (h6 : p ≤ 6) (hT : U64s w A S T) (hk : k ≤ 3) (hN : N = 2 ^ k) (hS : S = 2 ^ N) (hS256 : S ≤ 256) (hb : b < S) (hx : x < S) (hy : y < S) :
    Calls Tryd.prog 53 #[.int .i64 k, .int .u64 b, .slice A S c, .int .i64 p, .int .i64 x, .int .i64 y] w (FitPost (ctFit (p - 1) S b T x y) w) := by
  have hp : p = 1 ∨ p = 2 ∨ p = 3 ∨ p = 4 ∨ p = 5 ∨ p = 6 := by omega
  rcases hp with rfl | rfl | rfl | rfl | rfl | rfl
  · exact rh_1 k N S b c x y A T w hT hk hN hS hS256 hb hx hy
  · exact rh_2 k N S b c x y A T w hT hk hN hS hS256 hb hx hy
  · exact rh_3 k N S b c x y A T w hT hk hN hS hS256 hb hx hy
  · exact rh_4 k N S b c x y A T w hT hk hN hS hS256 hb hx hy
  · exact rh_5 k N S b c x y A T w hT hk hN hS hS256 hb hx hy
  · exact rh_6 k N S b c x y A T w hT hk hN hS hS256 hb hx hy
set_option maxHeartbeats 2000000 in
theorem rHolds_at (p k N S b c : Nat) (A : Option Addr) (T : Nat → Nat) (w : World) (hp1 : 1 ≤ p) (hp6 : p ≤ 6) (hT : U64s w A S T) (hk : k ≤ 3) (hN : N = 2 ^ k) (hS : S = 2 ^ N) (hb : b < S) (ht : ctChk k b S T = 0) :
    Calls Tryd.prog 24 #[.int .i64 k, .int .u64 b, .slice A S c, .int .i64 p] w (hoV S (ctLast S (p - 1)) (ctFit (p - 1) S b T) w) := by
  have hN8 : N ≤ 8 := by rw [hN]; exact Nat.le_trans (Nat.pow_le_pow_right (n := 2) (j := 3) (by decide) hk) (by decide)
  have h1N : 1 ≤ N := by rw [hN]; exact Nat.two_pow_pos k
  have hS2 : 2 ≤ S := by rw [hS]; exact Nat.pow_le_pow_right (n := 2) (i := 1) (by decide) h1N
  obtain ⟨v1, v2, v3, v4⟩ := two_val8 hN8 hS
  have hC := rCtChk_any k b S c A T w hT (by omega) (by omega)
  rw [ht] at hC
  have HC := Lib.hid hC
  have HH := Lib.hid (fun W x y (hW : U64s W A S T) hx hy => rh_any p k N S b c x y A T W hp1 hp6 hW hk hN hS v3 hb hx hy)
  have hd1 : decide ((p : Int) < 1) = false := decide_eq_false (by omega)
  have hd2 : decide (6 < (p : Int)) = false := decide_eq_false (by omega)
  obtain ⟨last, el⟩ : ∃ last, last = ctLast S (p - 1) := ⟨_, rfl⟩
  have HLA := Lib.hid (show last = if p ≤ 4 then 1 else S by rw [el]; unfold ctLast; by_cases h : p ≤ 4 <;> (first | (rw [if_pos h, if_pos (by omega)]) | (rw [if_neg h, if_neg (by omega)])))
  rw [← el]
  obtain ⟨fit, ef⟩ : ∃ fit, fit = ctFit (p - 1) S b T := ⟨_, rfl⟩
  rw [← ef] at HH ⊢
  have HT := Lib.hid hT
  clear hC hT ht v1 v2 hN hS el ef
  go_enter Tryd.func24, Tryd.ntmps24
  go_wp2_with (go_at_call 26; refine HC.out.mono ?_; rintro e w1 ⟨rfl, hb1⟩; have HB1 := Lib.hid hb1; clear hb1)
  go_loopw [13] (fun i wr => ∃ x : Nat, x ≤ S ∧ i = .int .i64 x ∧ Hid (∀ x', x' < x → allB last (fit x') = true) ∧ Below w.heap.size w wr) (fun i _ => S - (intOf i).toNat)
  case atStart => exact ⟨0, Nat.zero_le _, rfl, Lib.hid (fun x' h => absurd h (Nat.not_lt_zero _)), HB1.out⟩
  case round =>
    clear HB1 HC
    obtain ⟨x, hxS, rfl, HX, hbx⟩ := hrel
    by_cases hx : x < S
    · have hkz : (x : Int) < (S : Int) := by omega
      have HBX := Lib.hid hbx
      clear hbx
      go_wp2_with fail
      go_loopw [14] (fun i wr => ∃ y : Nat, y ≤ S ∧ (p ≤ 4 → y = 0) ∧ i = .int .i64 y ∧ Hid (∀ y', y' < y → fit x y' = true) ∧ Below w.heap.size w wr) (fun i _ => S - (intOf i).toNat)
      case atStart => exact ⟨0, Nat.zero_le _, fun _ => rfl, rfl, Lib.hid (fun x' h => absurd h (Nat.not_lt_zero _)), HBX.out⟩
      case round =>
        clear HBX
        obtain ⟨y, hyS, hy4, rfl, HY, hby⟩ := hrel
        by_cases hy : y < S
        · have hyz : (y : Int) < (S : Int) := by omega
          have HCALL := Lib.hid (HH.out wr x y (HT.out.below hby) hx hy)
          have HBY := Lib.hid hby
          obtain ⟨q, eq⟩ : ∃ q, q = fit x y := ⟨_, rfl⟩
          rw [← eq] at HCALL
          have EQ := Lib.hid eq
          clear eq hby
          cases q
          · have hyl : y < last := by rw [HLA.out]; by_cases h : p ≤ 4 <;> (first | (rw [if_pos h, hy4 h]; decide) | (rw [if_neg h]; exact hy))
            go_wp2_with (go_at_call 53; refine HCALL.out.mono ?_; rintro e w3 ⟨rfl, hb3⟩; have HB3 := Lib.hid hb3; clear hb3)
            go_returns
            exact hoV_hit hx hyl HX.out HY.out EQ.out.symm rfl (HBY.out.trans (HB3.out.mono HBY.out.size))
          · have HY2 : Hid (∀ y', y' < y + 1 → fit x y' = true) := Lib.hid fun y' h => by
              rcases Nat.lt_succ_iff_lt_or_eq.1 h with h1 | rfl
              · exact HY.out y' h1
              · exact EQ.out.symm
            by_cases hp4 : p ≤ 4
            · have hd5 : decide ((p : Int) < 5) = true := decide_eq_true (by omega)
              obtain rfl := hy4 hp4
              have HX2 : Hid (∀ x', x' < x + 1 → allB last (fit x') = true) := Lib.hid fun x' h => by
                rcases Nat.lt_succ_iff_lt_or_eq.1 h with h1 | rfl
                · exact HX.out x' h1
                · rw [HLA.out, if_pos hp4]; exact allB_one EQ.out.symm
              clear hy4
              go_wp2_with (go_at_call 53; refine HCALL.out.mono ?_; rintro e w3 ⟨rfl, hb3⟩; have HB3 := Lib.hid hb3; clear hb3)
              go_roundw
              case rel => exact ⟨x + 1, by omega, by go_num, HX2, HBY.out.trans (HB3.out.mono HBY.out.size)⟩
              case measure => simp [intOf]; omega
            · have hd5 : decide ((p : Int) < 5) = false := decide_eq_false (by omega)
              clear hy4
              go_wp2_with (go_at_call 53; refine HCALL.out.mono ?_; rintro e w3 ⟨rfl, hb3⟩; have HB3 := Lib.hid hb3; clear hb3)
              go_roundw
              case rel => exact ⟨y + 1, by omega, fun h => absurd h hp4, by go_num, HY2, HBY.out.trans (HB3.out.mono HBY.out.size)⟩
              case measure => simp [intOf]; omega
        · obtain rfl : y = S := by omega
          have HX2 : Hid (∀ x', x' < x + 1 → allB last (fit x') = true) := Lib.hid fun x' h => by
            rcases Nat.lt_succ_iff_lt_or_eq.1 h with h1 | rfl
            · exact HX.out x' h1
            · refine allB_iff.2 fun u hu => HY.out u ?_
              rw [HLA.out] at hu
              by_cases h4 : p ≤ 4
              · rw [if_pos h4] at hu; omega
              · rw [if_neg h4] at hu; exact hu
          have HBY := Lib.hid hby
          clear hby
          go_wp2_with fail
          go_roundw
          case rel => exact ⟨x + 1, by omega, by go_num, HX2, HBY.out⟩
          case measure => simp [intOf]; omega
    · have hkz : ¬ ((x : Int) < (S : Int)) := by omega
      obtain rfl : x = S := by omega
      have HB := Lib.hid hbx
      clear hbx
      go_wp2_with fail
      go_returns
      exact hoV_none HX.out rfl HB.out
set_option maxHeartbeats 2000000 in
theorem rHolds_err (n p : Int) (b len c : Nat) (A : Option Addr) (T : Nat → Nat) (w : World) (hT : U64s w A len T) (hlen : len ≤ 9223372036854775807) (hb : b < 18446744073709551616) (he : hoE n b len T p ≠ 0) :
    Calls Tryd.prog 24 #[.int .i64 n, .int .u64 b, .slice A len c, .int .i64 p] w (HoPost false 0 0 (hoE n b len T p) w) := by
  have HC := Lib.hid (rCtChk_any n b len c A T w hT hlen hb)
  by_cases h0 : ctChk n b len T = 0
  · have hn : ¬ (1 ≤ p ∧ p ≤ 6) := fun h => he (by unfold hoE; rw [if_pos h0, if_pos h])
    have hE : hoE n b len T p = 1 := by unfold hoE; rw [if_pos h0, if_neg hn]
    rw [hE]
    rw [h0] at HC
    by_cases h1 : p < 1
    · have hd1 : decide (p < 1) = true := decide_eq_true h1
      clear hT h0 hE he hn h1
      go_enter Tryd.func24, Tryd.ntmps24
      go_wp2_with (go_at_call 26; refine HC.out.mono ?_; rintro e w1 ⟨rfl, hb1⟩; have HB1 := Lib.hid hb1; clear hb1)
      go_returns
      exact ⟨rfl, HB1.out⟩
    · have hd1 : decide (p < 1) = false := decide_eq_false h1
      have hd2 : decide (6 < p) = true := decide_eq_true (by omega)
      clear hT h0 hE he hn h1
      go_enter Tryd.func24, Tryd.ntmps24
      go_wp2_with (go_at_call 26; refine HC.out.mono ?_; rintro e w1 ⟨rfl, hb1⟩; have HB1 := Lib.hid hb1; clear hb1)
      go_returns
      exact ⟨rfl, HB1.out⟩
  · have hE : hoE n b len T p = ctChk n b len T := by unfold hoE; rw [if_neg h0]
    rw [hE]
    obtain ⟨E, eE⟩ : ∃ E, E = ctChk n b len T := ⟨_, rfl⟩
    rw [← eE] at HC h0 ⊢
    have hne : ((E : Int) != 0) = true := by rw [bne_iff_ne]; omega
    clear eE hE he hT
    go_enter Tryd.func24, Tryd.ntmps24
    go_wp2_with (go_at_call 26; refine HC.out.mono ?_; rintro e w1 ⟨rfl, hb1⟩; have HB1 := Lib.hid hb1; clear hb1)
    go_returns
    exact ⟨rfl, HB1.out⟩
theorem rHolds_any (n p : Int) (b len c : Nat) (A : Option Addr) (T : Nat → Nat) (w : World) (hT : U64s w A len T) (hlen : len ≤ 9223372036854775807) (hb : b < 18446744073709551616) :
    Calls Tryd.prog 24 #[.int .i64 n, .int .u64 b, .slice A len c, .int .i64 p] w (HoPost (hoOk n b len T p) (hoX n b len T p) (hoY n b len T p) (hoE n b len T p) w) := by
  by_cases he : hoE n b len T p = 0
  · have h0 : ctChk n b len T = 0 := by
      unfold hoE at he
      by_cases h : ctChk n b len T = 0
      · exact h
      · rw [if_neg h] at he; exact he
    have hpp : 1 ≤ p ∧ p ≤ 6 := by
      unfold hoE at he
      rw [if_pos h0] at he
      by_cases h : 1 ≤ p ∧ p ≤ 6
      · exact h
      · rw [if_neg h] at he; cases he
    obtain ⟨k, rfl, hk, rfl, hbS, _⟩ := ctChk_ok h0
    obtain ⟨q, rfl⟩ : ∃ q : Nat, p = q := ⟨p.toNat, by omega⟩
    have hq : ((q : Int) - 1).toNat = q - 1 := by omega
    refine (rHolds_at q k _ _ b c A T w (by omega) (by omega) hT hk rfl rfl hbS h0).mono fun e w' h => ?_
    unfold hoV at h
    unfold hoOk hoX hoY
    rw [if_pos he, if_pos he, if_pos he, he, hq]
    exact h
  · have e1 : hoOk n b len T p = false := if_neg he
    have e2 : hoX n b len T p = 0 := if_neg he
    have e3 : hoY n b len T p = 0 := if_neg he
    rw [e1, e2, e3]
    exact rHolds_err n p b len c A T w hT hlen hb he
end Go.Proofs.YtiifmdgcnpdibaaDoor
