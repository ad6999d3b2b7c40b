/-
  Walks: package contraction: the postulates.
-/
import Derived.Test.YtiifmdgcnpdibaaDoorProg
import Derived.Test.YtiifmdgcnpdibaaDoorBase
import Derived.Test.YtiifmdgcnpdibaaDoorRow
import Derived.Test.YtiifmdgcnpdibaaDoorRowU
import Derived.Test.YtiifmdgcnpdibaaDoorRowsOf
import Derived.Test.YtiifmdgcnpdibaaDoorLeast
import Derived.Test.YtiifmdgcnpdibaaDoorRkQ
import Derived.Test.YtiifmdgcnpdibaaDoorRkB
import Derived.Test.YtiifmdgcnpdibaaDoorRkC3
import Derived.Test.YtiifmdgcnpdibaaDoorPoP
import Derived.Test.YtiifmdgcnpdibaaDoorCtP
import Derived.Test.YtiifmdgcnpdibaaDoorCtQ
import Derived.Test.YtiifmdgcnpdibaaDoorCtA
namespace Go.Proofs.YtiifmdgcnpdibaaDoor
open Go.RowKit

theorem cells_box3 (w : World) (x y z : Value) (T : TypeId) : (w.alloc (.cells #[x, y, z] T)).cell? ⟨w.heap.size, 0, none⟩ = some x ∧ (w.alloc (.cells #[x, y, z] T)).cell? ⟨w.heap.size, 1, none⟩ = some y ∧ (w.alloc (.cells #[x, y, z] T)).cell? ⟨w.heap.size, 2, none⟩ = some z ∧ Below w.heap.size w (w.alloc (.cells #[x, y, z] T)) :=
  ⟨by go_simp, by go_simp, by go_simp, below_alloc w _⟩
theorem and_le_left' (a b : Nat) : a &&& b ≤ a := Nat.and_le_left
/-- What a postulate's function returns. -/
def FitPost (v : Bool) (w : World) (e : Ending) (w' : World) : Prop := e = .returned (.bool v) ∧ Below w.heap.size w w'
def examVal (k b S c : Nat) (A : Option Addr) : Value := .agg #[.int .i64 k, .int .u64 b, .slice A S c]
set_option maxHeartbeats 1000000 in
theorem ct1_any (k b x y S c : Nat) (A : Option Addr) (T : Nat → Nat) (w : World) (hT : U64s w A S T) (hx : x < S) (hS : S ≤ 256) (hb : b < S) :
    Calls Tryd.prog 114 #[.agg #[.int .i64 k, .int .u64 b, .slice A S c], .int .u64 x, .int .u64 y] w (FitPost (ctFit 0 S b T x y) w) := by
  have HT := Lib.hid hT
  have hl : T x < 18446744073709551616 := by obtain ⟨_, _, _, _, h⟩ := hT x hx; exact h
  have ha := bits_andNot b (T x) (by omega) hl
  have HF := Lib.hid (show ctFit 0 S b T x y = (andNot b (T x) == 0) from rfl)
  clear hT
  go_enter Tryd.func114, Tryd.ntmps114
  go_upto_region 1 with (fail)
  obtain ⟨d0, d1, d2, hB⟩ := cells_box3 w (.int .i64 k) (.int .u64 b) (.slice A S c) 72
  generalize w.alloc (.cells #[.int .i64 k, .int .u64 b, .slice A S c] 72) = W at d0 d1 d2 hB ⊢
  obtain ⟨b', off, rfl, hc, -⟩ := (HT.out.below hB) x hx
  have HB := Lib.hid hB
  clear hB
  go_quiet (fail)
  go_wp2
  go_ret
  exact ⟨by rw [HF.out, ← eq0_nat]; rfl, HB.out.trans (below_drewN (Below.refl _ _) _)⟩
set_option maxHeartbeats 1000000 in
theorem ct2_any (k b x y S c : Nat) (A : Option Addr) (T : Nat → Nat) (w : World) (hT : U64s w A S T) (hx : x < S) (hS : S ≤ 256) (hb : b < S) :
    Calls Tryd.prog 115 #[.agg #[.int .i64 k, .int .u64 b, .slice A S c], .int .u64 x, .int .u64 y] w (FitPost (ctFit 1 S b T x y) w) := by
  have HT := Lib.hid hT
  have hl : T x < 18446744073709551616 := by obtain ⟨_, _, _, _, h⟩ := hT x hx; exact h
  have ha := bits_andNot b x (by omega) (by omega)
  have hF : ctFit 1 S b T x y = (andNot b x == 0 || T x == b) := rfl
  obtain ⟨E, eE⟩ : ∃ E, E = andNot b x := ⟨_, rfl⟩
  rw [← eE] at ha hF
  clear hT eE
  cases h1 : (E == 0)
  · have h1' : ((E : Int) == 0) = false := by rw [eq0_nat, h1]
    rw [h1] at hF
    have HF := Lib.hid hF
    clear hF h1
    go_enter Tryd.func115, Tryd.ntmps115
    go_upto_region 1 with (fail)
    obtain ⟨d0, d1, d2, hB⟩ := cells_box3 w (.int .i64 k) (.int .u64 b) (.slice A S c) 72
    generalize w.alloc (.cells #[.int .i64 k, .int .u64 b, .slice A S c] 72) = W at d0 d1 d2 hB ⊢
    obtain ⟨b', off, rfl, hc, -⟩ := (HT.out.below hB) x hx
    have HB := Lib.hid hB
    clear hB
    go_quiet (fail)
    go_wp2
    go_ret
    exact ⟨by rw [HF.out, Bool.false_or, ← eq_nat]; rfl, HB.out.trans (below_drewN (Below.refl _ _) _)⟩
  · have h1' : ((E : Int) == 0) = true := by rw [eq0_nat, h1]
    rw [h1] at hF
    have HF := Lib.hid hF
    clear hF h1
    go_enter Tryd.func115, Tryd.ntmps115
    go_upto_region 1 with (fail)
    obtain ⟨d0, d1, d2, hB⟩ := cells_box3 w (.int .i64 k) (.int .u64 b) (.slice A S c) 72
    generalize w.alloc (.cells #[.int .i64 k, .int .u64 b, .slice A S c] 72) = W at d0 d1 d2 hB ⊢
    obtain ⟨b', off, rfl, hc, -⟩ := (HT.out.below hB) x hx
    have HB := Lib.hid hB
    clear hB
    go_quiet (fail)
    go_wp2
    go_ret
    exact ⟨by rw [HF.out]; rfl, HB.out.trans (below_drewN (Below.refl _ _) _)⟩
set_option maxHeartbeats 1000000 in
theorem ct3_any (k b x y S c N : Nat) (A : Option Addr) (T : Nat → Nat) (w : World) (hT : U64s w A S T) (hx : x < S) (hS : S ≤ 256) (_hb : b < S) (hk : k ≤ 3) (hN : N = 2 ^ k) (hSN : S = 2 ^ N) :
    Calls Tryd.prog 116 #[.agg #[.int .i64 k, .int .u64 b, .slice A S c], .int .u64 x, .int .u64 y] w (FitPost (ctFit 2 S b T x y) w) := by
  have HT := Lib.hid hT
  have hl : T x < 18446744073709551616 := by obtain ⟨_, _, _, _, h⟩ := hT x hx; exact h
  have ha := bits_andNot (T x) x hl (by omega)
  have HA := Lib.hid (fun w => ctAll_any k N S w (by omega) hN hSN)
  have hF : ctFit 2 S b T x y = (x == S - 1 || andNot (T x) x != 0) := rfl
  obtain ⟨E, eE⟩ : ∃ E, E = andNot (T x) x := ⟨_, rfl⟩
  rw [← eE] at ha hF
  obtain ⟨Q, eQ⟩ : ∃ Q, Q = S - 1 := ⟨_, rfl⟩
  rw [← eQ] at hF HA
  clear hT eE eQ hN hSN
  cases h1 : (x == Q)
  · have h1' : ((x : Int) == (Q : Int)) = false := by rw [eq_nat, h1]
    rw [h1] at hF
    have HF := Lib.hid hF
    clear hF h1
    go_enter Tryd.func116, Tryd.ntmps116
    go_upto_region 1 with (fail)
    obtain ⟨d0, d1, d2, hB⟩ := cells_box3 w (.int .i64 k) (.int .u64 b) (.slice A S c) 72
    generalize w.alloc (.cells #[.int .i64 k, .int .u64 b, .slice A S c] 72) = W at d0 d1 d2 hB ⊢
    obtain ⟨b', off, rfl, hc, -⟩ := (HT.out.below hB) x hx
    have HB := Lib.hid hB
    clear hB
    go_wp2_with (go_at_call 42; refine (HA.out _).mono ?_; rintro e w' ⟨rfl, rfl⟩)
    go_ret
    exact ⟨by rw [HF.out, Bool.false_or, ← ne0_nat]; rfl, HB.out⟩
  · have h1' : ((x : Int) == (Q : Int)) = true := by rw [eq_nat, h1]
    rw [h1] at hF
    have HF := Lib.hid hF
    clear hF h1
    go_enter Tryd.func116, Tryd.ntmps116
    go_upto_region 1 with (fail)
    obtain ⟨d0, d1, d2, hB⟩ := cells_box3 w (.int .i64 k) (.int .u64 b) (.slice A S c) 72
    generalize w.alloc (.cells #[.int .i64 k, .int .u64 b, .slice A S c] 72) = W at d0 d1 d2 hB ⊢
    obtain ⟨b', off, rfl, hc, -⟩ := (HT.out.below hB) x hx
    have HB := Lib.hid hB
    clear hB
    go_wp2_with (go_at_call 42; refine (HA.out _).mono ?_; rintro e w' ⟨rfl, rfl⟩)
    go_ret
    exact ⟨by rw [HF.out]; rfl, HB.out⟩
set_option maxHeartbeats 1000000 in
theorem ct4_any (k b x y S c : Nat) (A : Option Addr) (T : Nat → Nat) (w : World) (hT : U64s w A S T) (hx : x < S) (hS : S ≤ 256) (hb : b < S) :
    Calls Tryd.prog 117 #[.agg #[.int .i64 k, .int .u64 b, .slice A S c], .int .u64 x, .int .u64 y] w (FitPost (ctFit 3 S b T x y) w) := by
  have HT := Lib.hid hT
  have hl : T x < 18446744073709551616 := by obtain ⟨_, _, _, _, h⟩ := hT x hx; exact h
  have hF : ctFit 3 S b T x y = (andNot (T x &&& x) b == 0) := rfl
  obtain ⟨E, eE⟩ : ∃ E, E = T x &&& x := ⟨_, rfl⟩
  have hEl : E < 18446744073709551616 := by rw [eE]; exact and_lt64 hl
  have hn : bits .and .u64 (T x : Int) (x : Int) = (E : Int) := by rw [u64_and_nat _ _ hl (by omega), eE]
  rw [← eE] at hF
  have ha := bits_andNot E b hEl (by omega)
  have HF := Lib.hid hF
  clear hT eE hF
  go_enter Tryd.func117, Tryd.ntmps117
  go_upto_region 1 with (fail)
  obtain ⟨d0, d1, d2, hB⟩ := cells_box3 w (.int .i64 k) (.int .u64 b) (.slice A S c) 72
  generalize w.alloc (.cells #[.int .i64 k, .int .u64 b, .slice A S c] 72) = W at d0 d1 d2 hB ⊢
  obtain ⟨b', off, rfl, hc, -⟩ := (HT.out.below hB) x hx
  have HB := Lib.hid hB
  clear hB
  go_quiet (fail)
  go_wp2
  go_ret
  exact ⟨by rw [HF.out, ← eq0_nat]; rfl, HB.out.trans (below_drewN (Below.refl _ _) _)⟩
theorem u64s_fix {w : World} {b' off n : Nat} {T : Nat → Nat} (h : U64s w (some ⟨b', off, none⟩) n T) {z : Nat} (hz : z < n) : w.cell? ⟨b', off + z, none⟩ = some (.int .u64 (T z : Nat)) ∧ T z < 18446744073709551616 := by
  obtain ⟨b2, off2, e2, hc2, hl2⟩ := h z hz
  injection e2 with e2
  injection e2 with e3 e4
  subst e3 e4
  exact ⟨hc2, hl2⟩
set_option maxHeartbeats 2000000 in
theorem ct5_any (k b x y S c : Nat) (A : Option Addr) (T : Nat → Nat) (w : World) (hT : U64s w A S T) (hx : x < S) (hy : y < S) (hS : S ≤ 256) :
    Calls Tryd.prog 118 #[.agg #[.int .i64 k, .int .u64 b, .slice A S c], .int .u64 x, .int .u64 y] w (FitPost (ctFit 4 S b T x y) w) := by
  have HT := Lib.hid hT
  have hlt : ∀ z, z < S → T z < 18446744073709551616 := fun z hz => by obtain ⟨_, _, _, _, h⟩ := hT z hz; exact h
  have hF : ctFit 4 S b T x y = (andNot (T (x &&& y)) (T x ||| T y) == 0) := rfl
  obtain ⟨z, ez⟩ : ∃ z, z = x &&& y := ⟨_, rfl⟩
  have hz : z < S := by have := and_le_left' x y; omega
  have hzn : bits .and .u64 (x : Int) (y : Int) = (z : Int) := by rw [u64_and_nat _ _ (by omega) (by omega), ez]
  obtain ⟨E, eE⟩ : ∃ E, E = T x ||| T y := ⟨_, rfl⟩
  have hEl : E < 18446744073709551616 := by rw [eE]; exact or_lt64 (hlt x hx) (hlt y hy)
  have hor : bits .or .u64 (T x : Int) (T y : Int) = (E : Int) := by rw [u64_or_nat _ _ (hlt x hx) (hlt y hy), eE]
  have ha := bits_andNot (T z) E (hlt z hz) hEl
  rw [← ez, ← eE] at hF
  have HF := Lib.hid hF
  have hxb : (x : Int) < (S : Int) := by omega
  have hyb : (y : Int) < (S : Int) := by omega
  have hzb : (z : Int) < (S : Int) := by omega
  clear hT ez eE hF hlt
  go_enter Tryd.func118, Tryd.ntmps118
  go_upto_region 1 with (fail)
  obtain ⟨d0, d1, d2, hB⟩ := cells_box3 w (.int .i64 k) (.int .u64 b) (.slice A S c) 72
  generalize w.alloc (.cells #[.int .i64 k, .int .u64 b, .slice A S c] 72) = W at d0 d1 d2 hB ⊢
  have hTW := HT.out.below hB
  obtain ⟨b', off, rfl, hc, -⟩ := hTW x hx
  have hc2 := (u64s_fix hTW hy).1
  have hc3 := (u64s_fix hTW hz).1
  have HB := Lib.hid hB
  clear hB hTW HT
  go_quiet (fail)
  go_wp2
  go_ret
  exact ⟨by rw [HF.out, ← eq0_nat]; rfl, HB.out.trans (below_drewN (Below.refl _ _) _)⟩
set_option maxHeartbeats 2000000 in
theorem ct6_any (k b x y S c : Nat) (A : Option Addr) (T : Nat → Nat) (w : World) (hT : U64s w A S T) (hx : x < S) (hy : y < S) (hS : S ≤ 256) :
    Calls Tryd.prog 119 #[.agg #[.int .i64 k, .int .u64 b, .slice A S c], .int .u64 x, .int .u64 y] w (FitPost (ctFit 5 S b T x y) w) := by
  have HT := Lib.hid hT
  have hlt : ∀ z, z < S → T z < 18446744073709551616 := fun z hz => by obtain ⟨_, _, _, _, h⟩ := hT z hz; exact h
  have hF : ctFit 5 S b T x y = (andNot (T (x &&& y)) x == 0 || andNot (T x) (T (x &&& y)) == 0) := rfl
  obtain ⟨z, ez⟩ : ∃ z, z = x &&& y := ⟨_, rfl⟩
  have hz : z < S := by have := and_le_left' x y; omega
  have hzn : bits .and .u64 (x : Int) (y : Int) = (z : Int) := by rw [u64_and_nat _ _ (by omega) (by omega), ez]
  rw [← ez] at hF
  have ha := bits_andNot (T z) x (hlt z hz) (by omega)
  have ha2 := bits_andNot (T x) (T z) (hlt x hx) (hlt z hz)
  obtain ⟨E, eE⟩ : ∃ E, E = andNot (T z) x := ⟨_, rfl⟩
  rw [← eE] at hF ha
  have hxb : (x : Int) < (S : Int) := by omega
  have hzb : (z : Int) < (S : Int) := by omega
  clear hT ez eE hlt
  cases h1 : (E == 0)
  · have h1' : ((E : Int) == 0) = false := by rw [eq0_nat, h1]
    rw [h1] at hF
    have HF := Lib.hid hF
    clear hF h1
    go_enter Tryd.func119, Tryd.ntmps119
    go_upto_region 1 with (fail)
    obtain ⟨d0, d1, d2, hB⟩ := cells_box3 w (.int .i64 k) (.int .u64 b) (.slice A S c) 72
    generalize w.alloc (.cells #[.int .i64 k, .int .u64 b, .slice A S c] 72) = W at d0 d1 d2 hB ⊢
    have hTW := HT.out.below hB
    obtain ⟨b', off, rfl, hc, -⟩ := hTW x hx
    have hc3 := (u64s_fix hTW hz).1
    have HB := Lib.hid hB
    clear hB hTW HT
    go_quiet (fail)
    go_wp2
    go_ret
    exact ⟨by rw [HF.out, Bool.false_or, ← eq0_nat]; rfl, HB.out.trans (below_drewN (Below.refl _ _) _)⟩
  · have h1' : ((E : Int) == 0) = true := by rw [eq0_nat, h1]
    rw [h1] at hF
    have HF := Lib.hid hF
    clear hF h1
    go_enter Tryd.func119, Tryd.ntmps119
    go_upto_region 1 with (fail)
    obtain ⟨d0, d1, d2, hB⟩ := cells_box3 w (.int .i64 k) (.int .u64 b) (.slice A S c) 72
    generalize w.alloc (.cells #[.int .i64 k, .int .u64 b, .slice A S c] 72) = W at d0 d1 d2 hB ⊢
    have hTW := HT.out.below hB
    obtain ⟨b', off, rfl, hc, -⟩ := hTW x hx
    have hc3 := (u64s_fix hTW hz).1
    have HB := Lib.hid hB
    clear hB hTW HT
    go_quiet (fail)
    go_wp2
    go_ret
    exact ⟨by rw [HF.out]; rfl, HB.out.trans (below_drewN (Below.refl _ _) _)⟩
end Go.Proofs.YtiifmdgcnpdibaaDoor
