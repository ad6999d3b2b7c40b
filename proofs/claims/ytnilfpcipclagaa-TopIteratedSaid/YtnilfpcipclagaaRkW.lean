/-
  Walks: the laws TopIterated, TopRecalcitrant, TopNearest.
-/
import Derived.Test.YtnilfpcipclagaaProg
import Derived.Test.YtnilfpcipclagaaBase
import Derived.Test.YtnilfpcipclagaaRow
import Derived.Test.YtnilfpcipclagaaRowsOf
import Derived.Test.YtnilfpcipclagaaOpenW
import Derived.Test.YtnilfpcipclagaaLeast
import Derived.Test.YtnilfpcipclagaaRkP
import Derived.Test.YtnilfpcipclagaaRkQ
import Derived.Test.YtnilfpcipclagaaRkX
import Derived.Test.YtnilfpcipclagaaRkA
import Derived.Test.YtnilfpcipclagaaRkB
import Derived.Test.YtnilfpcipclagaaRkD
import Derived.Test.YtnilfpcipclagaaRkC
import Derived.Test.YtnilfpcipclagaaRkT
import Derived.Test.YtnilfpcipclagaaRkK
import Derived.Test.YtnilfpcipclagaaRkL
import Derived.Test.YtnilfpcipclagaaRkM
import Derived.Test.YtnilfpcipclagaaRkN
import Derived.Test.YtnilfpcipclagaaRkV
namespace Go.Proofs.Ytnilfpcipclagaa
open Go.RowKit

set_option maxHeartbeats 2000000 in
theorem dRanks_any (n c : Nat) (A : Option Addr) (f : Nat → Nat) (w : World) (hx : U8s w A n f) (hn : n ≤ 9223372036854775807) :
    Calls Try.prog 35 #[.slice A n c] w (Rk3 8 (rkF n f) w) := by
  have HX := Lib.hid hx
  clear hx
  have hmk := run_make_row' (P := Try.prog) 22 3 (.int .i64 0) 8 Try.underlying22 Try.infoInt rfl .i64 .i64 8 (by omega) (by omega)
  rw [show ((8 : Nat) : Int) = 8 from rfl] at hmk
  go_enter Try.func35, Try.ntmps35
  go_wp2
  have hrow := RowI.made w 8 3
  have hbl := below_alloc w (.cells (madeCells #[.int .i64 0] 8) 3)
  generalize hW : w.alloc _ = W
  have hrow : RowI W w.heap.size 8 (fun _ => 0) := by rw [← hW]; exact hrow
  have hbl : Below w.heap.size w W := by rw [← hW]; exact hbl
  clear hW hmk
  have HW := Lib.hid hbl
  have HRo := Lib.hid hrow
  clear hrow hbl
  go_loopw [4] (fun iv wr => ∃ v : Nat, v ≤ 8 ∧ v ≤ n ∧ iv = .int .i64 v ∧ RowI wr w.heap.size 8 (fun u => if u < v then f u else 0) ∧ Below w.heap.size w wr) (fun iv _ => 8 - (intOf iv).toNat)
  case atStart => exact ⟨0, by omega, by omega, rfl, HRo.out.congr fun u hu => by rw [if_neg (Nat.not_lt_zero _)], HW.out⟩
  case round =>
    clear HW HRo
    obtain ⟨v, hv, hvn, rfl, hrow, hbl⟩ := hrel
    have hend : ∀ v : Nat, v ≤ 8 → v ≤ n → (v = 8 ∨ v = n) → RowI wr w.heap.size 8 (fun u => if u < v then f u else 0) → Below w.heap.size w wr → Rk3 8 (rkF n f) w (.returned (.slice (some ⟨w.heap.size, 0, none⟩) 8 8)) wr := fun v h1 h2 h3 hrow hbl => by
      refine ⟨_, _, rfl, fun u hu => ?_, hbl⟩
      have hlt := rkF_lt (HX.out.below hbl) u
      have he : rkF n f u = if u < v then f u else 0 := by unfold rkF; split <;> split <;> first | rfl | omega
      refine ⟨w.heap.size, 0, rfl, ?_, ?_⟩
      · have hcell := (hrow u hu).1
        dsimp only at hcell
        rw [Nat.zero_add, hcell, ← he]; rfl
      · unfold gI; omega
    by_cases hlt : v < 8
    · have hd1 : decide ((v : Int) < 8) = true := decide_eq_true (by omega)
      by_cases hltn : v < n
      · have hd2 : decide ((v : Int) < (n : Int)) = true := decide_eq_true (by omega)
        obtain ⟨b, off, rfl, hcx, hx1⟩ := HX.out.below hbl v hltn
        obtain ⟨hcv, hfv⟩ := hrow v hlt
        have HRo := Lib.hid hrow
        have HB := Lib.hid hbl
        obtain ⟨x, ex⟩ : ∃ x, x = f v := ⟨_, rfl⟩
        rw [← ex] at hcx hx1
        have EX := Lib.hid ex
        clear hrow hbl ex hend
        go_wp2_with fail
        go_roundw
        case rel => exact ⟨v + 1, by omega, by omega, by go_num, (HRo.out.set hlt).congr fun u hu => by
          unfold upd
          dsimp only
          by_cases h2 : u = v
          · subst h2; rw [if_pos rfl, if_pos (by omega)]; exact EX.out
          · rw [if_neg h2]
            by_cases h3 : u < v
            · rw [if_pos h3, if_pos (by omega)]
            · rw [if_neg h3, if_neg (by omega)], HB.out.setCell (Nat.le_refl _) _⟩
        case measure => simp [intOf]; omega
      · have hd2 : decide ((v : Int) < (n : Int)) = false := decide_eq_false (by omega)
        have HE := Lib.hid (hend v hv hvn (.inr (by omega)) hrow hbl)
        clear hrow hbl hend
        go_wp2_with fail
        go_ret
        exact HE.out
    · have hd1 : decide ((v : Int) < 8) = false := decide_eq_false (by omega)
      have HE := Lib.hid (hend v hv hvn (.inl (by omega)) hrow hbl)
      clear hrow hbl hend
      go_wp2_with fail
      go_ret
      exact HE.out

/-! ### the example -/
def exD : Nat → Int := lit4 0 1 2 3
theorem exD1 : revErr (2 : Nat) 4 exD = 0 ∧ revErr (2 : Nat) 4 (gI (iterF 4 12 exD)) = 0 ∧ belV (2 : Nat) 4 (gI (iterF 4 12 exD)) = 4 ∧ dalErr (2 : Nat) 1 12 = 0 ∧ dalV (2 : Nat) 1 12 = 4 ∧ closV 2 4 12 1 = 4 := by decide +kernel
theorem dIter (A : Option Addr) (c : Nat) (w : World) (h : I64s w A 4 exD) : Calls Try.prog 25 #[.int .i64 2, .slice A 4 c, .int .u64 12] w (CanPost 4 (iterF 4 12 exD) w) := Iterate_in 2 4 c 12 A exD w h (by decide) (by decide) exD1.1 (by decide)
theorem dBel (A : Option Addr) (c : Nat) (w : World) (h : I64s w A 4 (gI (iterF 4 12 exD))) : Calls Try.prog 21 #[.int .i64 2, .slice A 4 c] w fun e w' => e = .returned (.tuple #[.int .u64 4, .int .i64 0]) ∧ w = w' := by
  have h := Belief_any (2 : Nat) 4 c A _ w h (by decide)
  rw [exD1.2.1, exD1.2.2.1] at h; exact h
theorem dDal (w : World) : Calls Try.prog 32 #[.int .i64 2, .int .u64 1, .int .u64 12] w fun e w' => e = .returned (.tuple #[.int .u64 4, .int .i64 0]) ∧ Below w.heap.size w w' := by
  have h := Dalal_any (2 : Nat) 1 12 w (by decide) (by decide)
  rw [exD1.2.2.2.1, exD1.2.2.2.2.1] at h; exact h
theorem dClos (w : World) : Calls Try.prog 37 #[.int .u64 12, .int .u64 1, .int .i64 2] w fun e w' => e = .returned (.tuple #[.int .u64 4, .int .i64 0]) ∧ w = w' := by
  have h := closest_any 12 1 2 4 w (by decide) (by decide) (by decide) (by decide)
  rw [exD1.2.2.2.2.2] at h; exact h
set_option maxHeartbeats 2000000 in
theorem dAwake_any (w : World) : Calls Try.prog 36 #[] w fun e w' => e = .returned (.bool true) ∧ Below w.heap.size w w' := by
  go_enter Try.func36, Try.ntmps36
  have HB := Lib.hid (Below.refl w.heap.size w)
  go_wp2_with fail
  have hu := lit4_i64s w 0 1 2 3 3 (by decide)
  have hst := below_alloc w (.cells #[.int .i64 0, .int .i64 1, .int .i64 2, .int .i64 3] 3)
  generalize w.heap.size = B1 at hu ⊢
  generalize w.alloc _ = W at hu hst ⊢
  have HB := Lib.hid (HB.out.trans (hst.mono HB.out.size))
  refine (dIter _ _ _ hu).mono ?_
  clear hu hst
  rintro e w1 ⟨B2, rfl, hrow, -, hst⟩
  have HB := Lib.hid (HB.out.trans (hst.mono HB.out.size))
  have HI : Hid (I64s w1 (some ⟨B2, 0, none⟩) 4 (gI (iterF 4 12 exD))) := Lib.hid fun u hu => by
    have := iter_lt (s := 12) (f := exD) hu
    exact ⟨B2, 0, rfl, by rw [Nat.zero_add]; exact (hrow u hu).1, by unfold gI; omega, by unfold gI; omega⟩
  clear hrow hst
  go_wp2_with (first | (go_at_call 21; refine (dBel _ _ _ HI.out).mono ?_; rintro e w' ⟨rfl, rfl⟩) | (go_at_call 37; refine (dClos _).mono ?_; rintro e w' ⟨rfl, rfl⟩) | (go_at_call 32; refine (dDal _).mono ?_; rintro e w2 ⟨rfl, hst⟩; have HB := Lib.hid (HB.out.trans (hst.mono HB.out.size)); clear hst))
  go_ret
  exact ⟨rfl, HB.out⟩

set_option maxHeartbeats 8000000 in
theorem iterated_core (n c x y : Nat) (A : Option Addr) (f : Nat → Nat) (w : World) (hl : U8s w A n f) (hn : n ≤ 9223372036854775807) (hx : x < 256) (hy : y < 256) :
    Calls Try.prog 12 #[.slice A n c, .int .u8 x, .int .u8 y] w fun e w' => e = .returned (.bool true) ∧ Below w.heap.size w w' := by
  have HB := Lib.hid (Below.refl w.heap.size w)
  have HRK := Lib.hid (dRanks_any n c A f w hl hn)
  have hr := err3 (rkF_lt hl)
  obtain ⟨g, eg⟩ : ∃ g, g = rkF n f := ⟨_, rfl⟩
  rw [← eg] at HRK hr
  have HR := Lib.hid hr
  have hrs := err_iter (g := gI g) (s := x)
  obtain ⟨h, eh⟩ : ∃ h, h = iterF 8 x (gI g) := ⟨_, rfl⟩
  have hgh : gI h = iterI 8 x (gI g) := by rw [eh]; rfl
  obtain ⟨a, ea⟩ : ∃ a, a = lst 8 (gI g) y := ⟨_, rfl⟩
  obtain ⟨b, eb⟩ : ∃ b, b = lst 8 (gI h) y := ⟨_, rfl⟩
  have ha : a < 18446744073709551616 := by rw [ea]; exact lst_lt8 _ _
  have hb : b < 18446744073709551616 := by rw [eb]; exact lst_lt8 _ _
  have p1 : andNot y x = 0 ∨ y &&& x = 0 → a = b := fun h => by rw [ea, eb, hgh]; exact pearl1 (by omega) (by omega) h
  have p2 : andNot a x = 0 → andNot b x = 0 := fun h => by rw [ea] at h; rw [eb, hgh]; exact pearl2 (by decide) (by omega) (by omega) h
  have p3 : a &&& x ≠ 0 → b &&& x ≠ 0 := fun h => by rw [ea] at h; rw [eb, hgh]; exact pearl3 (by omega) h
  have b1 := bits_andNot y x (by omega) (by omega)
  have b2 : bits .and .u64 (y : Int) (x : Int) = ((y &&& x : Nat) : Int) := u64_and_nat _ _ (by omega) (by omega)
  have b3 := bits_andNot a x ha (by omega)
  have b4 := bits_andNot b x hb (by omega)
  have b5 : bits .and .u64 (a : Int) (x : Int) = ((a &&& x : Nat) : Int) := u64_and_nat _ _ ha (by omega)
  have b6 : bits .and .u64 (b : Int) (x : Int) = ((b &&& x : Nat) : Int) := u64_and_nat _ _ hb (by omega)
  obtain ⟨E1, e1⟩ : ∃ E, E = andNot y x := ⟨_, rfl⟩
  obtain ⟨E2, e2⟩ : ∃ E, E = y &&& x := ⟨_, rfl⟩
  obtain ⟨E3, e3⟩ : ∃ E, E = andNot a x := ⟨_, rfl⟩
  obtain ⟨E4, e4⟩ : ∃ E, E = andNot b x := ⟨_, rfl⟩
  obtain ⟨E5, e5⟩ : ∃ E, E = a &&& x := ⟨_, rfl⟩
  obtain ⟨E6, e6⟩ : ∃ E, E = b &&& x := ⟨_, rfl⟩
  rw [← e1] at p1 b1
  rw [← e2] at p1 b2
  rw [← e3] at p2 b3
  rw [← e4] at p2 b4
  rw [← e5] at p3 b5
  rw [← e6] at p3 b6
  have hA : ((E1 : Int) == 0) = true ∧ ((a : Int) != (b : Int)) = false ∨ ((E1 : Int) == 0) = false ∧ ((E2 : Int) == 0) = true ∧ ((a : Int) != (b : Int)) = false ∨ ((E1 : Int) == 0) = false ∧ ((E2 : Int) == 0) = false := by
    by_cases h1 : E1 = 0
    · left; have := p1 (.inl h1); exact ⟨by rw [h1]; rfl, by rw [this]; simp⟩
    · right
      by_cases h2 : E2 = 0
      · left; have := p1 (.inr h2); exact ⟨by rw [beq_eq_false_iff_ne]; omega, by rw [h2]; rfl, by rw [this]; simp⟩
      · right; exact ⟨by rw [beq_eq_false_iff_ne]; omega, by rw [beq_eq_false_iff_ne]; omega⟩
  have hBB : ((E3 : Int) == 0) = true ∧ ((E4 : Int) != 0) = false ∨ ((E3 : Int) == 0) = false := by
    by_cases h1 : E3 = 0
    · left; have := p2 h1; exact ⟨by rw [h1]; rfl, by rw [this]; rfl⟩
    · right; rw [beq_eq_false_iff_ne]; omega
  have hCC : ((E5 : Int) != 0) = true ∧ ((E6 : Int) == 0) = false ∨ ((E5 : Int) != 0) = false := by
    by_cases h1 : E5 = 0
    · right; rw [h1]; rfl
    · left; have := p3 h1; exact ⟨by rw [bne_iff_ne]; omega, by rw [beq_eq_false_iff_ne]; omega⟩
  have HA := Lib.hid hA
  have HBB := Lib.hid hBB
  have HCC := Lib.hid hCC
  have HC1 := Lib.hid (fun W A c (h : I64s W A 8 (gI g)) => iter3 c x A (gI g) W h HR.out hx)
  rw [← eh] at hrs HC1
  have HRS := Lib.hid hrs
  have HC2 := Lib.hid (fun W A c (h : I64s W A 8 (gI g)) => rev3 c y A (gI g) W h HR.out hy)
  have HC3 := Lib.hid (fun W A c (h2 : I64s W A 8 (gI h)) => rev3 c y A (gI h) W h2 HRS.out hy)
  rw [← ea] at HC2
  rw [← eb] at HC3
  clear hl hr eg eh hrs hgh ea eb p1 p2 p3 e1 e2 e3 e4 e5 e6 hA hBB hCC
  go_enter Try.func12, Try.ntmps12
  go_wp2_with fail
  refine HRK.out.mono ?_
  rintro e w1 ⟨A1, c1, rfl, hi, hst⟩
  have HB := Lib.hid (HB.out.trans (hst.mono HB.out.size))
  have HI := Lib.hid hi
  clear hi hst
  go_wp2_with fail
  refine (HC1.out _ _ _ HI.out).mono ?_
  rintro e w2 ⟨A2, c2, rfl, hi, hst⟩
  have HB := Lib.hid (HB.out.trans (hst.mono HB.out.size))
  have HI := Lib.hid (HI.out.below hst)
  have HJ := Lib.hid hi
  clear hi hst
  go_wp2_with fail
  refine (HC2.out _ _ _ HI.out).mono ?_
  rintro e w' ⟨rfl, rfl⟩
  go_wp2_with fail
  refine (HC3.out _ _ _ HJ.out).mono ?_
  rintro e w' ⟨rfl, rfl⟩
  rcases HA.out with ⟨h1, h2⟩ | ⟨h1, h2, h3⟩ | ⟨h1, h2⟩
  all_goals rcases HBB.out with ⟨h4, h5⟩ | h4
  all_goals rcases HCC.out with ⟨h6, h7⟩ | h6
  all_goals go_wp2_with (go_at_call 36; refine (dAwake_any _).mono ?_; rintro e w2 ⟨rfl, hst⟩; have HB := Lib.hid (HB.out.trans (hst.mono HB.out.size)); clear hst)
  all_goals go_ret
  all_goals exact ⟨rfl, HB.out⟩

set_option maxHeartbeats 8000000 in
theorem recalcitrant_core (n c x y : Nat) (A : Option Addr) (f : Nat → Nat) (w : World) (hl : U8s w A n f) (hn : n ≤ 9223372036854775807) (hx : x < 256) (hy : y < 256) :
    Calls Try.prog 13 #[.slice A n c, .int .u8 x, .int .u8 y] w fun e w' => e = .returned (.bool true) ∧ Below w.heap.size w w' := by
  have HB := Lib.hid (Below.refl w.heap.size w)
  have HRK := Lib.hid (dRanks_any n c A f w hl hn)
  have hr := err3 (rkF_lt hl)
  obtain ⟨g, eg⟩ : ∃ g, g = rkF n f := ⟨_, rfl⟩
  rw [← eg] at HRK hr
  have HR := Lib.hid hr
  have hrs := err_iter (g := gI g) (s := x)
  obtain ⟨h, eh⟩ : ∃ h, h = iterF 8 x (gI g) := ⟨_, rfl⟩
  have hgh : gI h = iterI 8 x (gI g) := by rw [eh]; rfl
  have hrt := err_iter (g := gI h) (s := y)
  obtain ⟨t, et⟩ : ∃ t, t = iterF 8 y (gI h) := ⟨_, rfl⟩
  have hgt : gI t = iterI 8 y (gI h) := by rw [et]; rfl
  obtain ⟨u, eu⟩ : ∃ u, u = iterF 8 y (gI t) := ⟨_, rfl⟩
  have hut : ∀ i, i < 8 → u i = t i := fun i hi => by rw [eu, hgt, iter_twice hi, ← et]
  have htl : ∀ i, i < 8 → t i < 8 := fun i hi => by rw [et]; exact iter_lt hi
  have hxy := u8_and x y hx hy
  obtain ⟨z, ez⟩ : ∃ z, z = x &&& y := ⟨_, rfl⟩
  rw [← ez] at hxy
  have hz : z < 256 := by rw [ez]; exact Nat.lt_of_le_of_lt Nat.and_le_left hx
  obtain ⟨b, eb⟩ : ∃ b, b = lst 8 (gI t) 255 := ⟨_, rfl⟩
  obtain ⟨d, ed⟩ : ∃ d, d = lst 8 (gI g) z := ⟨_, rfl⟩
  have hbd : z ≠ 0 → b = d := fun h0 => by
    rw [ez] at h0
    rw [eb, ed, hgt, hgh, ez]
    exact recal (n := 8) (by omega) h0
  have hz0 : ((z : Int) == 0) = true ∨ (((z : Int) == 0) = false ∧ ((b : Int) == (d : Int)) = true) := by
    by_cases h : z = 0
    · left; rw [h]; rfl
    · right; have := hbd h
      exact ⟨by rw [beq_eq_false_iff_ne]; omega, by rw [this]; simp⟩
  have HZ0 := Lib.hid hz0
  have HC1 := Lib.hid (fun W A c (h : I64s W A 8 (gI g)) => iter3 c x A (gI g) W h HR.out hx)
  rw [← eh] at hrs HC1
  have HRS := Lib.hid hrs
  have HC2 := Lib.hid (fun W A c (h2 : I64s W A 8 (gI h)) => iter3 c y A (gI h) W h2 HRS.out hy)
  rw [← et] at hrt HC2
  have HRT := Lib.hid hrt
  have HC3 := Lib.hid (fun W A c (h2 : I64s W A 8 (gI t)) => bel3 c A (gI t) W h2 HRT.out)
  have HC4 := Lib.hid (fun W A c (h : I64s W A 8 (gI g)) => rev3 c z A (gI g) W h HR.out hz)
  have HC5 := Lib.hid (fun W A c (h2 : I64s W A 8 (gI t)) => iter3 c y A (gI t) W h2 HRT.out hy)
  rw [← eb] at HC3
  rw [← ed] at HC4
  rw [← eu] at HC5
  have HUT := Lib.hid hut
  have HTL := Lib.hid htl
  clear hl hr eg eh hrs hgh hrt et hgt eu hut htl ez eb ed hbd hz0
  go_enter Try.func13, Try.ntmps13
  go_wp2_with fail
  refine HRK.out.mono ?_
  rintro e w1 ⟨A1, c1, rfl, hi, hst⟩
  have HB := Lib.hid (HB.out.trans (hst.mono HB.out.size))
  have HI := Lib.hid hi
  clear hi hst
  go_wp2_with fail
  refine (HC1.out _ _ _ HI.out).mono ?_
  rintro e w2 ⟨A2, c2, rfl, hi, hst⟩
  have HB := Lib.hid (HB.out.trans (hst.mono HB.out.size))
  have HI := Lib.hid (HI.out.below hst)
  have HJ := Lib.hid hi
  clear hi hst
  go_wp2_with fail
  refine (HC2.out _ _ _ HJ.out).mono ?_
  rintro e w3 ⟨A3, c3, rfl, hi, hst⟩
  have HB := Lib.hid (HB.out.trans (hst.mono HB.out.size))
  have HI := Lib.hid (HI.out.below hst)
  have HT := Lib.hid hi
  clear hi hst HJ
  go_wp2_with fail
  refine (HC3.out _ _ _ HT.out).mono ?_
  rintro e w' ⟨rfl, rfl⟩
  go_wp2_with fail
  refine (HC4.out _ _ _ HI.out).mono ?_
  rintro e w' ⟨rfl, rfl⟩
  go_wp2_with fail
  refine (HC5.out _ _ _ HT.out).mono ?_
  rintro e w4 ⟨A4, c4, rfl, hi, hst⟩
  have HB := Lib.hid (HB.out.trans (hst.mono HB.out.size))
  have HT := Lib.hid (HT.out.below hst)
  have HU := Lib.hid hi
  clear hi hst HI HRK HC1 HC2 HC3 HC4 HC5 HR HRS HRT
  go_wp2_with fail
  go_loopw [18] (fun iv wr => ∃ v : Nat, v ≤ 8 ∧ iv = .int .i64 v ∧ Below w4.heap.size w4 wr) (fun iv _ => 8 - (intOf iv).toNat)
  case atStart => exact ⟨0, by omega, rfl, Below.refl _ _⟩
  case round =>
    obtain ⟨v, hv, rfl, hbl⟩ := hrel
    by_cases hlt : v < 8
    · obtain ⟨b1, o1, rfl, cv, -⟩ := HT.out.below hbl v hlt
      obtain ⟨b2, o2, rfl, cu, -⟩ := HU.out.below hbl v hlt
      have h1 := HUT.out v hlt
      have h2 := HTL.out v hlt
      unfold gI at cv cu
      rw [h1] at cu
      obtain ⟨q, eq⟩ : ∃ q, q = t v := ⟨_, rfl⟩
      rw [← eq] at cv cu h2
      have hvb : (v : Int) < 8 := by omega
      have HBV := Lib.hid hbl
      clear hbl h1 eq
      go_wp2_with fail
      go_quiet (fail)
      go_wp2_with fail
      go_roundw
      case rel => exact ⟨v + 1, by omega, by go_num, below_drewN HBV.out _⟩
      case measure => simp [intOf]; omega
    · obtain rfl : v = 8 := by omega
      have HB := Lib.hid (HB.out.trans (hbl.mono HB.out.size))
      clear hbl
      rcases HZ0.out with h1 | ⟨h1, h2⟩
      all_goals
        go_wp2_with (go_at_call 36; refine (dAwake_any _).mono ?_; rintro e w2 ⟨rfl, hst⟩; have HB := Lib.hid (HB.out.trans (hst.mono HB.out.size)); clear hst)
        go_ret
        exact ⟨rfl, HB.out⟩

set_option maxHeartbeats 2000000 in
theorem nearest_core (b s : Nat) (w : World) (hb : b < 65536) (hs : s < 65536) :
    Calls Try.prog 14 #[.int .u16 b, .int .u16 s] w fun e w' => e = .returned (.bool true) ∧ Below w.heap.size w w' := by
  have HB := Lib.hid (Below.refl w.heap.size w)
  have HD := Lib.hid (fun W => dal4 b s W hb hs)
  have hc : ∀ W, Calls Try.prog 37 #[.int .u64 s, .int .u64 b, .int .i64 4] W fun e w' => e = .returned (.tuple #[.int .u64 (dalS 16 b s : Nat), .int .i64 0]) ∧ W = w' := fun W => by
    have h := closest_any s b 4 16 W (by decide) (by decide) (by omega) (by omega)
    rw [clos_dal (k := 4) (by decide) (by decide) (by omega) (by omega)] at h; exact h
  have HC := Lib.hid hc
  clear hc
  generalize dalS 16 b s = S at HD HC
  go_enter Try.func14, Try.ntmps14
  go_wp2_with (first | (go_at_call 32; refine (HD.out _).mono ?_; rintro e w2 ⟨rfl, hst⟩; have HB := Lib.hid (HB.out.trans (hst.mono HB.out.size)); clear hst) | (go_at_call 37; refine (HC.out _).mono ?_; rintro e w' ⟨rfl, rfl⟩) | (go_at_call 36; refine (dAwake_any _).mono ?_; rintro e w2 ⟨rfl, hst⟩; have HB := Lib.hid (HB.out.trans (hst.mono HB.out.size)); clear hst))
  go_ret
  exact ⟨rfl, HB.out⟩
end Go.Proofs.Ytnilfpcipclagaa
