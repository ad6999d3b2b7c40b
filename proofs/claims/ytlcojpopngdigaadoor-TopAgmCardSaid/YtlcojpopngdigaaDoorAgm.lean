/-
  Walks: the law TopAgm, over whatever memory in which the table of postulates is laid.
-/
import Derived.Test.YtlcojpopngdigaaDoorProg
import Derived.Test.YtlcojpopngdigaaDoorBase
import Derived.Test.YtlcojpopngdigaaDoorRow
import Derived.Test.YtlcojpopngdigaaDoorRowU
import Derived.Test.YtlcojpopngdigaaDoorSlc
import Derived.Test.YtlcojpopngdigaaDoorLeast
import Derived.Test.YtlcojpopngdigaaDoorPoP
import Derived.Test.YtlcojpopngdigaaDoorPoQ
import Derived.Test.YtlcojpopngdigaaDoorPoA
import Derived.Test.YtlcojpopngdigaaDoorPoC
import Derived.Test.YtlcojpopngdigaaDoorPoD
import Derived.Test.YtlcojpopngdigaaDoorPoE
import Derived.Test.YtlcojpopngdigaaDoorPoM
import Derived.Test.YtlcojpopngdigaaDoorRkP
import Derived.Test.YtlcojpopngdigaaDoorRkQ
import Derived.Test.YtlcojpopngdigaaDoorRkB
import Derived.Test.YtlcojpopngdigaaDoorRkC2
import Derived.Test.YtlcojpopngdigaaDoorRkT2
import Derived.Test.YtlcojpopngdigaaDoorAgP
namespace Go.Proofs.YtlcojpopngdigaaDoor
open Go.RowKit

theorem RowI.i64s' {w : World} {B N : Nat} {g : Nat → Nat} (h : RowI w B N g) (hg : ∀ k, k < N → g k ≤ 9223372036854775807) : I64s w (some ⟨B, 0, none⟩) N (fun k => (g k : Int)) := fun k hk => by
  have := hg k hk
  exact ⟨B, 0, rfl, by rw [Nat.zero_add]; exact (h k hk).1, by dsimp only; omega, by dsimp only; omega⟩
def exA : Nat → Int := fun i => if i = 0 then 0 else 1
def lit4 (a b c d : Nat) : Nat → Nat := fun i => if i = 0 then a else if i = 1 then b else if i = 2 then c else d
theorem lit4_u64s (w : World) (a b c d : Nat) (T : TypeId) (h : a < 256 ∧ b < 256 ∧ c < 256 ∧ d < 256) :
    U64s (w.alloc (.cells #[.int .u64 a, .int .u64 b, .int .u64 c, .int .u64 d] T)) (some ⟨w.heap.size, 0, none⟩) 4 (lit4 a b c d) := fun k hk => by
  have h4 : k = 0 ∨ k = 1 ∨ k = 2 ∨ k = 3 := by omega
  refine ⟨w.heap.size, 0, rfl, ?_, ?_⟩
  · rcases h4 with rfl | rfl | rfl | rfl <;> simp [lit4]
  · rcases h4 with rfl | rfl | rfl | rfl <;> simp [lit4] <;> omega
theorem lit2_i64s (w : World) (T : TypeId) : I64s (w.alloc (.cells #[.int .i64 0, .int .i64 1] T)) (some ⟨w.heap.size, 0, none⟩) 2 exA := fun k hk => by
  have h2 : k = 0 ∨ k = 1 := by omega
  refine ⟨w.heap.size, 0, rfl, ?_, ?_⟩
  · rcases h2 with rfl | rfl <;> simp [exA]
  · rcases h2 with rfl | rfl <;> simp [exA]
theorem exA1 : revErr (1 : Nat) 2 exA = 0 ∧ rvErr (1 : Nat) 1 4 (lst 2 exA) = 0 ∧ rvM (1 : Nat) 1 4 (lst 2 exA) = 63 ∧ eqU 4 4 (lst 2 exA) (lit4 0 1 2 1) = true := by decide +kernel
theorem aTab (A : Option Addr) (c : Nat) (w : World) (h : I64s w A 2 exA) : Calls Tryd.prog 6 #[.int .i64 1, .slice A 2 c] w (TabPost 4 (lst 2 exA) w) := Table_in 1 2 4 c A exA w h (by decide) (by decide) (by decide) exA1.1
theorem aRev (A : Option Addr) (c : Nat) (w : World) (hL : LaidR w) (h : U64s w A 4 (lst 2 exA)) : Calls Tryd.prog 9 #[.int .i64 1, .int .u64 1, .slice A 4 c] w fun e w' => e = .returned (.tuple #[.int .i64 63, .int .u64 (rvA (1 : Nat) 1 4 (lst 2 exA) : Nat), .int .u64 (rvC (1 : Nat) 1 4 (lst 2 exA) : Nat), .int .i64 0]) ∧ Below w.heap.size w w' := by
  have h := Revision_any (1 : Nat) 1 4 c A _ w hL h (by decide) (by decide)
  rw [exA1.2.1, exA1.2.2.1] at h; exact h
theorem lst_lt64 {N : Nat} {f : Nat → Int} (hN : N ≤ 8) (x : Nat) : lst N f x < 18446744073709551616 := Nat.lt_trans (lst_lt N f x) (pow_lt64 (by omega))
set_option maxHeartbeats 2000000 in
theorem aAwake_any (w : World) (hL : LaidR w) : Calls Tryd.prog 5 #[] w fun e w' => e = .returned (.bool true) ∧ Below w.heap.size w w' := by
  have HL := Lib.hid hL
  clear hL
  go_enter Tryd.func5, Tryd.ntmps5
  have HB := Lib.hid (Below.refl w.heap.size w)
  go_wp2_with fail
  have hu := lit2_i64s w 3
  have hst := below_alloc w (.cells #[.int .i64 0, .int .i64 1] 3)
  generalize w.heap.size = B1 at hu ⊢
  generalize w.alloc _ = W at hu hst ⊢
  have HB := Lib.hid (HB.out.trans (hst.mono HB.out.size))
  refine (aTab _ _ _ hu).mono ?_
  clear hu hst
  rintro e w1 ⟨B2, rfl, hrow, hst⟩
  have HB := Lib.hid (HB.out.trans (hst.mono HB.out.size))
  have HU := Lib.hid (hrow.u64s fun x _ => lst_lt64 (by decide) x)
  clear hrow hst
  go_wp2_with fail
  refine (aRev _ _ _ (HL.out.below HB.out) HU.out).mono ?_
  rintro e w2 ⟨rfl, hst⟩
  have HB := Lib.hid (HB.out.trans (hst.mono HB.out.size))
  have HU := Lib.hid (HU.out.below hst)
  clear hst
  go_wp2_with fail
  have hu := lit4_u64s w2 0 1 2 1 28 (by decide)
  have hst := below_alloc w2 (.cells #[.int .u64 0, .int .u64 1, .int .u64 2, .int .u64 1] 28)
  generalize w2.heap.size = B3 at hu ⊢
  generalize w2.alloc _ = W3 at hu hst ⊢
  have HB := Lib.hid (HB.out.trans (hst.mono HB.out.size))
  have heq := equalU_any _ (some ⟨B3, 0, none⟩) 4 4 4 4 _ _ W3 (HU.out.below hst) hu (by decide) (by decide)
  rw [exA1.2.2.2] at heq
  have HEQ := Lib.hid heq
  clear hu hst heq
  go_wp2_with (go_at_call 15; refine HEQ.out.mono ?_; rintro e w5 ⟨rfl, hst⟩; have HB := Lib.hid (HB.out.trans (hst.mono HB.out.size)); clear hst)
  go_ret
  exact ⟨rfl, HB.out⟩

set_option maxHeartbeats 8000000 in
set_option maxRecDepth 100000 in
theorem agm_core (n : Int) (len c : Nat) (A : Option Addr) (f : Nat → Int) (w : World) (hL : LaidR w) (hx : I64s w A len f) (hlen : len ≤ 9223372036854775807) :
    Calls Tryd.prog 3 #[.int .i64 n, .slice A len c] w fun e w' => e = .returned (.bool true) ∧ Below w.heap.size w w' := by
  have HB := Lib.hid (Below.refl w.heap.size w)
  have HL := Lib.hid hL
  clear hL
  by_cases h0 : n < 0
  · have hd1 : decide (n < 0) = true := decide_eq_true h0
    clear h0 hx
    go_enter Tryd.func3, Tryd.ntmps3
    go_wp2_with (go_at_call 5; refine (aAwake_any _ (HL.out.below HB.out)).mono ?_; rintro e w2 ⟨rfl, hst⟩; have HB := Lib.hid (HB.out.trans (hst.mono HB.out.size)); clear hst)
    go_ret
    exact ⟨rfl, HB.out⟩
  have hd1 : decide (n < 0) = false := decide_eq_false h0
  by_cases h2 : 2 < n
  · have hd2 : decide (2 < n) = true := decide_eq_true h2
    clear h0 h2 hx
    go_enter Tryd.func3, Tryd.ntmps3
    go_wp2_with (go_at_call 5; refine (aAwake_any _ (HL.out.below HB.out)).mono ?_; rintro e w2 ⟨rfl, hst⟩; have HB := Lib.hid (HB.out.trans (hst.mono HB.out.size)); clear hst)
    go_ret
    exact ⟨rfl, HB.out⟩
  have hd2 : decide (2 < n) = false := decide_eq_false h2
  have hCK := revCheck_any n len c A f w hx hlen
  by_cases hr : revErr n len f = 0
  · obtain ⟨k, rfl, hk4, hN, -⟩ := revErr_ok hr
    rw [hr] at hCK
    have HCK := Lib.hid hCK
    have hk : k ≤ 2 := by omega
    obtain ⟨S, hS⟩ : ∃ S, S = 2 ^ len := ⟨_, rfl⟩
    have hSk : S = 2 ^ 2 ^ k := by rw [hS, hN]
    have hw := wrap_pow hN (by omega)
    have hne : ((len : Int) != (len : Int)) = false := by simp
    have hS2 := sets_le (by omega) hSk
    have hN4 : len ≤ 4 := by rw [hN]; exact Nat.pow_le_pow_right (n := 2) (j := 2) (by decide) hk
    have hS16 : S ≤ 16 := by rw [hS]; exact Nat.pow_le_pow_right (n := 2) (j := 4) (by decide) hN4
    obtain ⟨T, eT⟩ : ∃ T, T = tabF f len := ⟨_, rfl⟩
    have eT2 : T = lst len f := eT
    obtain ⟨kb, ekb⟩ : ∃ kb, kb = T (S - 1) := ⟨_, rfl⟩
    have OK : RvOk S kb T := by rw [ekb, eT]; exact tab_ok hS f
    have hkb : kb < S := by rw [ekb]; exact OK.lt _ (by omega)
    have hm := ok_mask hS2.2 OK
    have ht : tabErr S S T = 0 := by
      unfold tabErr
      rw [if_pos rfl, if_pos (allB_iff.2 fun v hv => decide_eq_true (OK.lt v hv))]
    have HTL : Hid (∀ x, x < S → T x < 18446744073709551616) := Lib.hid fun x hx => by have := OK.lt x hx; omega
    have HTAB : Hid (Calls Tryd.prog 6 #[.int .i64 k, .slice A len c] w (TabPost S T w)) := Lib.hid (by
      rw [eT2]; exact Table_in k len S c A f w hx (by omega) hN hS hr)
    have HBEL : Hid (∀ W, I64s W A len f → Calls Tryd.prog 7 #[.int .i64 k, .slice A len c] W fun e w' => e = .returned (.tuple #[.int .u64 (kb : Nat), .int .i64 0]) ∧ W = w') := Lib.hid fun W h => by
      have h := Belief_any k len c A f W h hlen
      rw [hr, show belV k len f = kb by rw [ekb, eT2, hS]; exact if_pos hr] at h; exact h
    have HCAN : Hid (∀ W, I64s W A len f → Calls Tryd.prog 8 #[.int .i64 k, .slice A len c] W (CanPost len (canF len f) W)) := Lib.hid fun W h => Canonical_in k len c A f W h (by omega) hN hr
    have HR : Hid (∀ W B, LaidR W → U64s W B S T → Calls Tryd.prog 9 #[.int .i64 k, .int .u64 kb, .slice B S S] W fun e w' => e = .returned (.tuple #[.int .i64 63, .int .u64 (rvX S kb T 6 : Nat), .int .u64 (rvY S kb T 6 : Nat), .int .i64 0]) ∧ Below W.heap.size W w') := Lib.hid fun W B h1 h2 => by
      have h := Revision_in k S kb S B T W h1 h2 (by omega) hSk hkb ht
      rw [hm] at h; exact h
    have HO : Hid (∀ W B, LaidR W → U64s W B S T → Calls Tryd.prog 10 #[.int .i64 k, .int .u64 kb, .slice B S S] W (OrdPost len (rankN S T S) W)) := Lib.hid fun W B h1 h2 => Order_in k len S kb S B T W h1 h2 (by omega) hN hS hkb ht hm
    have HRC : Hid (∀ v, v < len → rankN S T S v = canF len f v) := Lib.hid fun v hv => by rw [eT]; exact rank_can hS hS2.1 hS2.2 f hv
    have HRV : Hid (∀ W B x, x < S → I64s W B len (fun v => (rankN S T S v : Int)) → Calls Tryd.prog 12 #[.int .i64 k, .slice B len len, .int .u64 x] W fun e w' => e = .returned (.tuple #[.int .u64 (T x : Nat), .int .i64 0]) ∧ W = w') := Lib.hid fun W B x hx hI => by
      have h := Revise_any k len len x B _ W hI hlen (by omega)
      have hr2 : revErr k len (fun v => (rankN S T S v : Int)) = 0 := revErr_of hk4 hN fun i hi => by
        have := rank_le (S := S) (T := T) S i
        omega
      have he : rvsErr k len (fun v => (rankN S T S v : Int)) x = 0 := by unfold rvsErr; rw [if_pos hr2, if_pos (by rw [← hS]; exact hx)]
      rw [he, show rvsV k len (fun v => (rankN S T S v : Int)) x = T x from (if_pos he).trans (rank_tab hS hS2.1 hS2.2 OK hx)] at h
      exact h
    have HRL : Hid (∀ v, rankN S T S v ≤ 9223372036854775807) := Lib.hid fun v => Nat.le_trans (rank_le S v) (by omega)
    have HX := Lib.hid hx
    clear h0 h2 hx hCK hr hN hS hSk eT eT2 ekb OK hm ht hk4
    go_enter Tryd.func3, Tryd.ntmps3
    go_wp2_with (go_at_call 4; refine (HCK.out).mono ?_; rintro e w' ⟨rfl, rfl⟩)
    refine HTAB.out.mono ?_
    rintro e w1 ⟨B, rfl, hrow, hst⟩
    have HB := Lib.hid (HB.out.trans (hst.mono HB.out.size))
    have HU := Lib.hid (hrow.u64s HTL.out)
    have HT := Lib.hid hrow
    clear hrow hst HTAB
    go_wp2_with fail
    refine (HBEL.out _ (HX.out.below HB.out)).mono ?_
    rintro e w' ⟨rfl, rfl⟩
    go_wp2_with fail
    refine (HCAN.out _ (HX.out.below HB.out)).mono ?_
    rintro e w2 ⟨BC, rfl, hrow, -, hst⟩
    have HB := Lib.hid (HB.out.trans (hst.mono HB.out.size))
    have HU := Lib.hid (HU.out.below hst)
    have HT := Lib.hid (HT.out.below hst)
    have HC := Lib.hid hrow
    clear hrow hst
    go_wp2_with fail
    refine (HR.out _ _ (HL.out.below HB.out) HU.out).mono ?_
    rintro e w3 ⟨rfl, hst⟩
    have HB := Lib.hid (HB.out.trans (hst.mono HB.out.size))
    have HU := Lib.hid (HU.out.below hst)
    have HT := Lib.hid (HT.out.below hst)
    have HC := Lib.hid (HC.out.below hst)
    clear hst
    go_wp2_with fail
    refine (HO.out _ _ (HL.out.below HB.out) HU.out).mono ?_
    rintro e w4 ⟨BR, rfl, hrow, hst⟩
    have HB := Lib.hid (HB.out.trans (hst.mono HB.out.size))
    have HT := Lib.hid (HT.out.below hst)
    have HI := Lib.hid (hrow.i64s HRL.out)
    have hc := (HC.out.below hst).i64s' (fun k hk => by have := canF_lt (f := f) hk; omega)
    have heq := equalI_any (some ⟨BR, 0, none⟩) (some ⟨BC, 0, none⟩) len len len len _ _ w4 HI.out hc hlen hlen
    rw [eqI_iff.2 ⟨rfl, fun i hi => by rw [HRC.out i hi]⟩] at heq
    have HEQ := Lib.hid heq
    clear hst hrow hc heq HC HU HBEL HCAN HR HO HRC
    go_wp2_with (go_at_call 11; refine HEQ.out.mono ?_; rintro e w5 ⟨rfl, hst⟩; have HB := Lib.hid (HB.out.trans (hst.mono HB.out.size)); have HT := Lib.hid (HT.out.below hst); have HI := Lib.hid (HI.out.below hst); clear hst)
    go_loop [105] (fun iv => ∃ x : Nat, x ≤ S ∧ iv = .int .u64 x) (fun iv => S - (intOf iv).toNat)
    case atStart => exact ⟨0, by omega, rfl⟩
    case round =>
      obtain ⟨x, hx, rfl⟩ := hrel
      by_cases hlt : x < S
      · have hcell := (HT.out x hlt).1
        have HV := Lib.hid (HRV.out _ _ x hlt HI.out)
        obtain ⟨y, ey⟩ : ∃ y, y = T x := ⟨_, rfl⟩
        rw [← ey] at hcell HV
        clear ey
        go_wp2_with (go_at_call 12; refine (HV.out).mono ?_; rintro e w' ⟨rfl, rfl⟩)
        go_round
        case rel => exact ⟨x + 1, by omega, by go_num⟩
        case measure => simp [intOf]; omega
      · obtain rfl : x = S := by omega
        go_wp2_with (go_at_call 5; refine (aAwake_any _ (HL.out.below HB.out)).mono ?_; rintro e w2 ⟨rfl, hst⟩; have HB := Lib.hid (HB.out.trans (hst.mono HB.out.size)); clear hst)
        go_ret
        exact ⟨rfl, HB.out⟩
  · obtain ⟨E, eE⟩ : ∃ E, E = revErr n len f := ⟨_, rfl⟩
    rw [← eE] at hCK hr
    have hne : ((E : Int) != 0) = true := by rw [bne_iff_ne]; omega
    have HCK := Lib.hid hCK
    clear h0 h2 hx hCK hr eE
    go_enter Tryd.func3, Tryd.ntmps3
    go_wp2_with (first | (go_at_call 4; refine (HCK.out).mono ?_; rintro e w' ⟨rfl, rfl⟩) | (go_at_call 5; refine (aAwake_any _ (HL.out.below HB.out)).mono ?_; rintro e w2 ⟨rfl, hst⟩; have HB := Lib.hid (HB.out.trans (hst.mono HB.out.size)); clear hst))
    go_ret
    exact ⟨rfl, HB.out⟩
end Go.Proofs.YtlcojpopngdigaaDoor
