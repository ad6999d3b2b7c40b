/-
  Walks: the law PostulatesRanks, over whatever memory in which the two tables are laid.
-/
import Derived.Test.YtflhngmfcpeamaaDoorProg
import Derived.Test.YtflhngmfcpeamaaDoorBase
import Derived.Test.YtflhngmfcpeamaaDoorRow
import Derived.Test.YtflhngmfcpeamaaDoorRowU
import Derived.Test.YtflhngmfcpeamaaDoorSlc
import Derived.Test.YtflhngmfcpeamaaDoorLeast
import Derived.Test.YtflhngmfcpeamaaDoorPoP
import Derived.Test.YtflhngmfcpeamaaDoorPoQ
import Derived.Test.YtflhngmfcpeamaaDoorPoA
import Derived.Test.YtflhngmfcpeamaaDoorPoB
import Derived.Test.YtflhngmfcpeamaaDoorPoE
import Derived.Test.YtflhngmfcpeamaaDoorPoX
import Derived.Test.YtflhngmfcpeamaaDoorPoK
import Derived.Test.YtflhngmfcpeamaaDoorPoM
import Derived.Test.YtflhngmfcpeamaaDoorPoT
import Derived.Test.YtflhngmfcpeamaaDoorPoRec
namespace Go.Proofs.YtflhngmfcpeamaaDoor
open Go.RowKit

theorem int_le_nat (a b : Nat) : decide ((a : Int) ≤ (b : Int)) = decide (a ≤ b) := by
  rw [Bool.eq_iff_iff]; simp
set_option maxHeartbeats 8000000 in
set_option maxRecDepth 100000 in
theorem ranks_core (n : Int) (len c : Nat) (A : Option Addr) (f : Nat → Int) (w : World) (hL : LaidR w) (hU : LaidU w) (hX : I64s w A len f) (hlen : len ≤ 9223372036854775807) :
    Calls Tryd.prog 8 #[.int .i64 n, .slice A len c] w fun e w' => e = .returned (.bool true) ∧ Below w.heap.size w w' := by
  have HL := Lib.hid hL
  have HU := Lib.hid hU
  have HX := Lib.hid hX
  clear hL hU hX
  by_cases h0 : n < 0
  · have hd1 : decide (n < 0) = true := decide_eq_true h0
    clear h0
    go_enter Tryd.func8, Tryd.ntmps8
    go_wp2_with (go_at_call 10; refine (awake_any _ HL.out HU.out).mono ?_; rintro e w2 ⟨rfl, hst⟩; have HB := Lib.hid hst; clear hst)
    go_ret
    exact ⟨rfl, HB.out⟩
  · have hd1 : decide (n < 0) = false := decide_eq_false h0
    by_cases h2 : 2 < n
    · have hd2 : decide (2 < n) = true := decide_eq_true h2
      clear h0 h2
      go_enter Tryd.func8, Tryd.ntmps8
      go_wp2_with (go_at_call 10; refine (awake_any _ HL.out HU.out).mono ?_; rintro e w2 ⟨rfl, hst⟩; have HB := Lib.hid hst; clear hst)
      go_ret
      exact ⟨rfl, HB.out⟩
    · obtain ⟨k, rfl⟩ : ∃ k : Nat, n = k := ⟨n.toNat, by omega⟩
      have hk : k ≤ 2 := by omega
      have hd2 : decide (2 < (k : Int)) = false := decide_eq_false h2
      obtain ⟨N, hN⟩ : ∃ N, N = 2 ^ k := ⟨_, rfl⟩
      have hw := wrap_pow hN (by omega)
      by_cases hlN : len = N
      · subst hlN
        have h1 : ((len : Int) != (len : Int)) = false := by simp
        obtain ⟨S, hS⟩ : ∃ S, S = 2 ^ len := ⟨_, rfl⟩
        have hSk : S = 2 ^ 2 ^ k := by rw [hS, hN]
        have hS2 := sets_le (by omega) hSk
        have hSv := sets_val (by omega) hSk
        have hN4 : len ≤ 4 := by rw [hN]; exact Nat.pow_le_pow_right (n := 2) (j := 2) (by decide) hk
        have hN1 : 1 ≤ len := by rw [hN]; exact Nat.two_pow_pos k
        obtain ⟨T, eT⟩ : ∃ T, T = tabF f len := ⟨_, rfl⟩
        obtain ⟨kb, ekb⟩ : ∃ kb, kb = T (S - 1) := ⟨_, rfl⟩
        have OK : RvOk S kb T := by rw [ekb, eT]; exact tab_ok hS f
        have hkb : kb < S := by rw [ekb]; exact OK.lt _ (by omega)
        have hm := ok_mask hS2.2 OK
        have ht : tabErr S S T = 0 := by
          unfold tabErr
          rw [if_pos rfl, if_pos (allB_iff.2 fun v hv => decide_eq_true (OK.lt v hv))]
        have HTL : Hid (∀ x, x < S → T x < 18446744073709551616) := Lib.hid fun x hx => by have := OK.lt x hx; omega
        have HF1 : Hid (faithB k kb len f = true) := Lib.hid (faith_of (by omega) hN hS hkb fun _ => by rw [ekb, eT])
        have HF2 : Hid (faithB k kb len (fun v => (rankN S T S v : Int)) = true) := Lib.hid (faith_of (by omega) hN hS hkb fun _ => by
          show kb = (leastP (S - 1) (fun v => (rankN S T S v : Int)) len).1
          rw [rank_tab hS hS2.1 hS2.2 OK (by omega), ekb])
        have HSAME : Hid (∀ v, v < len → ∀ u, u < len → (rankN S T S v ≤ rankN S T S u ↔ f v ≤ f u)) := Lib.hid fun v hv u hu => by rw [eT]; exact rank_same hS hS2.1 hS2.2 f hv hu
        have HRL : Hid (∀ v, rankN S T S v ≤ 9223372036854775807) := Lib.hid fun v => Nat.le_trans (rank_le S v) (by omega)
        have HTAB : Hid (∀ W, I64s W A len f → Calls Tryd.prog 22 #[.int .i64 k, .slice A len c] W (TabPost S T W)) := Lib.hid fun W h => by
          rw [eT]; exact Table_in k len S c A f W h (by omega) hN hS
        have HR : Hid (∀ W B, LaidR W → U64s W B S T → Calls Tryd.prog 11 #[.int .i64 k, .int .u64 kb, .slice B S S] W fun e w' => e = .returned (.tuple #[.int .i64 63, .int .u64 (rvX S kb T 6 : Nat), .int .u64 (rvY S kb T 6 : Nat), .int .i64 0]) ∧ Below W.heap.size W w') := Lib.hid fun W B h1 h2 => by
          have h := Revision_in k S kb S B T W h1 h2 (by omega) hSk hkb ht
          rw [hm] at h; exact h
        have HO : Hid (∀ W B, LaidR W → U64s W B S T → Calls Tryd.prog 13 #[.int .i64 k, .int .u64 kb, .slice B S S] W (OrdPost len (rankN S T S) W)) := Lib.hid fun W B h1 h2 => Order_in k len S kb S B T W h1 h2 (by omega) hN hS hkb ht hm
        have hFA : Hid (∀ W, I64s W A len f → Calls Tryd.prog 25 #[.int .i64 k, .int .u64 kb, .slice A len c] W fun e w' => e = .returned (.bool true) ∧ W = w') := Lib.hid fun W h => by
          rw [← HF1.out]; exact Faithful_any k kb len c A f W h (by omega)
        have hFB : Hid (∀ W B, I64s W B len (fun v => (rankN S T S v : Int)) → Calls Tryd.prog 25 #[.int .i64 k, .int .u64 kb, .slice B len len] W fun e w' => e = .returned (.bool true) ∧ W = w') := Lib.hid fun W B h => by
          rw [← HF2.out]; exact Faithful_any k kb len len B _ W h (by omega)
        have EKB := Lib.hid ekb
        clear h0 h2 hN hS hSk eT ekb OK hm ht
        go_enter Tryd.func8, Tryd.ntmps8
        go_wp2_with fail
        refine (HTAB.out _ HX.out).mono ?_
        rintro e w1 ⟨B, rfl, hrow, hst⟩
        have HB := Lib.hid hst
        have HU1 := Lib.hid (hrow.u64s HTL.out)
        have hcl : w1.cell? ⟨B, S - 1, none⟩ = some (.int .u64 kb) := by rw [EKB.out]; exact (hrow (S - 1) (by omega)).1
        have hSm : (S : Int) - 1 = ((S - 1 : Nat) : Int) := by omega
        have hSb : ((S - 1 : Nat) : Int) < (S : Int) := by omega
        clear hrow hst
        go_wp2_with fail
        refine (HR.out _ _ (HL.out.below HB.out) HU1.out).mono ?_
        rintro e w2 ⟨rfl, hst⟩
        have HB := Lib.hid (HB.out.trans (hst.mono HB.out.size))
        have HU1 := Lib.hid (HU1.out.below hst)
        clear hst hcl
        go_wp2_with fail
        refine (HO.out _ _ (HL.out.below HB.out) HU1.out).mono ?_
        rintro e w3 ⟨BR, rfl, hrow, hst⟩
        have HB := Lib.hid (HB.out.trans (hst.mono HB.out.size))
        have HI := Lib.hid (hrow.i64s HRL.out)
        have HRo := Lib.hid hrow
        have HX3 := Lib.hid (HX.out.below HB.out)
        clear hst hrow
        go_wp2_with fail
        refine (hFA.out _ HX3.out).mono ?_
        rintro e w5 ⟨rfl, rfl⟩
        go_wp2_with fail
        refine (hFB.out _ _ HI.out).mono ?_
        rintro e w5 ⟨rfl, rfl⟩
        go_wp2_with fail
        have HB0 := Lib.hid HB.out
        clear HB
        go_loopw [101] (fun iv wr => ∃ v : Nat, v ≤ len ∧ iv = .int .i64 v ∧ Below w3.heap.size w3 wr) (fun iv _ => len - (intOf iv).toNat)
        case atStart => exact ⟨0, Nat.zero_le _, rfl, Below.refl _ _⟩
        case round =>
          obtain ⟨v, hv, rfl, hbl⟩ := hrel
          by_cases hlt : v < len
          · have HB := Lib.hid hbl
            clear hbl
            go_wp2_with fail
            go_loopw [106] (fun iv wr => ∃ u : Nat, u ≤ len ∧ iv = .int .i64 u ∧ Below w3.heap.size w3 wr) (fun iv _ => len - (intOf iv).toNat)
            case atStart => exact ⟨0, Nat.zero_le _, rfl, HB.out⟩
            case round =>
              clear HB
              obtain ⟨u, hu, rfl, hbl⟩ := hrel
              by_cases hltu : u < len
              · have hr1 := cell_below hbl (HRo.out v hlt).1
                have hr2 := cell_below hbl (HRo.out u hltu).1
                obtain ⟨b, off, rfl, hx1, hx2, hx3⟩ := (HX3.out.below hbl) v hlt
                obtain ⟨b', off', e', hy1, hy2, hy3⟩ := (HX3.out.below hbl) u hltu
                injection e' with e'
                injection e' with e1 e2
                subst e1 e2
                have hs := HSAME.out v hlt u hltu
                have hl1 := HRL.out v
                have hl2 := HRL.out u
                obtain ⟨p, ep⟩ : ∃ p, p = rankN S T S v := ⟨_, rfl⟩
                obtain ⟨q, eq⟩ : ∃ q, q = rankN S T S u := ⟨_, rfl⟩
                obtain ⟨x, ex⟩ : ∃ x, x = f v := ⟨_, rfl⟩
                obtain ⟨y, ey⟩ : ∃ y, y = f u := ⟨_, rfl⟩
                rw [← ep] at hr1 hs hl1
                rw [← eq] at hr2 hs hl2
                rw [← ex] at hx1 hx2 hx3 hs
                rw [← ey] at hy1 hy2 hy3 hs
                have hvb : (v : Int) < (len : Int) := by omega
                have hub : (u : Int) < (len : Int) := by omega
                have HB := Lib.hid hbl
                clear ep eq ex ey hbl
                by_cases hxy : x ≤ y
                · have hpq := hs.2 hxy
                  have t1 : decide (x ≤ y) = true := decide_eq_true hxy
                  have t2 : decide (p ≤ q) = true := decide_eq_true hpq
                  have t3 : decide ((p : Int) ≤ (q : Int)) = true := decide_eq_true (by omega)
                  clear hs hpq hxy
                  go_wp2_with fail
                  go_quiet (fail)
                  go_wp2_with fail
                  go_roundw
                  case rel => exact ⟨u + 1, by omega, by go_num, below_drewN HB.out _⟩
                  case measure => simp [intOf]; omega
                · have hpq : ¬ p ≤ q := fun h => hxy (hs.1 h)
                  have t1 : decide (x ≤ y) = false := decide_eq_false hxy
                  have t2 : decide (p ≤ q) = false := decide_eq_false hpq
                  have t3 : decide ((p : Int) ≤ (q : Int)) = false := decide_eq_false (by omega)
                  clear hs hpq hxy
                  go_wp2_with fail
                  go_quiet (fail)
                  go_wp2_with fail
                  go_roundw
                  case rel => exact ⟨u + 1, by omega, by go_num, below_drewN HB.out _⟩
                  case measure => simp [intOf]; omega
              · obtain rfl : u = len := by omega
                have HB := Lib.hid hbl
                clear hbl
                go_wp2_with fail
                go_roundw
                case rel => exact ⟨v + 1, by omega, by go_num, HB.out⟩
                case measure => simp [intOf]; omega
          · obtain rfl : v = len := by omega
            have HB := Lib.hid (HB0.out.trans (hbl.mono HB0.out.size))
            clear hbl
            go_wp2_with (go_at_call 10; refine (awake_any _ (HL.out.below HB.out) (HU.out.below HB.out)).mono ?_; rintro e w2 ⟨rfl, hst⟩; have HB := Lib.hid (HB.out.trans (hst.mono HB.out.size)); clear hst)
            go_ret
            exact ⟨rfl, HB.out⟩
      · have h1 : ((len : Int) != (N : Int)) = true := by rw [bne_iff_ne]; omega
        clear h0 h2 hN hlN
        go_enter Tryd.func8, Tryd.ntmps8
        go_wp2_with (go_at_call 10; refine (awake_any _ HL.out HU.out).mono ?_; rintro e w2 ⟨rfl, hst⟩; have HB := Lib.hid hst; clear hst)
        go_ret
        exact ⟨rfl, HB.out⟩
end Go.Proofs.YtflhngmfcpeamaaDoor
