/-
  Walks: package revision: Belief, Table.
-/
import Derived.Test.YtiifmdgcnpdibaaDoorProg
import Derived.Test.YtiifmdgcnpdibaaDoorBase
import Derived.Test.YtiifmdgcnpdibaaDoorRow
import Derived.Test.YtiifmdgcnpdibaaDoorRowU
import Derived.Test.YtiifmdgcnpdibaaDoorLeast
import Derived.Test.YtiifmdgcnpdibaaDoorRkP
import Derived.Test.YtiifmdgcnpdibaaDoorRkQ
import Derived.Test.YtiifmdgcnpdibaaDoorRkB
namespace Go.Proofs.YtiifmdgcnpdibaaDoor
open Go.RowKit

theorem pow_le16 {k N : Nat} (hN : N = 2 ^ k) (hk : k ≤ 4) : N ≤ 16 := by rw [hN]; exact Nat.le_trans (Nat.pow_le_pow_right (by decide) hk) (by decide)
theorem all_val4 {k N S : Nat} (hN : N = 2 ^ k) (hk : k ≤ 4) (hS : S = 2 ^ N) :
    IntKind.u64.wrap ((2 : Int) ^ k) = (N : Int) ∧ IntKind.u64.wrap ((2 : Int) ^ min N 64) = (S : Int) ∧ IntKind.u64.wrap ((2 : Int) ^ N) = (S : Int) ∧ IntKind.u64.wrap ((S : Int) - 1) = ((S - 1 : Nat) : Int) ∧ S ≤ 65536 ∧ 1 ≤ S := by
  have h : k = 0 ∨ k = 1 ∨ k = 2 ∨ k = 3 ∨ k = 4 := by omega
  subst hS hN
  rcases h with rfl | rfl | rfl | rfl | rfl <;> exact ⟨rfl, rfl, rfl, rfl, by decide, by decide⟩
/-- The set that Belief returns. -/
def belV (n : Int) (len : Nat) (f : Nat → Int) : Nat := if revErr n len f = 0 then lst len f (2 ^ len - 1) else 0
set_option maxHeartbeats 1000000 in
theorem Belief_any (n : Int) (len c : Nat) (A : Option Addr) (f : Nat → Int) (w : World) (hx : I64s w A len f) (hlen : len ≤ 9223372036854775807) :
    Calls Tryd.prog 27 #[.int .i64 n, .slice A len c] w fun e w' => e = .returned (.tuple #[.int .u64 (belV n len f : Nat), .int .i64 (revErr n len f : Nat)]) ∧ w = w' := by
  have HC := Lib.hid (revCheck_any n len c A f w hx hlen)
  obtain ⟨E, eE⟩ : ∃ E, E = revErr n len f := ⟨_, rfl⟩
  obtain ⟨V, eV⟩ : ∃ V, V = belV n len f := ⟨_, rfl⟩
  rw [← eE] at HC
  rw [← eE, ← eV]
  by_cases h0 : E = 0
  · obtain ⟨k, rfl, hk, hN, -⟩ := revErr_ok (by rw [← eE]; exact h0 : revErr n len f = 0)
    obtain ⟨S, hS⟩ : ∃ S, S = 2 ^ len := ⟨_, rfl⟩
    obtain ⟨w1, w2, w3, w4, w5, w6⟩ := all_val4 hN hk hS
    have hl := pow_le16 hN hk
    have HV := Lib.hid (show V = lst len f (S - 1) by rw [eV, hS]; exact if_pos (by rw [← eE]; exact h0))
    subst h0
    have hL := least_any A len c (S - 1) f w hx (by omega) (by omega)
    have HL := Lib.hid hL
    clear hx eE eV hN hS hL
    go_enter Tryd.func27, Tryd.ntmps27
    go_wp2_with (first | (go_at_call 56; refine (HC.out).mono ?_; rintro e w' ⟨rfl, rfl⟩) | (go_at_call 57; refine (HL.out).mono ?_; rintro e w' ⟨rfl, rfl⟩))
    go_ret2
    exact ⟨by rw [HV.out]; rfl, rfl⟩
  · have hne : ((E : Int) != 0) = true := by rw [bne_iff_ne]; omega
    have HV := Lib.hid (show V = 0 by rw [eV]; exact if_neg (by rw [← eE]; exact h0))
    clear hx eE eV h0
    go_enter Tryd.func27, Tryd.ntmps27
    go_wp2_with (go_at_call 56; refine (HC.out).mono ?_; rintro e w' ⟨rfl, rfl⟩)
    go_ret2
    exact ⟨by rw [HV.out]; rfl, rfl⟩

/-- What Revise returns. -/
def rvsErr (n : Int) (len : Nat) (f : Nat → Int) (s : Nat) : Nat := if revErr n len f = 0 then (if s < 2 ^ len then 0 else 1) else revErr n len f
def rvsV (n : Int) (len : Nat) (f : Nat → Int) (s : Nat) : Nat := if rvsErr n len f s = 0 then lst len f s else 0
theorem rvsErr_ok {n : Int} {len s : Nat} {f : Nat → Int} (h : rvsErr n len f s = 0) : revErr n len f = 0 ∧ s < 2 ^ len := by
  unfold rvsErr at h
  by_cases h1 : revErr n len f = 0
  · rw [if_pos h1] at h
    by_cases h2 : s < 2 ^ len
    · exact ⟨h1, h2⟩
    · rw [if_neg h2] at h; cases h
  · rw [if_neg h1] at h; exact absurd h h1

/-! ### Table -/
/-- The error of Table. -/
def tabE (n : Int) (len : Nat) (f : Nat → Int) : Nat := if revErr n len f = 0 then (if n ≤ 3 then 0 else 8) else revErr n len f
def TabPost (S : Nat) (T : Nat → Nat) (w : World) (e : Ending) (w' : World) : Prop :=
  ∃ B, e = .returned (.tuple #[.slice (some ⟨B, 0, none⟩) S S, .int .i64 0]) ∧ RowU w' B S T ∧ Below w.heap.size w w'
theorem two_val8 {N S : Nat} (hN : N ≤ 8) (hS : S = 2 ^ N) : IntKind.i64.wrap ((2 : Int) ^ N) = (S : Int) ∧ IntKind.i64.wrap ((2 : Int) ^ min N 64) = (S : Int) ∧ S ≤ 256 ∧ 1 ≤ S := by
  have h : N = 0 ∨ N = 1 ∨ N = 2 ∨ N = 3 ∨ N = 4 ∨ N = 5 ∨ N = 6 ∨ N = 7 ∨ N = 8 := by omega
  rw [hS]
  rcases h with rfl | rfl | rfl | rfl | rfl | rfl | rfl | rfl | rfl <;> exact ⟨rfl, rfl, by decide, by decide⟩
set_option maxHeartbeats 1000000 in
theorem Table_err (n : Int) (len c : Nat) (A : Option Addr) (f : Nat → Int) (w : World) (hx : I64s w A len f) (hlen : len ≤ 9223372036854775807) (he : tabE n len f ≠ 0) :
    Calls Tryd.prog 36 #[.int .i64 n, .slice A len c] w fun e w' => e = .returned (.tuple #[.slice none 0 0, .int .i64 (tabE n len f : Nat)]) ∧ w = w' := by
  have HC := Lib.hid (revCheck_any n len c A f w hx hlen)
  obtain ⟨E, eE⟩ : ∃ E, E = revErr n len f := ⟨_, rfl⟩
  have hT : tabE n len f = if E = 0 then (if n ≤ 3 then 0 else 8) else E := by rw [eE]; rfl
  rw [hT] at he ⊢
  rw [← eE] at HC
  clear hx eE hT
  by_cases h0 : E = 0
  · subst h0
    rw [if_pos rfl] at he ⊢
    have h3 : ¬ n ≤ 3 := fun h => he (if_pos h)
    have hd : decide (3 < n) = true := decide_eq_true (by omega)
    rw [if_neg h3]
    clear he h3
    go_enter Tryd.func36, Tryd.ntmps36
    go_wp2_with (go_at_call 56; refine (HC.out).mono ?_; rintro e w' ⟨rfl, rfl⟩)
    go_ret2
    exact ⟨rfl, rfl⟩
  · rw [if_neg h0]
    have hne : ((E : Int) != 0) = true := by rw [bne_iff_ne]; omega
    clear he h0
    go_enter Tryd.func36, Tryd.ntmps36
    go_wp2_with (go_at_call 56; refine (HC.out).mono ?_; rintro e w' ⟨rfl, rfl⟩)
    go_ret2
    exact ⟨rfl, rfl⟩
set_option maxHeartbeats 1000000 in
theorem Table_in (k N S c : Nat) (A : Option Addr) (f : Nat → Int) (w : World) (hx : I64s w A N f) (hk : k ≤ 3) (hN : N = 2 ^ k) (hS : S = 2 ^ N) (hr : revErr k N f = 0) :
    Calls Tryd.prog 36 #[.int .i64 k, .slice A N c] w (TabPost S (lst N f) w) := by
  have hN8 : N ≤ 8 := by rw [hN]; exact Nat.le_trans (Nat.pow_le_pow_right (by decide) hk) (by decide)
  obtain ⟨v1, v2, v3, v4⟩ := two_val8 hN8 hS
  obtain ⟨w1, w2, w3, w4, w5, w6⟩ := all_val4 hN (by omega) hS
  have hw := wrap_pow hN (by omega)
  have hC := revCheck_any k N c A f w hx (by omega)
  rw [hr] at hC
  have HC := Lib.hid hC
  have hd2 : decide (3 < (k : Int)) = false := decide_eq_false (by omega)
  have hmk := run_make_row' (P := Tryd.prog) 23 22 (.int .u64 0) 8 Tryd.underlying23 Tryd.infoU64 rfl .i64 .i64 S (by omega) (by omega)
  have HX := Lib.hid hx
  clear hx hN hS hC hr
  go_enter Tryd.func36, Tryd.ntmps36
  go_wp2_with (go_at_call 56; refine (HC.out).mono ?_; rintro e w' ⟨rfl, rfl⟩)
  have hrow := RowU.made w S 22
  have hbl := below_alloc w (.cells (madeCells #[.int .u64 0] S) 22)
  clear hmk
  generalize hW : w.alloc (.cells (madeCells #[.int .u64 0] S) 22) = W at hrow hbl ⊢
  clear hW
  have HW := Lib.hid hbl
  have HRo := Lib.hid hrow
  clear hrow hbl
  go_loopw [23] (fun iv wr => ∃ x : Nat, x ≤ S ∧ iv = .int .i64 x ∧ RowU wr w.heap.size S (fun u => if u < x then lst N f u else 0) ∧ Below w.heap.size w wr) (fun iv _ => S - (intOf iv).toNat)
  case atStart => exact ⟨0, Nat.zero_le _, rfl, HRo.out.congr fun u hu => by rw [if_neg (Nat.not_lt_zero _)], HW.out⟩
  case round =>
    clear HW HRo
    obtain ⟨x, hx, rfl, hrow, hbl⟩ := hrel
    by_cases hlt : x < S
    · obtain ⟨hcv, hfv⟩ := hrow x hlt
      have HRo := Lib.hid hrow
      have HB := Lib.hid hbl
      have HXr := Lib.hid (HX.out.below hbl)
      clear hrow hbl
      go_wp2_with (go_at_call 57; refine (least_any _ _ _ _ _ _ HXr.out (by omega) (by omega)).mono ?_; rintro e w' ⟨rfl, rfl⟩)
      go_roundw
      case rel => exact ⟨x + 1, by omega, by go_num, (HRo.out.set hlt).congr fun u hu => by
        unfold upd
        dsimp only
        by_cases h2 : u = x
        · subst h2; rw [if_pos rfl, if_pos (by omega)]; rfl
        · rw [if_neg h2]
          by_cases h3 : u < x
          · rw [if_pos h3, if_pos (by omega)]
          · rw [if_neg h3, if_neg (by omega)], HB.out.setCell (Nat.le_refl _) _⟩
      case measure => simp [intOf]; omega
    · obtain rfl : x = S := by omega
      have HRo := Lib.hid (hrow.congr (g' := lst N f) fun u hu => by rw [if_pos hu])
      have HB := Lib.hid hbl
      clear hrow hbl
      go_wp2_with fail
      go_ret2
      exact ⟨_, rfl, HRo.out, HB.out⟩
end Go.Proofs.YtiifmdgcnpdibaaDoor
