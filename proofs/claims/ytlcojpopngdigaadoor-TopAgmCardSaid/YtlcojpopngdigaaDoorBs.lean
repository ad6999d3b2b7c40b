/-
  Walks: beliefset.Check; exclusive or of ints.
-/
import Derived.Test.YtlcojpopngdigaaDoorProg
import Derived.Test.YtlcojpopngdigaaDoorBase
namespace Go.Proofs.YtlcojpopngdigaaDoor
open Go.RowKit

def setErr (k s : Nat) : Nat := if s < 2 ^ 2 ^ k then 0 else 2
theorem two_pow_le16 {k : Nat} (h : k ≤ 4) : 2 ^ k ≤ 16 := Nat.pow_le_pow_right (n := 2) (i := k) (j := 4) (by decide) h

theorem valid_any (k : Nat) (w : World) (hk : k ≤ 4) :
    Calls Tryd.prog 30 #[.int .i64 k] w fun e w' => e = .returned (.bool true) ∧ w = w' := by
  have hd := Lib.hid (show decide ((k : Int) ≤ 4) = true by simp; omega)
  go_enter Tryd.func30, Tryd.ntmps30
  go_wp2
  go_ret
  exact ⟨by rw [hd.out]; rfl, rfl⟩
theorem all_val (k : Nat) (hk : k ≤ 4) : IntKind.u64.wrap (IntKind.u64.wrap (2 ^ min (IntKind.u64.wrap (2 ^ k)).toNat 64) - 1) = ((2 ^ 2 ^ k - 1 : Nat) : Int) := by
  have h : k = 0 ∨ k = 1 ∨ k = 2 ∨ k = 3 ∨ k = 4 := by omega
  rcases h with rfl | rfl | rfl | rfl | rfl <;> rfl
theorem all_any (k : Nat) (w : World) (hk : k ≤ 4) :
    Calls Tryd.prog 31 #[.int .i64 k] w fun e w' => e = .returned (.int .u64 (2 ^ 2 ^ k - 1 : Nat)) ∧ w = w' := by
  go_enter Tryd.func31, Tryd.ntmps31
  go_wp2
  go_ret
  exact ⟨ret_int (all_val k hk), rfl⟩
theorem setErr_yes {k s : Nat} (hs : s < 18446744073709551616) (hk : k ≤ 4) (h : ((andNot s (2 ^ 2 ^ k - 1) : Int) != 0) = true) : setErr k s = 2 := by
  have h1 := two_pow_le16 hk
  have h2 := int_ne0.1 h
  rw [Ne, andNot_mask hs (by omega)] at h2
  unfold setErr; rw [if_neg h2]
theorem setErr_no {k s : Nat} (hs : s < 18446744073709551616) (hk : k ≤ 4) (h : ((andNot s (2 ^ 2 ^ k - 1) : Int) != 0) = false) : setErr k s = 0 := by
  have h1 := two_pow_le16 hk
  have h2 := int_ne0f.1 h
  rw [andNot_mask hs (by omega)] at h2
  unfold setErr; rw [if_pos h2]
theorem mask_lt {k : Nat} (hk : k ≤ 4) : 2 ^ 2 ^ k - 1 < 18446744073709551616 := by
  have h1 := two_pow_le16 hk
  have := pow_lt64 (k := 2 ^ k) (by omega)
  omega

set_option maxHeartbeats 400000 in
theorem bsCheck_any (s k : Nat) (w : World) (hs : s < 18446744073709551616) (hk : k ≤ 4) :
    Calls Tryd.prog 24 #[.int .u64 s, .int .i64 k] w fun e w' => e = .returned (.int .i64 (setErr k s : Nat)) ∧ w = w' := by
  have hb := bits_andNot s (2 ^ 2 ^ k - 1) hs (mask_lt hk)
  have HY := Lib.hid (fun h => setErr_yes hs hk h)
  have HN := Lib.hid (fun h => setErr_no hs hk h)
  go_enter Tryd.func24, Tryd.ntmps24
  go_wp2_with (first | (go_at_call 30; refine (valid_any _ _ (by omega)).mono ?_; rintro e w' ⟨rfl, rfl⟩) | (go_at_call 31; refine (all_any _ _ (by omega)).mono ?_; rintro e w' ⟨rfl, rfl⟩))
  · go_ret
    exact ⟨ret_int (by rw [HY.out (by assumption)]; rfl), rfl⟩
  · go_ret
    exact ⟨ret_int (by rw [HN.out (by assumption)]; rfl), rfl⟩

theorem ofInt_i64b (a : Nat) (ha : a < 9223372036854775808) : (BitVec.ofInt 64 (a : Int)).toNat = a := by
  rw [BitVec.ofInt_natCast, BitVec.toNat_ofNat]; exact Nat.mod_eq_of_lt (by omega)
theorem i64_xor_nat (a b : Nat) (ha : a < 9223372036854775808) (hb : b < 9223372036854775808) : bits .xor .i64 (a : Int) (b : Int) = ((a ^^^ b : Nat) : Int) := by
  have hx : a ^^^ b < 2 ^ 63 := Nat.xor_lt_two_pow (by omega) (by omega)
  show IntKind.i64.wrap ((BitVec.ofInt 64 (a : Int) ^^^ BitVec.ofInt 64 (b : Int)).toNat : Int) = _
  rw [BitVec.toNat_xor, ofInt_i64b a ha, ofInt_i64b b hb, IntKind.wrap_i64]
  omega

end Go.Proofs.YtlcojpopngdigaaDoor
