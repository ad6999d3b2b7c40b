/-
  Walks: beliefset.Check, and of package update: has, strictly, preorder.
-/
import Derived.Test.YtgnmelmmcpmhoaaProg
import Derived.Test.YtgnmelmmcpmhoaaBase
namespace Go.Proofs.Ytgnmelmmcpmhoaa
open Go.RowKit

def setErr (k s : Nat) : Nat := if s < 2 ^ 2 ^ k then 0 else 2
theorem two_pow_le16 {k : Nat} (h : k ≤ 4) : 2 ^ k ≤ 16 := Nat.pow_le_pow_right (n := 2) (i := k) (j := 4) (by decide) h

theorem valid_any (k : Nat) (w : World) (hk : k ≤ 4) :
    Calls Try.prog 60 #[.int .i64 k] w fun e w' => e = .returned (.bool true) ∧ w = w' := by
  have hd := Lib.hid (show decide ((k : Int) ≤ 4) = true by simp; omega)
  go_enter Try.func60, Try.ntmps60
  go_wp2
  go_ret
  exact ⟨by rw [hd.out]; rfl, rfl⟩
theorem all_val (k : Nat) (hk : k ≤ 4) : IntKind.u64.wrap (IntKind.u64.wrap (2 ^ min (IntKind.u64.wrap (2 ^ k)).toNat 64) - 1) = ((2 ^ 2 ^ k - 1 : Nat) : Int) := by
  have h : k = 0 ∨ k = 1 ∨ k = 2 ∨ k = 3 ∨ k = 4 := by omega
  rcases h with rfl | rfl | rfl | rfl | rfl <;> rfl
theorem all_any (k : Nat) (w : World) (hk : k ≤ 4) :
    Calls Try.prog 61 #[.int .i64 k] w fun e w' => e = .returned (.int .u64 (2 ^ 2 ^ k - 1 : Nat)) ∧ w = w' := by
  go_enter Try.func61, Try.ntmps61
  go_wp2
  go_ret
  exact ⟨ret_int (all_val k hk), rfl⟩
theorem has_any (s v : Nat) (w : World) (hs : s < 18446744073709551616) :
    Calls Try.prog 49 #[.int .u64 s, .int .i64 v] w fun e w' => e = .returned (.bool (s.testBit v)) ∧ w = w' := by
  have h := Lib.hid (bits_has s v hs)
  go_enter Try.func49, Try.ntmps49
  go_wp2
  go_ret
  exact ⟨by rw [h.out]; rfl, rfl⟩

def strB (f : Nat → Nat) (u x : Nat) : Bool := (f u).testBit x && !(f x).testBit u
theorem strictly_any (A : Option Addr) (n cap u x : Nat) (f : Nat → Nat) (w : World) (hx : U64s w A n f) (hu : u < n) (hxn : x < n) :
    Calls Try.prog 45 #[.slice A n cap, .int .i64 u, .int .i64 x] w fun e w' => e = .returned (.bool (strB f u x)) ∧ w = w' := by
  obtain ⟨b, off, rfl, hc, hb⟩ := hx u hu
  obtain ⟨b', off', he, hc', hb'⟩ := hx x hxn
  injection he with he
  injection he with he1 he2 he3
  subst he1 he2
  clear hx
  cases h1 : (f u).testBit x
  · go_enter Try.func45, Try.ntmps45
    go_wp2_with (go_at_call 49; refine (has_any _ _ _ (by assumption)).mono ?_; rintro e w' ⟨rfl, rfl⟩)
    go_ret
    exact ⟨by unfold strB; rw [h1]; rfl, rfl⟩
  · go_enter Try.func45, Try.ntmps45
    go_wp2_with (go_at_call 49; refine (has_any _ _ _ (by assumption)).mono ?_; rintro e w' ⟨rfl, rfl⟩)
    go_ret
    exact ⟨by unfold strB; rw [h1]; rfl, rfl⟩
def preIn (f : Nat → Nat) (u x : Nat) : Bool := !((f u).testBit x && andNot (f x) (f u) != 0)
def preRow (n : Nat) (f : Nat → Nat) (u : Nat) : Bool := (f u).testBit u && allB n (preIn f u)
def preB (n : Nat) (f : Nat → Nat)  : Bool := allB n (preRow n f)
theorem preRow_no {n : Nat} {f : Nat → Nat} {k j : Nat} (hj : j < n) (h2 : (f k).testBit j = true) (h3 : ((andNot (f j) (f k) : Int) != 0) = true) : preRow n f k = false := by
  unfold preRow
  rw [not_all hj (by unfold preIn; rw [h2]; simp [int_ne0.1 h3]), Bool.and_false]
theorem preIn_yes2 {f : Nat → Nat} {k j : Nat} (h3 : ((andNot (f j) (f k) : Int) != 0) = false) : preIn f k j = true := by
  unfold preIn; simp [int_ne0f.1 h3]
theorem preIn_yes1 {f : Nat → Nat} {k j : Nat} (h2 : ¬ (f k).testBit j = true) : preIn f k j = true := by
  unfold preIn; simp [h2]
theorem preRow_no0 {n : Nat} {f : Nat → Nat} {k : Nat} (h1 : (f k).testBit k = false) : preRow n f k = false := by
  unfold preRow; rw [h1]; rfl
theorem preRow_yes {n : Nat} {f : Nat → Nat} {k : Nat} (h1 : (f k).testBit k = true) (h2 : allB n (preIn f k) = true) : preRow n f k = true := by
  unfold preRow; rw [h2]; simpa using h1

set_option maxHeartbeats 400000 in
theorem preorder_any (A : Option Addr) (n cap : Nat) (f : Nat → Nat) (w : World) (hx : U64s w A n f) (hl : n ≤ 9223372036854775807) :
    Calls Try.prog 44 #[.slice A n cap] w fun e w' => e = .returned (.bool (preB n f)) ∧ w = w' := by
  have HX := Lib.hid hx
  clear hx
  go_enter Try.func44, Try.ntmps44
  go_wp2
  go_loop [9] (fun i => ∃ k : Nat, k ≤ n ∧ i = .int .i64 k ∧ Upto (preRow n f) k) (fun i => n - (intOf i).toNat)
  case atStart => exact ⟨0, Nat.zero_le _, rfl, upto_zero _⟩
  case round =>
    obtain ⟨k, hk, rfl, hpre⟩ := hrel
    by_cases hlt : k < n
    · obtain ⟨b, off, rfl, hc, hb⟩ := HX.out k hlt
      cases hkk : (f k).testBit k
      · go_wp2_with (go_at_call 49; refine (has_any _ _ _ (by assumption)).mono ?_; rintro e w' ⟨rfl, rfl⟩)
        go_ret
        exact ⟨ret_bool (not_all hlt (preRow_no0 hkk)).symm, rfl⟩
      · go_wp2_with (go_at_call 49; refine (has_any _ _ _ (by assumption)).mono ?_; rintro e w' ⟨rfl, rfl⟩)
        go_loop [20] (fun i => ∃ j : Nat, j ≤ n ∧ i = .int .i64 j ∧ Upto (preIn f k) j) (fun i => n - (intOf i).toNat)
        case atStart => exact ⟨0, Nat.zero_le _, rfl, upto_zero _⟩
        case round =>
          obtain ⟨j, hj, rfl, hin⟩ := hrel
          by_cases hjlt : j < n
          · obtain ⟨b', off', he, hc', hb'⟩ := HX.out j hjlt
            injection he with he
            injection he with he1 he2 he3
            subst he1 he2
            have hbn := bits_andNot _ _ hb' hb
            go_wp2_with (go_at_call 49; refine (has_any _ _ _ (by assumption)).mono ?_; rintro e w' ⟨rfl, rfl⟩)
            · have h2 : (f k).testBit j = true := by assumption
              have h3 : ((andNot (f j) (f k) : Int) != 0) = true := by assumption
              go_ret
              exact ⟨ret_bool (not_all hlt (preRow_no hjlt h2 h3)).symm, rfl⟩
            · have h3 : ((andNot (f j) (f k) : Int) != 0) = false := by assumption
              go_round
              case rel => exact ⟨j + 1, by omega, by go_num, hin.succ (preIn_yes2 h3)⟩
              case measure => simp [intOf]; omega
            · have h2 : ¬ (f k).testBit j = true := by assumption
              go_round
              case rel => exact ⟨j + 1, by omega, by go_num, hin.succ (preIn_yes1 h2)⟩
              case measure => simp [intOf]; omega
          · go_wp2
            go_round
            case rel => exact ⟨k + 1, by omega, by go_num, hpre.succ (preRow_yes hkk (hin.all (by omega)))⟩
            case measure => simp [intOf]; omega
    · go_wp2
      go_ret
      exact ⟨ret_bool (hpre.all (by omega)).symm, rfl⟩
end Go.Proofs.Ytgnmelmmcpmhoaa
