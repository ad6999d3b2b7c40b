/-
  Walks: math/bits.OnesCount at numbers below 16.
-/
import Derived.Test.YtnilfpcipclagaaProg
import Derived.Test.YtnilfpcipclagaaBase
namespace Go.Proofs.Ytnilfpcipclagaa
open Go.RowKit

def popc (x : Nat) : Nat := x % 2 + x / 2 % 2 + x / 4 % 2 + x / 8 % 2
theorem ones64_any (x : Nat) (w : World) (hx : x < 16) :
    Calls Try.prog 61 #[.int .u64 x] w fun e w' => e = .returned (.int .i64 (popc x : Nat)) ∧ w = w' := by
  have H : Hid (x = 0 ∨ x = 1 ∨ x = 2 ∨ x = 3 ∨ x = 4 ∨ x = 5 ∨ x = 6 ∨ x = 7 ∨ x = 8 ∨ x = 9 ∨ x = 10 ∨ x = 11 ∨ x = 12 ∨ x = 13 ∨ x = 14 ∨ x = 15) := by
    show x = 0 ∨ _; omega
  clear hx
  go_enter Try.func61, Try.ntmps61
  go_wp2
  go_ret
  refine ⟨ret_int ?_, rfl⟩
  rcases H.out with rfl | rfl | rfl | rfl | rfl | rfl | rfl | rfl | rfl | rfl | rfl | rfl | rfl | rfl | rfl | rfl <;> decide +kernel
theorem ones_any (x : Nat) (w : World) (hx : x < 16) :
    Calls Try.prog 51 #[.int .u64 x] w fun e w' => e = .returned (.int .i64 (popc x : Nat)) ∧ w = w' := by
  go_enter Try.func51, Try.ntmps51
  go_wp2_with (go_at_call 61; refine (ones64_any _ _ hx).mono ?_; rintro e w' ⟨rfl, rfl⟩)
  go_ret
  exact ⟨rfl, rfl⟩
end Go.Proofs.Ytnilfpcipclagaa
