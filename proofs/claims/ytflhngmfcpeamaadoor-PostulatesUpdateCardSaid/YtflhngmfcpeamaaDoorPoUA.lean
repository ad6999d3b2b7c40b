/-
  Walks: the reference of layer 43: single, the postulates of update.
-/
import Derived.Test.YtflhngmfcpeamaaDoorProg
import Derived.Test.YtflhngmfcpeamaaDoorBase
import Derived.Test.YtflhngmfcpeamaaDoorRow
import Derived.Test.YtflhngmfcpeamaaDoorPoP
import Derived.Test.YtflhngmfcpeamaaDoorPoA
import Derived.Test.YtflhngmfcpeamaaDoorPoB
import Derived.Test.YtflhngmfcpeamaaDoorPoU
import Derived.Test.YtflhngmfcpeamaaDoorPoV
import Derived.Test.YtflhngmfcpeamaaDoorPoRA
namespace Go.Proofs.YtflhngmfcpeamaaDoor
open Go.RowKit

theorem single_any (k : Nat) (w : World) (hk : k < 16) :
    Calls Tryd.prog 46 #[.int .u64 k] w fun e w' => e = .returned (.bool (popc k == 1)) ∧ w = w' := by
  by_cases h0 : k = 0
  · subst h0
    go_enter Tryd.func46, Tryd.ntmps46
    go_wp2
    go_ret
    exact ⟨rfl, rfl⟩
  · have hne : ((k : Int) != 0) = true := by rw [bne_iff_ne]; omega
    obtain ⟨E, eE⟩ : ∃ E, E = k &&& (k - 1) := ⟨_, rfl⟩
    have hk1 : (k : Int) - 1 = ((k - 1 : Nat) : Int) := by omega
    have hand : bits .and .u64 (k : Int) ((k - 1 : Nat) : Int) = (E : Int) := by rw [u64_and_nat _ _ (by omega) (by omega), eE]
    have hw : IntKind.u64.wrap ((k : Int) - 1) = ((k - 1 : Nat) : Int) := by rw [IntKind.wrap_u64]; omega
    have key : ∀ k : Nat, k < 16 → k ≠ 0 → ((k &&& (k - 1) == 0) = (popc k == 1)) := by decide +kernel
    have HF := Lib.hid (show (E == 0) = (popc k == 1) by rw [eE]; exact key k hk h0)
    clear key eE hk1 h0
    go_enter Tryd.func46, Tryd.ntmps46
    go_wp2
    go_ret
    exact ⟨by rw [← HF.out, ← eq0_nat]; rfl, rfl⟩
theorem single_quiet (k n : Nat) (w : World) (hk : k < 16) :
    Calls Tryd.prog 46 #[.int .u64 k] (w.drewN n) fun e w' => e = .returned (.bool (popc k == 1)) ∧ ∃ m, w' = w.drewN m :=
  Calls.quiet_of_same ((single_any k _ hk).mono fun _ _ ⟨he, hw⟩ => ⟨he, hw.symm⟩)

variable (k x y S c : Nat) (A : Option Addr) (R : Nat → Option Addr) (cc : Nat → Nat) (F : Nat → Nat → Nat) (w : World)

theorem ru1 (hM : Mat w A S R (fun _ => S) cc F) (hk : k < S) (hx : x < S) (hS : S ≤ 16) :
    Calls Tryd.prog 38 #[.int .i64 1, .slice A S c, .int .u64 k, .int .u64 x, .int .u64 y] w fun e w' => e = .returned (.bool (upIn 0 F k x y)) ∧ w = w' := by
  obtain ⟨b, off, rfl, hr⟩ := rows_at hM (by omega)
  obtain ⟨rb, ro, hc, hr1⟩ := hr k hk
  obtain ⟨hcx, hl⟩ := hr1 x hx
  have HF := Lib.hid (show insB (F k x) x = upIn 0 F k x y from insB_not hl (by omega))
  clear hM hr hr1
  go_enter Tryd.func38, Tryd.ntmps38
  go_wp2_with (go_at_call 45; refine (inside_any _ _ _ (by assumption) (by omega)).mono ?_; rintro e w' ⟨rfl, rfl⟩)
  go_ret
  exact ⟨by rw [← HF.out]; rfl, rfl⟩
theorem ru2 (hM : Mat w A S R (fun _ => S) cc F) (hk : k < S) (hx : x < S) (hS : S ≤ 16) :
    Calls Tryd.prog 38 #[.int .i64 2, .slice A S c, .int .u64 k, .int .u64 x, .int .u64 y] w fun e w' => e = .returned (.bool (upIn 1 F k x y)) ∧ w = w' := by
  obtain ⟨b, off, rfl, hr⟩ := rows_at hM (by omega)
  obtain ⟨rb, ro, hc, hr1⟩ := hr k hk
  obtain ⟨hcx, hl⟩ := hr1 x hx
  obtain ⟨I, eI⟩ : ∃ I, I = insB k x := ⟨_, rfl⟩
  have hF : upIn 1 F k x y = (!I || F k x == k) := by rw [eI, insB_not (by omega) (by omega)]; rfl
  have HI : Hid (∀ w, Calls Tryd.prog 45 #[.int .u64 k, .int .u64 x] w fun e w' => e = .returned (.bool I) ∧ w = w') := Lib.hid fun w => by
    rw [eI]; exact inside_any k x w (by omega) (by omega)
  clear hM hr hr1 eI
  cases I
  · have HF := Lib.hid hF
    clear hF
    go_enter Tryd.func38, Tryd.ntmps38
    go_wp2_with (go_at_call 45; refine (HI.out _).mono ?_; rintro e w' ⟨rfl, rfl⟩)
    go_ret
    exact ⟨by rw [HF.out]; rfl, rfl⟩
  · have HF := Lib.hid hF
    clear hF
    go_enter Tryd.func38, Tryd.ntmps38
    go_wp2_with (go_at_call 45; refine (HI.out _).mono ?_; rintro e w' ⟨rfl, rfl⟩)
    go_ret
    exact ⟨by rw [HF.out, Bool.not_true, Bool.false_or, ← eq_nat]; rfl, rfl⟩
theorem ru3 (hM : Mat w A S R (fun _ => S) cc F) (hk : k < S) (hx : x < S) (_hS : S ≤ 16) :
    Calls Tryd.prog 38 #[.int .i64 3, .slice A S c, .int .u64 k, .int .u64 x, .int .u64 y] w fun e w' => e = .returned (.bool (upIn 2 F k x y)) ∧ w = w' := by
  obtain ⟨b, off, rfl, hr⟩ := rows_at hM (by omega)
  obtain ⟨rb, ro, hc, hr1⟩ := hr k hk
  obtain ⟨hcx, hl⟩ := hr1 x hx
  have hF : upIn 2 F k x y = ((k == 0 || x == 0) || F k x != 0) := rfl
  clear hM hr hr1
  cases h1 : (k == 0)
  · have h1' : ((k : Int) == 0) = false := by rw [eq0_nat, h1]
    rw [h1] at hF
    cases h2 : (x == 0)
    · have h2' : ((x : Int) == 0) = false := by rw [eq0_nat, h2]
      rw [h2] at hF
      have HF := Lib.hid hF
      clear hF
      go_enter Tryd.func38, Tryd.ntmps38
      go_wp2
      go_ret
      exact ⟨by rw [HF.out, ← ne0_nat]; rfl, rfl⟩
    · have h2' : ((x : Int) == 0) = true := by rw [eq0_nat, h2]
      rw [h2] at hF
      have HF := Lib.hid hF
      clear hF
      go_enter Tryd.func38, Tryd.ntmps38
      go_wp2
      go_ret
      exact ⟨by rw [HF.out]; rfl, rfl⟩
  · have h1' : ((k : Int) == 0) = true := by rw [eq0_nat, h1]
    rw [h1] at hF
    have HF := Lib.hid hF
    clear hF
    go_enter Tryd.func38, Tryd.ntmps38
    go_wp2
    go_ret
    exact ⟨by rw [HF.out]; rfl, rfl⟩
theorem ru4 (hM : Mat w A S R (fun _ => S) cc F) (hk : k < S) :
    Calls Tryd.prog 38 #[.int .i64 4, .slice A S c, .int .u64 k, .int .u64 x, .int .u64 y] w fun e w' => e = .returned (.bool (upIn 3 F k x y)) ∧ w = w' := by
  obtain ⟨b, off, rfl, hr⟩ := rows_at hM (by omega)
  obtain ⟨rb, ro, hc, hr1⟩ := hr k hk
  clear hM hr hr1
  go_enter Tryd.func38, Tryd.ntmps38
  go_wp2
  go_ret
  exact ⟨rfl, rfl⟩
theorem ru5 (hM : Mat w A S R (fun _ => S) cc F) (hk : k < S) (hx : x < S) (hy : y < S) (hS : S ≤ 16) :
    Calls Tryd.prog 38 #[.int .i64 5, .slice A S c, .int .u64 k, .int .u64 x, .int .u64 y] w fun e w' => e = .returned (.bool (upIn 4 F k x y)) ∧ ∃ m, w' = w.drewN m := by
  obtain ⟨b, off, rfl, hr⟩ := rows_at hM (by omega)
  obtain ⟨rb, ro, hc, hr1⟩ := hr k hk
  obtain ⟨hcx, hl⟩ := hr1 x hx
  obtain ⟨z, ez⟩ : ∃ z, z = x &&& y := ⟨_, rfl⟩
  have hzx : z < S := by have := and_le_left' x y; omega
  obtain ⟨hcz, hlz⟩ := hr1 z hzx
  obtain ⟨E, eE⟩ : ∃ E, E = F k x &&& y := ⟨_, rfl⟩
  have hEl : E < 18446744073709551616 := by rw [eE]; exact Nat.lt_of_le_of_lt Nat.and_le_left hl
  have ha : bits .and .u64 (x : Int) (y : Int) = (z : Int) := by rw [u64_and_nat _ _ (by omega) (by omega), ez]
  have hb : bits .and .u64 (F k x : Int) (y : Int) = (E : Int) := by rw [u64_and_nat _ _ hl (by omega), eE]
  have HF := Lib.hid (show upIn 4 F k x y = insB E (F k z) by rw [insB_not hEl hlz, eE, ez]; rfl)
  have hxb : (x : Int) < (S : Int) := by omega
  have hzb : (z : Int) < (S : Int) := by omega
  clear hM hr hr1 eE ez
  go_enter Tryd.func38, Tryd.ntmps38
  go_wp2_with fail
  go_quiet ((go_at_call 45; exact inside_quiet _ _ _ _ hEl hlz))
  go_wp2
  go_ret
  exact ⟨by rw [HF.out]; rfl, _, rfl⟩
set_option maxHeartbeats 1000000 in
theorem ru6 (hM : Mat w A S R (fun _ => S) cc F) (hk : k < S) (hx : x < S) (hy : y < S) (hS : S ≤ 16) :
    Calls Tryd.prog 38 #[.int .i64 6, .slice A S c, .int .u64 k, .int .u64 x, .int .u64 y] w fun e w' => e = .returned (.bool (upIn 5 F k x y)) ∧ ∃ m, w' = w.drewN m := by
  obtain ⟨b, off, rfl, hr⟩ := rows_at hM (by omega)
  obtain ⟨rb, ro, hc, hr1⟩ := hr k hk
  obtain ⟨hcx, hl⟩ := hr1 x hx
  obtain ⟨hcy, hly⟩ := hr1 y hy
  obtain ⟨I, eI⟩ : ∃ I, I = insB (F k x) y := ⟨_, rfl⟩
  obtain ⟨J, eJ⟩ : ∃ J, J = insB (F k y) x := ⟨_, rfl⟩
  have hF : upIn 5 F k x y = ((!I || !J) || F k x == F k y) := by rw [eI, eJ, insB_not hl (by omega), insB_not hly (by omega)]; rfl
  obtain ⟨p, ep⟩ : ∃ p, p = F k x := ⟨_, rfl⟩
  obtain ⟨q, eq⟩ : ∃ q, q = F k y := ⟨_, rfl⟩
  rw [← ep] at hcx hl eI hF
  rw [← eq] at hcy hly eJ hF
  have HI : Hid (∀ n, Calls Tryd.prog 45 #[.int .u64 p, .int .u64 y] (w.drewN n) fun e w' => e = .returned (.bool I) ∧ ∃ m, w' = w.drewN m) := Lib.hid fun n => by
    rw [eI]; exact inside_quiet p y n w hl (by omega)
  have HJ : Hid (∀ n, Calls Tryd.prog 45 #[.int .u64 q, .int .u64 x] (w.drewN n) fun e w' => e = .returned (.bool J) ∧ ∃ m, w' = w.drewN m) := Lib.hid fun n => by
    rw [eJ]; exact inside_quiet q x n w hly (by omega)
  have hxb : (x : Int) < (S : Int) := by omega
  have hyb : (y : Int) < (S : Int) := by omega
  clear hM hr hr1 eI eJ ep eq
  cases I
  · have HF := Lib.hid hF
    clear hF
    go_enter Tryd.func38, Tryd.ntmps38
    go_wp2_with fail
    go_quiet ((go_at_call 45; with_reducible exact HI.out _))
    go_wp2
    go_ret
    exact ⟨by rw [HF.out]; rfl, _, rfl⟩
  · cases J
    · have HF := Lib.hid hF
      clear hF
      go_enter Tryd.func38, Tryd.ntmps38
      go_wp2_with fail
      go_quiet ((first | (go_at_call 45; with_reducible exact HI.out _) | (go_at_call 45; with_reducible exact HJ.out _)))
      go_wp2
      go_ret
      exact ⟨by rw [HF.out]; rfl, _, rfl⟩
    · have HF := Lib.hid hF
      clear hF
      go_enter Tryd.func38, Tryd.ntmps38
      go_wp2_with fail
      go_quiet ((first | (go_at_call 45; with_reducible exact HI.out _) | (go_at_call 45; with_reducible exact HJ.out _)))
      go_wp2
      go_ret
      exact ⟨by rw [HF.out, ← eq_nat]; rfl, _, rfl⟩
set_option maxHeartbeats 1000000 in
theorem ru7 (N : Nat) (hN : S = 2 ^ N) (hM : Mat w A S R (fun _ => S) cc F) (hk : k < S) (hx : x < S) (hy : y < S) (hS : S ≤ 16) :
    Calls Tryd.prog 38 #[.int .i64 7, .slice A S c, .int .u64 k, .int .u64 x, .int .u64 y] w fun e w' => e = .returned (.bool (upIn 6 F k x y)) ∧ ∃ m, w' = w.drewN m := by
  obtain ⟨b, off, rfl, hr⟩ := rows_at hM (by omega)
  obtain ⟨rb, ro, hc, hr1⟩ := hr k hk
  obtain ⟨hcx, hl⟩ := hr1 x hx
  obtain ⟨hcy, hly⟩ := hr1 y hy
  obtain ⟨z, ez⟩ : ∃ z, z = x ||| y := ⟨_, rfl⟩
  have hzx : z < S := by rw [ez, hN]; exact Nat.or_lt_two_pow (by omega) (by omega)
  obtain ⟨hcz, hlz⟩ := hr1 z hzx
  obtain ⟨E, eE⟩ : ∃ E, E = F k x &&& F k y := ⟨_, rfl⟩
  have hEl : E < 18446744073709551616 := by rw [eE]; exact Nat.lt_of_le_of_lt Nat.and_le_left hl
  have ha : bits .or .u64 (x : Int) (y : Int) = (z : Int) := by rw [u64_or_nat _ _ (by omega) (by omega), ez]
  have hb : bits .and .u64 (F k x : Int) (F k y : Int) = (E : Int) := by rw [u64_and_nat _ _ hl hly, eE]
  obtain ⟨G, eG⟩ : ∃ G, G = (popc k == 1) := ⟨_, rfl⟩
  have hF : upIn 6 F k x y = (!G || insB E (F k z)) := by rw [insB_not hEl hlz, eE, ez, eG]; rfl
  have HG : Hid (∀ n, Calls Tryd.prog 46 #[.int .u64 k] (w.drewN n) fun e w' => e = .returned (.bool G) ∧ ∃ m, w' = w.drewN m) := Lib.hid fun n => by
    rw [eG]; exact single_quiet k n w (by omega)
  have hxb : (x : Int) < (S : Int) := by omega
  have hyb : (y : Int) < (S : Int) := by omega
  have hzb : (z : Int) < (S : Int) := by omega
  clear hM hr hr1 eE ez hN eG
  cases G
  · have HF := Lib.hid hF
    clear hF
    go_enter Tryd.func38, Tryd.ntmps38
    go_wp2_with fail
    go_quiet ((go_at_call 46; exact HG.out _))
    go_wp2
    go_ret
    exact ⟨by rw [HF.out]; rfl, _, rfl⟩
  · have HF := Lib.hid hF
    clear hF
    go_enter Tryd.func38, Tryd.ntmps38
    go_wp2_with fail
    go_quiet ((first | (go_at_call 46; exact HG.out _) | (go_at_call 45; exact inside_quiet _ _ _ _ hEl hlz)))
    go_wp2
    go_ret
    exact ⟨by rw [HF.out]; rfl, _, rfl⟩
set_option maxHeartbeats 1000000 in
theorem ru8 (N : Nat) (hN : S = 2 ^ N) (hM : Mat w A S R (fun _ => S) cc F) (hk : k < S) (hx : x < S) (hy : y < S) (hS : S ≤ 16) :
    Calls Tryd.prog 38 #[.int .i64 8, .slice A S c, .int .u64 k, .int .u64 x, .int .u64 y] w fun e w' => e = .returned (.bool (upIn 7 F k x y)) ∧ ∃ m, w' = w.drewN m := by
  obtain ⟨b, off, rfl, hr⟩ := rows_at hM (by omega)
  obtain ⟨rb, ro, hc, hr1⟩ := hr k hk
  obtain ⟨hcx, hlx⟩ := hr1 x hx
  obtain ⟨rb2, ro2, hc2, hr2⟩ := hr y hy
  obtain ⟨hcx2, hlx2⟩ := hr2 x hx
  obtain ⟨z, ez⟩ : ∃ z, z = k ||| y := ⟨_, rfl⟩
  have hzx : z < S := by rw [ez, hN]; exact Nat.or_lt_two_pow (by omega) (by omega)
  obtain ⟨rb3, ro3, hc3, hr3⟩ := hr z hzx
  obtain ⟨hcx3, hlx3⟩ := hr3 x hx
  obtain ⟨E, eE⟩ : ∃ E, E = F k x ||| F y x := ⟨_, rfl⟩
  have ha : bits .or .u64 (k : Int) (y : Int) = (z : Int) := by rw [u64_or_nat _ _ (by omega) (by omega), ez]
  have hb : bits .or .u64 (F k x : Int) (F y x : Int) = (E : Int) := by rw [u64_or_nat _ _ hlx hlx2, eE]
  have HF := Lib.hid (show upIn 7 F k x y = (F z x == E) by rw [eE, ez]; rfl)
  have hxb : (x : Int) < (S : Int) := by omega
  have hkb : (k : Int) < (S : Int) := by omega
  have hyb : (y : Int) < (S : Int) := by omega
  have hzb : (z : Int) < (S : Int) := by omega
  clear hM hr hr1 hr2 hr3 eE ez hN
  go_enter Tryd.func38, Tryd.ntmps38
  go_wp2_with fail
  go_quiet (fail)
  go_wp2
  go_ret
  exact ⟨by rw [HF.out, ← eq_nat]; rfl, _, rfl⟩
theorem rupdates_any (i N : Nat) (hi : i < 8) (hN : S = 2 ^ N) (hM : Mat w A S R (fun _ => S) cc F) (hk : k < S) (hx : x < S) (hy : y < S) (hS : S ≤ 16) :
    Calls Tryd.prog 38 #[.int .i64 ((i + 1 : Nat) : Int), .slice A S c, .int .u64 k, .int .u64 x, .int .u64 y] w fun e w' => e = .returned (.bool (upIn i F k x y)) ∧ Below w.heap.size w w' := by
  have h8 : i = 0 ∨ i = 1 ∨ i = 2 ∨ i = 3 ∨ i = 4 ∨ i = 5 ∨ i = 6 ∨ i = 7 := by omega
  rcases h8 with rfl | rfl | rfl | rfl | rfl | rfl | rfl | rfl
  · exact same_below (ru1 k x y S c A R cc F w hM hk hx hS)
  · exact same_below (ru2 k x y S c A R cc F w hM hk hx hS)
  · exact same_below (ru3 k x y S c A R cc F w hM hk hx hS)
  · exact same_below (ru4 k x y S c A R cc F w hM hk)
  · exact drew_below (ru5 k x y S c A R cc F w hM hk hx hy hS)
  · exact drew_below (ru6 k x y S c A R cc F w hM hk hx hy hS)
  · exact drew_below (ru7 k x y S c A R cc F w N hN hM hk hx hy hS)
  · exact drew_below (ru8 k x y S c A R cc F w N hN hM hk hx hy hS)
end Go.Proofs.YtflhngmfcpeamaaDoor
