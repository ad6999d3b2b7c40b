/-
  Walks: package beliefset: Distance, nearest, Between, Closest (where there is no error).
-/
import Derived.Test.YtnilfpcipclagaaProg
import Derived.Test.YtnilfpcipclagaaBase
import Derived.Test.YtnilfpcipclagaaRow
import Derived.Test.YtnilfpcipclagaaOnes
import Derived.Test.YtnilfpcipclagaaBs
import Derived.Test.YtnilfpcipclagaaRkQ
import Derived.Test.YtnilfpcipclagaaRkA
import Derived.Test.YtnilfpcipclagaaRkC
import Derived.Test.YtnilfpcipclagaaRkD
namespace Go.Proofs.Ytnilfpcipclagaa
open Go.RowKit

theorem dist_any (u v kk N : Nat) (w : World) (hk : kk ≤ 4) (hN : N = 2 ^ kk) (hu : u < N) (hv : v < N) :
    Calls Try.prog 62 #[.int .i64 u, .int .i64 v, .int .i64 kk] w fun e w' => e = .returned (.int .i64 (popc (u ^^^ v) : Nat)) ∧ w = w' := by
  have hw := wrap_pow hN (by omega)
  have hN8 := pow_le16 hN hk
  have hd1 : decide ((N : Int) ≤ (u : Int)) = false := by simp; omega
  have hd2 : decide ((N : Int) ≤ (v : Int)) = false := by simp; omega
  have hd3 : decide ((u : Int) < 0) = false := by simp
  have hd4 : decide ((v : Int) < 0) = false := by simp
  have hxv := i64_xor_nat' u v (by omega) (by omega)
  have hxl : u ^^^ v < 16 := Nat.xor_lt_two_pow (n := 4) (by omega) (by omega)
  clear hN
  go_enter Try.func62, Try.ntmps62
  go_wp2_with (first | (go_at_call 58; refine (valid_any _ _ (by omega)).mono ?_; rintro e w' ⟨rfl, rfl⟩) | (go_at_call 51; refine (ones_any _ _ (by assumption)).mono ?_; rintro e w' ⟨rfl, rfl⟩))
  go_ret
  exact ⟨rfl, rfl⟩

theorem nearest_any (v b kk N : Nat) (w : World) (hk : kk ≤ 4) (hN : N = 2 ^ kk) (hv : v < N) (hb : b < 18446744073709551616) :
    Calls Try.prog 54 #[.int .i64 v, .int .u64 b, .int .i64 kk] w fun e w' => e = .returned (.int .i64 (nearN kk b v N : Nat)) ∧ w = w' := by
  have hw := wrap_pow hN (by omega)
  have hN8 := pow_le16 hN hk
  have HN := Lib.hid hN
  clear hN
  go_enter Try.func54, Try.ntmps54
  go_wp2
  go_loop [7, 12] (fun o i => ∃ u : Nat, u ≤ N ∧ i = .int .i64 u ∧ o = .int .i64 (nearN kk b v u : Nat)) (fun _ i => N - (intOf i).toNat)
  case atStart => exact ⟨0, Nat.zero_le _, rfl, rfl⟩
  case round =>
    obtain ⟨u, hu, rfl, rfl⟩ := hrel
    by_cases hlt : u < N
    · have hbit := bits_has' b u hb (by omega)
      have hS : nearN kk b v (u + 1) = if b.testBit u = true then min (nearN kk b v u) (popc (u ^^^ v)) else nearN kk b v u := rfl
      obtain ⟨q, eq⟩ : ∃ q, q = nearN kk b v u := ⟨_, rfl⟩
      obtain ⟨r, er⟩ : ∃ r, r = nearN kk b v (u + 1) := ⟨_, rfl⟩
      rw [← er, ← eq] at hS
      rw [← eq]
      have HR := Lib.hid er
      clear eq er
      cases hbu : b.testBit u
      · rw [hbu] at hbit
        rw [hbu, if_neg (by simp)] at hS
        have HS := Lib.hid hS
        clear hS
        go_wp2_with fail
        go_round
        case rel => exact ⟨u + 1, by omega, by go_num, by rw [← HR.out, HS.out]⟩
        case measure => simp [intOf]; omega
      · rw [hbu] at hbit
        rw [hbu, if_pos rfl] at hS
        have HS := Lib.hid hS
        clear hS
        go_wp2_with (go_at_call 62; refine (dist_any u v kk N _ hk HN.out hlt hv).mono ?_; rintro e w' ⟨rfl, rfl⟩)
        go_round
        case rel => exact ⟨u + 1, by omega, by go_num, by rw [← HR.out, HS.out]; split <;> (congr 1; omega)⟩
        case measure => simp [intOf]; omega
    · obtain rfl : u = N := by omega
      go_wp2_with fail
      go_ret
      exact ⟨rfl, rfl⟩
/-- What Between returns. -/
def betV (k N a b : Nat) : Int := if a = 0 ∨ b = 0 then -1 else (betwN k N a b N : Nat)
set_option maxHeartbeats 1000000 in
theorem between_any (a b kk N : Nat) (w : World) (hk : kk ≤ 4) (hN : N = 2 ^ kk) (ha : a < 2 ^ N) (hb : b < 2 ^ N) :
    Calls Try.prog 53 #[.int .u64 a, .int .u64 b, .int .i64 kk] w fun e w' => e = .returned (.int .i64 (betV kk N a b)) ∧ w = w' := by
  have hw := wrap_pow hN (by omega)
  have hN8 := pow_le16 hN hk
  have h64 := pow_lt64 (k := N) (by omega)
  have ha64 : a < 18446744073709551616 := by omega
  have hb64 : b < 18446744073709551616 := by omega
  have hse : ((setErr kk a : Int) != 0) = false := by unfold setErr; rw [← hN, if_pos ha]; rfl
  have hsf : ((setErr kk b : Int) != 0) = false := by unfold setErr; rw [← hN, if_pos hb]; rfl
  have HN := Lib.hid hN
  clear hN ha hb h64
  by_cases h0 : a = 0 ∨ b = 0
  · have HV := Lib.hid (show betV kk N a b = -1 from if_pos h0)
    by_cases ha0 : a = 0
    · have h1 : ((a : Int) == 0) = true := by rw [ha0]; rfl
      have HA := Lib.hid ha0
      clear ha0 h0
      go_enter Try.func53, Try.ntmps53
      go_wp2_with (first | (go_at_call 48; refine (bsCheck_any _ _ _ (by assumption) (by omega)).mono ?_; rintro e w' ⟨rfl, rfl⟩))
      go_ret
      exact ⟨by rw [HV.out]; rfl, rfl⟩
    · have hb0 : b = 0 := by omega
      have h1 : ((a : Int) == 0) = false := by rw [beq_eq_false_iff_ne]; omega
      have h2 : ((b : Int) == 0) = true := by rw [hb0]; rfl
      clear ha0 h0 hb0
      go_enter Try.func53, Try.ntmps53
      go_wp2_with (first | (go_at_call 48; refine (bsCheck_any _ _ _ (by assumption) (by omega)).mono ?_; rintro e w' ⟨rfl, rfl⟩))
      go_ret
      exact ⟨by rw [HV.out]; rfl, rfl⟩
  · have HV := Lib.hid (show betV kk N a b = (betwN kk N a b N : Nat) from if_neg h0)
    have h1 : ((a : Int) == 0) = false := by rw [beq_eq_false_iff_ne]; omega
    have h2 : ((b : Int) == 0) = false := by rw [beq_eq_false_iff_ne]; omega
    clear h0
    go_enter Try.func53, Try.ntmps53
    go_wp2_with (first | (go_at_call 48; refine (bsCheck_any _ _ _ (by assumption) (by omega)).mono ?_; rintro e w' ⟨rfl, rfl⟩))
    go_loop [7, 30] (fun o i => ∃ u : Nat, u ≤ N ∧ i = .int .i64 u ∧ o = .int .i64 (betwN kk N a b u : Nat)) (fun _ i => N - (intOf i).toNat)
    case atStart => exact ⟨0, Nat.zero_le _, rfl, rfl⟩
    case round =>
      obtain ⟨u, hu, rfl, rfl⟩ := hrel
      by_cases hlt : u < N
      · have hbit := bits_has' a u ha64 (by omega)
        have hS : betwN kk N a b (u + 1) = if a.testBit u = true then min (betwN kk N a b u) (nearN kk b u N) else betwN kk N a b u := rfl
        obtain ⟨q, eq⟩ : ∃ q, q = betwN kk N a b u := ⟨_, rfl⟩
        obtain ⟨r, er⟩ : ∃ r, r = betwN kk N a b (u + 1) := ⟨_, rfl⟩
        rw [← er, ← eq] at hS
        rw [← eq]
        have HR := Lib.hid er
        clear eq er
        cases hbu : a.testBit u
        · rw [hbu] at hbit
          rw [hbu, if_neg (by simp)] at hS
          have HS := Lib.hid hS
          clear hS
          go_wp2_with fail
          go_round
          case rel => exact ⟨u + 1, by omega, by go_num, by rw [← HR.out, HS.out]⟩
          case measure => simp [intOf]; omega
        · rw [hbu] at hbit
          rw [hbu, if_pos rfl] at hS
          have HS := Lib.hid hS
          clear hS
          go_wp2_with (go_at_call 54; refine (nearest_any u b kk N _ hk HN.out hlt hb64).mono ?_; rintro e w' ⟨rfl, rfl⟩)
          go_round
          case rel => exact ⟨u + 1, by omega, by go_num, by rw [← HR.out, HS.out]; split <;> (congr 1; omega)⟩
          case measure => simp [intOf]; omega
      · obtain rfl : u = N := by omega
        go_wp2_with fail
        go_ret
        exact ⟨by rw [HV.out]; rfl, rfl⟩
def closV (k N s b : Nat) : Nat := if b = 0 then s else closS k N s b
set_option maxHeartbeats 1000000 in
theorem closest_any (s b kk N : Nat) (w : World) (hk : kk ≤ 4) (hN : N = 2 ^ kk) (hs : s < 2 ^ N) (hb : b < 2 ^ N) :
    Calls Try.prog 37 #[.int .u64 s, .int .u64 b, .int .i64 kk] w fun e w' => e = .returned (.tuple #[.int .u64 (closV kk N s b), .int .i64 0]) ∧ w = w' := by
  have hw := wrap_pow hN (by omega)
  have hN8 := pow_le16 hN hk
  have h64 := pow_lt64 (k := N) (by omega)
  have hs64 : s < 18446744073709551616 := by omega
  have hb64 : b < 18446744073709551616 := by omega
  have hse : ((setErr kk s : Int) != 0) = false := by unfold setErr; rw [← hN, if_pos hs]; rfl
  have hsf : ((setErr kk b : Int) != 0) = false := by unfold setErr; rw [← hN, if_pos hb]; rfl
  have HN := Lib.hid hN
  have LS := Lib.hid hs
  have LB := Lib.hid hb
  clear hN hs hb h64
  by_cases hb0 : b = 0
  · have HV := Lib.hid (show closV kk N s b = s from if_pos hb0)
    have h2 : ((b : Int) == 0) = true := by rw [hb0]; rfl
    clear hb0
    go_enter Try.func37, Try.ntmps37
    go_wp2_with (first | (go_at_call 48; refine (bsCheck_any _ _ _ (by assumption) (by omega)).mono ?_; rintro e w' ⟨rfl, rfl⟩))
    go_ret2
    exact ⟨by rw [HV.out]; rfl, rfl⟩
  · have HV := Lib.hid (show closV kk N s b = closS kk N s b from if_neg hb0)
    have h2 : ((b : Int) == 0) = false := by rw [beq_eq_false_iff_ne]; omega
    have hbet : s ≠ 0 → betV kk N s b = (betwN kk N s b N : Nat) := fun h => if_neg fun h' => h'.elim h hb0
    have HBET := Lib.hid hbet
    clear hb0 hbet
    obtain ⟨q, eq⟩ : ∃ q, q = betV kk N s b := ⟨_, rfl⟩
    have HQ := Lib.hid eq
    have hcall : ∀ w, Calls Try.prog 53 #[.int .u64 s, .int .u64 b, .int .i64 kk] w fun e w' => e = .returned (.int .i64 q) ∧ w = w' := fun w => by rw [eq]; exact between_any s b kk N w hk HN.out LS.out LB.out
    have HC := Lib.hid hcall
    clear eq hcall
    go_enter Try.func37, Try.ntmps37
    go_wp2_with (first | (go_at_call 48; refine (bsCheck_any _ _ _ (by assumption) (by omega)).mono ?_; rintro e w' ⟨rfl, rfl⟩) | (go_at_call 53; refine (HC.out _).mono ?_; rintro e w' ⟨rfl, rfl⟩))
    go_loop [11, 34] (fun o i => ∃ u : Nat, u ≤ N ∧ i = .int .i64 u ∧ o = .int .u64 (mkSet u (fun v => s.testBit v && decide (nearN kk b v N = betwN kk N s b N)) : Nat)) (fun _ i => N - (intOf i).toNat)
    case atStart => exact ⟨0, Nat.zero_le _, rfl, rfl⟩
    case round =>
      obtain ⟨u, hu, rfl, rfl⟩ := hrel
      by_cases hlt : u < N
      · have hbit := bits_has' s u hs64 (by omega)
        obtain ⟨P, eP⟩ : ∃ P, P = 2 ^ u := ⟨_, rfl⟩
        have hsh := shl_one eP (by omega)
        have hor := fun h => or_mkSet (u := u) (p := fun v => s.testBit v && decide (nearN kk b v N = betwN kk N s b N)) eP (by omega) h
        have hno := fun h => mkSet_succ_no (k := u) (p := fun v => s.testBit v && decide (nearN kk b v N = betwN kk N s b N)) h
        obtain ⟨M, eM⟩ : ∃ M, M = mkSet u (fun v => s.testBit v && decide (nearN kk b v N = betwN kk N s b N)) := ⟨_, rfl⟩
        obtain ⟨M2, eM2⟩ : ∃ M2, M2 = mkSet (u + 1) (fun v => s.testBit v && decide (nearN kk b v N = betwN kk N s b N)) := ⟨_, rfl⟩
        rw [← eM, ← eM2] at hor hno
        rw [← eM]
        have HM2 := Lib.hid eM2
        clear eM eM2 eP
        cases hbu : s.testBit u
        · rw [hbu] at hbit
          have HNO := Lib.hid (hno (by rw [hbu]; rfl))
          clear hor hno
          go_wp2_with fail
          go_round
          case rel => exact ⟨u + 1, by omega, by go_num, by rw [← HM2.out, HNO.out]⟩
          case measure => simp [intOf]; omega
        · rw [hbu] at hbit
          have hs0 : s ≠ 0 := fun h => by rw [h, Nat.zero_testBit] at hbu; cases hbu
          have hq : q = (betwN kk N s b N : Nat) := by rw [HQ.out]; exact HBET.out hs0
          by_cases he : nearN kk b u N = betwN kk N s b N
          · have h5 : ((nearN kk b u N : Int) == q) = true := by rw [hq, he]; simp
            have hor' := hor (by rw [hbu, decide_eq_true he]; rfl)
            have HE := Lib.hid he
            clear hor hno hs0 hq he
            go_wp2_with (go_at_call 54; refine (nearest_any u b kk N _ hk HN.out hlt hb64).mono ?_; rintro e w' ⟨rfl, rfl⟩)
            go_round
            case rel => exact ⟨u + 1, by omega, by go_num, by rw [← HM2.out]⟩
            case measure => simp [intOf]; omega
          · have h5 : ((nearN kk b u N : Int) == q) = false := by rw [hq, beq_eq_false_iff_ne]; omega
            have HNO := Lib.hid (hno (by rw [hbu, decide_eq_false he]; rfl))
            clear hor hno hs0 hq he
            go_wp2_with (go_at_call 54; refine (nearest_any u b kk N _ hk HN.out hlt hb64).mono ?_; rintro e w' ⟨rfl, rfl⟩)
            go_round
            case rel => exact ⟨u + 1, by omega, by go_num, by rw [← HM2.out, HNO.out]⟩
            case measure => simp [intOf]; omega
      · obtain rfl : u = N := by omega
        go_wp2_with fail
        go_ret2
        exact ⟨by rw [HV.out]; rfl, rfl⟩
theorem clos_dal {k N s b : Nat} (hk : k ≤ 4) (hN : N = 2 ^ k) (hb : b < 2 ^ N) (hs : s < 2 ^ N) : closV k N s b = dalS N b s := by
  unfold closV
  by_cases h0 : b = 0
  · rw [if_pos h0, h0, dal_empty hs]
  · rw [if_neg h0, dal_closest hk hN hb h0]
end Go.Proofs.Ytnilfpcipclagaa
