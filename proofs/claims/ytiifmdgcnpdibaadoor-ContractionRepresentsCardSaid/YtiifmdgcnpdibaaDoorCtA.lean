/-
  Walks: package contraction: all, check, idle, Full.
-/
import Derived.Test.YtiifmdgcnpdibaaDoorProg
import Derived.Test.YtiifmdgcnpdibaaDoorBase
import Derived.Test.YtiifmdgcnpdibaaDoorRow
import Derived.Test.YtiifmdgcnpdibaaDoorLeast
import Derived.Test.YtiifmdgcnpdibaaDoorRkQ
import Derived.Test.YtiifmdgcnpdibaaDoorRkB
import Derived.Test.YtiifmdgcnpdibaaDoorRkC3
import Derived.Test.YtiifmdgcnpdibaaDoorPoP
import Derived.Test.YtiifmdgcnpdibaaDoorCtP
namespace Go.Proofs.YtiifmdgcnpdibaaDoor
open Go.RowKit

theorem ctAll_any (k N S : Nat) (w : World) (hk : k ≤ 4) (hN : N = 2 ^ k) (hS : S = 2 ^ N) :
    Calls Tryd.prog 42 #[.int .i64 k] w fun e w' => e = .returned (.int .u64 (S - 1 : Nat)) ∧ w = w' := by
  obtain ⟨w1, w2, w3, w4, w5, w6⟩ := all_val4 hN hk hS
  clear hN hS
  go_enter Tryd.func42, Tryd.ntmps42
  go_wp2
  go_ret
  exact ⟨rfl, rfl⟩
theorem sub_mask {S N a : Nat} (hS : S = 2 ^ N) (hN : N ≤ 16) (ha : a < 18446744073709551616) : ((andNot a (S - 1) : Int) != 0) = !decide (a < S) := by
  rw [ne0_nat, Bool.eq_iff_iff, bne_iff_ne, ne_eq, hS, andNot_mask ha (by omega)]
  simp
set_option maxHeartbeats 1000000 in
theorem ctCheck_any (n : Int) (b x : Nat) (w : World) (hb : b < 18446744073709551616) (hx : x < 18446744073709551616) :
    Calls Tryd.prog 37 #[.int .i64 n, .int .u64 b, .int .u64 x] w fun e w' => e = .returned (.int .i64 (ctErr 4 n b x : Nat)) ∧ w = w' := by
  by_cases h0 : n < 0
  · have hd1 : decide (n < 0) = true := decide_eq_true h0
    have HE := Lib.hid (show ctErr 4 n b x = 2 from if_neg (by omega))
    clear h0 hb hx
    go_enter Tryd.func37, Tryd.ntmps37
    go_wp2_with fail
    go_ret
    exact ⟨by rw [HE.out]; rfl, rfl⟩
  · have hd1 : decide (n < 0) = false := decide_eq_false h0
    by_cases h3 : 4 < n
    · have hd2 : decide (4 < n) = true := decide_eq_true h3
      have HE := Lib.hid (show ctErr 4 n b x = 2 from if_neg (by omega))
      clear h0 h3 hb hx
      go_enter Tryd.func37, Tryd.ntmps37
      go_wp2_with fail
      go_ret
      exact ⟨by rw [HE.out]; rfl, rfl⟩
    · obtain ⟨k, rfl⟩ : ∃ k : Nat, n = k := ⟨n.toNat, by omega⟩
      have hk : k ≤ 4 := by omega
      have hd2 : decide (4 < (k : Int)) = false := decide_eq_false h3
      obtain ⟨N, hN⟩ : ∃ N, N = 2 ^ k := ⟨_, rfl⟩
      obtain ⟨S, hS⟩ : ∃ S, S = 2 ^ N := ⟨_, rfl⟩
      have hN16 := pow_le16 hN hk
      obtain ⟨w1, w2, w3, w4, w5, w6⟩ := all_val4 hN hk hS
      have HA := Lib.hid (fun w => ctAll_any k N S w hk hN hS)
      obtain ⟨O, eO⟩ : ∃ O, O = b ||| x := ⟨_, rfl⟩
      have hOl : O < 18446744073709551616 := by rw [eO]; exact or_lt64 hb hx
      have hor : bits .or .u64 (b : Int) (x : Int) = (O : Int) := by rw [u64_or_nat _ _ hb hx, eO]
      have han := bits_andNot O (S - 1) hOl (by omega)
      have hsm := sub_mask hS hN16 hOl
      have hE : ctErr 4 k b x = if O < S then 0 else 2 := by
        unfold ctErr
        rw [eO, hS]
        by_cases h : b ||| x < 2 ^ N
        · have := or_lt_iff.1 h
          rw [if_pos h, if_pos ⟨by omega, by omega, by rw [Int.toNat_natCast, ← hN]; exact this.1, by rw [Int.toNat_natCast, ← hN]; exact this.2⟩]
        · rw [if_neg h, if_neg fun h2 => h (by rw [Int.toNat_natCast, ← hN] at h2; exact or_lt_iff.2 ⟨h2.2.2.1, h2.2.2.2⟩)]
      obtain ⟨E, eE⟩ : ∃ E, E = andNot O (S - 1) := ⟨_, rfl⟩
      rw [← eE] at han hsm
      clear h0 h3 hN hS eO eE w1 w2 w3 w4
      by_cases ho : O < S
      · rw [decide_eq_true ho] at hsm
        have hsm' : ((E : Int) != 0) = false := hsm
        rw [if_pos ho] at hE
        have HE := Lib.hid hE
        clear hsm hE ho
        go_enter Tryd.func37, Tryd.ntmps37
        go_wp2_with (go_at_call 42; refine (HA.out _).mono ?_; rintro e w' ⟨rfl, rfl⟩)
        go_ret
        exact ⟨by rw [HE.out]; rfl, rfl⟩
      · rw [decide_eq_false ho] at hsm
        have hsm' : ((E : Int) != 0) = true := hsm
        rw [if_neg ho] at hE
        have HE := Lib.hid hE
        clear hsm hE ho
        go_enter Tryd.func37, Tryd.ntmps37
        go_wp2_with (go_at_call 42; refine (HA.out _).mono ?_; rintro e w' ⟨rfl, rfl⟩)
        go_ret
        exact ⟨by rw [HE.out]; rfl, rfl⟩
theorem idle_any (k N S b x : Nat) (w : World) (hk : k ≤ 4) (hN : N = 2 ^ k) (hS : S = 2 ^ N) (hb : b < 18446744073709551616) (hx : x < 18446744073709551616) :
    Calls Tryd.prog 41 #[.int .i64 k, .int .u64 b, .int .u64 x] w fun e w' => e = .returned (.bool (idl S b x)) ∧ w = w' := by
  have ha := bits_andNot b x hb hx
  have hI : idl S b x = (andNot b x != 0 || x == S - 1) := rfl
  have HA := Lib.hid (fun w => ctAll_any k N S w hk hN hS)
  obtain ⟨E, eE⟩ : ∃ E, E = andNot b x := ⟨_, rfl⟩
  rw [← eE] at ha hI
  clear eE hN hS
  cases h1 : (E != 0)
  · have h1' : ((E : Int) != 0) = false := by rw [ne0_nat, h1]
    rw [h1] at hI
    have HI := Lib.hid hI
    clear hI h1
    go_enter Tryd.func41, Tryd.ntmps41
    go_wp2_with (go_at_call 42; refine (HA.out _).mono ?_; rintro e w' ⟨rfl, rfl⟩)
    go_ret
    exact ⟨by rw [HI.out, Bool.false_or, ← eq_nat]; rfl, rfl⟩
  · have h1' : ((E : Int) != 0) = true := by rw [ne0_nat, h1]
    rw [h1] at hI
    have HI := Lib.hid hI
    clear hI h1
    go_enter Tryd.func41, Tryd.ntmps41
    go_wp2_with (go_at_call 42; refine (HA.out _).mono ?_; rintro e w' ⟨rfl, rfl⟩)
    go_ret
    exact ⟨by rw [HI.out]; rfl, rfl⟩
/-- What Full returns. -/
def fulR (n : Int) (b x : Nat) : Nat := if ctErr 4 n b x = 0 then fulV (2 ^ 2 ^ n.toNat) b x else 0
theorem cpl_bits {S x : Nat} (hS : S ≤ 65536) (hx : x < 18446744073709551616) : bits .andNot .u64 ((S - 1 : Nat) : Int) (x : Int) = (cpl S x : Int) := bits_andNot (S - 1) x (by omega) hx
set_option maxHeartbeats 1000000 in
theorem Full_any (n : Int) (b x : Nat) (w : World) (hb : b < 18446744073709551616) (hx : x < 18446744073709551616) :
    Calls Tryd.prog 13 #[.int .i64 n, .int .u64 b, .int .u64 x] w fun e w' => e = .returned (.tuple #[.int .u64 (fulR n b x : Nat), .int .i64 (ctErr 4 n b x : Nat)]) ∧ w = w' := by
  have HC := Lib.hid (fun w => ctCheck_any n b x w hb hx)
  obtain ⟨E, eE⟩ : ∃ E, E = ctErr 4 n b x := ⟨_, rfl⟩
  obtain ⟨V, eV⟩ : ∃ V, V = fulR n b x := ⟨_, rfl⟩
  rw [← eE] at HC
  rw [← eE, ← eV]
  by_cases h0 : E = 0
  · obtain ⟨k, rfl, hk, hbS, hxS⟩ := ctErr_ok (by rw [← eE]; exact h0 : ctErr 4 n b x = 0)
    obtain ⟨N, hN⟩ : ∃ N, N = 2 ^ k := ⟨_, rfl⟩
    obtain ⟨S, hS⟩ : ∃ S, S = 2 ^ N := ⟨_, rfl⟩
    obtain ⟨w1, w2, w3, w4, w5, w6⟩ := all_val4 hN hk hS
    have HA := Lib.hid (fun w => ctAll_any k N S w hk hN hS)
    have HI := Lib.hid (fun w => idle_any k N S b x w hk hN hS hb hx)
    have hV : V = if idl S b x then b else b ||| cpl S x := by rw [eV, hS, hN]; exact if_pos (by rw [← eE]; exact h0)
    have hcp := cpl_bits w5 hx
    have hor : bits .or .u64 (b : Int) (cpl S x : Int) = ((b ||| cpl S x : Nat) : Int) := u64_or_nat _ _ hb (by have := cpl_lt S x w6; omega)
    obtain ⟨C, eC⟩ : ∃ C, C = cpl S x := ⟨_, rfl⟩
    obtain ⟨I, eI⟩ : ∃ I, I = idl S b x := ⟨_, rfl⟩
    rw [← eC] at hV hcp hor
    rw [← eI] at hV HI
    subst h0
    clear eE eV hN hS eC eI w1 w2 w3 w4 hbS hxS
    cases I
    · have HV := Lib.hid (show V = b ||| C from hV)
      clear hV
      go_enter Tryd.func13, Tryd.ntmps13
      go_wp2_with (first | (go_at_call 37; refine (HC.out _).mono ?_; rintro e w' ⟨rfl, rfl⟩) | (go_at_call 41; refine (HI.out _).mono ?_; rintro e w' ⟨rfl, rfl⟩) | (go_at_call 42; refine (HA.out _).mono ?_; rintro e w' ⟨rfl, rfl⟩))
      go_ret2
      exact ⟨by rw [HV.out]; rfl, rfl⟩
    · have HV := Lib.hid (show V = b from hV)
      clear hV
      go_enter Tryd.func13, Tryd.ntmps13
      go_wp2_with (first | (go_at_call 37; refine (HC.out _).mono ?_; rintro e w' ⟨rfl, rfl⟩) | (go_at_call 41; refine (HI.out _).mono ?_; rintro e w' ⟨rfl, rfl⟩) | (go_at_call 42; refine (HA.out _).mono ?_; rintro e w' ⟨rfl, rfl⟩))
      go_ret2
      exact ⟨by rw [HV.out]; rfl, rfl⟩
  · have hne : ((E : Int) != 0) = true := by rw [bne_iff_ne]; omega
    have HV := Lib.hid (show V = 0 by rw [eV]; exact if_neg (by rw [← eE]; exact h0))
    clear eE eV h0
    go_enter Tryd.func13, Tryd.ntmps13
    go_wp2_with (go_at_call 37; refine (HC.out _).mono ?_; rintro e w' ⟨rfl, rfl⟩)
    go_ret2
    exact ⟨by rw [HV.out]; rfl, rfl⟩
end Go.Proofs.YtiifmdgcnpdibaaDoor
