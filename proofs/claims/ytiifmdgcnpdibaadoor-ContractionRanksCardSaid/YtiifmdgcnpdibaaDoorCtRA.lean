/-
  Walks: the references of layers 1 and 40: bit, Has, All, Members; All, within, nothing, Full, Remainders.
-/
import Derived.Test.YtiifmdgcnpdibaaDoorProg
import Derived.Test.YtiifmdgcnpdibaaDoorBase
import Derived.Test.YtiifmdgcnpdibaaDoorRow
import Derived.Test.YtiifmdgcnpdibaaDoorRowU
import Derived.Test.YtiifmdgcnpdibaaDoorRowsOf
import Derived.Test.YtiifmdgcnpdibaaDoorPc
import Derived.Test.YtiifmdgcnpdibaaDoorLeast
import Derived.Test.YtiifmdgcnpdibaaDoorRkQ
import Derived.Test.YtiifmdgcnpdibaaDoorRkB
import Derived.Test.YtiifmdgcnpdibaaDoorRkC3
import Derived.Test.YtiifmdgcnpdibaaDoorPoP
import Derived.Test.YtiifmdgcnpdibaaDoorCtP
import Derived.Test.YtiifmdgcnpdibaaDoorCtQ
import Derived.Test.YtiifmdgcnpdibaaDoorCtA
import Derived.Test.YtiifmdgcnpdibaaDoorCtB
namespace Go.Proofs.YtiifmdgcnpdibaaDoor
open Go.RowKit

theorem wrap_self {x : Nat} (h : x < 18446744073709551616) : IntKind.u64.wrap (x : Int) = (x : Int) := by rw [IntKind.wrap_u64]; omega
theorem bit01_any (v P : Nat) (w : World) (hv : v < 64) (hP : P = 2 ^ v) :
    Calls Tryd.prog 67 #[.int .i64 v] w fun e w' => e = .returned (.int .u64 P) ∧ w = w' := by
  have hc := wrap_self (x := v) (by omega)
  have hsh := shl_one hP hv
  have hmin : min v 64 = v := Nat.min_eq_left (by omega)
  clear hP
  go_enter Tryd.func67, Tryd.ntmps67
  go_wp2
  go_ret
  exact ⟨rfl, rfl⟩
theorem and_pow_ne (s v : Nat) : (s &&& 2 ^ v != 0) = s.testBit v := by
  cases h : s.testBit v
  · have e : s &&& 2 ^ v = 0 := by
      apply Nat.eq_of_testBit_eq
      intro i
      rw [Nat.testBit_and, Nat.testBit_two_pow, Nat.zero_testBit]
      by_cases hi : v = i
      · subst hi; rw [h]; rfl
      · simp [hi]
    rw [e]; rfl
  · rw [bne_iff_ne]
    intro e
    have : (s &&& 2 ^ v).testBit v = true := by rw [Nat.testBit_and, h, Nat.testBit_two_pow_self]; rfl
    rw [e, Nat.zero_testBit] at this
    cases this
theorem has01_any (s v : Nat) (w : World) (hs : s < 18446744073709551616) (hv : v < 64) :
    Calls Tryd.prog 49 #[.int .u64 s, .int .i64 v] w fun e w' => e = .returned (.bool (s.testBit v)) ∧ w = w' := by
  obtain ⟨P, hP⟩ : ∃ P, P = 2 ^ v := ⟨_, rfl⟩
  have HB := Lib.hid (fun w => bit01_any v P w hv hP)
  have hPl : P < 18446744073709551616 := by rw [hP]; exact pow_lt64 hv
  have hn := u64_and_nat s P hs hPl
  have HT := Lib.hid (show (s &&& P != 0) = s.testBit v by rw [hP]; exact and_pow_ne s v)
  have h0 : decide ((0 : Int) ≤ (v : Int)) = true := decide_eq_true (by omega)
  have h1 : decide ((v : Int) < 64) = true := decide_eq_true (by omega)
  clear hP
  go_enter Tryd.func49, Tryd.ntmps49
  go_wp2_with (go_at_call 67; refine (HB.out _).mono ?_; rintro e w' ⟨rfl, rfl⟩)
  go_ret
  exact ⟨by rw [← HT.out, ← ne0_nat]; rfl, rfl⟩
theorem mkSet_all (n : Nat) : mkSet n (fun _ => true) = 2 ^ n - 1 := by
  apply Nat.eq_of_testBit_eq
  intro i
  rw [testBit_mkSet, Nat.testBit_two_pow_sub_one, Bool.and_true]
set_option maxHeartbeats 1000000 in
theorem all01_any (n S : Nat) (w : World) (hn : n ≤ 16) (hS : S = 2 ^ n) :
    Calls Tryd.prog 62 #[.int .i64 n] w fun e w' => e = .returned (.int .u64 (S - 1 : Nat)) ∧ w = w' := by
  have hd : decide (64 < (n : Int)) = false := decide_eq_false (by omega)
  have HE := Lib.hid (show mkSet n (fun _ => true) = S - 1 by rw [hS]; exact mkSet_all n)
  clear hS
  go_enter Tryd.func62, Tryd.ntmps62
  go_wp2
  go_loop [3, 4] (fun s i => ∃ v : Nat, v ≤ n ∧ i = .int .i64 v ∧ s = .int .u64 (mkSet v (fun _ => true) : Nat)) (fun _ i => n - (intOf i).toNat)
  case atStart => exact ⟨0, Nat.zero_le _, rfl, rfl⟩
  case round =>
    obtain ⟨v, hv, rfl, rfl⟩ := hrel
    by_cases hlt : v < n
    · obtain ⟨P, hP⟩ : ∃ P, P = 2 ^ v := ⟨_, rfl⟩
      have HB := Lib.hid (fun w => bit01_any v P w (by omega) hP)
      have hor := or_mkSet (u := v) (p := fun _ => true) hP (by omega) rfl
      clear hP
      go_wp2_with (go_at_call 67; refine (HB.out _).mono ?_; rintro e w' ⟨rfl, rfl⟩)
      go_round
      case rel => exact ⟨v + 1, by omega, by go_num, rfl⟩
      case measure => simp [intOf]; omega
    · obtain rfl : v = n := by omega
      go_wp2
      go_ret
      exact ⟨by rw [HE.out]; rfl, rfl⟩
theorem all40_any (k N S : Nat) (w : World) (hk : k ≤ 4) (hN : N = 2 ^ k) (hS : S = 2 ^ N) :
    Calls Tryd.prog 40 #[.int .i64 k] w fun e w' => e = .returned (.int .u64 (S - 1 : Nat)) ∧ w = w' := by
  have hw := wrap_pow hN hk
  have hc := wrap_self (x := k) (by omega)
  have hmin : min k 64 = k := Nat.min_eq_left (by omega)
  have HA := Lib.hid (fun w => all01_any N S w (pow_le16 hN hk) hS)
  clear hN hS
  go_enter Tryd.func40, Tryd.ntmps40
  go_wp2_with (go_at_call 62; refine (HA.out _).mono ?_; rintro e w' ⟨rfl, rfl⟩)
  go_ret
  exact ⟨rfl, rfl⟩
set_option maxHeartbeats 1000000 in
theorem within_any (n mz : Int) (m b x : Nat) (w : World) (hm : mz = (m : Int)) (hm4 : m ≤ 4) (hb : b < 18446744073709551616) (hx : x < 18446744073709551616) :
    Calls Tryd.prog 38 #[.int .i64 n, .int .i64 mz, .int .u64 b, .int .u64 x] w fun e w' => e = .returned (.int .i64 (ctErr m n b x : Nat)) ∧ w = w' := by
  subst hm
  by_cases h0 : n < 0
  · have hd1 : decide (n < 0) = true := decide_eq_true h0
    have HE := Lib.hid (show ctErr m n b x = 2 from if_neg (by omega))
    clear h0 hb hx
    go_enter Tryd.func38, Tryd.ntmps38
    go_wp2_with fail
    go_ret
    exact ⟨by rw [HE.out]; rfl, rfl⟩
  · have hd1 : decide (n < 0) = false := decide_eq_false h0
    by_cases h3 : (m : Int) < n
    · have hd2 : decide ((m : Int) < n) = true := decide_eq_true h3
      have HE := Lib.hid (show ctErr m n b x = 2 from if_neg (by omega))
      clear h0 h3 hb hx
      go_enter Tryd.func38, Tryd.ntmps38
      go_wp2_with fail
      go_ret
      exact ⟨by rw [HE.out]; rfl, rfl⟩
    · obtain ⟨k, rfl⟩ : ∃ k : Nat, n = k := ⟨n.toNat, by omega⟩
      have hk : k ≤ 4 := by omega
      have hd2 : decide (m < k) = false := decide_eq_false (by omega)
      obtain ⟨N, hN⟩ : ∃ N, N = 2 ^ k := ⟨_, rfl⟩
      obtain ⟨S, hS⟩ : ∃ S, S = 2 ^ N := ⟨_, rfl⟩
      have hN16 := pow_le16 hN hk
      obtain ⟨w1, w2, w3, w4, w5, w6⟩ := all_val4 hN hk hS
      have HA := Lib.hid (fun w => all40_any k N S w hk hN hS)
      obtain ⟨O, eO⟩ : ∃ O, O = b ||| x := ⟨_, rfl⟩
      have hOl : O < 18446744073709551616 := by rw [eO]; exact or_lt64 hb hx
      have hor : bits .or .u64 (b : Int) (x : Int) = (O : Int) := by rw [u64_or_nat _ _ hb hx, eO]
      have han := bits_andNot O (S - 1) hOl (by omega)
      have hsm := sub_mask hS hN16 hOl
      have hE : ctErr m k b x = if O < S then 0 else 2 := by
        unfold ctErr
        rw [eO, hS]
        by_cases h : b ||| x < 2 ^ N
        · have := or_lt_iff.1 h
          rw [if_pos h, if_pos ⟨by omega, by omega, by rw [Int.toNat_natCast, ← hN]; exact this.1, by rw [Int.toNat_natCast, ← hN]; exact this.2⟩]
        · rw [if_neg h, if_neg fun h2 => h (by rw [Int.toNat_natCast, ← hN] at h2; exact or_lt_iff.2 ⟨h2.2.2.1, h2.2.2.2⟩)]
      obtain ⟨E, eE⟩ : ∃ E, E = andNot O (S - 1) := ⟨_, rfl⟩
      rw [← eE] at han hsm
      clear h0 h3 hN hS eO eE w1 w2 w3 w4
      by_cases ho : O < S
      · rw [decide_eq_true ho] at hsm
        have hsm' : ((E : Int) != 0) = false := hsm
        rw [if_pos ho] at hE
        have HE := Lib.hid hE
        clear hsm hE ho
        go_enter Tryd.func38, Tryd.ntmps38
        go_wp2_with (go_at_call 40; refine (HA.out _).mono ?_; rintro e w' ⟨rfl, rfl⟩)
        go_ret
        exact ⟨by rw [HE.out]; rfl, rfl⟩
      · rw [decide_eq_false ho] at hsm
        have hsm' : ((E : Int) != 0) = true := hsm
        rw [if_neg ho] at hE
        have HE := Lib.hid hE
        clear hsm hE ho
        go_enter Tryd.func38, Tryd.ntmps38
        go_wp2_with (go_at_call 40; refine (HA.out _).mono ?_; rintro e w' ⟨rfl, rfl⟩)
        go_ret
        exact ⟨by rw [HE.out]; rfl, rfl⟩
theorem nothing_any (k N S b x : Nat) (w : World) (hk : k ≤ 4) (hN : N = 2 ^ k) (hS : S = 2 ^ N) (hb : b < 18446744073709551616) (hx : x < 18446744073709551616) :
    Calls Tryd.prog 43 #[.int .i64 k, .int .u64 b, .int .u64 x] w fun e w' => e = .returned (.bool (idl S b x)) ∧ w = w' := by
  have ha := bits_andNot b x hb hx
  have hI : idl S b x = (andNot b x != 0 || x == S - 1) := rfl
  have HA := Lib.hid (fun w => all40_any k N S w hk hN hS)
  obtain ⟨E, eE⟩ : ∃ E, E = andNot b x := ⟨_, rfl⟩
  rw [← eE] at ha hI
  clear eE hN hS
  cases h1 : (E != 0)
  · have h1' : ((E : Int) != 0) = false := by rw [ne0_nat, h1]
    rw [h1] at hI
    have HI := Lib.hid hI
    clear hI h1
    go_enter Tryd.func43, Tryd.ntmps43
    go_wp2_with (go_at_call 40; refine (HA.out _).mono ?_; rintro e w' ⟨rfl, rfl⟩)
    go_ret
    exact ⟨by rw [HI.out, Bool.false_or, ← eq_nat]; rfl, rfl⟩
  · have h1' : ((E : Int) != 0) = true := by rw [ne0_nat, h1]
    rw [h1] at hI
    have HI := Lib.hid hI
    clear hI h1
    go_enter Tryd.func43, Tryd.ntmps43
    go_wp2_with (go_at_call 40; refine (HA.out _).mono ?_; rintro e w' ⟨rfl, rfl⟩)
    go_ret
    exact ⟨by rw [HI.out]; rfl, rfl⟩
set_option maxHeartbeats 1000000 in
theorem rFull_any (n : Int) (b x : Nat) (w : World) (hb : b < 18446744073709551616) (hx : x < 18446744073709551616) :
    Calls Tryd.prog 14 #[.int .i64 n, .int .u64 b, .int .u64 x] w fun e w' => e = .returned (.tuple #[.int .u64 (fulR n b x : Nat), .int .i64 (ctErr 4 n b x : Nat)]) ∧ w = w' := by
  have HC := Lib.hid (fun w => within_any n 4 4 b x w rfl (by decide) hb hx)
  obtain ⟨E, eE⟩ : ∃ E, E = ctErr 4 n b x := ⟨_, rfl⟩
  obtain ⟨V, eV⟩ : ∃ V, V = fulR n b x := ⟨_, rfl⟩
  rw [← eE] at HC
  rw [← eE, ← eV]
  by_cases h0 : E = 0
  · obtain ⟨k, rfl, hk, hbS, hxS⟩ := ctErr_ok (by rw [← eE]; exact h0 : ctErr 4 n b x = 0)
    obtain ⟨N, hN⟩ : ∃ N, N = 2 ^ k := ⟨_, rfl⟩
    obtain ⟨S, hS⟩ : ∃ S, S = 2 ^ N := ⟨_, rfl⟩
    obtain ⟨w1, w2, w3, w4, w5, w6⟩ := all_val4 hN hk hS
    have HA := Lib.hid (fun w => all40_any k N S w hk hN hS)
    have HI := Lib.hid (fun w => nothing_any k N S b x w hk hN hS hb hx)
    have hV : V = if idl S b x then b else b ||| cpl S x := by rw [eV, hS, hN]; exact if_pos (by rw [← eE]; exact h0)
    have hcp := cpl_bits w5 hx
    have hor : bits .or .u64 (b : Int) (cpl S x : Int) = ((b ||| cpl S x : Nat) : Int) := u64_or_nat _ _ hb (by have := cpl_lt S x w6; omega)
    obtain ⟨C, eC⟩ : ∃ C, C = cpl S x := ⟨_, rfl⟩
    obtain ⟨I, eI⟩ : ∃ I, I = idl S b x := ⟨_, rfl⟩
    rw [← eC] at hV hcp hor
    rw [← eI] at hV HI
    subst h0
    clear eE eV hN hS eC eI w1 w2 w3 w4 hbS hxS
    cases I
    · have HV := Lib.hid (show V = b ||| C from hV)
      clear hV
      go_enter Tryd.func14, Tryd.ntmps14
      go_wp2_with (first | (go_at_call 38; refine (HC.out _).mono ?_; rintro e w' ⟨rfl, rfl⟩) | (go_at_call 43; refine (HI.out _).mono ?_; rintro e w' ⟨rfl, rfl⟩) | (go_at_call 40; refine (HA.out _).mono ?_; rintro e w' ⟨rfl, rfl⟩))
      go_ret2
      exact ⟨by rw [HV.out]; rfl, rfl⟩
    · have HV := Lib.hid (show V = b from hV)
      clear hV
      go_enter Tryd.func14, Tryd.ntmps14
      go_wp2_with (first | (go_at_call 38; refine (HC.out _).mono ?_; rintro e w' ⟨rfl, rfl⟩) | (go_at_call 43; refine (HI.out _).mono ?_; rintro e w' ⟨rfl, rfl⟩) | (go_at_call 40; refine (HA.out _).mono ?_; rintro e w' ⟨rfl, rfl⟩))
      go_ret2
      exact ⟨by rw [HV.out]; rfl, rfl⟩
  · have hne : ((E : Int) != 0) = true := by rw [bne_iff_ne]; omega
    have HV := Lib.hid (show V = 0 by rw [eV]; exact if_neg (by rw [← eE]; exact h0))
    clear eE eV h0
    go_enter Tryd.func14, Tryd.ntmps14
    go_wp2_with (go_at_call 38; refine (HC.out _).mono ?_; rintro e w' ⟨rfl, rfl⟩)
    go_ret2
    exact ⟨by rw [HV.out]; rfl, rfl⟩
/-! ### Members, Remainders -/
/-- The members below n. -/
def memL (s n : Nat) : List Nat := (List.range n).filter s.testBit
theorem memL_yes {s n : Nat} (h : s.testBit n = true) : memL s (n + 1) = memL s n ++ [n] := by
  unfold memL; rw [List.range_succ, List.filter_append]; simp [h]
theorem memL_no {s n : Nat} (h : s.testBit n = false) : memL s (n + 1) = memL s n := by
  unfold memL; rw [List.range_succ, List.filter_append]; simp [h]
theorem memL_len (s n : Nat) : (memL s n).length ≤ n := by
  unfold memL; exact Nat.le_trans (List.length_filter_le _ _) (by simp)
theorem memL_lt {s n y : Nat} (h : y ∈ memL s n) : y < n := by
  unfold memL at h
  simp only [List.mem_filter, List.mem_range] at h
  exact h.1
theorem memL_more {s N : Nat} (h : s < 2 ^ N) (d : Nat) : memL s (N + d) = memL s N := by
  induction d with
  | zero => rfl
  | succ d ih =>
    rw [← ih]
    exact memL_no (Nat.testBit_lt_two_pow (Nat.lt_of_lt_of_le h (Nat.pow_le_pow_right (by decide) (Nat.le_add_right N d))))
def li (l : List Nat) : Nat → Int := fun u => (ln l u : Nat)
theorem liL_append (l : List Nat) (x : Nat) : i64L (li (l ++ [x])) (l.length + 1) = i64L (li l) l.length ++ [.int .i64 (x : Nat)] := by
  rw [i64L_succ]
  congr 1
  · exact i64L_congr fun u hu => by unfold li; rw [ln_append _ _ u hu]
  · unfold li; rw [ln_last]
set_option maxHeartbeats 1000000 in
theorem members01_any (s : Nat) (w : World) (hs : s < 18446744073709551616) :
    Calls Tryd.prog 39 #[.int .u64 s] w fun e w' => ∃ A c, e = .returned (.slice A (memL s 64).length c) ∧ I64s w' A (memL s 64).length (li (memL s 64)) ∧ Below w.heap.size w w' := by
  go_enter Tryd.func39, Tryd.ntmps39
  go_wp2
  go_loopw [3, 4] (fun o i wr => ∃ u : Nat, u ≤ 64 ∧ i = .int .i64 u ∧ wr.ownsRow w.heap.size 3 1 o (memL s u).length (i64L (li (memL s u)) (memL s u).length) ∧ Below w.heap.size w wr) (fun _ i _ => 64 - (intOf i).toNat)
  case atStart => exact ⟨0, Nat.zero_le _, rfl, World.ownsRow_nil _ _ _ _, Below.refl _ _⟩
  case round =>
    obtain ⟨u, hu, rfl, hown, hbl⟩ := hrel
    by_cases hult : u < 64
    · have hd : decide ((u : Int) < 64) = true := decide_eq_true (by omega)
      have HH := Lib.hid (has01_any s u wr hs hult)
      have hsz := hbl.size
      have hlen := memL_len s u
      cases hbx : s.testBit u
      · rw [hbx] at HH
        have HST := Lib.hid (memL_no hbx)
        have HO := Lib.hid hown
        have HB := Lib.hid hbl
        clear hbx hown hbl
        go_wp2_with (go_at_call 49; refine (HH.out).mono ?_; rintro e w' ⟨rfl, rfl⟩)
        go_roundw
        case rel => exact ⟨u + 1, by omega, by go_num, by rw [HST.out]; exact HO.out, HB.out⟩
        case measure => simp [intOf]; omega
      · rw [hbx] at HH
        have HST := Lib.hid (memL_yes hbx)
        obtain ⟨L, eL⟩ : ∃ L, L = memL s u := ⟨_, rfl⟩
        rw [← eL] at hown hlen HST
        have HB := Lib.hid hbl
        clear hbx hbl eL
        have HO := Lib.hid hown
        clear hown
        have hown := HO.out
        go_wp2_with (first | (go_at_call 49; refine (HH.out).mono ?_; rintro e w' ⟨rfl, rfl⟩) | (at_builtin; obtain ⟨i0, hi, hz0, hz1, hz2⟩ := info_parts Tryd.infoInt; refine wpList_append_own _ rfl _ _ 32 rfl w.heap.size 3 i0 (.int .i64 0) 1 8 Tryd.underlying32 hi hz0 hz1 hz2 rfl (by decide) _ _ _ rfl (hown.alloc _) ⟨wr.heap.size, 0, none⟩ 1 1 [.int .i64 (u : Nat)] rfl rfl (cell_one_new _ _ _) (one_oneCell rfl) (by unfold maxLen; omega) (by omega) (by simp; omega) ?_; intro v' w3 hown' hgrow _))
        go_roundw
        case rel => exact ⟨u + 1, by omega, by go_num, by rw [HST.out, List.length_append, List.length_singleton, liL_append]; exact hown', (HB.out.alloc hsz _).grown hgrow (by simp; omega) (fun k hk => (hown.lt k hk).1)⟩
        case measure => simp [intOf]; omega
    · obtain rfl : u = 64 := by omega
      have hd : decide (((64 : Nat) : Int) < 64) = false := rfl
      obtain ⟨A2, c2, rfl, hi64⟩ := own_i64s hown (fun x _ => by
        have := ln_lt (l := memL s 64) (B := 64) (by decide) (fun y hy => memL_lt hy) x
        unfold li
        omega)
      have HU := Lib.hid hi64
      have HB := Lib.hid hbl
      clear hown hbl hi64
      go_wp2_with fail
      go_ret
      exact ⟨_, _, rfl, HU.out, HB.out⟩
theorem mem_cpl {N S x : Nat} (hS : S = 2 ^ N) (hN : N ≤ 16) (hx : x < S) : memL (cpl S x) 64 = (List.range N).filter fun v => !x.testBit v := by
  have h1 : 1 ≤ S := by rw [hS]; exact Nat.two_pow_pos N
  have hS64 : S ≤ 65536 := by rw [hS]; exact Nat.pow_le_pow_right (n := 2) (j := 16) (by decide) hN
  have e : memL (cpl S x) 64 = memL (cpl S x) N := by
    have := memL_more (s := cpl S x) (N := N) (hS ▸ cpl_lt S x h1) (64 - N)
    rwa [show N + (64 - N) = 64 from by omega] at this
  rw [e]
  unfold memL
  apply List.filter_congr
  intro v hv
  have hv := List.mem_range.1 hv
  unfold cpl
  rw [testBit_andNot _ _ _ (by omega) (by omega), hS, Nat.testBit_two_pow_sub_one]
  simp [hv]
set_option maxHeartbeats 1000000 in
theorem rRemainders_any (n : Int) (b x : Nat) (w : World) (hb : b < 18446744073709551616) (hx : x < 18446744073709551616) :
    Calls Tryd.prog 12 #[.int .i64 n, .int .u64 b, .int .u64 x] w (SlcU (ctErr 4 n b x) (remR n b x).length (ln (remR n b x)) w) := by
  have HC := Lib.hid (fun w => within_any n 4 4 b x w rfl (by decide) hb hx)
  by_cases h0 : ctErr 4 n b x = 0
  · obtain ⟨k, rfl, hk, hbS, hxS⟩ := ctErr_ok h0
    obtain ⟨N, hN⟩ : ∃ N, N = 2 ^ k := ⟨_, rfl⟩
    obtain ⟨S, hS⟩ : ∃ S, S = 2 ^ N := ⟨_, rfl⟩
    have hR : remR k b x = remL N S b x := by unfold remR; rw [if_pos h0, hS, hN]; rfl
    have hN16 := pow_le16 hN hk
    obtain ⟨w1, w2, w3, w4, w5, w6⟩ := all_val4 hN hk hS
    rw [h0, hR]
    rw [h0] at HC
    have ha := bits_andNot b x hb hx
    have hbl0 : b < S := by rw [hS, hN]; exact hbS
    have hxl0 : x < S := by rw [hS, hN]; exact hxS
    cases h1 : (andNot b x != 0)
    · have h1' : ((andNot b x : Int) != 0) = false := by rw [ne0_nat, h1]
      have hL : remL N S b x = (memL (cpl S x) 64).map fun v => b ||| 2 ^ v := by unfold remL; rw [h1, mem_cpl hS hN16 hxl0]; rfl
      rw [hL]
      have hcp := cpl_bits w5 hx
      have hcl := cpl_lt S x w6
      have HA := Lib.hid (fun w => all40_any k N S w hk hN hS)
      have HLM := Lib.hid (fun y (hy : y ∈ memL (cpl S x) 64) => memL_lt hy)
      have HLN := Lib.hid (memL_len (cpl S x) 64)
      obtain ⟨E, eE⟩ : ∃ E, E = andNot b x := ⟨_, rfl⟩
      rw [← eE] at ha h1'
      have HMB := Lib.hid (fun w => members01_any (cpl S x) w (by omega))
      obtain ⟨C, eC⟩ : ∃ C, C = cpl S x := ⟨_, rfl⟩
      rw [← eC] at hcp hcl HLM HMB HLN ⊢
      obtain ⟨L, eL⟩ : ∃ L, L = memL C 64 := ⟨_, rfl⟩
      rw [← eL] at HLM HMB HLN ⊢
      have hLen := HLN.out
      rw [List.length_map]
      clear h0 hR h1 hL eE hbS hxS hN hS eC eL w1 w2 w3 w4
      go_enter Tryd.func12, Tryd.ntmps12
      go_wp2_with (first | (go_at_call 38; refine (HC.out _).mono ?_; rintro e w' ⟨rfl, rfl⟩) | (go_at_call 40; refine (HA.out _).mono ?_; rintro e w' ⟨rfl, rfl⟩) | (go_at_call 39; refine (HMB.out _).mono ?_; rintro e w1 ⟨A1, c1, rfl, hu1, hb1⟩; have HU1 := Lib.hid hu1; have HB1 := Lib.hid hb1; clear hu1 hb1))
      go_loopw [9, 11] (fun o i wr => ∃ u : Nat, u ≤ L.length ∧ i = .int .i64 u ∧ wr.ownsRow w1.heap.size 22 1 o u (u64L (fun t => b ||| 2 ^ ln L t) u) ∧ Below w1.heap.size w1 wr) (fun _ i _ => L.length - (intOf i).toNat)
      case atStart => exact ⟨0, Nat.zero_le _, rfl, World.ownsRow_nil _ _ _ _, Below.refl _ _⟩
      case round =>
        obtain ⟨u, hu, rfl, hown, hbl⟩ := hrel
        by_cases hult : u < L.length
        · obtain ⟨bq, off, rfl, hc, -⟩ := (HU1.out.below hbl) u hult
          have hln := ln_lt (l := L) (B := 64) (by decide) HLM.out u
          have HSU := Lib.hid (u64L_succ (fun t => b ||| 2 ^ ln L t) u)
          unfold li at hc
          obtain ⟨v, ev⟩ : ∃ v, v = ln L u := ⟨_, rfl⟩
          rw [← ev] at hc hln HSU
          have hcv := wrap_self (x := v) (by omega)
          obtain ⟨P, eP⟩ : ∃ P : Nat, P = 2 ^ v := ⟨_, rfl⟩
          have hsh := shl_one eP (by omega)
          have hmin : min v 64 = v := Nat.min_eq_left (by omega)
          have hPl : P < 18446744073709551616 := by rw [eP]; exact pow_lt64 (by omega)
          rw [← eP] at HSU
          obtain ⟨y, ey⟩ : ∃ y : Nat, y = b ||| P := ⟨_, rfl⟩
          have hor : bits .or .u64 (b : Int) (P : Int) = (y : Int) := by rw [u64_or_nat _ _ hb hPl, ey]
          rw [← ey] at HSU
          have HBq := Lib.hid hbl
          have hsz := hbl.size
          have HO := Lib.hid hown
          clear hown hbl ev eP ey
          have hown := HO.out
          go_wp2_with (at_builtin; obtain ⟨i0, hi, hz0, hz1, hz2⟩ := info_parts Tryd.infoU64; refine wpList_append_own _ rfl _ _ 23 rfl w1.heap.size 22 i0 (.int .u64 0) 1 8 Tryd.underlying23 hi hz0 hz1 hz2 rfl (by decide) _ _ _ rfl (hown.alloc _) ⟨wr.heap.size, 0, none⟩ 1 1 [.int .u64 (y : Nat)] rfl rfl (cell_one_new _ _ _) (one_oneCell rfl) (by unfold maxLen; omega) (by omega) (by simp; omega) ?_; intro v' w3 hown' hgrow _)
          go_roundw
          case rel => exact ⟨u + 1, by omega, by go_num, by rw [HSU.out]; exact hown', (HBq.out.alloc hsz _).grown hgrow (by simp; omega) (fun k hk => (hown.lt k hk).1)⟩
          case measure => simp [intOf]; omega
        · obtain rfl : u = L.length := by omega
          have hb1 : ∀ x, x < L.length → b ||| 2 ^ ln L x < 18446744073709551616 := fun x _ => or_lt64 hb (pow_lt64 (ln_lt (l := L) (B := 64) (by decide) HLM.out x))
          obtain ⟨A2, c2, rfl, hu64, _⟩ := own_u64s hown hb1
          have HU := Lib.hid hu64
          have HB := Lib.hid (HB1.out.trans (hbl.mono HB1.out.size))
          clear hown hbl hu64 hb1
          go_wp2_with fail
          go_ret2
          refine ⟨_, _, rfl, ?_, HB.out⟩
          intro x hx
          obtain ⟨bq, off, e, hc, hl⟩ := HU.out x hx
          refine ⟨bq, off, e, ?_, ?_⟩
          · rw [hc]
            unfold ln
            simp [List.getD_eq_getElem?_getD, hx]
          · unfold ln
            unfold ln at hl
            simp [List.getD_eq_getElem?_getD, hx] at hl ⊢
            exact hl
    · have h1' : ((andNot b x : Int) != 0) = true := by rw [ne0_nat, h1]
      have hL : remL N S b x = [b] := by unfold remL; rw [h1]; rfl
      rw [hL]
      obtain ⟨E, eE⟩ : ∃ E, E = andNot b x := ⟨_, rfl⟩
      rw [← eE] at ha h1'
      clear h0 hR h1 hL eE hbS hxS hN hS hbl0 hxl0
      go_enter Tryd.func12, Tryd.ntmps12
      go_wp2_with (go_at_call 38; refine (HC.out _).mono ?_; rintro e w' ⟨rfl, rfl⟩)
      go_ret2
      refine ⟨some ⟨w.heap.size, 0, none⟩, 1, rfl, fun u hu => ?_, below_alloc _ _⟩
      have hu0 : u = 0 := by simp at hu; omega
      subst hu0
      exact ⟨w.heap.size, 0, rfl, (cell_one_new _ _ _) 0 _ rfl, hb⟩
  · have hR : remR n b x = [] := by unfold remR; rw [if_neg h0]
    rw [hR]
    obtain ⟨E, eE⟩ : ∃ E, E = ctErr 4 n b x := ⟨_, rfl⟩
    rw [← eE] at HC h0 ⊢
    have hne : ((E : Int) != 0) = true := by rw [bne_iff_ne]; omega
    clear eE hR
    go_enter Tryd.func12, Tryd.ntmps12
    go_wp2_with (go_at_call 38; refine (HC.out _).mono ?_; rintro e w' ⟨rfl, rfl⟩)
    go_ret2
    exact ⟨none, 0, rfl, u64s_nil _ _ _, Below.refl _ _⟩
end Go.Proofs.YtiifmdgcnpdibaaDoor
