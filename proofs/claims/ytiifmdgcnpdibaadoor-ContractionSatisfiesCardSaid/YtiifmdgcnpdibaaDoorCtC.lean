/-
  Walks: package contraction: Check.
-/
import Derived.Test.YtiifmdgcnpdibaaDoorProg
import Derived.Test.YtiifmdgcnpdibaaDoorBase
import Derived.Test.YtiifmdgcnpdibaaDoorRow
import Derived.Test.YtiifmdgcnpdibaaDoorRowU
import Derived.Test.YtiifmdgcnpdibaaDoorRowsOf
import Derived.Test.YtiifmdgcnpdibaaDoorLeast
import Derived.Test.YtiifmdgcnpdibaaDoorRkQ
import Derived.Test.YtiifmdgcnpdibaaDoorRkB
import Derived.Test.YtiifmdgcnpdibaaDoorRkC3
import Derived.Test.YtiifmdgcnpdibaaDoorPoP
import Derived.Test.YtiifmdgcnpdibaaDoorCtP
import Derived.Test.YtiifmdgcnpdibaaDoorCtQ
import Derived.Test.YtiifmdgcnpdibaaDoorCtA
import Derived.Test.YtiifmdgcnpdibaaDoorCtB
namespace Go.Proofs.YtiifmdgcnpdibaaDoor
open Go.RowKit

theorem cc1_any (k S x bn : Nat) (w : World) (hk : k ≤ 3) (hS0 : S = 2 ^ 2 ^ k) (hx : x < 18446744073709551616) (hc : w.cell? ⟨bn, 0, none⟩ = some (.int .i64 k)) :
    Calls Tryd.prog 55 #[.int .u64 x, .pointer (some ⟨bn, 0, none⟩)] w fun e w' => e = .returned (.bool (decide (S ≤ x))) ∧ w = w' := by
  obtain ⟨N, hN⟩ : ∃ N, N = 2 ^ k := ⟨_, rfl⟩
  have hS : S = 2 ^ N := by rw [hN]; exact hS0
  clear hS0
  obtain ⟨w1, w2, w3, w4, w5, w6⟩ := all_val4 hN (by omega) hS
  have HA := Lib.hid (fun w => ctAll_any k N S w (by omega) hN hS)
  have han := bits_andNot x (S - 1) hx (by omega)
  have hsm := Lib.hid (sub_mask hS (pow_le16 hN (by omega)) hx)
  obtain ⟨E, eE⟩ : ∃ E, E = andNot x (S - 1) := ⟨_, rfl⟩
  rw [← eE] at han hsm
  clear eE hN hS w1 w2 w3 w4
  go_enter Tryd.func55, Tryd.ntmps55
  go_wp2_with (go_at_call 42; refine (HA.out _).mono ?_; rintro e w' ⟨rfl, rfl⟩)
  go_ret
  refine ⟨ret_bool ?_, rfl⟩
  rw [hsm.out, ← decide_not]
  exact decide_eq_decide.2 (by omega)
/-! ### the check of a table -/
def idxS (S n : Nat) (f : Nat → Nat) : Int := if firstNo n (fun v => decide (f v < S)) < n then (firstNo n (fun v => decide (f v < S)) : Nat) else -1
theorem idxS_hit {S n v : Nat} {f : Nat → Nat} (hv : v < n) (h : ∀ i, i < v → f i < S) (hb : ¬ f v < S) : idxS S n f = (v : Int) := by
  have e := firstNo_hit (p := fun v => decide (f v < S)) hv (fun i hi => decide_eq_true (h i hi)) (decide_eq_false hb)
  unfold idxS; rw [e, if_pos hv]
theorem idxS_none {S n : Nat} {f : Nat → Nat} (h : ∀ i, i < n → f i < S) : idxS S n f = -1 := by
  have e := firstNo_all (p := fun v => decide (f v < S)) (n := n) (fun i hi => decide_eq_true (h i hi))
  unfold idxS; rw [e, if_neg (Nat.lt_irrefl _)]
theorem ctIndex_any (A : Option Addr) (n c k S bn : Nat) (f : Nat → Nat) (w : World) (hT : U64s w A n f) (hn : n ≤ 9223372036854775807) (hk : k ≤ 3) (hS : S = 2 ^ 2 ^ k) (hc : w.cell? ⟨bn, 0, none⟩ = some (.int .i64 k)) :
    Calls Tryd.prog 71 #[.slice A n c, .func (.func 55) #[] #[.pointer (some ⟨bn, 0, none⟩)]] w fun e w' => e = .returned (.int .i64 (idxS S n f)) ∧ w = w' := by
  have HT := Lib.hid hT
  have HS := Lib.hid hS
  clear hT hS
  go_enter Tryd.func71, Tryd.ntmps71
  go_wp2
  go_loop [8] (fun i => ∃ v : Nat, v ≤ n ∧ i = .int .i64 v ∧ Hid (∀ i, i < v → f i < S)) (fun i => n - (intOf i).toNat)
  case atStart => exact ⟨0, Nat.zero_le _, rfl, Lib.hid fun i h => absurd h (Nat.not_lt_zero _)⟩
  case round =>
    obtain ⟨v, hv, rfl, HF⟩ := hrel
    by_cases hlt : v < n
    · obtain ⟨b, off, rfl, hcv, hr⟩ := HT.out v hlt
      by_cases hb : f v < S
      · have hd : decide (S ≤ f v) = false := decide_eq_false (by omega)
        have HF2 : Hid (∀ i, i < v + 1 → f i < S) := Lib.hid fun i h => by
          rcases Nat.lt_succ_iff_lt_or_eq.1 h with h3 | rfl
          · exact HF.out i h3
          · exact hb
        clear hb
        go_wp2_with (go_at_call 55; refine (cc1_any k S (f v) bn _ hk HS.out hr hc).mono ?_; rintro e w' ⟨rfl, rfl⟩)
        go_round
        case rel => exact ⟨v + 1, by omega, by go_num, HF2⟩
        case measure => simp [intOf]; omega
      · have HI := Lib.hid (idxS_hit hlt HF.out hb)
        have hd : decide (S ≤ f v) = true := decide_eq_true (by omega)
        clear hb
        go_wp2_with (go_at_call 55; refine (cc1_any k S (f v) bn _ hk HS.out hr hc).mono ?_; rintro e w' ⟨rfl, rfl⟩)
        go_ret
        exact ⟨by rw [HI.out]; rfl, rfl⟩
    · obtain rfl : v = n := by omega
      have HI := Lib.hid (idxS_none HF.out)
      go_wp2
      go_ret
      exact ⟨by rw [HI.out]; rfl, rfl⟩
theorem ctContains_any (A : Option Addr) (n c k S bn : Nat) (f : Nat → Nat) (w : World) (hT : U64s w A n f) (hn : n ≤ 9223372036854775807) (hk : k ≤ 3) (hS : S = 2 ^ 2 ^ k) (hc : w.cell? ⟨bn, 0, none⟩ = some (.int .i64 k)) :
    Calls Tryd.prog 54 #[.slice A n c, .func (.func 55) #[] #[.pointer (some ⟨bn, 0, none⟩)]] w fun e w' => e = .returned (.bool (!allB n (fun v => decide (f v < S)))) ∧ w = w' := by
  have HT := Lib.hid hT
  have HS := Lib.hid hS
  have HE : Hid (decide (0 ≤ idxS S n f) = !allB n (fun v => decide (f v < S))) := Lib.hid (by
    cases ha : allB n (fun v => decide (f v < S))
    · obtain ⟨u, hu, hf⟩ := not_allB ha
      obtain ⟨i1, i2, i3⟩ := firstNo_spec n (fun v => decide (f v < S))
      have : firstNo n (fun v => decide (f v < S)) < n := by
        rcases Nat.lt_or_ge (firstNo n (fun v => decide (f v < S))) n with h1 | h1
        · exact h1
        · have := i2 u (by omega); rw [hf] at this; cases this
      unfold idxS; rw [if_pos this]; simp
    · rw [idxS_none fun i hi => of_decide_eq_true (allB_iff.1 ha i hi)]; rfl)
  clear hT hS
  go_enter Tryd.func54, Tryd.ntmps54
  go_wp2_with (go_at_call 71; refine (ctIndex_any _ _ _ _ _ _ _ _ HT.out hn hk HS.out hc).mono ?_; rintro e w' ⟨rfl, rfl⟩)
  go_ret
  exact ⟨by rw [← HE.out]; rfl, rfl⟩
set_option maxHeartbeats 1000000 in
theorem ctChk_any (n : Int) (b len c : Nat) (A : Option Addr) (T : Nat → Nat) (w : World) (hT : U64s w A len T) (hlen : len ≤ 9223372036854775807) (hb : b < 18446744073709551616) :
    Calls Tryd.prog 25 #[.int .i64 n, .int .u64 b, .slice A len c] w fun e w' => e = .returned (.int .i64 (ctChk n b len T : Nat)) ∧ Below w.heap.size w w' := by
  have hbl := below_alloc w (.cells #[.int .i64 n] 3)
  have HT := Lib.hid (hT.below hbl)
  have HB := Lib.hid hbl
  have hcc : (w.alloc (.cells #[.int .i64 n] 3)).cell? ⟨w.heap.size, 0, none⟩ = some (.int .i64 n) := by simp
  clear hbl hT
  by_cases h0 : n < 0
  · have hd1 : decide (n < 0) = true := decide_eq_true h0
    have HE := Lib.hid (show ctChk n b len T = 2 from if_neg (by omega))
    clear h0
    go_enter Tryd.func25, Tryd.ntmps25
    go_upto_region 1 with (fail)
    generalize w.alloc _ = W at hcc HT HB ⊢
    go_wp2_with fail
    go_ret
    exact ⟨by rw [HE.out]; rfl, HB.out⟩
  · have hd1 : decide (n < 0) = false := decide_eq_false h0
    by_cases h3 : 3 < n
    · have hd2 : decide (3 < n) = true := decide_eq_true h3
      have HE := Lib.hid (show ctChk n b len T = 2 from if_neg (by omega))
      clear h0 h3
      go_enter Tryd.func25, Tryd.ntmps25
      go_upto_region 1 with (fail)
      generalize w.alloc _ = W at hcc HT HB ⊢
      go_wp2_with fail
      go_ret
      exact ⟨by rw [HE.out]; rfl, HB.out⟩
    · obtain ⟨k, rfl⟩ : ∃ k : Nat, n = k := ⟨n.toNat, by omega⟩
      have hk : k ≤ 3 := by omega
      have hd2 : decide (3 < (k : Int)) = false := decide_eq_false h3
      obtain ⟨S, hSk⟩ : ∃ S, S = 2 ^ 2 ^ k := ⟨_, rfl⟩
      obtain ⟨N, hN⟩ : ∃ N, N = 2 ^ k := ⟨_, rfl⟩
      have hS : S = 2 ^ N := by rw [hN]; exact hSk
      have hN8 : N ≤ 8 := by rw [hN]; exact Nat.le_trans (Nat.pow_le_pow_right (n := 2) (j := 3) (by decide) hk) (by decide)
      obtain ⟨w1, w2, w3, w4, w5, w6⟩ := all_val4 hN (by omega) hS
      obtain ⟨v1, v2, v3, v4⟩ := two_val8 hN8 hS
      have HA := Lib.hid (fun w => ctAll_any k N S w (by omega) hN hS)
      have han := bits_andNot b (S - 1) hb (by omega)
      have hsm := sub_mask hS (by omega) hb
      obtain ⟨Q, eQ⟩ : ∃ Q, Q = andNot b (S - 1) := ⟨_, rfl⟩
      rw [← eQ] at han hsm
      have hE : ctChk k b len T = if b < S then tabErr S len T else 2 := by
        unfold ctChk
        rw [if_pos (by omega), show setsZ k = S from hSk.symm]
      have HS := Lib.hid hSk
      clear h0 h3 eQ hN hS hSk
      by_cases hbs : b < S
      · rw [decide_eq_true hbs] at hsm
        have hsm' : ((Q : Int) != 0) = false := hsm
        rw [if_pos hbs] at hE
        by_cases hnS : len = S
        · have h1 : ((len : Int) != (S : Int)) = false := by rw [hnS]; simp
          have HCC := Lib.hid (fun W (hW : U64s W A len T) bn hc => ctContains_any A len c k S bn T W hW hlen hk HS.out hc)
          cases ha : allB len (fun v => decide (T v < S))
          · have HV := Lib.hid (show ctChk k b len T = 2 by rw [hE]; unfold tabErr; rw [if_pos hnS, ha]; rfl)
            rw [ha] at HCC
            clear hnS hE hsm hbs
            go_enter Tryd.func25, Tryd.ntmps25
            go_upto_region 1 with (fail)
            generalize w.alloc _ = W at hcc HT HB ⊢
            go_wp2_with (first | (go_at_call 42; refine (HA.out _).mono ?_; rintro e w' ⟨rfl, rfl⟩) | (go_at_call 54; refine (HCC.out _ HT.out _ hcc).mono ?_; rintro e w' ⟨rfl, rfl⟩))
            go_ret
            exact ⟨by rw [HV.out]; rfl, HB.out⟩
          · have HV := Lib.hid (show ctChk k b len T = 0 by rw [hE]; unfold tabErr; rw [if_pos hnS, ha]; rfl)
            rw [ha] at HCC
            clear hnS hE hsm hbs
            go_enter Tryd.func25, Tryd.ntmps25
            go_upto_region 1 with (fail)
            generalize w.alloc _ = W at hcc HT HB ⊢
            go_wp2_with (first | (go_at_call 42; refine (HA.out _).mono ?_; rintro e w' ⟨rfl, rfl⟩) | (go_at_call 54; refine (HCC.out _ HT.out _ hcc).mono ?_; rintro e w' ⟨rfl, rfl⟩))
            go_ret
            exact ⟨by rw [HV.out]; rfl, HB.out⟩
        · have h1 : ((len : Int) != (S : Int)) = true := by rw [bne_iff_ne]; omega
          have HV := Lib.hid (show ctChk k b len T = 3 by rw [hE]; unfold tabErr; rw [if_neg hnS])
          clear hnS hE hsm hbs
          go_enter Tryd.func25, Tryd.ntmps25
          go_upto_region 1 with (fail)
          generalize w.alloc _ = W at hcc HT HB ⊢
          go_wp2_with (go_at_call 42; refine (HA.out _).mono ?_; rintro e w' ⟨rfl, rfl⟩)
          go_ret
          exact ⟨by rw [HV.out]; rfl, HB.out⟩
      · rw [decide_eq_false hbs] at hsm
        have hsm' : ((Q : Int) != 0) = true := hsm
        rw [if_neg hbs] at hE
        have HE := Lib.hid hE
        clear hE hsm hbs
        go_enter Tryd.func25, Tryd.ntmps25
        go_upto_region 1 with (fail)
        generalize w.alloc _ = W at hcc HT HB ⊢
        go_wp2_with (go_at_call 42; refine (HA.out _).mono ?_; rintro e w' ⟨rfl, rfl⟩)
        go_ret
        exact ⟨by rw [HE.out]; rfl, HB.out⟩
end Go.Proofs.YtiifmdgcnpdibaaDoor
