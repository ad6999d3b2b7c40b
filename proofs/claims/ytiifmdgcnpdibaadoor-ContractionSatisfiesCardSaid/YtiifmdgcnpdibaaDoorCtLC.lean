/-
  Walks: satisfies; the law ContractionSatisfies.
-/
import Derived.Test.YtiifmdgcnpdibaaDoorProg
import Derived.Test.YtiifmdgcnpdibaaDoorBase
import Derived.Test.YtiifmdgcnpdibaaDoorRow
import Derived.Test.YtiifmdgcnpdibaaDoorRowU
import Derived.Test.YtiifmdgcnpdibaaDoorRowsOf
import Derived.Test.YtiifmdgcnpdibaaDoorPc
import Derived.Test.YtiifmdgcnpdibaaDoorLeast
import Derived.Test.YtiifmdgcnpdibaaDoorRkQ
import Derived.Test.YtiifmdgcnpdibaaDoorRkB
import Derived.Test.YtiifmdgcnpdibaaDoorRkC3
import Derived.Test.YtiifmdgcnpdibaaDoorPoP
import Derived.Test.YtiifmdgcnpdibaaDoorSlcU
import Derived.Test.YtiifmdgcnpdibaaDoorCtP
import Derived.Test.YtiifmdgcnpdibaaDoorCtQ
import Derived.Test.YtiifmdgcnpdibaaDoorCtO
import Derived.Test.YtiifmdgcnpdibaaDoorCtV
import Derived.Test.YtiifmdgcnpdibaaDoorCtA
import Derived.Test.YtiifmdgcnpdibaaDoorCtB
import Derived.Test.YtiifmdgcnpdibaaDoorCtE
import Derived.Test.YtiifmdgcnpdibaaDoorCtF
import Derived.Test.YtiifmdgcnpdibaaDoorCtG
import Derived.Test.YtiifmdgcnpdibaaDoorCtJ
import Derived.Test.YtiifmdgcnpdibaaDoorCtK
import Derived.Maps.AppendAt
namespace Go.Proofs.YtiifmdgcnpdibaaDoor
open Go.RowKit

theorem wrap_self' {x : Nat} (h : x < 18446744073709551616) : IntKind.u64.wrap (x : Int) = (x : Int) := by rw [IntKind.wrap_u64]; omega
set_option maxHeartbeats 2000000 in
theorem sat_any (k N S b last c : Nat) (A : Option Addr) (T : Nat → Nat) (w : World) (hL : LaidC w) (hT : U64s w A S T) (hk : k ≤ 3) (hN : N = 2 ^ k) (hS : S = 2 ^ N) (hb : b < S) (ht : ctChk k b S T = 0) (hl : last ≤ 6) :
    Calls Tryd.prog 28 #[.int .i64 k, .int .u64 b, .slice A S c, .int .i64 last] w fun e w' => e = .returned (.bool (satB S b T last)) ∧ Below w.heap.size w w' := by
  have hN8 : N ≤ 8 := by rw [hN]; exact Nat.le_trans (Nat.pow_le_pow_right (n := 2) (j := 3) (by decide) hk) (by decide)
  obtain ⟨v1, v2, v3, v4⟩ := two_val8 hN8 hS
  have HL := Lib.hid hL
  have HT := Lib.hid hT
  have HH := Lib.hid (fun W q (hl : LaidC W) (hW : U64s W A S T) (hq : q < 6) => (show Calls Tryd.prog 23 #[.int .i64 k, .int .u64 b, .slice A S c, .int .i64 ((q + 1 : Nat) : Int)] W (fun e w' => ∃ x y, HoPost (!ctBad q S b T) x y 0 W e w') from by
    have h := Holds_any k ((q + 1 : Nat) : Int) b S c A T W hl hW (by omega) (by omega) (by omega)
    have e0 : hoE k b S T ((q + 1 : Nat) : Int) = 0 := by unfold hoE; rw [if_pos ht, if_pos (by omega)]
    have e1 : hoOk k b S T ((q + 1 : Nat) : Int) = !ctBad q S b T := by
      unfold hoOk
      rw [if_pos e0, show (((q + 1 : Nat) : Int) - 1).toNat = q by omega]
    rw [e0, e1] at h
    exact h.mono fun e w' h => ⟨_, _, h⟩))
  obtain ⟨V, eV⟩ : ∃ V, V = satB S b T last := ⟨_, rfl⟩
  rw [← eV]
  have HV1 := Lib.hid (show (∀ i, i < last → ctBad i S b T = false) → V = true from fun h => by rw [eV]; exact satB_iff.2 h)
  have HV2 := Lib.hid (show ∀ i, i < last → ctBad i S b T = true → V = false from fun i hi h => by
    rw [eV]; unfold satB; exact not_all (p := fun i => !ctBad i S b T) hi (by rw [h]; rfl))
  clear hL hT ht hN hS eV v1 v2
  go_enter Tryd.func28, Tryd.ntmps28
  go_wp2
  go_loopw [9] (fun p wr => ∃ q : Nat, q ≤ last ∧ p = .int .i64 ((q + 1 : Nat) : Int) ∧ Hid (∀ i, i < q → ctBad i S b T = false) ∧ Below w.heap.size w wr) (fun p _ => 8 - (intOf p).toNat)
  case atStart => exact ⟨0, Nat.zero_le _, rfl, Lib.hid fun i h => absurd h (Nat.not_lt_zero _), Below.refl _ _⟩
  case round =>
    obtain ⟨q, hq, rfl, HF, hbl⟩ := hrel
    have HB := Lib.hid hbl
    by_cases hql : q < last
    · have hd : decide (((q + 1 : Nat) : Int) ≤ (last : Int)) = true := decide_eq_true (by omega)
      have hd' : decide (q + 1 ≤ last) = true := decide_eq_true (by omega)
      have HC := Lib.hid (HH.out wr q (HL.out.below hbl) (HT.out.below hbl) (by omega))
      clear hbl
      cases hbd : ctBad q S b T
      · rw [hbd] at HC
        have HF2 : Hid (∀ i, i < q + 1 → ctBad i S b T = false) := Lib.hid fun i h => by
          rcases Nat.lt_succ_iff_lt_or_eq.1 h with h1 | rfl
          · exact HF.out i h1
          · exact hbd
        clear hbd
        go_wp2_with (go_at_call 23; refine HC.out.mono ?_; rintro e w1 ⟨x1, y1, rfl, hb1⟩; have HB1 := Lib.hid hb1; clear hb1)
        go_roundw
        case rel => exact ⟨q + 1, by omega, by go_num, HF2, HB.out.trans (HB1.out.mono HB.out.size)⟩
        case measure => simp [intOf]; omega
      · rw [hbd] at HC
        have HV := Lib.hid (HV2.out q hql hbd)
        clear hbd
        go_wp2_with (go_at_call 23; refine HC.out.mono ?_; rintro e w1 ⟨x1, y1, rfl, hb1⟩; have HB1 := Lib.hid hb1; clear hb1)
        go_ret
        exact ⟨by rw [HV.out]; rfl, HB.out.trans (HB1.out.mono HB.out.size)⟩
    · obtain rfl : q = last := by omega
      have hd : decide (((q + 1 : Nat) : Int) ≤ (q : Int)) = false := decide_eq_false (by omega)
      have hd' : decide (q + 1 ≤ q) = false := decide_eq_false (by omega)
      have HV := Lib.hid (HV1.out HF.out)
      clear hbl
      go_wp2_with fail
      go_ret
      exact ⟨by rw [HV.out]; rfl, HB.out⟩
theorem sat0_any (n : Int) (b : Nat) (v : Value) (w : World) (hv : ∃ A m c, v = .slice A m c) :
    Calls Tryd.prog 28 #[.int .i64 n, .int .u64 b, v, .int .i64 0] w fun e w' => e = .returned (.bool true) ∧ w = w' := by
  obtain ⟨A, m, c, rfl⟩ := hv
  go_enter Tryd.func28, Tryd.ntmps28
  go_wp2
  go_loop [9] (fun p => p = .int .i64 1) (fun _ => 0)
  case atStart => rfl
  case round =>
    obtain rfl := hrel
    go_wp2
    go_ret
    exact ⟨rfl, rfl⟩
/-- Two rows that grow in turn. -/
theorem two_grow {w w1 : World} {base e n1 n2 : Nat} {v1 v1' v2 : Value} {xs1 xs2 : List Value} {o : Obj} (h1 : w.ownsRow base e 1 v1 n1 xs1) (h2 : w.ownsRow base e 1 v2 n2 xs2) (d : ∀ g, v1.ownBlock = some g → v2.ownBlock ≠ some g)
    (hg : (w.alloc o).grownBy w1 v1.ownBlock) (hat : v1'.ownBlock = v1.ownBlock ∨ v1'.ownBlock = some (w.alloc o).heap.size) :
    w1.ownsRow base e 1 v2 n2 xs2 ∧ (∀ g, v1'.ownBlock = some g → v2.ownBlock ≠ some g) ∧ ∀ g, v2.ownBlock = some g → v1'.ownBlock ≠ some g := by
  have _ := h1
  have key : ∀ g, v1'.ownBlock = some g → v2.ownBlock ≠ some g := fun g hg2 => by
    rcases hat with e | e
    · exact d g (e ▸ hg2)
    · rw [e] at hg2
      injection hg2 with hg2
      intro h3
      have := (h2.lt g h3).2
      rw [World.size_alloc] at hg2
      omega
  refine ⟨(h2.alloc o).kept hg ?_, key, fun g h3 h4 => key g h4 h3⟩
  cases hv : v2.ownBlock with
  | none => exact .inl rfl
  | some g => exact .inr fun e => d g e.symm hv
/-- What the loop of ContractionSatisfies holds. -/
def TwoRows (w wr : World) (o1 o2 : Value) (u : Nat) (f g : Nat → Nat) : Prop :=
  wr.ownsRow w.heap.size 22 1 o1 u (u64L f u) ∧ wr.ownsRow w.heap.size 22 1 o2 u (u64L g u) ∧ (∀ k, o1.ownBlock = some k → o2.ownBlock ≠ some k) ∧ Below w.heap.size w wr
set_option maxHeartbeats 4000000 in
theorem satisfies_core (n : Int) (len c len2 c2 : Nat) (A A2 : Option Addr) (f f2 : Nat → Int) (w : World) (hL : LaidC w) (hf : I64s w A len f) (hf2 : I64s w A2 len2 f2) (hlen : len ≤ 9223372036854775807) (hlen2 : len2 ≤ 9223372036854775807) :
    Calls Tryd.prog 7 #[.int .i64 n, .slice A len c, .slice A2 len2 c2] w fun e w' => e = .returned (.bool true) ∧ Below w.heap.size w w' := by
  have HL := Lib.hid hL
  have HB := Lib.hid (Below.refl w.heap.size w)
  by_cases h0 : n < 0
  · have hd1 : decide (n < 0) = true := decide_eq_true h0
    clear hL hf hf2 h0
    go_enter Tryd.func7, Tryd.ntmps7
    go_wp2_with (go_at_call 16; refine (awake_any _ (HL.out.below HB.out)).mono ?_; rintro e w2 ⟨rfl, hst⟩; have HB := Lib.hid (HB.out.trans (hst.mono HB.out.size)); clear hst)
    go_ret
    exact ⟨rfl, HB.out⟩
  have hd1 : decide (n < 0) = false := decide_eq_false h0
  by_cases h3 : 3 < n
  · have hd2 : decide (3 < n) = true := decide_eq_true h3
    clear hL hf hf2 h0 h3
    go_enter Tryd.func7, Tryd.ntmps7
    go_wp2_with (go_at_call 16; refine (awake_any _ (HL.out.below HB.out)).mono ?_; rintro e w2 ⟨rfl, hst⟩; have HB := Lib.hid (HB.out.trans (hst.mono HB.out.size)); clear hst)
    go_ret
    exact ⟨rfl, HB.out⟩
  have hd2 : decide (3 < n) = false := decide_eq_false h3
  by_cases h8 : 8 < len
  · have hd3 : decide ((8 : Int) < (len : Int)) = true := decide_eq_true (by omega)
    clear hL hf hf2 h0 h3
    go_enter Tryd.func7, Tryd.ntmps7
    go_wp2_with (go_at_call 16; refine (awake_any _ (HL.out.below HB.out)).mono ?_; rintro e w2 ⟨rfl, hst⟩; have HB := Lib.hid (HB.out.trans (hst.mono HB.out.size)); clear hst)
    go_ret
    exact ⟨rfl, HB.out⟩
  have hd3 : decide ((8 : Int) < (len : Int)) = false := decide_eq_false (by omega)
  by_cases h8b : 8 < len2
  · have hd4 : decide ((8 : Int) < (len2 : Int)) = true := decide_eq_true (by omega)
    clear hL hf hf2 h0 h3
    go_enter Tryd.func7, Tryd.ntmps7
    go_wp2_with (go_at_call 16; refine (awake_any _ (HL.out.below HB.out)).mono ?_; rintro e w2 ⟨rfl, hst⟩; have HB := Lib.hid (HB.out.trans (hst.mono HB.out.size)); clear hst)
    go_ret
    exact ⟨rfl, HB.out⟩
  have hd4 : decide ((8 : Int) < (len2 : Int)) = false := decide_eq_false (by omega)
  have HX := Lib.hid hf
  have HY := Lib.hid hf2
  have HY0 := Lib.hid hf2
  have H1 := Lib.hid (fun W (hW : I64s W A len f) => ctTable_any n len c A f W hW hlen)
  have H2 := Lib.hid (fun W (hW : I64s W A len f) => Belief_any n len c A f W hW hlen)
  by_cases hE : tabE n len f = 0
  case neg =>
    obtain ⟨E, eE⟩ : ∃ E, E = tabE n len f := ⟨_, rfl⟩
    obtain ⟨m, em⟩ : ∃ m, m = ctM n len f := ⟨_, rfl⟩
    obtain ⟨g, eg⟩ : ∃ g, g = ctT len f := ⟨_, rfl⟩
    obtain ⟨F, eF⟩ : ∃ F, F = revErr n len f := ⟨_, rfl⟩
    obtain ⟨B, eB⟩ : ∃ B, B = belV n len f := ⟨_, rfl⟩
    rw [← eE, ← em, ← eg] at H1
    rw [← eF, ← eB] at H2
    rw [← eE] at hE
    have hne : ((E : Int) != 0) = true := by rw [bne_iff_ne]; omega
    clear hL hf hf2 eE em eg eF eB h0 h3
    go_enter Tryd.func7, Tryd.ntmps7
    go_wp2_with (first | (go_at_call 21; refine (H1.out _ HX.out).mono ?_; rintro e w2 ⟨A1, c1, rfl, hu, hst⟩; have HX := Lib.hid (HX.out.below hst); have HB := Lib.hid (HB.out.trans (hst.mono HB.out.size)); clear hu hst) | (go_at_call 27; refine (H2.out _ HX.out).mono ?_; rintro e w' ⟨rfl, rfl⟩) | (go_at_call 16; refine (awake_any _ (HL.out.below HB.out)).mono ?_; rintro e w2 ⟨rfl, hst⟩; have HB := Lib.hid (HB.out.trans (hst.mono HB.out.size)); clear hst))
    go_ret
    exact ⟨rfl, HB.out⟩
  case pos =>
    have hr : revErr n len f = 0 := by
      unfold tabE at hE
      by_cases h : revErr n len f = 0
      · exact h
      · rw [if_neg h] at hE; exact hE
    obtain ⟨k, rfl, hk4, hN, -⟩ := revErr_ok hr
    have hk : k ≤ 3 := by omega
    obtain ⟨S, hS⟩ : ∃ S, S = 2 ^ len := ⟨_, rfl⟩
    have hN8 : len ≤ 8 := by omega
    obtain ⟨v1, v2, v3, v4⟩ := two_val8 hN8 hS
    obtain ⟨w1, w2, w3, w4, w5, w6⟩ := all_val4 hN hk4 hS
    have hck := wrap_self' (x := k) (by omega)
    have hmin : min k 64 = k := Nat.min_eq_left (by omega)
    have hmin2 : min len 64 = len := Nat.min_eq_left (by omega)
    have hM : ctM k len f = S := by unfold ctM; rw [if_pos hE, hS]
    have hBv : belV k len f = lst len f (S - 1) := by unfold belV; rw [if_pos hr, hS]
    have hSS : ((S : Int) != (S : Int)) = false := by simp
    rw [hE, hM] at H1
    rw [hr, hBv] at H2
    obtain ⟨b, eb⟩ : ∃ b, b = lst len f (S - 1) := ⟨_, rfl⟩
    have hbS : b < S := by rw [eb, hS]; exact lst_lt len f _
    have hTT : ctT len f = brk len S f b := by rw [eb, hS]; rfl
    rw [← eb] at H2
    rw [hTT] at H1
    have hTl : ∀ x, x < S → brk len S f b x < S := fun x _ => brk_lt hS hbS
    have hs6 : satB S b (brk len S f b) 6 = true := satB_iff.2 (brk_six hS hN8 hbS eb fun x _ => rfl)
    have HS6 : Hid (∀ W B cc, LaidC W → U64s W B S (brk len S f b) → Calls Tryd.prog 28 #[.int .i64 k, .int .u64 b, .slice B S cc, .int .i64 6] W fun e w' => e = .returned (.bool true) ∧ Below W.heap.size W w') := Lib.hid fun W B cc hl hW => by
      have := sat_any k len S b 6 cc B _ W hl hW hk hN hS hbS (chk_of hk hN hS hbS hTl) (by decide)
      rwa [hs6] at this
    have hF : ∀ x, x < S → ctErr 4 k b x = 0 := fun x hx => ctErr_in hk4 (by rw [← hN, ← hS]; exact hbS) (by rw [← hN, ← hS]; exact hx)
    have HFU : Hid (∀ W x, x < S → Calls Tryd.prog 13 #[.int .i64 k, .int .u64 b, .int .u64 x] W fun e w' => e = .returned (.tuple #[.int .u64 (fulV S b x : Nat), .int .i64 ((0 : Nat) : Int)]) ∧ W = w') := Lib.hid fun W x hx => by
      have := Full_any k b x W (by omega) (by omega)
      have e1 : fulR k b x = fulV S b x := by unfold fulR; rw [if_pos (hF x hx), Int.toNat_natCast, ← hN, ← hS]
      rwa [hF x hx, e1] at this
    by_cases hok : len2 = len ∧ okB len2 f2 = true
    case neg =>
      have HCH : Hid (∀ W, I64s W A2 len2 f2 → Calls Tryd.prog 17 #[.int .i64 k, .int .u64 b, .int .u64 0, .slice A2 len2 c2] W fun e w' => e = .returned (.tuple #[.int .u64 ((0 : Nat) : Int), .int .i64 3]) ∧ Below W.heap.size W w') := Lib.hid fun W hW => by
        have := Choice_any k b 0 len2 c2 A2 f2 W hW (by omega) (by omega) (by decide)
        have e1 : chE k b 0 len2 f2 = 3 := by unfold chE; rw [if_pos (hF 0 (by omega)), Int.toNat_natCast, ← hN, if_neg hok]
        have e2 : chR k b 0 len2 f2 = 0 := by unfold chR; rw [if_neg (by rw [e1]; decide)]
        rwa [e1, e2] at this
      clear hL hf hf2 h0 h3 hE hr hN hS hM hBv eb hTT hTl hs6 hF hok w3 w4
      go_enter Tryd.func7, Tryd.ntmps7
      go_upto_region 4 with (go_at_call 21; refine (H1.out _ HX.out).mono ?_; rintro e w2 ⟨A1, c1, rfl, hu, hst⟩; have HX := Lib.hid (HX.out.below hst); have HY := Lib.hid (HY.out.below hst); have HB := Lib.hid (HB.out.trans (hst.mono HB.out.size)); have HU := Lib.hid hu; clear hu hst)
      go_upto_region 10 with (first | (go_at_call 27; refine (H2.out _ HX.out).mono ?_; rintro e w' ⟨rfl, rfl⟩) | (go_at_call 28; refine (HS6.out _ _ _ (HL.out.below HB.out) HU.out).mono ?_; rintro e w2 ⟨rfl, hst⟩; have HY := Lib.hid (HY.out.below hst); have HB := Lib.hid (HB.out.trans (hst.mono HB.out.size)); clear hst))
      go_wp2_with fail
      go_loopw [11, 12, 74] (fun o1 o2 i wr => i = .int .i64 0 ∧ o1 = .slice none 0 0 ∧ o2 = .slice none 0 0 ∧ I64s wr A2 len2 f2 ∧ Below w.heap.size w wr) (fun _ _ _ _ => 0)
      case atStart => exact ⟨rfl, rfl, rfl, HY.out, HB.out⟩
      case round =>
        clear HB HY HX HU
        obtain ⟨rfl, rfl, rfl, hy, hbl⟩ := hrel
        have hSp : (0 : Int) < (S : Int) := by omega
        have HY := Lib.hid hy
        have HB := Lib.hid hbl
        have HF0 := Lib.hid (fun W => HFU.out W 0 (by omega))
        clear hy hbl
        go_wp2_with (first | (go_at_call 13; refine (HF0.out _).mono ?_; rintro e w' ⟨rfl, rfl⟩) | (go_at_call 17; refine (HCH.out _ HY.out).mono ?_; rintro e w2 ⟨rfl, hst⟩; have HB := Lib.hid (HB.out.trans (hst.mono HB.out.size)); clear hst) | (go_at_call 28; refine (sat0_any _ _ (.slice none 0 0) _ ⟨none, 0, 0, rfl⟩).mono ?_; rintro e w' ⟨rfl, rfl⟩) | (go_at_call 16; refine (awake_any _ (HL.out.below HB.out)).mono ?_; rintro e w2 ⟨rfl, hst⟩; have HB := Lib.hid (HB.out.trans (hst.mono HB.out.size)); clear hst))
        go_ret
        exact ⟨rfl, HB.out⟩
    case pos =>
      obtain ⟨rfl, hok⟩ := hok
      have HCH : Hid (∀ W x, x < S → I64s W A2 len2 f2 → Calls Tryd.prog 17 #[.int .i64 k, .int .u64 b, .int .u64 x, .slice A2 len2 c2] W fun e w' => e = .returned (.tuple #[.int .u64 (chV len2 S b x f2 : Nat), .int .i64 ((0 : Nat) : Int)]) ∧ Below W.heap.size W w') := Lib.hid fun W x hx hW => by
        have := Choice_any k b x len2 c2 A2 f2 W hW (by omega) (by omega) (by omega)
        have e1 : chE k b x len2 f2 = 0 := by unfold chE; rw [if_pos (hF x hx), Int.toNat_natCast, ← hN, if_pos ⟨rfl, hok⟩]
        have e2 : chR k b x len2 f2 = chV len2 S b x f2 := by unfold chR; rw [if_pos e1, ← hS]
        rwa [e1, e2] at this
      have hfl : ∀ x, x < S → fulV S b x < S := fun x hx => by
        unfold fulV
        split
        · exact hbS
        · have := cpl_lt S x w6
          rw [hS] at hbS this ⊢
          exact Nat.or_lt_two_pow hbS this
      have hcl : ∀ x, x < S → chV len2 S b x f2 < S := fun x hx => chV_lt hS (by omega) hbS hok hx
      have HFL := Lib.hid (fun x (hx : x < S) => show fulV S b x < 18446744073709551616 by have := hfl x hx; omega)
      have HCL := Lib.hid (fun x (hx : x < S) => show chV len2 S b x f2 < 18446744073709551616 by have := hcl x hx; omega)
      have hs4 : satB S b (fulV S b) 4 = true := satB_iff.2 (shape_four hS hN8 hbS hfl (ful_shape hS hN8 hbS))
      have hs4c : satB S b (fun x => chV len2 S b x f2) 4 = true := satB_iff.2 (shape_four hS hN8 hbS hcl (ch_shape hS hN8 hbS hok))
      have HS4 : Hid (∀ W B cc, LaidC W → U64s W B S (fulV S b) → Calls Tryd.prog 28 #[.int .i64 k, .int .u64 b, .slice B S cc, .int .i64 4] W fun e w' => e = .returned (.bool true) ∧ Below W.heap.size W w') := Lib.hid fun W B cc hl hW => by
        have := sat_any k len2 S b 4 cc B _ W hl hW hk hN hS hbS (chk_of hk hN hS hbS hfl) (by decide)
        rwa [hs4] at this
      have HS4C : Hid (∀ W B cc, LaidC W → U64s W B S (fun x => chV len2 S b x f2) → Calls Tryd.prog 28 #[.int .i64 k, .int .u64 b, .slice B S cc, .int .i64 4] W fun e w' => e = .returned (.bool true) ∧ Below W.heap.size W w') := Lib.hid fun W B cc hl hW => by
        have := sat_any k len2 S b 4 cc B _ W hl hW hk hN hS hbS (chk_of hk hN hS hbS hcl) (by decide)
        rwa [hs4c] at this
      clear hL hf hf2 h0 h3 hE hr hN hS hM hBv eb hTT hTl hs6 hF hok w3 w4 hfl hcl hs4 hs4c
      go_enter Tryd.func7, Tryd.ntmps7
      go_upto_region 4 with (go_at_call 21; refine (H1.out _ HX.out).mono ?_; rintro e w2 ⟨A1, c1, rfl, hu, hst⟩; have HX := Lib.hid (HX.out.below hst); have HY := Lib.hid (HY.out.below hst); have HB := Lib.hid (HB.out.trans (hst.mono HB.out.size)); have HU := Lib.hid hu; clear hu hst)
      go_upto_region 10 with (first | (go_at_call 27; refine (H2.out _ HX.out).mono ?_; rintro e w' ⟨rfl, rfl⟩) | (go_at_call 28; refine (HS6.out _ _ _ (HL.out.below HB.out) HU.out).mono ?_; rintro e w2 ⟨rfl, hst⟩; have HY := Lib.hid (HY.out.below hst); have HB := Lib.hid (HB.out.trans (hst.mono HB.out.size)); clear hst))
      go_wp2_with fail
      go_loopw [11, 12, 74] (fun o1 o2 i wr => ∃ u : Nat, u ≤ S ∧ i = .int .i64 u ∧ TwoRows w wr o1 o2 u (fulV S b) (fun x => chV len2 S b x f2)) (fun _ _ i _ => S - (intOf i).toNat)
      case atStart => exact ⟨0, Nat.zero_le _, rfl, World.ownsRow_nil _ _ _ _, World.ownsRow_nil _ _ _ _, fun k h => (by cases h), HB.out⟩
      case round =>
        clear HB HY HX HU
        obtain ⟨u, hu, rfl, h1, h2, hd, hbl⟩ := hrel
        by_cases hult : u < S
        · have hus : (u : Int) < (S : Int) := by omega
          have hcu := wrap_self' (x := u) (by omega)
          have HY := Lib.hid (HY0.out.below hbl)
          have HF0 := Lib.hid (fun W => HFU.out W u hult)
          have HC0 := Lib.hid (fun W hW => HCH.out W u hult hW)
          have HSU1 := Lib.hid (u64L_succ (fulV S b) u)
          have HSU2 := Lib.hid (u64L_succ (fun x => chV len2 S b x f2) u)
          obtain ⟨y1, ey1⟩ : ∃ y, y = fulV S b u := ⟨_, rfl⟩
          obtain ⟨y2, ey2⟩ : ∃ y, y = chV len2 S b u f2 := ⟨_, rfl⟩
          rw [← ey1] at HF0 HSU1
          rw [← ey2] at HC0 HSU2
          have HO1 := Lib.hid h1
          have HO2 := Lib.hid h2
          have HD := Lib.hid hd
          have HB := Lib.hid hbl
          clear h1 h2 hd hbl ey1 ey2
          go_upto_region 19 with (first | (go_at_call 13; refine (HF0.out _).mono ?_; rintro e w' ⟨rfl, rfl⟩) | (go_at_call 17; refine (HC0.out _ HY.out).mono ?_; rintro e w2 ⟨rfl, hst⟩; have HST := Lib.hid hst; clear hst))
          have h1 := own_below HO1.out HST.out (Nat.le_refl _)
          have h2 := own_below HO2.out HST.out (Nat.le_refl _)
          have hd := HD.out
          have hbl := HB.out.trans (HST.out.mono HB.out.size)
          have hsz := hbl.size
          have tok1 : True := trivial
          clear HO1 HO2 HD HB HST HY
          go_wp2_with (first
            | (at_builtin; have _t := tok1; obtain ⟨i0, hi, hz0, hz1, hz2⟩ := info_parts Tryd.infoU64; refine wpList_append_own_at _ rfl _ _ 23 rfl w.heap.size 22 i0 (.int .u64 0) 1 8 Tryd.underlying23 hi hz0 hz1 hz2 rfl (by decide) _ _ _ rfl (h1.alloc _) ⟨w2.heap.size, 0, none⟩ 1 1 [.int .u64 (y1 : Nat)] rfl rfl (cell_one_new _ _ _) (one_oneCell rfl) (by unfold maxLen; omega) (by omega) (by simp; omega) ?_; intro v1 w3 hown1 hg1 _ hat1; obtain ⟨h2b, hd1, hd2⟩ := two_grow h1 h2 hd hg1 hat1; have hbl3 := (hbl.alloc hsz _).grown hg1 (by simp; omega) (fun k hk => (h1.lt k hk).1); have hsz3 := hbl3.size; clear tok1 hi hz0 hz1 hz2 hg1 hat1 h1 h2 hd hd1 hbl hsz)
            | (at_builtin; obtain ⟨i0, hi, hz0, hz1, hz2⟩ := info_parts Tryd.infoU64; refine wpList_append_own_at _ rfl _ _ 23 rfl w.heap.size 22 i0 (.int .u64 0) 1 8 Tryd.underlying23 hi hz0 hz1 hz2 rfl (by decide) _ _ _ rfl (h2b.alloc _) ⟨w3.heap.size, 0, none⟩ 1 1 [.int .u64 (y2 : Nat)] rfl rfl (cell_one_new _ _ _) (one_oneCell rfl) (by unfold maxLen; omega) (by omega) (by simp; omega) ?_; intro v2 w4 hown2 hg2 _ hat2; obtain ⟨h1b, hd3, hd4⟩ := two_grow h2b hown1 hd2 hg2 hat2; have hbl4 := (hbl3.alloc hsz3 _).grown hg2 (by simp; omega) (fun k hk => (h2b.lt k hk).1); clear hi hz0 hz1 hz2 hg2 hat2 hown1 h2b hd2 hd3 hbl3))
          go_roundw
          case rel => exact ⟨u + 1, by omega, by go_num, by rw [HSU1.out]; exact h1b, by rw [HSU2.out]; exact hown2, hd4, hbl4⟩
          case measure => simp [intOf]; omega
        · obtain rfl : u = S := by omega
          have hus : ¬ ((u : Int) < (u : Int)) := by omega
          obtain ⟨A5, c5, rfl, hu5, _⟩ := own_u64s h1 HFL.out
          obtain ⟨A6, c6, rfl, hu6, _⟩ := own_u64s h2 HCL.out
          have HU5 := Lib.hid hu5
          have HU6 := Lib.hid hu6
          have HB := Lib.hid hbl
          clear h1 h2 hd hbl hu5 hu6
          go_wp2_with fail
          refine (HS4.out _ _ _ (HL.out.below HB.out) HU5.out).mono ?_
          rintro e w2 ⟨rfl, hst⟩
          have HU6 := Lib.hid (HU6.out.below hst)
          have HB := Lib.hid (HB.out.trans (hst.mono HB.out.size))
          clear hst
          go_wp2_with fail
          refine (HS4C.out _ _ _ (HL.out.below HB.out) HU6.out).mono ?_
          rintro e w3 ⟨rfl, hst⟩
          have HB := Lib.hid (HB.out.trans (hst.mono HB.out.size))
          clear hst
          go_wp2_with (go_at_call 16; refine (awake_any _ (HL.out.below HB.out)).mono ?_; rintro e w2 ⟨rfl, hst⟩; have HB := Lib.hid (HB.out.trans (hst.mono HB.out.size)); clear hst)
          go_ret
          exact ⟨rfl, HB.out⟩
end Go.Proofs.YtiifmdgcnpdibaaDoor
