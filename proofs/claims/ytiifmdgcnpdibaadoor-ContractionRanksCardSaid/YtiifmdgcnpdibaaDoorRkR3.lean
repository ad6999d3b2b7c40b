/-
  Walks: the reference of layer 39: Size, in, outside, Check, least, Belief, Revise.
-/
import Derived.Test.YtiifmdgcnpdibaaDoorProg
import Derived.Test.YtiifmdgcnpdibaaDoorBase
import Derived.Test.YtiifmdgcnpdibaaDoorRow
import Derived.Test.YtiifmdgcnpdibaaDoorRowU
import Derived.Test.YtiifmdgcnpdibaaDoorRowsOf
import Derived.Test.YtiifmdgcnpdibaaDoorLeast
import Derived.Test.YtiifmdgcnpdibaaDoorRkP
import Derived.Test.YtiifmdgcnpdibaaDoorRkQ
import Derived.Test.YtiifmdgcnpdibaaDoorRkB
import Derived.Test.YtiifmdgcnpdibaaDoorRkC3
namespace Go.Proofs.YtiifmdgcnpdibaaDoor
open Go.RowKit

theorem rsize_any (k N : Nat) (w : World) (hk : k ≤ 4) (hN : N = 2 ^ k) :
    Calls Tryd.prog 68 #[.int .i64 k] w fun e w' => e = .returned (.int .i64 N) ∧ w = w' := by
  have hw := wrap_pow hN (by omega)
  clear hN
  go_enter Tryd.func68, Tryd.ntmps68
  go_wp2
  go_ret
  exact ⟨rfl, rfl⟩
theorem rin_any (s v : Nat) (w : World) (hs : s < 18446744073709551616) (hv : v ≤ 63) :
    Calls Tryd.prog 90 #[.int .u64 s, .int .i64 v] w fun e w' => e = .returned (.bool (s.testBit v)) ∧ w = w' := by
  have h := bits_has' s v hs (by omega)
  go_enter Tryd.func90, Tryd.ntmps90
  go_wp2
  go_ret
  exact ⟨rfl, rfl⟩
theorem rin_val (s v : Nat) (b : Bool) (w : World) (hs : s < 18446744073709551616) (hv : v ≤ 63) (hb : s.testBit v = b) :
    Calls Tryd.prog 90 #[.int .u64 s, .int .i64 v] w fun e w' => e = .returned (.bool b) ∧ w = w' := by
  rw [← hb]; exact rin_any s v w hs hv
theorem rin_quiet (s v n : Nat) (b : Bool) (w : World) (hs : s < 18446744073709551616) (hv : v ≤ 63) (hb : s.testBit v = b) :
    Calls Tryd.prog 90 #[.int .u64 s, .int .i64 v] (w.drewN n) fun e w' => e = .returned (.bool b) ∧ ∃ m, w' = w.drewN m :=
  Calls.quiet_of_same ((rin_val s v b _ hs hv hb).mono fun _ _ ⟨he, hw⟩ => ⟨he, hw.symm⟩)
theorem shr_ne (s N : Nat) : (((s : Int) / 2 ^ N) != 0) = decide (2 ^ N ≤ s) := by
  rw [natCast_shr, Bool.eq_iff_iff, decide_eq_true_eq, int_ne0]
  have h0 := Nat.two_pow_pos N
  constructor
  · intro h
    rcases Nat.lt_or_ge s (2 ^ N) with h1 | h1
    · exact absurd (Nat.div_eq_of_lt h1) h
    · exact h1
  · intro h h1
    have := Nat.div_pos h h0
    omega
theorem rout_any (k N s : Nat) (b : Bool) (w : World) (hk : k ≤ 4) (hN : N = 2 ^ k) (hb : decide (2 ^ N ≤ s) = b) :
    Calls Tryd.prog 78 #[.int .i64 k, .int .u64 s] w fun e w' => e = .returned (.bool b) ∧ w = w' := by
  have hN16 := pow_le16 hN hk
  have h := shr_ne s N
  rw [hb] at h
  have HN := Lib.hid hN
  clear hN hb
  go_enter Tryd.func78, Tryd.ntmps78
  go_wp2_with (go_at_call 68; refine (rsize_any k N _ hk HN.out).mono ?_; rintro e w' ⟨rfl, rfl⟩)
  go_ret
  exact ⟨rfl, rfl⟩

set_option maxHeartbeats 1000000 in
theorem rCheck_any (n : Int) (len c : Nat) (A : Option Addr) (f : Nat → Int) (w : World) (hx : I64s w A len f) (hlen : len ≤ 9223372036854775807) :
    Calls Tryd.prog 51 #[.int .i64 n, .slice A len c] w fun e w' => e = .returned (.int .i64 (revErr n len f : Nat)) ∧ w = w' := by
  have HX := Lib.hid hx
  clear hx
  by_cases h0 : n < 0
  · have hd1 : decide (n < 0) = true := decide_eq_true h0
    have HE := Lib.hid (show revErr n len f = 2 from if_neg (by omega))
    clear h0
    go_enter Tryd.func51, Tryd.ntmps51
    go_wp2
    go_ret
    exact ⟨by rw [HE.out]; rfl, rfl⟩
  · have hd1 : decide (n < 0) = false := decide_eq_false h0
    by_cases h4 : 4 < n
    · have hd2 : decide (4 < n) = true := decide_eq_true h4
      have HE := Lib.hid (show revErr n len f = 2 from if_neg (by omega))
      clear h0 h4
      go_enter Tryd.func51, Tryd.ntmps51
      go_wp2
      go_ret
      exact ⟨by rw [HE.out]; rfl, rfl⟩
    · have hd2 : decide (4 < n) = false := decide_eq_false h4
      obtain ⟨k, rfl⟩ : ∃ k : Nat, n = k := ⟨n.toNat, by omega⟩
      have hk : k ≤ 4 := by omega
      obtain ⟨N, hN⟩ : ∃ N, N = 2 ^ k := ⟨_, rfl⟩
      have hE : revErr k len f = if len = N then (if 0 ≤ idxV f len then 1 else 0) else 3 := by
        unfold revErr; rw [if_pos (by omega), hN]; rfl
      have HN := Lib.hid hN
      clear h0 h4 hN
      by_cases hl : len = N
      · rw [if_pos hl] at hE
        have h1 : ((len : Int) != (N : Int)) = false := by rw [hl]; simp
        subst hl
        have HE := Lib.hid hE
        clear hE
        go_enter Tryd.func51, Tryd.ntmps51
        go_wp2_with (go_at_call 68; refine (rsize_any k len _ hk HN.out).mono ?_; rintro e w' ⟨rfl, rfl⟩)
        go_loop [5] (fun iv => ∃ v : Nat, v ≤ len ∧ iv = .int .i64 v ∧ Hid (∀ i, i < v → 0 ≤ f i ∧ f i ≤ 1000)) (fun iv => len - (intOf iv).toNat)
        case atStart => exact ⟨0, Nat.zero_le _, rfl, Lib.hid fun i h => absurd h (Nat.not_lt_zero _)⟩
        case round =>
          obtain ⟨v, hv, rfl, HI⟩ := hrel
          by_cases hlt : v < len
          · obtain ⟨b, off, rfl, hc, hr1, hr2⟩ := HX.out v hlt
            have HBAD := Lib.hid (fun h : f v < 0 ∨ 1000 < f v => idxV_iff.2 ⟨v, hlt, h⟩)
            have HNX : Hid (0 ≤ f v ∧ f v ≤ 1000 → ∀ i, i < v + 1 → 0 ≤ f i ∧ f i ≤ 1000) := Lib.hid fun h i hi => by
              rcases Nat.lt_succ_iff_lt_or_eq.1 hi with h3 | rfl
              · exact HI.out i h3
              · exact h
            obtain ⟨x, ex⟩ : ∃ x, x = f v := ⟨_, rfl⟩
            rw [← ex] at hc hr1 hr2 HBAD HNX
            clear ex HI
            by_cases ha : x < 0
            · have hd3 : decide (x < 0) = true := decide_eq_true ha
              have HF := Lib.hid (HBAD.out (.inl ha))
              clear ha HBAD HNX
              go_wp2_with fail
              go_ret
              exact ⟨by rw [HE.out, if_pos HF.out]; rfl, rfl⟩
            · have hd3 : decide (x < 0) = false := decide_eq_false ha
              by_cases hb : 1000 < x
              · have hd4 : decide (1000 < x) = true := decide_eq_true hb
                have HF := Lib.hid (HBAD.out (.inr hb))
                clear ha hb HBAD HNX
                go_wp2_with fail
                go_ret
                exact ⟨by rw [HE.out, if_pos HF.out]; rfl, rfl⟩
              · have hd4 : decide (1000 < x) = false := decide_eq_false hb
                have HI := Lib.hid (HNX.out ⟨by omega, by omega⟩)
                clear ha hb HBAD HNX
                go_wp2_with fail
                go_round
                case rel => exact ⟨v + 1, by omega, by go_num, HI⟩
                case measure => simp [intOf]; omega
          · obtain rfl : v = len := by omega
            have HF : Hid (¬ 0 ≤ idxV f v) := Lib.hid fun h => by
              obtain ⟨k, hk, h1⟩ := idxV_iff.1 h
              have := HI.out k hk
              omega
            clear HI
            go_wp2_with fail
            go_ret
            exact ⟨by rw [HE.out, if_neg (by have := HF.out; omega)]; rfl, rfl⟩
      · rw [if_neg hl] at hE
        have HE := Lib.hid hE
        have h1 : ((len : Int) != (N : Int)) = true := by rw [bne_iff_ne]; omega
        clear hl hE
        go_enter Tryd.func51, Tryd.ntmps51
        go_wp2_with (go_at_call 68; refine (rsize_any k N _ hk HN.out).mono ?_; rintro e w' ⟨rfl, rfl⟩)
        go_ret
        exact ⟨by rw [HE.out]; rfl, rfl⟩

/-! ### least -/
def smB (x : Nat) (f : Nat → Int) (v w : Nat) : Bool := !(x.testBit w && decide (f w < f v))
def smallB (x : Nat) (f : Nat → Int) (N v : Nat) : Bool := x.testBit v && allB N (smB x f v)
theorem small_lst (x : Nat) (f : Nat → Int) (N : Nat) : mkSet N (smallB x f N) = lst N f x := by
  apply Nat.eq_of_testBit_eq
  intro v
  rw [Bool.eq_iff_iff, testBit_mkSet, lst_bit, Bool.and_eq_true, decide_eq_true_eq]
  unfold smallB
  rw [Bool.and_eq_true, allB_iff]
  constructor
  · rintro ⟨h1, h2, h3⟩
    refine ⟨h1, h2, fun w hw hwx => ?_⟩
    have := h3 w hw
    unfold smB at this
    rw [hwx] at this
    have h4 : ¬ f w < f v := by simpa using this
    omega
  · rintro ⟨h1, h2, h3⟩
    refine ⟨h1, h2, fun w hw => ?_⟩
    unfold smB
    cases hx : x.testBit w
    · rfl
    · have := h3 w hw hx
      rw [decide_eq_false (by omega)]; rfl
theorem allB_succ' (n : Nat) (p : Nat → Bool) : allB (n + 1) p = (allB n p && p n) := by
  unfold allB; rw [List.range_succ, List.all_append]; simp
set_option maxHeartbeats 2000000 in
theorem rleast_any (A : Option Addr) (n c x : Nat) (f : Nat → Int) (w : World) (hx : I64s w A n f) (hn : n ≤ 16) (hs : x < 18446744073709551616) :
    Calls Tryd.prog 77 #[.slice A n c, .int .u64 x] w fun e w' => e = .returned (.int .u64 (lst n f x)) ∧ Below w.heap.size w w' := by
  have HX := Lib.hid hx
  clear hx
  go_enter Tryd.func77, Tryd.ntmps77
  go_wp2
  go_loopw [5, 6] (fun sv iv wr => ∃ v : Nat, v ≤ n ∧ iv = .int .i64 v ∧ sv = .int .u64 (mkSet v (smallB x f n) : Nat) ∧ Below w.heap.size w wr) (fun _ iv _ => n - (intOf iv).toNat)
  case atStart => exact ⟨0, Nat.zero_le _, rfl, rfl, Below.refl _ _⟩
  case round =>
    obtain ⟨v, hv, rfl, rfl, hbl⟩ := hrel
    have HB := Lib.hid hbl
    clear hbl
    obtain ⟨ms, ems⟩ : ∃ ms : Nat, ms = mkSet v (smallB x f n) := ⟨_, rfl⟩
    have hmsl : ms < 2 ^ v := by rw [ems]; exact mkSet_lt _ _
    have hms64 : ms < 18446744073709551616 := Nat.lt_trans hmsl (pow_lt64 (by omega))
    have HMS := Lib.hid ems
    rw [← ems]
    clear ems hmsl
    by_cases hlt : v < n
    · cases hb : x.testBit v
      · have HNO := Lib.hid (mkSet_succ_no (k := v) (p := smallB x f n) (by unfold smallB; rw [hb]; rfl))
        have HBV := Lib.hid hb
        clear hb
        go_wp2_with (go_at_call 90; refine (rin_val x v _ _ hs (by omega) HBV.out).mono ?_; rintro e w' ⟨rfl, rfl⟩)
        go_roundw
        case rel => exact ⟨v + 1, by omega, by go_num, by rw [HNO.out, HMS.out], HB.out⟩
        case measure => simp [intOf]; omega
      · have HBV := Lib.hid hb
        clear hb
        obtain ⟨P, eP⟩ : ∃ P : Nat, P = 2 ^ v := ⟨_, rfl⟩
        have hPl : P < 18446744073709551616 := by rw [eP]; exact pow_lt64 (by omega)
        have hsh := shl_one eP (by omega)
        have hor : bits .or .u64 (ms : Int) (P : Int) = ((ms ||| P : Nat) : Int) := u64_or_nat _ _ hms64 hPl
        have HP := Lib.hid eP
        clear eP
        go_wp2_with (go_at_call 90; refine (rin_val x v _ _ hs (by omega) HBV.out).mono ?_; rintro e w' ⟨rfl, rfl⟩)
        go_loopw [7, 8] (fun sv iv wr => ∃ u : Nat, u ≤ n ∧ iv = .int .i64 u ∧ sv = .bool (allB u (smB x f v)) ∧ Below w.heap.size w wr) (fun _ iv _ => n - (intOf iv).toNat)
        case atStart => exact ⟨0, Nat.zero_le _, rfl, rfl, HB.out⟩
        case round =>
          clear HB
          obtain ⟨u, hu, rfl, rfl, hbl⟩ := hrel
          by_cases hltu : u < n
          · obtain ⟨b, off, rfl, hcv, hv1, hv2⟩ := (HX.out.below hbl) v hlt
            obtain ⟨b', off', e', hcu, hu1, hu2⟩ := (HX.out.below hbl) u hltu
            injection e' with e'
            injection e' with e1 e2
            subst e1 e2
            have HB := Lib.hid hbl
            have hvb : (v : Int) < (n : Int) := by omega
            have hub : (u : Int) < (n : Int) := by omega
            have hsu : allB (u + 1) (smB x f v) = (allB u (smB x f v) && smB x f v u) := allB_succ' _ _
            have hsm : smB x f v u = !(x.testBit u && decide (f u < f v)) := rfl
            obtain ⟨l0, el0⟩ : ∃ l0, l0 = allB u (smB x f v) := ⟨_, rfl⟩
            obtain ⟨l1, el1⟩ : ∃ l1, l1 = allB (u + 1) (smB x f v) := ⟨_, rfl⟩
            obtain ⟨fu, efu⟩ : ∃ fu, fu = f u := ⟨_, rfl⟩
            obtain ⟨fv, efv⟩ : ∃ fv, fv = f v := ⟨_, rfl⟩
            rw [hsm, ← efu, ← efv, ← el0, ← el1] at hsu
            rw [← efv] at hcv hv1 hv2
            rw [← efu] at hcu hu1 hu2
            rw [← el0]
            have HL1 := Lib.hid el1
            clear hsm el0 el1 efu efv hbl
            cases hbu : x.testBit u
            · have H1 := Lib.hid (show l1 = l0 by rw [hsu, hbu]; simp)
              have HBU := Lib.hid hbu
              clear hsu hbu
              go_wp2_with fail
              go_quiet ((go_at_call 90; exact rin_quiet x u _ _ _ hs (by omega) HBU.out))
              go_wp2_with fail
              go_roundw
              case rel => exact ⟨u + 1, by omega, by go_num, by rw [← HL1.out, H1.out], below_drewN HB.out _⟩
              case measure => simp [intOf]; omega
            · have HBU := Lib.hid hbu
              by_cases hf : fu < fv
              · have hf' : decide (fu < fv) = true := decide_eq_true hf
                have H1 := Lib.hid (show l1 = false by rw [hsu, hbu, hf']; simp)
                clear hsu hbu hf
                go_wp2_with fail
                go_quiet ((go_at_call 90; exact rin_quiet x u _ _ _ hs (by omega) HBU.out))
                go_wp2_with fail
                go_roundw
                case rel => exact ⟨u + 1, by omega, by go_num, by rw [← HL1.out, H1.out], below_drewN HB.out _⟩
                case measure => simp [intOf]; omega
              · have hf' : decide (fu < fv) = false := decide_eq_false hf
                have H1 := Lib.hid (show l1 = l0 by rw [hsu, hbu, hf']; simp)
                clear hsu hbu hf
                go_wp2_with fail
                go_quiet ((go_at_call 90; exact rin_quiet x u _ _ _ hs (by omega) HBU.out))
                go_wp2_with fail
                go_roundw
                case rel => exact ⟨u + 1, by omega, by go_num, by rw [← HL1.out, H1.out], below_drewN HB.out _⟩
                case measure => simp [intOf]; omega
          · obtain rfl : u = n := by omega
            have HB := Lib.hid hbl
            have hsv : smallB x f u v = allB u (smB x f v) := by unfold smallB; rw [HBV.out]; rfl
            obtain ⟨l0, el0⟩ : ∃ l0, l0 = allB u (smB x f v) := ⟨_, rfl⟩
            rw [← el0] at hsv ⊢
            clear el0 hbl
            cases l0
            · have HNO := Lib.hid (mkSet_succ_no hsv)
              clear hsv
              go_wp2_with fail
              go_roundw
              case rel => exact ⟨v + 1, by omega, by go_num, by rw [HNO.out, HMS.out], HB.out⟩
              case measure => simp [intOf]; omega
            · have HYE := Lib.hid (show mkSet (v + 1) (smallB x f u) = ms ||| P by rw [mkSet_succ_yes hsv, HMS.out, HP.out])
              clear hsv
              go_wp2_with fail
              go_roundw
              case rel => exact ⟨v + 1, by omega, by go_num, by rw [HYE.out], HB.out⟩
              case measure => simp [intOf]; omega
    · obtain rfl : v = n := by omega
      have HF := Lib.hid (show ms = lst v f x by rw [HMS.out, small_lst])
      go_wp2_with fail
      go_ret
      exact ⟨by rw [HF.out]; rfl, HB.out⟩

/-! ### Belief, Revise -/
set_option maxHeartbeats 1000000 in
theorem rBelief_any (n : Int) (len c : Nat) (A : Option Addr) (f : Nat → Int) (w : World) (hx : I64s w A len f) (hlen : len ≤ 9223372036854775807) :
    Calls Tryd.prog 69 #[.int .i64 n, .slice A len c] w fun e w' => e = .returned (.tuple #[.int .u64 (belV n len f : Nat), .int .i64 (revErr n len f : Nat)]) ∧ Below w.heap.size w w' := by
  have HC := Lib.hid (rCheck_any n len c A f w hx hlen)
  obtain ⟨E, eE⟩ : ∃ E, E = revErr n len f := ⟨_, rfl⟩
  obtain ⟨V, eV⟩ : ∃ V, V = belV n len f := ⟨_, rfl⟩
  rw [← eE] at HC
  rw [← eE, ← eV]
  by_cases h0 : E = 0
  · obtain ⟨k, rfl, hk, hN, -⟩ := revErr_ok (by rw [← eE]; exact h0 : revErr n len f = 0)
    obtain ⟨S, hS⟩ : ∃ S, S = 2 ^ len := ⟨_, rfl⟩
    obtain ⟨w1, w2, w3, w4, w5, w6⟩ := all_val4 hN hk hS
    have hl := pow_le16 hN hk
    have HV := Lib.hid (show V = lst len f (S - 1) by rw [eV, hS]; exact if_pos (by rw [← eE]; exact h0))
    subst h0
    have hL := rleast_any A len c (S - 1) f w hx (by omega) (by omega)
    have HL := Lib.hid hL
    have HN := Lib.hid hN
    clear hx eE eV hN hS hL
    go_enter Tryd.func69, Tryd.ntmps69
    go_wp2_with (first | (go_at_call 51; refine (HC.out).mono ?_; rintro e w' ⟨rfl, rfl⟩) | (go_at_call 68; refine (rsize_any k len _ hk HN.out).mono ?_; rintro e w' ⟨rfl, rfl⟩) | (go_at_call 77; refine HL.out.mono ?_; rintro e w2 ⟨rfl, hst⟩; have HB := Lib.hid hst; clear hst))
    go_ret2
    exact ⟨by rw [HV.out]; rfl, HB.out⟩
  · have hne : ((E : Int) != 0) = true := by rw [bne_iff_ne]; omega
    have HV := Lib.hid (show V = 0 by rw [eV]; exact if_neg (by rw [← eE]; exact h0))
    clear hx eE eV h0
    go_enter Tryd.func69, Tryd.ntmps69
    go_wp2_with (go_at_call 51; refine (HC.out).mono ?_; rintro e w' ⟨rfl, rfl⟩)
    go_ret2
    exact ⟨by rw [HV.out]; rfl, Below.refl _ _⟩
set_option maxHeartbeats 1000000 in
theorem rRevise_any (n : Int) (len c s : Nat) (A : Option Addr) (f : Nat → Int) (w : World) (hx : I64s w A len f) (hlen : len ≤ 9223372036854775807) (hs : s < 18446744073709551616) :
    Calls Tryd.prog 70 #[.int .i64 n, .slice A len c, .int .u64 s] w fun e w' => e = .returned (.tuple #[.int .u64 (rvsV n len f s : Nat), .int .i64 (rvsErr n len f s : Nat)]) ∧ Below w.heap.size w w' := by
  have HC := Lib.hid (rCheck_any n len c A f w hx hlen)
  obtain ⟨E, eE⟩ : ∃ E, E = revErr n len f := ⟨_, rfl⟩
  obtain ⟨V, eV⟩ : ∃ V, V = rvsV n len f s := ⟨_, rfl⟩
  obtain ⟨O, eO⟩ : ∃ O, O = rvsErr n len f s := ⟨_, rfl⟩
  rw [← eE] at HC
  rw [← eO, ← eV]
  by_cases h0 : E = 0
  · have hr : revErr n len f = 0 := by rw [← eE]; exact h0
    obtain ⟨k, rfl, hk, hN, -⟩ := revErr_ok hr
    have hO : O = if s < 2 ^ len then 0 else 1 := by rw [eO]; exact if_pos hr
    have hl := pow_le16 hN hk
    subst h0
    by_cases hs2 : s < 2 ^ len
    · rw [if_pos hs2] at hO
      have HV := Lib.hid (show V = lst len f s by rw [eV]; exact if_pos (by rw [← eO, hO]))
      have HOUT := Lib.hid (fun w => rout_any k len s false w hk hN (decide_eq_false (by omega)))
      have hL := rleast_any A len c s f w hx (by omega) hs
      have HL := Lib.hid hL
      have HO := Lib.hid hO
      clear hx eE eV eO hr hO hL hN hs2
      go_enter Tryd.func70, Tryd.ntmps70
      go_wp2_with (first | (go_at_call 51; refine (HC.out).mono ?_; rintro e w' ⟨rfl, rfl⟩) | (go_at_call 78; refine (HOUT.out _).mono ?_; rintro e w' ⟨rfl, rfl⟩) | (go_at_call 77; refine HL.out.mono ?_; rintro e w2 ⟨rfl, hst⟩; have HB := Lib.hid hst; clear hst))
      go_ret2
      exact ⟨by rw [HV.out, HO.out]; rfl, HB.out⟩
    · rw [if_neg hs2] at hO
      have HV := Lib.hid (show V = 0 by rw [eV]; exact if_neg (by rw [← eO, hO]; decide))
      have HOUT := Lib.hid (fun w => rout_any k len s true w hk hN (decide_eq_true (by omega)))
      have HO := Lib.hid hO
      clear hx eE eV eO hr hO hN hs2
      go_enter Tryd.func70, Tryd.ntmps70
      go_wp2_with (first | (go_at_call 51; refine (HC.out).mono ?_; rintro e w' ⟨rfl, rfl⟩) | (go_at_call 78; refine (HOUT.out _).mono ?_; rintro e w' ⟨rfl, rfl⟩))
      go_ret2
      exact ⟨by rw [HV.out, HO.out]; rfl, Below.refl _ _⟩
  · have hne : ((E : Int) != 0) = true := by rw [bne_iff_ne]; omega
    have hO : O = E := by rw [eO, eE]; exact if_neg (by rw [← eE]; exact h0)
    have HV := Lib.hid (show V = 0 by rw [eV]; exact if_neg (by rw [← eO, hO]; exact h0))
    subst hO
    clear hx eE eV eO h0
    go_enter Tryd.func70, Tryd.ntmps70
    go_wp2_with (go_at_call 51; refine (HC.out).mono ?_; rintro e w' ⟨rfl, rfl⟩)
    go_ret2
    exact ⟨by rw [HV.out]; rfl, Below.refl _ _⟩

end Go.Proofs.YtiifmdgcnpdibaaDoor
