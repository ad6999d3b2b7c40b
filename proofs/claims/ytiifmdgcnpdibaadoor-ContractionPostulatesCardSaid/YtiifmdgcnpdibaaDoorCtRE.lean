/-
  Walks: the references: Of, all, Choice.
-/
import Derived.Test.YtiifmdgcnpdibaaDoorProg
import Derived.Test.YtiifmdgcnpdibaaDoorBase
import Derived.Test.YtiifmdgcnpdibaaDoorRow
import Derived.Test.YtiifmdgcnpdibaaDoorRowsOf
import Derived.Test.YtiifmdgcnpdibaaDoorLeast
import Derived.Test.YtiifmdgcnpdibaaDoorRkP
import Derived.Test.YtiifmdgcnpdibaaDoorRkQ
import Derived.Test.YtiifmdgcnpdibaaDoorRkB
import Derived.Test.YtiifmdgcnpdibaaDoorRkC3
import Derived.Test.YtiifmdgcnpdibaaDoorPoP
import Derived.Test.YtiifmdgcnpdibaaDoorCtP
import Derived.Test.YtiifmdgcnpdibaaDoorCtQ
import Derived.Test.YtiifmdgcnpdibaaDoorCtO
import Derived.Test.YtiifmdgcnpdibaaDoorCtA
import Derived.Test.YtiifmdgcnpdibaaDoorCtRA
namespace Go.Proofs.YtiifmdgcnpdibaaDoor
open Go.RowKit

/-- The set of the first elements. -/
def ofB (f : Nat → Int) : Nat → Nat
  | 0 => 0
  | i + 1 => ofB f i ||| 2 ^ (f i).toNat
def ofG (f : Nat → Int) (u : Nat) : Bool := decide (0 ≤ f u ∧ f u < 64) && !(ofB f u).testBit (f u).toNat
theorem ofB_bit (f : Nat → Int) (n i : Nat) : (ofB f n).testBit i = true ↔ ∃ u, u < n ∧ (f u).toNat = i := by
  induction n with
  | zero => unfold ofB; rw [Nat.zero_testBit]; exact ⟨fun h => (by cases h), fun ⟨u, hu, _⟩ => absurd hu (Nat.not_lt_zero _)⟩
  | succ n ih =>
    unfold ofB
    rw [Nat.testBit_or, Bool.or_eq_true, ih, Nat.testBit_two_pow, decide_eq_true_iff]
    constructor
    · rintro (⟨u, hu, h⟩ | h)
      · exact ⟨u, by omega, h⟩
      · exact ⟨n, by omega, h⟩
    · rintro ⟨u, hu, h⟩
      rcases Nat.lt_succ_iff_lt_or_eq.1 hu with h1 | rfl
      · exact .inl ⟨u, h1, h⟩
      · exact .inr h
theorem ofG_iff {f : Nat → Int} {u : Nat} : ofG f u = true ↔ 0 ≤ f u ∧ f u < 64 ∧ (ofB f u).testBit (f u).toNat = false := by
  unfold ofG
  rw [Bool.and_eq_true, decide_eq_true_iff, Bool.not_eq_true']
  exact ⟨fun ⟨⟨a, b⟩, c⟩ => ⟨a, b, c⟩, fun ⟨a, b, c⟩ => ⟨⟨a, b⟩, c⟩⟩
theorem ofB_lt {f : Nat → Int} {n : Nat} (h : ∀ u, u < n → ofG f u = true) : ofB f n < 18446744073709551616 := by
  induction n with
  | zero => exact Nat.zero_lt_succ _
  | succ n ih =>
    unfold ofB
    have := ofG_iff.1 (h n (by omega))
    exact or_lt64 (ih fun u hu => h u (by omega)) (pow_lt64 (by omega))
/-- A list that is taken for a set of all valuations holds each of them. -/
theorem of_ok {N S : Nat} {f : Nat → Int} (hS : S = 2 ^ N) (hN : N ≤ 16) : (allB N (ofG f) && ofB f N == S - 1) = okB N f := by
  rw [Bool.eq_iff_iff, Bool.and_eq_true, allB_iff, beq_iff_eq]
  constructor
  · rintro ⟨h1, h2⟩
    refine okB_iff.2 fun v hv => ?_
    have hb : (ofB f N).testBit v = true := by rw [h2, hS, Nat.testBit_two_pow_sub_one]; exact decide_eq_true hv
    obtain ⟨u, hu, e⟩ := (ofB_bit f N v).1 hb
    have := (ofG_iff.1 (h1 u hu)).1
    exact ⟨u, hu, by omega⟩
  · intro h
    refine ⟨fun u hu => ?_, ?_⟩
    · obtain ⟨v, hv, e⟩ := ok_range h u hu
      refine ofG_iff.2 ⟨by omega, by omega, ?_⟩
      cases hb : (ofB f u).testBit (f u).toNat
      · rfl
      · exfalso
        obtain ⟨u2, hu2, e2⟩ := (ofB_bit f u _).1 hb
        obtain ⟨v2, hv2, e3⟩ := ok_range h u2 (by omega)
        exact ok_inj h (u := u2) (v := u) (by omega) hu (by omega) (by omega)
    · apply bit_eq
      intro i
      rw [ofB_bit, hS, Nat.testBit_two_pow_sub_one, decide_eq_true_iff]
      constructor
      · rintro ⟨u, hu, rfl⟩
        obtain ⟨v, hv, e⟩ := ok_range h u hu
        omega
      · intro hi
        obtain ⟨u, hu, e⟩ := okB_iff.1 h i hi
        exact ⟨u, hu, by omega⟩
/-- What Of returns. -/
def OfPost (n : Nat) (f : Nat → Int) (w : World) (e : Ending) (w' : World) : Prop :=
  ∃ s E : Nat, e = .returned (.tuple #[.int .u64 s, .int .i64 E]) ∧ (E = 0 ↔ allB n (ofG f) = true) ∧ (allB n (ofG f) = true → s = ofB f n) ∧ w = w'
theorem of_bad {n u : Nat} {f : Nat → Int} {E : Nat} {w : World} (hu : u < n) (h : ofG f u = false) (hE : E ≠ 0) : OfPost n f w (.returned (.tuple #[.int .u64 ((0 : Nat) : Int), .int .i64 E])) w := by
  have := not_all (p := ofG f) hu h
  exact ⟨0, E, rfl, ⟨fun h => absurd h hE, fun h => by rw [this] at h; cases h⟩, fun h => (by rw [this] at h; cases h), rfl⟩
set_option maxHeartbeats 1000000 in
theorem of01_any (A : Option Addr) (n c : Nat) (f : Nat → Int) (w : World) (hf : I64s w A n f) (hn : n ≤ 65536) :
    Calls Tryd.prog 66 #[.slice A n c] w (OfPost n f w) := by
  have HX := Lib.hid hf
  clear hf
  go_enter Tryd.func66, Tryd.ntmps66
  go_wp2
  go_loop [4, 5] (fun s i => ∃ u : Nat, u ≤ n ∧ i = .int .i64 u ∧ s = .int .u64 (ofB f u : Nat) ∧ Hid (∀ v, v < u → ofG f v = true)) (fun _ i => n - (intOf i).toNat)
  case atStart => exact ⟨0, Nat.zero_le _, rfl, rfl, Lib.hid fun i h => absurd h (Nat.not_lt_zero _)⟩
  case round =>
    obtain ⟨u, hu, rfl, rfl, HF⟩ := hrel
    by_cases hult : u < n
    · obtain ⟨b, off, rfl, hc, hr1, hr2⟩ := HX.out u hult
      have hl := ofB_lt HF.out
      have HS := Lib.hid (show ofB f (u + 1) = ofB f u ||| 2 ^ (f u).toNat from rfl)
      have HG := Lib.hid (ofG_iff (f := f) (u := u))
      obtain ⟨s, es⟩ : ∃ s, s = ofB f u := ⟨_, rfl⟩
      rw [← es] at hl HS HG ⊢
      by_cases h0 : f u < 0
      · have HB := Lib.hid (of_bad (w := w) (E := 2) hult (Bool.eq_false_iff.2 fun h => by have := HG.out.1 h; omega) (by decide))
        have hd : decide (f u < 0) = true := decide_eq_true h0
        clear es
        go_wp2
        go_ret2
        exact HB.out
      · have hd : decide (f u < 0) = false := decide_eq_false h0
        by_cases h64 : 64 ≤ f u
        · have HB := Lib.hid (of_bad (w := w) (E := 2) hult (Bool.eq_false_iff.2 fun h => by have := HG.out.1 h; omega) (by decide))
          have hd2 : decide (64 ≤ f u) = true := decide_eq_true h64
          clear es
          go_wp2
          go_ret2
          exact HB.out
        · obtain ⟨v, ev⟩ : ∃ v : Nat, f u = v := ⟨(f u).toNat, by omega⟩
          have hd2 : decide (64 ≤ f u) = false := decide_eq_false h64
          rw [ev] at hd hd2 hc HS HG
          rw [Int.toNat_natCast] at HS HG
          have hv : v < 64 := by omega
          have HH := Lib.hid (fun w => has01_any s v w hl hv)
          cases hb : s.testBit v
          · rw [hb] at HH
            obtain ⟨P, eP⟩ : ∃ P, P = 2 ^ v := ⟨_, rfl⟩
            have HBI := Lib.hid (fun w => bit01_any v P w hv eP)
            have hPl : P < 18446744073709551616 := by rw [eP]; exact pow_lt64 hv
            have hor := u64_or_nat s P hl hPl
            rw [← eP] at HS
            have HF2 : Hid (∀ v, v < u + 1 → ofG f v = true) := Lib.hid fun i h => by
              rcases Nat.lt_succ_iff_lt_or_eq.1 h with h3 | rfl
              · exact HF.out i h3
              · exact HG.out.2 ⟨by omega, by omega, hb⟩
            clear hb es eP ev h0 h64 hr1 hr2
            go_wp2_with (first | (go_at_call 49; refine (HH.out _).mono ?_; rintro e w' ⟨rfl, rfl⟩) | (go_at_call 67; refine (HBI.out _).mono ?_; rintro e w' ⟨rfl, rfl⟩))
            go_round
            case rel => exact ⟨u + 1, by omega, by go_num, by rw [HS.out], HF2⟩
            case measure => simp [intOf]; omega
          · rw [hb] at HH
            have HB := Lib.hid (of_bad (w := w) (E := 7) hult (Bool.eq_false_iff.2 fun h => by have := (HG.out.1 h).2.2; rw [hb] at this; cases this) (by decide))
            clear hb es ev h0 h64 hr1 hr2
            go_wp2_with (go_at_call 49; refine (HH.out _).mono ?_; rintro e w' ⟨rfl, rfl⟩)
            go_ret2
            exact HB.out
    · obtain rfl : u = n := by omega
      have ha : allB u (ofG f) = true := allB_iff.2 HF.out
      have HA := Lib.hid ha
      clear ha
      go_wp2
      go_ret2
      exact ⟨ofB f u, 0, rfl, ⟨fun _ => HA.out, fun _ => rfl⟩, fun _ => rfl, rfl⟩
set_option maxHeartbeats 1000000 in
theorem rall_any (k N S len c : Nat) (A : Option Addr) (f : Nat → Int) (w : World) (hf : I64s w A len f) (hlen : len ≤ 65536) (hk : k ≤ 4) (hN : N = 2 ^ k) (hS : S = 2 ^ N) :
    Calls Tryd.prog 48 #[.int .i64 k, .slice A len c] w fun e w' => e = .returned (.bool (decide (len = N) && okB len f)) ∧ w = w' := by
  have hwp := wrap_pow hN hk
  have hck := wrap_self (x := k) (by omega)
  have hmin : min k 64 = k := Nat.min_eq_left (by omega)
  have HA := Lib.hid (fun w => all40_any k N S w hk hN hS)
  have HO := Lib.hid (of01_any A len c f w hf hlen)
  by_cases hl : len = N
  · subst hl
    have h1 : ((len : Int) != (len : Int)) = false := by simp
    have HOK := Lib.hid (of_ok (f := f) hS (pow_le16 hN hk))
    have HD := Lib.hid (show decide (len = len) = true from decide_eq_true rfl)
    clear hf hN hS
    go_enter Tryd.func48, Tryd.ntmps48
    go_upto_region 4 with (go_at_call 66; refine HO.out.mono ?_; rintro e w1 ⟨s, E, rfl, hE, hs, rfl⟩; have HE := Lib.hid hE; have HS := Lib.hid hs; clear hE hs)
    by_cases h0 : E = 0
    · have ha := HE.out.1 h0
      have hsv := HS.out ha
      have hz : ((E : Int) == 0) = true := by rw [h0]; rfl
      have HR := Lib.hid (show okB len f = (s == S - 1) by rw [← HOK.out, ha, hsv]; rfl)
      clear h0 ha hsv
      go_wp2_with (go_at_call 40; refine (HA.out _).mono ?_; rintro e w' ⟨rfl, rfl⟩)
      go_ret
      exact ⟨by rw [HD.out, HR.out, ← eq_nat]; rfl, rfl⟩
    · have hz : ((E : Int) == 0) = false := by rw [beq_eq_false_iff_ne]; omega
      have HR := Lib.hid (show okB len f = false by
        rw [← HOK.out]
        cases ha : allB len (ofG f)
        · rfl
        · exact absurd (HE.out.2 ha) h0)
      clear h0
      go_wp2_with (go_at_call 40; refine (HA.out _).mono ?_; rintro e w' ⟨rfl, rfl⟩)
      go_ret
      exact ⟨by rw [HD.out, HR.out]; rfl, rfl⟩
  · have h1 : ((len : Int) != (N : Int)) = true := by rw [bne_iff_ne]; omega
    have HD := Lib.hid (show decide (len = N) = false from decide_eq_false hl)
    clear hf hN hS hl
    go_enter Tryd.func48, Tryd.ntmps48
    go_wp2
    go_ret
    exact ⟨by rw [HD.out]; rfl, rfl⟩
set_option maxHeartbeats 2000000 in
theorem rChoice_any (n : Int) (b x len c : Nat) (A : Option Addr) (f : Nat → Int) (w : World) (hf : I64s w A len f) (hlen : len ≤ 65536) (hb : b < 18446744073709551616) (hx : x < 18446744073709551616) :
    Calls Tryd.prog 18 #[.int .i64 n, .int .u64 b, .int .u64 x, .slice A len c] w fun e w' => e = .returned (.tuple #[.int .u64 (chR n b x len f : Nat), .int .i64 (chE n b x len f : Nat)]) ∧ w = w' := by
  have HX := Lib.hid hf
  have HC := Lib.hid (fun w => within_any n 4 4 b x w rfl (by decide) hb hx)
  by_cases h0 : ctErr 4 n b x = 0
  · obtain ⟨k, rfl, hk, hbS, hxS⟩ := ctErr_ok h0
    obtain ⟨N, hN⟩ : ∃ N, N = 2 ^ k := ⟨_, rfl⟩
    obtain ⟨S, hS⟩ : ∃ S, S = 2 ^ N := ⟨_, rfl⟩
    obtain ⟨w1, w2, w3, w4, w5, w6⟩ := all_val4 hN hk hS
    have hN16 := pow_le16 hN hk
    rw [h0] at HC
    have hbs : b < S := by rw [hS, hN]; exact hbS
    have hxs : x < S := by rw [hS, hN]; exact hxS
    have hE : chE k b x len f = if len = N ∧ okB len f = true then 0 else 3 := by unfold chE; rw [if_pos h0, Int.toNat_natCast, ← hN]
    obtain ⟨E, eE⟩ : ∃ E, E = chE k b x len f := ⟨_, rfl⟩
    obtain ⟨V, eV⟩ : ∃ V, V = chR k b x len f := ⟨_, rfl⟩
    have hV : V = if E = 0 then chV len (2 ^ len) b x f else 0 := by rw [eV, eE]; rfl
    rw [← eE] at hE
    rw [← eE, ← eV]
    have hal := rall_any k N S len c A f w hf hlen hk hN hS
    by_cases hok : len = N ∧ okB len f = true
    · obtain ⟨hlN, hok⟩ := hok
      subst hlN
      rw [hok, decide_eq_true rfl] at hal
      have HAL := Lib.hid hal
      have e1 : E = 0 := by rw [hE, if_pos ⟨rfl, hok⟩]
      have e2 : V = chV len S b x f := by rw [hV, if_pos e1, ← hS]
      have hI := fun w => nothing_any k len S b x w hk hN hS (by omega) (by omega)
      unfold chV at e2
      cases hid : idl S b x
      · rw [hid] at hI e2
        have HI := Lib.hid hI
        obtain ⟨_, hn⟩ := not_idl hS (by omega) (by omega) hid
        obtain ⟨hcl, hcb⟩ := chI_lt hS hN16 hok hxs hn
        have HPRE := Lib.hid (firstNo_spec len fun i => x.testBit (f i).toNat).2.1
        obtain ⟨j, ej⟩ : ∃ j, j = chI len x f := ⟨_, rfl⟩
        have HPRE : Hid (∀ i, i < j → x.testBit (f i).toNat = true) := Lib.hid fun i hi => HPRE.out i (by rw [ej] at hi; exact hi)
        rw [← ej] at hcl hcb e2
        obtain ⟨v, hv, ev⟩ := ok_range hok _ hcl
        rw [ev, Int.toNat_natCast] at e2 hcb
        have HR := Lib.hid (fun u hu => ok_range hok u hu)
        have HE1 := Lib.hid e1
        have HEV := Lib.hid ev
        have HHV := Lib.hid (fun w => has01_any x v w (by omega) (by omega))
        rw [hcb] at HHV
        obtain ⟨P, eP⟩ : ∃ P, P = 2 ^ v := ⟨_, rfl⟩
        rw [← eP] at e2
        have hsh := shl_one eP (by omega)
        have hcv := wrap_self (x := v) (by omega)
        have hmin : min v 64 = v := Nat.min_eq_left (by omega)
        have hPl : P < 18446744073709551616 := by rw [eP]; exact pow_lt64 (by omega)
        have hor : bits .or .u64 (b : Int) (P : Int) = ((b ||| P : Nat) : Int) := u64_or_nat _ _ hb hPl
        have HE2 := Lib.hid (show V = b ||| P from e2)
        clear hE hV eE eV h0 hN hS w1 w2 w3 w4 hbS hxS hal hI hid hn ej ev eP e1 e2 hcb hf hok
        go_enter Tryd.func18, Tryd.ntmps18
        go_wp2_with (first | (go_at_call 38; refine (HC.out _).mono ?_; rintro e w' ⟨rfl, rfl⟩) | (go_at_call 48; refine (HAL.out).mono ?_; rintro e w' ⟨rfl, rfl⟩) | (go_at_call 43; refine (HI.out _).mono ?_; rintro e w' ⟨rfl, rfl⟩))
        go_loop [11] (fun i => ∃ u : Nat, u ≤ j ∧ i = .int .i64 u) (fun i => j - (intOf i).toNat)
        case atStart => exact ⟨0, Nat.zero_le _, rfl⟩
        case round =>
          obtain ⟨u, hu, rfl⟩ := hrel
          by_cases huj : u = j
          · subst huj
            obtain ⟨bo, oo, rfl, hco, -, -⟩ := HX.out _ hcl
            rw [HEV.out] at hco
            have hjb : (u : Int) < (len : Int) := by omega
            go_wp2_with (go_at_call 49; refine (HHV.out _).mono ?_; rintro e w' ⟨rfl, rfl⟩)
            go_ret2
            exact ⟨by rw [HE1.out, HE2.out]; rfl, rfl⟩
          · have hult : u < len := by omega
            obtain ⟨bo, oo, rfl, hco, -, -⟩ := HX.out _ hult
            obtain ⟨z, hz, ez⟩ := HR.out u hult
            have hbt := HPRE.out u (by omega)
            rw [ez, Int.toNat_natCast] at hbt
            rw [ez] at hco
            have HHZ := Lib.hid (fun w => has01_any x z w (by omega) (by omega))
            rw [hbt] at HHZ
            have hjb : (u : Int) < (len : Int) := by omega
            clear ez hbt
            go_wp2_with (go_at_call 49; refine (HHZ.out _).mono ?_; rintro e w' ⟨rfl, rfl⟩)
            go_round
            case rel => exact ⟨u + 1, by omega, by go_num⟩
            case measure => simp [intOf]; omega
      · rw [hid] at hI e2
        have HI := Lib.hid hI
        have HE1 := Lib.hid e1
        have HE2 := Lib.hid (show V = b from e2)
        clear hE hV eE eV h0 hN hS w1 w2 w3 w4 hbS hxS hal hI hid e1 e2 hf hok
        go_enter Tryd.func18, Tryd.ntmps18
        go_wp2_with (first | (go_at_call 38; refine (HC.out _).mono ?_; rintro e w' ⟨rfl, rfl⟩) | (go_at_call 48; refine (HAL.out).mono ?_; rintro e w' ⟨rfl, rfl⟩) | (go_at_call 43; refine (HI.out _).mono ?_; rintro e w' ⟨rfl, rfl⟩))
        go_ret2
        exact ⟨by rw [HE1.out, HE2.out]; rfl, rfl⟩
    · have hal0 : (decide (len = N) && okB len f) = false := by
        cases h1 : okB len f
        · rw [Bool.and_false]
        · rw [decide_eq_false fun h => hok ⟨h, h1⟩]; rfl
      rw [hal0] at hal
      have HAL := Lib.hid hal
      have e1 : E = 3 := by rw [hE, if_neg hok]
      have HE1 := Lib.hid e1
      have HE2 := Lib.hid (show V = 0 by rw [hV, if_neg (by rw [e1]; decide)])
      clear hE hV eE eV h0 hN hS w1 w2 w3 w4 hbS hxS hal e1 hf hok hal0
      go_enter Tryd.func18, Tryd.ntmps18
      go_wp2_with (first | (go_at_call 38; refine (HC.out _).mono ?_; rintro e w' ⟨rfl, rfl⟩) | (go_at_call 48; refine (HAL.out).mono ?_; rintro e w' ⟨rfl, rfl⟩))
      go_ret2
      exact ⟨by rw [HE1.out, HE2.out]; rfl, rfl⟩
  · have hE : chE n b x len f = ctErr 4 n b x := by unfold chE; rw [if_neg h0]
    have hV : chR n b x len f = 0 := by unfold chR; rw [if_neg (by rw [hE]; exact h0)]
    rw [hE, hV]
    obtain ⟨E, eE⟩ : ∃ E, E = ctErr 4 n b x := ⟨_, rfl⟩
    rw [← eE] at h0 HC ⊢
    have hne : ((E : Int) != 0) = true := by rw [bne_iff_ne]; omega
    clear hE hV eE hf
    go_enter Tryd.func18, Tryd.ntmps18
    go_wp2_with (go_at_call 38; refine (HC.out _).mono ?_; rintro e w' ⟨rfl, rfl⟩)
    go_ret2
    exact ⟨rfl, rfl⟩
end Go.Proofs.YtiifmdgcnpdibaaDoor
