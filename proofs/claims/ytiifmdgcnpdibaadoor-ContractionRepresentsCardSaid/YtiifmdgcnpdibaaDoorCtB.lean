/-
  Walks: package contraction: Remainders, byRanks, ByRanks, Table.
-/
import Derived.Test.YtiifmdgcnpdibaaDoorProg
import Derived.Test.YtiifmdgcnpdibaaDoorBase
import Derived.Test.YtiifmdgcnpdibaaDoorRow
import Derived.Test.YtiifmdgcnpdibaaDoorRowU
import Derived.Test.YtiifmdgcnpdibaaDoorRowsOf
import Derived.Test.YtiifmdgcnpdibaaDoorLeast
import Derived.Test.YtiifmdgcnpdibaaDoorRkQ
import Derived.Test.YtiifmdgcnpdibaaDoorRkB
import Derived.Test.YtiifmdgcnpdibaaDoorRkC3
import Derived.Test.YtiifmdgcnpdibaaDoorPoP
import Derived.Test.YtiifmdgcnpdibaaDoorCtP
import Derived.Test.YtiifmdgcnpdibaaDoorCtQ
import Derived.Test.YtiifmdgcnpdibaaDoorCtA
namespace Go.Proofs.YtiifmdgcnpdibaaDoor
open Go.RowKit

/-- A slice of m uint64s, and an error. -/
def SlcU (E m : Nat) (g : Nat → Nat) (w : World) (e : Ending) (w' : World) : Prop :=
  ∃ A c, e = .returned (.tuple #[.slice A m c, .int .i64 (E : Nat)]) ∧ U64s w' A m g ∧ Below w.heap.size w w'
theorem lnL_append (l : List Nat) (x : Nat) : u64L (ln (l ++ [x])) (l.length + 1) = u64L (ln l) l.length ++ [.int .u64 (x : Nat)] := by
  rw [u64L_succ, ln_last]
  congr 1
  unfold u64L
  exact List.map_congr_left fun u hu => by rw [ln_append _ _ u (List.mem_range.1 hu)]
def remR (n : Int) (b x : Nat) : List Nat := if ctErr 4 n b x = 0 then remL (2 ^ n.toNat) (2 ^ 2 ^ n.toNat) b x else []
set_option maxHeartbeats 1000000 in
theorem Remainders_any (n : Int) (b x : Nat) (w : World) (hb : b < 18446744073709551616) (hx : x < 18446744073709551616) :
    Calls Tryd.prog 11 #[.int .i64 n, .int .u64 b, .int .u64 x] w (SlcU (ctErr 4 n b x) (remR n b x).length (ln (remR n b x)) w) := by
  have HC := Lib.hid (fun w => ctCheck_any n b x w hb hx)
  by_cases h0 : ctErr 4 n b x = 0
  · obtain ⟨k, rfl, hk, hbS, hxS⟩ := ctErr_ok h0
    obtain ⟨N, hN⟩ : ∃ N, N = 2 ^ k := ⟨_, rfl⟩
    obtain ⟨S, hS⟩ : ∃ S, S = 2 ^ N := ⟨_, rfl⟩
    have hR : remR k b x = remL N S b x := by unfold remR; rw [if_pos h0, hS, hN]; rfl
    have hN16 := pow_le16 hN hk
    have hw := wrap_pow hN hk
    rw [h0, hR]
    rw [h0] at HC
    have ha := bits_andNot b x hb hx
    have hbl0 : b < S := by rw [hS, hN]; exact hbS
    cases h1 : (andNot b x != 0)
    · have h1' : ((andNot b x : Int) != 0) = false := by rw [ne0_nat, h1]
      have hL : remL N S b x = remF N b x N := by unfold remL; rw [h1]; rfl
      rw [hL]
      obtain ⟨E, eE⟩ : ∃ E, E = andNot b x := ⟨_, rfl⟩
      rw [← eE] at ha h1'
      have HS := Lib.hid hS
      clear h0 hR h1 hL eE hbS hxS hN hS
      go_enter Tryd.func11, Tryd.ntmps11
      go_wp2_with (go_at_call 37; refine (HC.out _).mono ?_; rintro e w' ⟨rfl, rfl⟩)
      go_loopw [9, 26] (fun o i wr => ∃ u : Nat, u ≤ N ∧ i = .int .i64 u ∧ wr.ownsRow w.heap.size 22 1 o (remF N b x u).length (u64L (ln (remF N b x u)) (remF N b x u).length) ∧ Below w.heap.size w wr) (fun _ i _ => N - (intOf i).toNat)
      case atStart => exact ⟨0, Nat.zero_le _, rfl, World.ownsRow_nil _ _ _ _, Below.refl _ _⟩
      case round =>
        obtain ⟨u, hu, rfl, hown, hbl⟩ := hrel
        by_cases hult : u < N
        · have hbit := bits_hasnt' x u hx (by omega)
          have hsz := hbl.size
          have hlen := remF_len N b x u
          cases hbx : x.testBit u
          · rw [hbx] at hbit
            have hbit' : (bits .and .u64 ((x : Int) / 2 ^ u) 1 == 0) = true := hbit
            obtain ⟨P, eP⟩ : ∃ P : Nat, P = 2 ^ u := ⟨_, rfl⟩
            have hsh := shl_one eP (by omega)
            have hPl : P < 18446744073709551616 := by rw [eP]; exact pow_lt64 (by omega)
            obtain ⟨y, ey⟩ : ∃ y : Nat, y = b ||| P := ⟨_, rfl⟩
            have hor : bits .or .u64 (b : Int) (P : Int) = (y : Int) := by rw [u64_or_nat _ _ hb hPl, ey]
            have hst := remF_yes (N := N) (b := b) hbx
            rw [← eP, ← ey] at hst
            have HST := Lib.hid hst
            obtain ⟨L, eL⟩ : ∃ L, L = remF N b x u := ⟨_, rfl⟩
            rw [← eL] at hown hlen HST
            have HO := Lib.hid hown
            have HB := Lib.hid hbl
            clear hbit hbx hst eP ey eL hown hbl
            have hown := HO.out
            go_wp2_with (at_builtin; obtain ⟨i0, hi, hz0, hz1, hz2⟩ := info_parts Tryd.infoU64; refine wpList_append_own _ rfl _ _ 23 rfl w.heap.size 22 i0 (.int .u64 0) 1 8 Tryd.underlying23 hi hz0 hz1 hz2 rfl (by decide) _ _ _ rfl (hown.alloc _) ⟨wr.heap.size, 0, none⟩ 1 1 [.int .u64 (y : Nat)] rfl rfl (cell_one_new _ _ _) (one_oneCell rfl) (by unfold maxLen; omega) (by omega) (by simp; omega) ?_; intro v' w3 hown' hgrow _)
            go_roundw
            case rel => exact ⟨u + 1, by omega, by go_num, by rw [HST.out, List.length_append, List.length_singleton, lnL_append]; exact hown', (HB.out.alloc hsz _).grown hgrow (by simp; omega) (fun k hk => (hown.lt k hk).1)⟩
            case measure => simp [intOf]; omega
          · rw [hbx] at hbit
            have hbit' : (bits .and .u64 ((x : Int) / 2 ^ u) 1 == 0) = false := hbit
            have HST := Lib.hid (remF_no (N := N) (b := b) hbx)
            have HO := Lib.hid hown
            have HB := Lib.hid hbl
            clear hbit hbx hown hbl
            go_wp2_with fail
            go_roundw
            case rel => exact ⟨u + 1, by omega, by go_num, by rw [HST.out]; exact HO.out, HB.out⟩
            case measure => simp [intOf]; omega
        · obtain rfl : u = N := by omega
          have hb1 : ∀ y, y ∈ remF u b x u → y < S := remF_lt HS.out (Nat.le_refl _) hbl0
          have hS64 : S ≤ 18446744073709551616 := by rw [HS.out]; exact Nat.pow_le_pow_right (n := 2) (j := 64) (by decide) (by omega)
          obtain ⟨A2, c2, rfl, hu64, _⟩ := own_u64s hown (fun x _ => Nat.lt_of_lt_of_le (ln_lt (by omega) hb1 x) hS64)
          have HU := Lib.hid hu64
          have HB := Lib.hid hbl
          clear hown hbl hu64 hb1
          go_wp2_with fail
          go_ret2
          exact ⟨_, _, rfl, HU.out, HB.out⟩
    · have h1' : ((andNot b x : Int) != 0) = true := by rw [ne0_nat, h1]
      have hL : remL N S b x = [b] := by unfold remL; rw [h1]; rfl
      rw [hL]
      obtain ⟨E, eE⟩ : ∃ E, E = andNot b x := ⟨_, rfl⟩
      rw [← eE] at ha h1'
      clear h0 hR h1 hL eE hbS hxS hN hS hbl0
      go_enter Tryd.func11, Tryd.ntmps11
      go_wp2_with (go_at_call 37; refine (HC.out _).mono ?_; rintro e w' ⟨rfl, rfl⟩)
      go_ret2
      refine ⟨some ⟨w.heap.size, 0, none⟩, 1, rfl, fun u hu => ?_, below_alloc _ _⟩
      have hu0 : u = 0 := by simp at hu; omega
      subst hu0
      exact ⟨w.heap.size, 0, rfl, (cell_one_new _ _ _) 0 _ rfl, hb⟩
  · have hR : remR n b x = [] := by unfold remR; rw [if_neg h0]
    rw [hR]
    obtain ⟨E, eE⟩ : ∃ E, E = ctErr 4 n b x := ⟨_, rfl⟩
    rw [← eE] at HC h0 ⊢
    have hne : ((E : Int) != 0) = true := by rw [bne_iff_ne]; omega
    clear eE hR
    go_enter Tryd.func11, Tryd.ntmps11
    go_wp2_with (go_at_call 37; refine (HC.out _).mono ?_; rintro e w' ⟨rfl, rfl⟩)
    go_ret2
    exact ⟨none, 0, rfl, u64s_nil _ _ _, Below.refl _ _⟩

/-! ### by ranks -/
set_option maxHeartbeats 1000000 in
theorem byRanks_any (k N S b x c : Nat) (A : Option Addr) (f : Nat → Int) (w : World) (hf : I64s w A N f) (hk : k ≤ 4) (hN : N = 2 ^ k) (hS : S = 2 ^ N) (hb : b < S) (hx : x < S) :
    Calls Tryd.prog 50 #[.int .i64 k, .int .u64 b, .slice A N c, .int .u64 x] w fun e w' => e = .returned (.int .u64 (brk N S f b x : Nat)) ∧ Below w.heap.size w w' := by
  obtain ⟨w1, w2, w3, w4, w5, w6⟩ := all_val4 hN hk hS
  have hN16 := pow_le16 hN hk
  have HI := Lib.hid (fun w => idle_any k N S b x w hk hN hS (by omega) (by omega))
  have HX := Lib.hid hf
  have hB : brk N S f b x = if idl S b x then b else b ||| (leastP (cpl S x) f N).1 := rfl
  cases hI : idl S b x
  · rw [hI] at hB HI
    have HV := Lib.hid (show brk N S f b x = b ||| (leastP (cpl S x) f N).1 from hB)
    have HCB := Lib.hid (fun v (hv : v < N) => show (cpl S x).testBit v = !x.testBit v by
      unfold cpl
      rw [testBit_andNot _ _ _ (by omega) (by omega), hS, Nat.testBit_two_pow_sub_one]; simp [hv])
    obtain ⟨s, es⟩ : ∃ s, s = cpl S x := ⟨_, rfl⟩
    rw [← es] at HV HCB
    clear hf hB hI w1 w2 w3 w4 es hN hS
    go_enter Tryd.func50, Tryd.ntmps50
    go_wp2_with (go_at_call 41; refine (HI.out _).mono ?_; rintro e w' ⟨rfl, rfl⟩)
    go_loopw [9, 10, 20] (fun bv o i wr => ∃ v : Nat, v ≤ N ∧ i = .int .i64 v ∧ o = .int .u64 (leastP s f v).1 ∧ bv = .int .i64 (leastP s f v).2 ∧ Below w.heap.size w wr) (fun _ _ i _ => N - (intOf i).toNat)
    case atStart => exact ⟨0, Nat.zero_le _, rfl, rfl, rfl, Below.refl _ _⟩
    case round =>
      obtain ⟨v, hv, rfl, rfl, rfl, hbl⟩ := hrel
      by_cases hlt : v < N
      · obtain ⟨b', off, rfl, hc, hr1, hr2⟩ := (HX.out.below hbl) v hlt
        have HS := Lib.hid (show leastP s f (v + 1) = if s.testBit v = false then leastP s f v
          else if (leastP s f v).1 = 0 ∨ f v < (leastP s f v).2 then (2 ^ v, f v)
          else if f v = (leastP s f v).2 then ((leastP s f v).1 ||| 2 ^ v, (leastP s f v).2)
          else leastP s f v from rfl)
        have hol := Nat.lt_trans (leastP_lt s f v) (pow_lt64 (k := v) (by omega))
        have hbit : (bits .and .u64 ((x : Int) / 2 ^ v) 1 == 1) = !s.testBit v := by
          rw [bits_has' x v (by omega) (by omega), HCB.out v hlt, Bool.not_not]
        obtain ⟨o, eo⟩ : ∃ o, o = (leastP s f v).1 := ⟨_, rfl⟩
        obtain ⟨q, eq⟩ : ∃ q, q = (leastP s f v).2 := ⟨_, rfl⟩
        obtain ⟨r, er⟩ : ∃ r, r = f v := ⟨_, rfl⟩
        rw [← eo] at hol
        rw [← er] at hc hr1 hr2
        rw [← eo, ← eq]
        rw [← eo, ← eq, ← er] at HS
        have EO := Lib.hid eo
        have EQ := Lib.hid eq
        have HB := Lib.hid hbl
        clear eo eq er hbl
        cases hb : s.testBit v
        · rw [hb] at hbit
          have hbit' : (bits .and .u64 ((x : Int) / 2 ^ v) 1 == 1) = true := hbit
          have HN := Lib.hid (show leastP s f (v + 1) = leastP s f v by rw [HS.out]; exact if_pos hb)
          clear hbit hb
          go_wp2_with fail
          go_roundw
          case rel => exact ⟨v + 1, by omega, by go_num, by rw [HN.out, ← EO.out], by rw [HN.out, ← EQ.out], HB.out⟩
          case measure => simp [intOf]; omega
        · rw [hb] at hbit
          have hbit' : (bits .and .u64 ((x : Int) / 2 ^ v) 1 == 1) = false := hbit
          obtain ⟨P, hP⟩ : ∃ P, P = 2 ^ v := ⟨_, rfl⟩
          have hsh := shl_one hP (by omega)
          have hor : bits .or .u64 (o : Int) (P : Int) = ((o ||| P : Nat) : Int) := u64_or_nat _ _ hol (by rw [hP]; exact pow_lt64 (by omega))
          have HP := Lib.hid hP
          have hS2 := HS.out
          rw [if_neg (by rw [hb]; exact fun h => by cases h)] at hS2
          clear hP hbit hb
          by_cases h0 : o = 0
          · have h1 : ((o : Int) == 0) = true := by rw [h0]; rfl
            have HN := Lib.hid (show leastP s f (v + 1) = (2 ^ v, r) by rw [hS2]; exact if_pos (.inl h0))
            clear hS2 h0
            go_wp2_with fail
            go_quiet (fail)
            go_wp2_with fail
            go_roundw
            case rel => exact ⟨v + 1, by omega, by go_num, by rw [HN.out, HP.out], by rw [HN.out], HB.out.trans (below_drewN (Below.refl _ _) _)⟩
            case measure => simp [intOf]; omega
          · have h1 : ((o : Int) == 0) = false := by rw [beq_eq_false_iff_ne]; omega
            by_cases h2 : r < q
            · have h2' : decide (r < q) = true := decide_eq_true h2
              have HN := Lib.hid (show leastP s f (v + 1) = (2 ^ v, r) by rw [hS2]; exact if_pos (.inr h2))
              clear hS2 h0
              go_wp2_with fail
              go_quiet (fail)
              go_wp2_with fail
              go_roundw
              case rel => exact ⟨v + 1, by omega, by go_num, by rw [HN.out, HP.out], by rw [HN.out], HB.out.trans (below_drewN (Below.refl _ _) _)⟩
              case measure => simp [intOf]; omega
            · have h2' : decide (r < q) = false := decide_eq_false h2
              rw [if_neg (fun h => h.elim h0 h2)] at hS2
              by_cases h3 : r = q
              · have h3' : (r == q) = true := by rw [h3]; simp
                rw [if_pos h3] at hS2
                have HN := Lib.hid hS2
                clear hS2 h0 h2 h3
                go_wp2_with fail
                go_roundw
                case rel => exact ⟨v + 1, by omega, by go_num, by rw [HN.out, HP.out], by rw [HN.out], HB.out⟩
                case measure => simp [intOf]; omega
              · have h3' : (r == q) = false := by rw [beq_eq_false_iff_ne]; exact h3
                rw [if_neg h3] at hS2
                have HN := Lib.hid hS2
                clear hS2 h0 h2 h3
                go_wp2_with fail
                go_roundw
                case rel => exact ⟨v + 1, by omega, by go_num, by rw [HN.out, ← EO.out], by rw [HN.out, ← EQ.out], HB.out⟩
                case measure => simp [intOf]; omega
      · obtain rfl : v = N := by omega
        have hol := Nat.lt_trans (leastP_lt s f v) (pow_lt64 (k := v) (by omega))
        obtain ⟨o, eo⟩ : ∃ o, o = (leastP s f v).1 := ⟨_, rfl⟩
        rw [← eo] at hol HV ⊢
        have hor : bits .or .u64 (b : Int) (o : Int) = ((b ||| o : Nat) : Int) := u64_or_nat _ _ (by omega) hol
        have HB := Lib.hid hbl
        clear eo hbl
        go_wp2_with fail
        go_ret
        exact ⟨by rw [HV.out]; rfl, HB.out⟩
  · rw [hI] at hB HI
    have HV := Lib.hid (show brk N S f b x = b from hB)
    clear hf hB hI w1 w2 w3 w4 hN hS
    go_enter Tryd.func50, Tryd.ntmps50
    go_wp2_with (go_at_call 41; refine (HI.out _).mono ?_; rintro e w' ⟨rfl, rfl⟩)
    go_ret
    exact ⟨by rw [HV.out]; rfl, Below.refl _ _⟩
/-- What ByRanks returns. -/
def brErr (n : Int) (len : Nat) (f : Nat → Int) (x : Nat) : Nat := if revErr n len f = 0 then (if x < 2 ^ len then 0 else 2) else revErr n len f
def brV (n : Int) (len : Nat) (f : Nat → Int) (x : Nat) : Nat := if brErr n len f x = 0 then brk len (2 ^ len) f (lst len f (2 ^ len - 1)) x else 0
set_option maxHeartbeats 1000000 in
theorem ByRanks_any (n : Int) (len c x : Nat) (A : Option Addr) (f : Nat → Int) (w : World) (hf : I64s w A len f) (hlen : len ≤ 9223372036854775807) (hx : x < 18446744073709551616) :
    Calls Tryd.prog 19 #[.int .i64 n, .slice A len c, .int .u64 x] w fun e w' => e = .returned (.tuple #[.int .u64 (brV n len f x : Nat), .int .i64 (brErr n len f x : Nat)]) ∧ Below w.heap.size w w' := by
  have hbel := Belief_any n len c A f w hf hlen
  by_cases h0 : revErr n len f = 0
  · obtain ⟨k, rfl, hk, hN, -⟩ := revErr_ok h0
    obtain ⟨S, hS⟩ : ∃ S, S = 2 ^ len := ⟨_, rfl⟩
    obtain ⟨w1, w2, w3, w4, w5, w6⟩ := all_val4 hN hk hS
    have hN16 := pow_le16 hN hk
    have HA := Lib.hid (fun w => ctAll_any k len S w hk hN hS)
    have hE : brErr k len f x = if x < S then 0 else 2 := by unfold brErr; rw [if_pos h0, hS]
    have hBv : belV k len f = lst len f (S - 1) := by unfold belV; rw [if_pos h0, hS]
    rw [h0, hBv] at hbel
    have hbl := lst_lt len f (S - 1)
    rw [← hS] at hbl
    obtain ⟨B, eB⟩ : ∃ B, B = lst len f (S - 1) := ⟨_, rfl⟩
    rw [← eB] at hbel hbl
    have HB := Lib.hid hbel
    have han := bits_andNot x (S - 1) hx (by omega)
    have hsm := sub_mask hS hN16 hx
    obtain ⟨Q, eQ⟩ : ∃ Q, Q = andNot x (S - 1) := ⟨_, rfl⟩
    rw [← eQ] at han hsm
    by_cases hxs : x < S
    · rw [decide_eq_true hxs] at hsm
      have hsm' : ((Q : Int) != 0) = false := hsm
      rw [if_pos hxs] at hE
      have HV := Lib.hid (show brV k len f x = brk len S f B x by unfold brV; rw [if_pos hE, ← hS, eB])
      have HBR := Lib.hid (byRanks_any k len S B x c A f w hf hk hN hS hbl hxs)
      have HE := Lib.hid hE
      clear hsm hE hbel hBv eB eQ h0 hN hS w1 w2 w3 w4
      go_enter Tryd.func19, Tryd.ntmps19
      go_wp2_with (first | (go_at_call 27; refine (HB.out).mono ?_; rintro e w' ⟨rfl, rfl⟩) | (go_at_call 42; refine (HA.out _).mono ?_; rintro e w' ⟨rfl, rfl⟩) | (go_at_call 50; refine HBR.out.mono ?_; rintro e w1 ⟨rfl, hb1⟩; have HB1 := Lib.hid hb1; clear hb1))
      go_ret2
      exact ⟨by rw [HE.out, HV.out]; rfl, HB1.out⟩
    · rw [decide_eq_false hxs] at hsm
      have hsm' : ((Q : Int) != 0) = true := hsm
      rw [if_neg hxs] at hE
      have HV := Lib.hid (show brV k len f x = 0 by unfold brV; rw [if_neg (by rw [hE]; decide)])
      have HE := Lib.hid hE
      clear hsm hE hbel hBv eB eQ h0 hN hS w1 w2 w3 w4
      go_enter Tryd.func19, Tryd.ntmps19
      go_wp2_with (first | (go_at_call 27; refine (HB.out).mono ?_; rintro e w' ⟨rfl, rfl⟩) | (go_at_call 42; refine (HA.out _).mono ?_; rintro e w' ⟨rfl, rfl⟩))
      go_ret2
      exact ⟨by rw [HE.out, HV.out]; rfl, Below.refl _ _⟩
  · have hE : brErr n len f x = revErr n len f := by unfold brErr; rw [if_neg h0]
    have hV : brV n len f x = 0 := by unfold brV; rw [if_neg (by rw [hE]; exact h0)]
    rw [hE, hV]
    obtain ⟨E, eE⟩ : ∃ E, E = revErr n len f := ⟨_, rfl⟩
    obtain ⟨B, eB⟩ : ∃ B, B = belV n len f := ⟨_, rfl⟩
    rw [← eE] at h0 hbel ⊢
    rw [← eB] at hbel
    have hne : ((E : Int) != 0) = true := by rw [bne_iff_ne]; omega
    have HB := Lib.hid hbel
    clear hE hV eE eB hbel
    go_enter Tryd.func19, Tryd.ntmps19
    go_wp2_with (go_at_call 27; refine (HB.out).mono ?_; rintro e w' ⟨rfl, rfl⟩)
    go_ret2
    exact ⟨rfl, Below.refl _ _⟩
/-- The contractions by ranks. -/
def ctT (len : Nat) (f : Nat → Int) (x : Nat) : Nat := brk len (2 ^ len) f (lst len f (2 ^ len - 1)) x
def ctM (n : Int) (len : Nat) (f : Nat → Int) : Nat := if tabE n len f = 0 then 2 ^ len else 0
set_option maxHeartbeats 1000000 in
theorem ctTable_any (n : Int) (len c : Nat) (A : Option Addr) (f : Nat → Int) (w : World) (hf : I64s w A len f) (hlen : len ≤ 9223372036854775807) :
    Calls Tryd.prog 21 #[.int .i64 n, .slice A len c] w (SlcU (tabE n len f) (ctM n len f) (ctT len f) w) := by
  have hbel := Belief_any n len c A f w hf hlen
  by_cases h0 : revErr n len f = 0
  · obtain ⟨k, rfl, hk, hN, -⟩ := revErr_ok h0
    have hE : tabE k len f = if (k : Int) ≤ 3 then 0 else 8 := by unfold tabE; rw [if_pos h0]
    obtain ⟨S, hS⟩ : ∃ S, S = 2 ^ len := ⟨_, rfl⟩
    have hBv : belV k len f = lst len f (S - 1) := by unfold belV; rw [if_pos h0, hS]
    rw [h0, hBv] at hbel
    have hBl := lst_lt len f (S - 1)
    rw [← hS] at hBl
    have hT : ctT len f = brk len S f (lst len f (S - 1)) := by rw [hS]; rfl
    obtain ⟨B, eB⟩ : ∃ B, B = lst len f (S - 1) := ⟨_, rfl⟩
    rw [← eB] at hbel hBl hT
    have HB0 := Lib.hid hbel
    by_cases h3 : (k : Int) ≤ 3
    · have hd2 : decide (3 < (k : Int)) = false := decide_eq_false (by omega)
      rw [if_pos h3] at hE
      have hM : ctM k len f = S := by unfold ctM; rw [if_pos hE, hS]
      rw [hE, hM, hT]
      obtain ⟨w1, w2, w3, w4, w5, w6⟩ := all_val4 hN hk hS
      have hN8 : len ≤ 8 := by rw [hN]; exact Nat.le_trans (Nat.pow_le_pow_right (n := 2) (j := 3) (by decide) (by omega)) (by decide)
      have hS256 : S ≤ 256 := by rw [hS]; exact Nat.pow_le_pow_right (n := 2) (j := 8) (by decide) hN8
      have HA := Lib.hid (fun w => ctAll_any k len S w hk hN hS)
      have hup : IntKind.u64.wrap (((S - 1 : Nat) : Int) + 1) = (S : Int) := by rw [IntKind.wrap_u64]; omega
      have HBR := Lib.hid (fun W x (hW : I64s W A len f) (hx : x < S) => byRanks_any k len S B x c A f W hW hk hN hS hBl hx)
      have HTL := Lib.hid (fun x => brk_lt (N := len) (f := f) (x := x) hS hBl)
      have HX := Lib.hid hf
      clear hf hbel hBv hE hM hT eB h0 h3 hN hS w1 w2 w3 w4
      go_enter Tryd.func21, Tryd.ntmps21
      go_wp2_with (first | (go_at_call 27; refine (HB0.out).mono ?_; rintro e w' ⟨rfl, rfl⟩) | (go_at_call 42; refine (HA.out _).mono ?_; rintro e w' ⟨rfl, rfl⟩))
      go_loopw [8, 24] (fun o i wr => ∃ u : Nat, u ≤ S ∧ i = .int .u64 u ∧ wr.ownsRow w.heap.size 22 1 o u (u64L (brk len S f B) u) ∧ Below w.heap.size w wr) (fun _ i _ => S - (intOf i).toNat)
      case atStart => exact ⟨0, Nat.zero_le _, rfl, World.ownsRow_nil _ _ _ _, Below.refl _ _⟩
      case round =>
        obtain ⟨u, hu, rfl, hown, hbl⟩ := hrel
        by_cases hult : u < S
        · have hcall := Lib.hid (HBR.out wr u (HX.out.below hbl) hult)
          have HSU := Lib.hid (u64L_succ (brk len S f B) u)
          obtain ⟨y, ey⟩ : ∃ y, y = brk len S f B u := ⟨_, rfl⟩
          rw [← ey] at hcall HSU
          have HO := Lib.hid hown
          have HB := Lib.hid hbl
          clear hown hbl ey
          go_wp2_with fail
          refine hcall.out.mono ?_
          rintro e w2 ⟨rfl, hst⟩
          have hown := own_below HO.out hst (Nat.le_refl _)
          have hbl := HB.out.trans (hst.mono HB.out.size)
          have hsz := hbl.size
          clear hst
          go_wp2_with (at_builtin; obtain ⟨i0, hi, hz0, hz1, hz2⟩ := info_parts Tryd.infoU64; refine wpList_append_own _ rfl _ _ 23 rfl w.heap.size 22 i0 (.int .u64 0) 1 8 Tryd.underlying23 hi hz0 hz1 hz2 rfl (by decide) _ _ _ rfl (hown.alloc _) ⟨w2.heap.size, 0, none⟩ 1 1 [.int .u64 (y : Nat)] rfl rfl (cell_one_new _ _ _) (one_oneCell rfl) (by unfold maxLen; omega) (by omega) (by simp; omega) ?_; intro v' w3 hown' hgrow _)
          go_roundw
          case rel => exact ⟨u + 1, by omega, by go_num, by rw [HSU.out]; exact hown', (hbl.alloc hsz _).grown hgrow (by simp; omega) (fun k hk => (hown.lt k hk).1)⟩
          case measure => simp [intOf]; omega
        · obtain rfl : u = S := by omega
          obtain ⟨A2, c2, rfl, hu64, _⟩ := own_u64s hown (fun x _ => by have := HTL.out x; omega)
          have HU := Lib.hid hu64
          have HB := Lib.hid hbl
          clear hown hbl hu64
          go_wp2_with fail
          go_ret2
          exact ⟨_, _, rfl, HU.out, HB.out⟩
    · have hd2 : decide (3 < (k : Int)) = true := decide_eq_true (by omega)
      rw [if_neg h3] at hE
      have hM : ctM k len f = 0 := by unfold ctM; rw [if_neg (by rw [hE]; decide)]
      rw [hE, hM]
      clear hf hbel hBv hE hM hT eB h0 h3 hN hS
      go_enter Tryd.func21, Tryd.ntmps21
      go_wp2_with (go_at_call 27; refine (HB0.out).mono ?_; rintro e w' ⟨rfl, rfl⟩)
      go_ret2
      exact ⟨none, 0, rfl, u64s_nil _ _ _, Below.refl _ _⟩
  · have hE : tabE n len f = revErr n len f := by unfold tabE; rw [if_neg h0]
    have hM : ctM n len f = 0 := by unfold ctM; rw [if_neg (by rw [hE]; exact h0)]
    rw [hE, hM]
    obtain ⟨E, eE⟩ : ∃ E, E = revErr n len f := ⟨_, rfl⟩
    obtain ⟨B, eB⟩ : ∃ B, B = belV n len f := ⟨_, rfl⟩
    rw [← eE] at h0 hbel ⊢
    rw [← eB] at hbel
    have hne : ((E : Int) != 0) = true := by rw [bne_iff_ne]; omega
    have HB := Lib.hid hbel
    clear hE hM eE eB hbel
    go_enter Tryd.func21, Tryd.ntmps21
    go_wp2_with (go_at_call 27; refine (HB.out).mono ?_; rintro e w' ⟨rfl, rfl⟩)
    go_ret2
    exact ⟨none, 0, rfl, u64s_nil _ _ _, Below.refl _ _⟩
end Go.Proofs.YtiifmdgcnpdibaaDoor
