/-
  Walks: package postulates: Revision at all arguments; Order.
-/
import Derived.Test.YtlcojpopngdigaaDoorProg
import Derived.Test.YtlcojpopngdigaaDoorBase
import Derived.Test.YtlcojpopngdigaaDoorRow
import Derived.Test.YtlcojpopngdigaaDoorPoP
import Derived.Test.YtlcojpopngdigaaDoorPoQ
import Derived.Test.YtlcojpopngdigaaDoorPoA
import Derived.Test.YtlcojpopngdigaaDoorPoB
import Derived.Test.YtlcojpopngdigaaDoorPoC
import Derived.Test.YtlcojpopngdigaaDoorPoD
namespace Go.Proofs.YtlcojpopngdigaaDoor
open Go.RowKit

def setsZ (n : Int) : Nat := 2 ^ 2 ^ n.toNat
def rvErr (n : Int) (kb len : Nat) (T : Nat → Nat) : Nat := if 0 ≤ n ∧ n ≤ 3 then (if kb < setsZ n then tabErr (setsZ n) len T else 2) else 2
theorem tabErr_len {S n : Nat} {f : Nat → Nat} (h : tabErr S n f = 0) : n = S := by
  unfold tabErr at h
  by_cases e : n = S
  · exact e
  · rw [if_neg e] at h; cases h
theorem rvErr_ok {n : Int} {kb len : Nat} {T : Nat → Nat} (h : rvErr n kb len T = 0) : ∃ k : Nat, n = k ∧ k ≤ 3 ∧ len = 2 ^ 2 ^ k ∧ kb < 2 ^ 2 ^ k ∧ tabErr (2 ^ 2 ^ k) (2 ^ 2 ^ k) T = 0 := by
  unfold rvErr at h
  by_cases h1 : 0 ≤ n ∧ n ≤ 3
  · rw [if_pos h1] at h
    by_cases h2 : kb < setsZ n
    · rw [if_pos h2] at h
      have h3 := tabErr_len h
      rw [h3] at h
      exact ⟨n.toNat, by omega, by omega, h3, h2, h⟩
    · rw [if_neg h2] at h; cases h
  · rw [if_neg h1] at h; cases h
set_option maxHeartbeats 1000000 in
theorem Revision_err (n : Int) (kb len c : Nat) (A : Option Addr) (T : Nat → Nat) (w : World) (hT : U64s w A len T) (hlen : len ≤ 9223372036854775807) (_hkb : kb < 18446744073709551616) (he : rvErr n kb len T ≠ 0) :
    Calls Tryd.prog 9 #[.int .i64 n, .int .u64 kb, .slice A len c] w fun e w' => e = .returned (.tuple #[.int .i64 0, .int .u64 0, .int .u64 0, .int .i64 (rvErr n kb len T : Nat)]) ∧ Below w.heap.size w w' := by
  by_cases h0 : n < 0
  · have hd1 : decide (n < 0) = true := decide_eq_true h0
    have HE := Lib.hid (show rvErr n kb len T = 2 from if_neg (by omega))
    clear he h0 hT
    go_enter Tryd.func9, Tryd.ntmps9
    go_wp2_with fail
    go_returns
    exact ⟨by rw [HE.out]; rfl, Below.refl _ _⟩
  · have hd1 : decide (n < 0) = false := decide_eq_false h0
    by_cases h3 : 3 < n
    · have hd2 : decide (3 < n) = true := decide_eq_true h3
      have HE := Lib.hid (show rvErr n kb len T = 2 from if_neg (by omega))
      clear he h0 h3 hT
      go_enter Tryd.func9, Tryd.ntmps9
      go_wp2_with fail
      go_returns
      exact ⟨by rw [HE.out]; rfl, Below.refl _ _⟩
    · obtain ⟨k, rfl⟩ : ∃ k : Nat, n = k := ⟨n.toNat, by omega⟩
      have hk : k ≤ 3 := by omega
      have hd2 : decide (3 < (k : Int)) = false := decide_eq_false h3
      obtain ⟨S, hS⟩ : ∃ S, S = 2 ^ 2 ^ k := ⟨_, rfl⟩
      have hS2 := sets_le hk hS
      by_cases hb : kb < S
      · have hd3 : decide (S ≤ kb) = false := decide_eq_false (by omega)
        have e1 : rvErr k kb len T = tabErr S len T := by
          unfold rvErr; rw [if_pos (by omega), show setsZ k = S from hS.symm, if_pos hb]
        have hte := table_any A len c k S T w hT hlen hk hS
        rw [← e1] at hte
        have HTE := Lib.hid hte
        have hne : ((rvErr k kb len T : Int) != 0) = true := by rw [bne_iff_ne]; omega
        have HS := Lib.hid hS
        clear hT hte e1 he h0 h3 hS
        go_enter Tryd.func9, Tryd.ntmps9
        go_wp2_with (first | (go_at_call 21; refine (sets_any k S _ hk HS.out).mono ?_; rintro e w' ⟨rfl, rfl⟩) | (go_at_call 22; refine HTE.out.mono ?_; rintro e w1 ⟨rfl, hb1⟩; have HB := Lib.hid hb1; clear hb1))
        go_returns
        exact ⟨rfl, HB.out⟩
      · have hd3 : decide (S ≤ kb) = true := decide_eq_true (by omega)
        have HE := Lib.hid (show rvErr k kb len T = 2 by unfold rvErr; rw [if_pos (by omega), show setsZ k = S from hS.symm, if_neg hb])
        have HS := Lib.hid hS
        clear he h0 h3 hT hb hS
        go_enter Tryd.func9, Tryd.ntmps9
        go_wp2_with (first | (go_at_call 21; refine (sets_any k S _ hk HS.out).mono ?_; rintro e w' ⟨rfl, rfl⟩))
        go_returns
        exact ⟨by rw [HE.out]; rfl, Below.refl _ _⟩
/-- The results of Revision. -/
def rvM (n : Int) (kb len : Nat) (T : Nat → Nat) : Nat := if rvErr n kb len T = 0 then rvMask (setsZ n) kb T 6 else 0
def rvA (n : Int) (kb len : Nat) (T : Nat → Nat) : Nat := if rvErr n kb len T = 0 then rvX (setsZ n) kb T 6 else 0
def rvC (n : Int) (kb len : Nat) (T : Nat → Nat) : Nat := if rvErr n kb len T = 0 then rvY (setsZ n) kb T 6 else 0
theorem Revision_any (n : Int) (kb len c : Nat) (A : Option Addr) (T : Nat → Nat) (w : World) (hL : LaidR w) (hT : U64s w A len T) (hlen : len ≤ 9223372036854775807) (hkb : kb < 18446744073709551616) :
    Calls Tryd.prog 9 #[.int .i64 n, .int .u64 kb, .slice A len c] w fun e w' => e = .returned (.tuple #[.int .i64 (rvM n kb len T : Nat), .int .u64 (rvA n kb len T : Nat), .int .u64 (rvC n kb len T : Nat), .int .i64 (rvErr n kb len T : Nat)]) ∧ Below w.heap.size w w' := by
  by_cases he : rvErr n kb len T = 0
  · obtain ⟨k, rfl, hk, rfl, hb, ht⟩ := rvErr_ok he
    have h := Revision_in k _ kb c A T w hL hT hk rfl hb ht
    have e1 : rvM k kb (2 ^ 2 ^ k) T = rvMask (2 ^ 2 ^ k) kb T 6 := if_pos he
    have e2 : rvA k kb (2 ^ 2 ^ k) T = rvX (2 ^ 2 ^ k) kb T 6 := if_pos he
    have e3 : rvC k kb (2 ^ 2 ^ k) T = rvY (2 ^ 2 ^ k) kb T 6 := if_pos he
    rw [e1, e2, e3, he]
    exact h
  · have h := Revision_err n kb len c A T w hT hlen hkb he
    have e1 : rvM n kb len T = 0 := if_neg he
    have e2 : rvA n kb len T = 0 := if_neg he
    have e3 : rvC n kb len T = 0 := if_neg he
    rw [e1, e2, e3]
    exact h

/-- The error of Order. -/
def orErr (n : Int) (kb len : Nat) (T : Nat → Nat) : Nat := if rvErr n kb len T = 0 then (if rvM n kb len T = 63 then 0 else 6) else rvErr n kb len T
theorem Order_err (n : Int) (kb len c : Nat) (A : Option Addr) (T : Nat → Nat) (w : World) (hL : LaidR w) (hT : U64s w A len T) (hlen : len ≤ 9223372036854775807) (hkb : kb < 18446744073709551616) (he : orErr n kb len T ≠ 0) :
    Calls Tryd.prog 10 #[.int .i64 n, .int .u64 kb, .slice A len c] w fun e w' => e = .returned (.tuple #[.slice none 0 0, .int .i64 (orErr n kb len T : Nat)]) ∧ Below w.heap.size w w' := by
  have HR := Lib.hid (Revision_any n kb len c A T w hL hT hlen hkb)
  obtain ⟨bG, oG, cG, gG, -⟩ := hL
  have GG := Lib.hid gG
  by_cases h0 : rvErr n kb len T = 0
  · have e1 : orErr n kb len T = if rvM n kb len T = 63 then 0 else 6 := if_pos h0
    by_cases h1 : rvM n kb len T = 63
    · rw [e1, if_pos h1] at he; exact absurd rfl he
    · rw [if_neg h1] at e1
      have h2 : ((rvErr n kb len T : Int) != 0) = false := by rw [h0]; rfl
      have h3 : ((rvM n kb len T : Int) != 63) = true := by rw [bne_iff_ne]; omega
      have HE := Lib.hid e1
      clear he h0 e1 h1 hT gG
      go_enter Tryd.func10, Tryd.ntmps10
      go_wp2_with (go_at_call 9; refine HR.out.mono ?_; rintro e w1 ⟨rfl, hb1⟩; have g0 := cell_below hb1 GG.out; have HB := Lib.hid hb1; clear hb1)
      go_ret2
      exact ⟨by rw [HE.out]; rfl, HB.out⟩
  · have e1 : orErr n kb len T = rvErr n kb len T := if_neg h0
    have h2 : ((rvErr n kb len T : Int) != 0) = true := by rw [bne_iff_ne]; omega
    have HE := Lib.hid e1
    clear he h0 e1 hT gG
    go_enter Tryd.func10, Tryd.ntmps10
    go_wp2_with (go_at_call 9; refine HR.out.mono ?_; rintro e w1 ⟨rfl, hb1⟩; have HB := Lib.hid hb1; clear hb1)
    go_ret2
    exact ⟨by rw [HE.out]; rfl, HB.out⟩

/-- The ranks that Order returns. -/
def OrdPost (N : Nat) (g : Nat → Nat) (w : World) (e : Ending) (w' : World) : Prop :=
  ∃ B, e = .returned (.tuple #[.slice (some ⟨B, 0, none⟩) N N, .int .i64 0]) ∧ RowI w' B N g ∧ Below w.heap.size w w'
def lowAt (_N : Nat) (T : Nat → Nat) (left v w : Nat) : Bool := allB w (fun w => !left.testBit w || (T (2 ^ v ||| 2 ^ w)).testBit v)
theorem allB_succ (n : Nat) (p : Nat → Bool) : allB (n + 1) p = (allB n p && p n) := by
  unfold allB; rw [List.range_succ, List.all_append]; simp
theorem lowAt_succ (N : Nat) (T : Nat → Nat) (left v w : Nat) : lowAt N T left v (w + 1) = (lowAt N T left v w && (!left.testBit w || (T (2 ^ v ||| 2 ^ w)).testBit v)) := allB_succ _ _

set_option maxHeartbeats 4000000 in
set_option maxRecDepth 100000 in
theorem Order_in (k N S kb c : Nat) (A : Option Addr) (T : Nat → Nat) (w : World) (hL : LaidR w) (hT : U64s w A S T) (hk : k ≤ 3) (hN : N = 2 ^ k) (hS : S = 2 ^ N) (hkb : kb < S) (ht : tabErr S S T = 0) (hm : rvMask S kb T 6 = 63) :
    Calls Tryd.prog 10 #[.int .i64 k, .int .u64 kb, .slice A S c] w (OrdPost N (rankN S T S) w) := by
  have hSk : S = 2 ^ 2 ^ k := by rw [hS, hN]
  have hS2 := sets_le hk hSk
  have hN8 : N ≤ 8 := by rw [hN]; exact Nat.le_trans (Nat.pow_le_pow_right (by decide) hk) (by decide)
  have hw := wrap_pow hN (by omega)
  have hok := rvOk_of hS2.1 hS2.2 (tab_lt ht) hm
  have hR := Revision_in k S kb c A T w hL hT hk hSk hkb ht
  rw [hm] at hR
  have HR := Lib.hid hR
  obtain ⟨bG, oG, cG, gG, -⟩ := hL
  have GG := Lib.hid gG
  have hmk := run_make_row' (P := Tryd.prog) 22 3 (.int .i64 0) 8 Tryd.underlying22 Tryd.infoInt rfl .i64 .i64 N (by omega) (by omega)
  have HT := Lib.hid hT
  have HN := Lib.hid hN
  have HS := Lib.hid hS
  have HSK := Lib.hid hSk
  have OK := Lib.hid hok
  clear hR hT hN hS hSk hok ht hm gG
  go_enter Tryd.func10, Tryd.ntmps10
  go_wp2_with (first | (go_at_call 21; refine (sets_any k S _ hk HSK.out).mono ?_; rintro e w' ⟨rfl, rfl⟩) | (go_at_call 9; refine HR.out.mono ?_; rintro e w1 ⟨rfl, hb1⟩; have g0 := cell_below hb1 GG.out; have HB := Lib.hid hb1; clear hb1))
  have hrow := RowI.made w1 N 3
  have hbl := HB.out.trans ((below_alloc w1 (.cells (madeCells #[.int .i64 0] N) 3)).mono HB.out.size)
  have hsz := HB.out.size
  clear hmk g0 HB
  generalize hBB : w1.heap.size = BB at hrow hsz ⊢
  clear hBB
  generalize w1.alloc (.cells (madeCells #[.int .i64 0] N) 3) = W at hrow hbl ⊢
  have HW := Lib.hid hbl
  have HRo := Lib.hid hrow
  clear hrow hbl
  go_loopw [13, 14] (fun lv rv wr => ∃ j : Nat, j ≤ S ∧ lv = .int .u64 (leftN S T j : Nat) ∧ rv = .int .i64 j ∧ RowI wr BB N (rankN S T j) ∧ Below w.heap.size w wr) (fun lv _ _ => (intOf lv).toNat)
  case atStart =>
    refine ⟨0, Nat.zero_le _, ?_, rfl, HRo.out, HW.out⟩
    show Value.int .u64 _ = Value.int .u64 ((S - 1 : Nat) : Int)
    congr 1
    omega
  case round =>
    clear HW HRo
    obtain ⟨j, hj, rfl, rfl, hrow, hbl⟩ := hrel
    have hll := left_lt hS2.1 OK.out j
    obtain ⟨left, el⟩ : ∃ left : Nat, left = leftN S T j := ⟨_, rfl⟩
    have EL := Lib.hid el
    rw [← el] at hll ⊢
    have HRo := Lib.hid hrow
    have HB := Lib.hid hbl
    clear hrow hbl el
    by_cases hl0 : left = 0
    · have h1 : ((left : Int) != 0) = false := by rw [hl0]; rfl
      have HE := Lib.hid (rank_end hS2.1 OK.out (by rw [← EL.out]; exact hl0) hj)
      clear hl0
      go_wp2_with fail
      go_ret2
      exact ⟨BB, rfl, by rw [HE.out]; exact HRo.out, HB.out⟩
    · have h1 : ((left : Int) != 0) = true := by rw [bne_iff_ne]; omega
      go_wp2_with fail
      obtain ⟨gg, hgg⟩ : ∃ gg : Nat → Nat → Nat, gg = fun v u => if u < v ∧ lowB N T left u = true then j else rankN S T j u := ⟨_, rfl⟩
      have GE := Lib.hid hgg
      have hg0 : Hid (RowI wr BB N (gg 0)) := Lib.hid (HRo.out.congr fun u hu => by rw [hgg]; dsimp only; rw [if_neg (fun h => absurd h.1 (Nat.not_lt_zero _))])
      clear hgg HRo
      go_loopw [15, 51] (fun ov iv wr => ∃ v : Nat, v ≤ N ∧ iv = .int .i64 v ∧ ov = .int .u64 (mkSet v (lowB N T left) : Nat) ∧ RowI wr BB N (gg v) ∧ Below w.heap.size w wr) (fun _ iv _ => N - (intOf iv).toNat)
      case atStart => exact ⟨0, Nat.zero_le _, rfl, rfl, hg0.out, HB.out⟩
      case round =>
        clear HB hg0
        obtain ⟨v, hv, rfl, rfl, hrow, hbl⟩ := hrel
        obtain ⟨ms, ems⟩ : ∃ ms : Nat, ms = mkSet v (lowB N T left) := ⟨_, rfl⟩
        have HMS := Lib.hid ems
        rw [← ems]
        clear ems
        by_cases hlt : v < N
        · have hbit := bits_hasnt' left v (by omega) (by omega)
          have HRo := Lib.hid hrow
          have HB := Lib.hid hbl
          clear hrow hbl
          cases hb : left.testBit v
          · rw [hb] at hbit
            have hbit' : (bits .and .u64 ((left : Int) / 2 ^ v) 1 == 0) = true := hbit
            have hlo : lowB N T left v = false := by unfold lowB; rw [hb]; rfl
            have HNO := Lib.hid (mkSet_succ_no hlo)
            have HG2 : Hid (∀ u, u < N → gg v u = gg (v + 1) u) := Lib.hid fun u hu => by
              rw [GE.out]
              dsimp only
              by_cases h2 : u = v
              · subst h2; rw [if_neg (by omega), if_neg (by rw [hlo]; exact fun h => by cases h.2)]
              · by_cases h3 : u < v ∧ lowB N T left u = true
                · rw [if_pos h3, if_pos ⟨by omega, h3.2⟩]
                · rw [if_neg h3, if_neg fun h => h3 ⟨by omega, h.2⟩]
            clear hlo
            go_wp2_with fail
            go_roundw
            case rel => exact ⟨v + 1, by omega, by go_num, by rw [HNO.out, HMS.out], HRo.out.congr HG2.out, HB.out⟩
            case measure => simp [intOf]; omega
          · rw [hb] at hbit
            have hbit' : (bits .and .u64 ((left : Int) / 2 ^ v) 1 == 0) = false := hbit
            obtain ⟨P, eP⟩ : ∃ P : Nat, P = 2 ^ v := ⟨_, rfl⟩
            have hsh := shl_one eP (by omega)
            have hPl : P < 256 := by rw [eP]; exact Nat.pow_lt_pow_right (n := 8) (by decide) (by omega)
            have HP := Lib.hid eP
            clear eP
            go_wp2_with fail
            go_loopw [17, 61] (fun ov iv wr => ∃ u : Nat, u ≤ N ∧ iv = .int .i64 u ∧ ov = .bool (lowAt N T left v u) ∧ RowI wr BB N (gg v) ∧ Below w.heap.size w wr) (fun _ iv _ => N - (intOf iv).toNat)
            case atStart => exact ⟨0, Nat.zero_le _, rfl, rfl, HRo.out, HB.out⟩
            case round =>
              clear HB HRo
              obtain ⟨u, hu, rfl, rfl, hrow, hbl⟩ := hrel
              by_cases hltu : u < N
              · obtain ⟨Q, eQ⟩ : ∃ Q : Nat, Q = 2 ^ u := ⟨_, rfl⟩
                have hshu := shl_one eQ (by omega)
                have hQl : Q < 256 := by rw [eQ]; exact Nat.pow_lt_pow_right (n := 8) (by decide) (by omega)
                obtain ⟨R, eR⟩ : ∃ R : Nat, R = P ||| Q := ⟨_, rfl⟩
                have hor : bits .or .u64 (P : Int) (Q : Int) = (R : Int) := by rw [u64_or_nat _ _ (by omega) (by omega), eR]
                have hRl : R < S := by rw [eR, eQ, HP.out, HS.out]; exact pair_lt hlt hltu
                have hTu := (HT.out.below hbl) R hRl
                obtain ⟨b, off, rfl, hc, hl⟩ := hTu
                have hb1 := bits_hasnt' left u (by omega) (by omega)
                have hb2 := bits_has' (T R) v hl (by omega)
                have hsu := lowAt_succ N T left v u
                rw [show 2 ^ v ||| 2 ^ u = R by rw [eR, eQ, HP.out]] at hsu
                obtain ⟨l0, el0⟩ : ∃ l0, l0 = lowAt N T left v u := ⟨_, rfl⟩
                obtain ⟨l1, el1⟩ : ∃ l1, l1 = lowAt N T left v (u + 1) := ⟨_, rfl⟩
                rw [← el0, ← el1] at hsu
                rw [← el0]
                have HL1 := Lib.hid el1
                have HRo := Lib.hid hrow
                have HB := Lib.hid hbl
                have hRb : (R : Int) < (S : Int) := by omega
                clear eQ eR el0 el1 hrow hbl
                cases l0
                · have H1 := Lib.hid (show l1 = false by rw [hsu, Bool.false_and])
                  clear hsu hb1 hb2
                  go_wp2_with fail
                  go_quiet (fail)
                  go_wp2_with fail
                  go_roundw
                  case rel => exact ⟨u + 1, by omega, by go_num, by rw [← HL1.out, H1.out], HRo.out.below (below_drewN (Below.refl _ _) _), HB.out.trans (below_drewN (Below.refl _ _) _)⟩
                  case measure => simp [intOf]; omega
                · cases hlu : left.testBit u
                  · have H1 := Lib.hid (show l1 = true by rw [hsu, hlu]; rfl)
                    rw [hlu] at hb1
                    have hb1' : (bits .and .u64 ((left : Int) / 2 ^ u) 1 == 0) = true := hb1
                    clear hsu hb2
                    go_wp2_with fail
                    go_quiet (fail)
                    go_wp2_with fail
                    go_roundw
                    case rel => exact ⟨u + 1, by omega, by go_num, by rw [← HL1.out, H1.out], HRo.out.below (below_drewN (Below.refl _ _) _), HB.out.trans (below_drewN (Below.refl _ _) _)⟩
                    case measure => simp [intOf]; omega
                  · have H1 := Lib.hid (show l1 = (T R).testBit v by rw [hsu, hlu]; rfl)
                    rw [hlu] at hb1
                    have hb1' : (bits .and .u64 ((left : Int) / 2 ^ u) 1 == 0) = false := hb1
                    clear hsu
                    go_wp2_with fail
                    go_quiet (fail)
                    go_wp2_with fail
                    go_roundw
                    case rel => exact ⟨u + 1, by omega, by go_num, by rw [← HL1.out, H1.out], HRo.out.below (below_drewN (Below.refl _ _) _), HB.out.trans (below_drewN (Below.refl _ _) _)⟩
                    case measure => simp [intOf]; omega
              · obtain rfl : u = N := by omega
                have hlo : lowB u T left v = lowAt u T left v u := by unfold lowB; rw [hb]; rfl
                obtain ⟨l0, el0⟩ : ∃ l0, l0 = lowAt u T left v u := ⟨_, rfl⟩
                rw [← el0] at hlo ⊢
                clear el0
                cases l0
                · have HNO := Lib.hid (mkSet_succ_no hlo)
                  have HG2 : Hid (∀ x, x < u → gg v x = gg (v + 1) x) := Lib.hid fun x hx => by
                    rw [GE.out]
                    dsimp only
                    by_cases h2 : x = v
                    · subst h2; rw [if_neg (by omega), if_neg (by rw [hlo]; exact fun h => by cases h.2)]
                    · by_cases h3 : x < v ∧ lowB u T left x = true
                      · rw [if_pos h3, if_pos ⟨by omega, h3.2⟩]
                      · rw [if_neg h3, if_neg fun h => h3 ⟨by omega, h.2⟩]
                  have HRo := Lib.hid hrow
                  have HB := Lib.hid hbl
                  clear hlo hrow hbl
                  go_wp2_with fail
                  go_roundw
                  case rel => exact ⟨v + 1, by omega, by go_num, by rw [HNO.out, HMS.out], HRo.out.congr HG2.out, HB.out⟩
                  case measure => simp [intOf]; omega
                · have hor := or_mkSet (u := v) (p := lowB u T left) HP.out (by omega) hlo
                  rw [← HMS.out] at hor
                  have HG2 : Hid (∀ x, x < u → upd (gg v) v j x = gg (v + 1) x) := Lib.hid fun x hx => by
                    rw [GE.out]
                    unfold upd
                    dsimp only
                    by_cases h2 : x = v
                    · subst h2; rw [if_pos rfl, if_pos ⟨by omega, hlo⟩]
                    · rw [if_neg h2]
                      by_cases h3 : x < v ∧ lowB u T left x = true
                      · rw [if_pos h3, if_pos ⟨by omega, h3.2⟩]
                      · rw [if_neg h3, if_neg fun h => h3 ⟨by omega, h.2⟩]
                  obtain ⟨hcv, hfv⟩ := hrow v hlt
                  have HRo := Lib.hid hrow
                  have HB := Lib.hid hbl
                  clear hlo hrow hbl
                  go_wp2_with fail
                  go_roundw
                  case rel => exact ⟨v + 1, by omega, by go_num, rfl, (HRo.out.set' hlt rfl).congr HG2.out, HB.out.setCell hsz _⟩
                  case measure => simp [intOf]; omega
        · obtain rfl : v = N := by omega
          have hmt : ms = T left := by rw [HMS.out]; exact low_eq HS.out OK.out hll hl0
          have hlo0 : ((T left : Int) == 0) = false := by rw [beq_eq_false_iff_ne]; have := OK.out.r3 left hll hl0; omega
          have hTl := OK.out.lt left hll
          have han := bits_andNot left (T left) (by omega) (by omega)
          have HNX := Lib.hid (show leftN S T (j + 1) = andNot left (T left) by rw [EL.out]; rfl)
          have hlt2 := left_le hS2.1 hS2.2 OK.out (by rw [← EL.out]; exact hl0)
          rw [← EL.out, HNX.out] at hlt2
          have hjb := left_bound hS2.1 hS2.2 OK.out j (by rw [← EL.out]; exact hl0)
          rw [← EL.out] at hjb
          have HG2 : Hid (∀ x, x < v → gg v x = rankN S T (j + 1) x) := Lib.hid fun x hx => by
            rw [GE.out]
            show (if x < v ∧ lowB v T left x = true then j else rankN S T j x) = if (T (leftN S T j)).testBit x = true then j else rankN S T j x
            rw [← EL.out]
            have hbx : (T left).testBit x = lowB v T left x := by rw [← low_eq HS.out OK.out hll hl0, testBit_mkSet, decide_eq_true hx, Bool.true_and]
            rw [hbx]
            by_cases h3 : lowB v T left x = true
            · rw [if_pos ⟨hx, h3⟩, if_pos h3]
            · rw [if_neg fun h => h3 h.2, if_neg h3]
          have HRo := Lib.hid hrow
          have HB := Lib.hid hbl
          have HJ := Lib.hid hjb
          subst hmt
          clear hrow hbl hjb
          go_wp2_with fail
          go_roundw
          case rel => exact ⟨j + 1, by have := HJ.out; omega, by rw [HNX.out], by go_num, HRo.out.congr HG2.out, HB.out⟩
          case measure => simp only [intOf, Int.toNat_natCast]; exact hlt2
end Go.Proofs.YtlcojpopngdigaaDoor
