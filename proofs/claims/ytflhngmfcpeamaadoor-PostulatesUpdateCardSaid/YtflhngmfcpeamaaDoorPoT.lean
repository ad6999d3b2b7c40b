/-
  Walks: package postulates: least, Table, Faithful.
-/
import Derived.Test.YtflhngmfcpeamaaDoorProg
import Derived.Test.YtflhngmfcpeamaaDoorBase
import Derived.Test.YtflhngmfcpeamaaDoorRow
import Derived.Test.YtflhngmfcpeamaaDoorRowU
import Derived.Test.YtflhngmfcpeamaaDoorLeast
import Derived.Test.YtflhngmfcpeamaaDoorPoA
import Derived.Test.YtflhngmfcpeamaaDoorPoB
import Derived.Test.YtflhngmfcpeamaaDoorPoE
import Derived.Test.YtflhngmfcpeamaaDoorPoM
namespace Go.Proofs.YtflhngmfcpeamaaDoor
open Go.RowKit

set_option maxHeartbeats 1000000 in
theorem least_any (A : Option Addr) (n c s : Nat) (f : Nat → Int) (w : World) (hx : I64s w A n f) (hn : n ≤ 63) (hs : s < 18446744073709551616) :
    Calls Tryd.prog 39 #[.slice A n c, .int .u64 s] w fun e w' => e = .returned (.int .u64 (tabF f n s)) ∧ w = w' := by
  have HX := Lib.hid hx
  clear hx
  go_enter Tryd.func39, Tryd.ntmps39
  go_wp2
  go_loop [5, 6, 11] (fun o bv i => ∃ v : Nat, v ≤ n ∧ i = .int .i64 v ∧ o = .int .u64 (leastP s f v).1 ∧ bv = .int .i64 (leastP s f v).2) (fun _ _ i => n - (intOf i).toNat)
  case atStart => exact ⟨0, Nat.zero_le _, rfl, rfl, rfl⟩
  case round =>
    obtain ⟨v, hv, rfl, rfl, rfl⟩ := hrel
    by_cases hlt : v < n
    · obtain ⟨b, off, rfl, hc, hr1, hr2⟩ := HX.out v hlt
      have HS := Lib.hid (show leastP s f (v + 1) = if s.testBit v = false then leastP s f v
        else if (leastP s f v).1 = 0 ∨ f v < (leastP s f v).2 then (2 ^ v, f v)
        else if f v = (leastP s f v).2 then ((leastP s f v).1 ||| 2 ^ v, (leastP s f v).2)
        else leastP s f v from rfl)
      have hol := Nat.lt_trans (leastP_lt s f v) (pow_lt64 (k := v) (by omega))
      have hbit := bits_hasnt' s v hs (by omega)
      obtain ⟨o, eo⟩ : ∃ o, o = (leastP s f v).1 := ⟨_, rfl⟩
      obtain ⟨q, eq⟩ : ∃ q, q = (leastP s f v).2 := ⟨_, rfl⟩
      obtain ⟨r, er⟩ : ∃ r, r = f v := ⟨_, rfl⟩
      rw [← eo] at hol
      rw [← er] at hc hr1 hr2
      rw [← eo, ← eq]
      rw [← eo, ← eq, ← er] at HS
      have EO := Lib.hid eo
      have EQ := Lib.hid eq
      clear eo eq er
      cases hb : s.testBit v
      · rw [hb] at hbit
        have hbit' : (bits .and .u64 ((s : Int) / 2 ^ v) 1 == 0) = true := hbit
        go_wp2
        have hv1 := HS.out
        rw [if_pos hb] at hv1
        exact ⟨⟨v + 1, by omega, by go_num, by rw [hv1, ← EO.out], by rw [hv1, ← EQ.out]⟩, by simp [intOf]; omega⟩
      · rw [hb] at hbit
        have hbit' : (bits .and .u64 ((s : Int) / 2 ^ v) 1 == 0) = false := hbit
        obtain ⟨P, hP⟩ : ∃ P : Nat, P = 2 ^ v := ⟨_, rfl⟩
        have hPl : P < 18446744073709551616 := by rw [hP]; exact pow_lt64 (by omega)
        have hsh := shl_one hP (by omega)
        have hor : bits .or .u64 (o : Int) (P : Int) = ((o ||| P : Nat) : Int) := u64_or_nat _ _ hol hPl
        have hor0 : bits .or .u64 0 (P : Int) = (P : Int) := by
          have := u64_or_nat 0 P (by decide) hPl
          rw [Nat.zero_or] at this; exact this
        have HP := Lib.hid hP
        clear hP
        by_cases h0 : o = 0
        · have h1 : ((o : Int) == 0) = true := by rw [h0]; rfl
          go_wp2
          have hv1 := HS.out
          rw [if_neg (by rw [hb]; exact fun h => by cases h), if_pos (.inl h0)] at hv1
          exact ⟨⟨v + 1, by omega, by go_num, by rw [hv1, HP.out], by rw [hv1]⟩, by simp [intOf]; omega⟩
        · have h1 : ((o : Int) == 0) = false := by rw [beq_eq_false_iff_ne]; omega
          by_cases h2 : r < q
          · have h2' : decide (r < q) = true := decide_eq_true h2
            go_wp2
            have hv1 := HS.out
            rw [if_neg (by rw [hb]; exact fun h => by cases h), if_pos (.inr h2)] at hv1
            exact ⟨⟨v + 1, by omega, by go_num, by rw [hv1, HP.out], by rw [hv1]⟩, by simp [intOf]; omega⟩
          · have h2' : decide (r < q) = false := decide_eq_false h2
            by_cases h3 : r = q
            · have h3' : (r == q) = true := by rw [h3]; simp
              go_wp2
              have hv1 := HS.out
              rw [if_neg (by rw [hb]; exact fun h => by cases h), if_neg (fun h => h.elim h0 h2), if_pos h3] at hv1
              exact ⟨⟨v + 1, by omega, by go_num, by rw [hv1, HP.out], by rw [hv1]⟩, by simp [intOf]; omega⟩
            · have h3' : (r == q) = false := by rw [beq_eq_false_iff_ne]; exact h3
              go_wp2
              have hv1 := HS.out
              rw [if_neg (by rw [hb]; exact fun h => by cases h), if_neg (fun h => h.elim h0 h2), if_neg h3] at hv1
              exact ⟨⟨v + 1, by omega, by go_num, by rw [hv1, ← EO.out], by rw [hv1, ← EQ.out]⟩, by simp [intOf]; omega⟩
    · obtain rfl : v = n := by omega
      go_wp2
      go_ret
      exact ⟨rfl, rfl⟩

/-- The error of Table. -/
def tblErr (n : Int) (len : Nat) : Nat := if 0 ≤ n ∧ n ≤ 3 then (if len = 2 ^ n.toNat then 0 else 3) else 2
theorem tblErr_ok {n : Int} {len : Nat} (h : tblErr n len = 0) : ∃ k : Nat, n = k ∧ k ≤ 3 ∧ len = 2 ^ k := by
  unfold tblErr at h
  by_cases h1 : 0 ≤ n ∧ n ≤ 3
  · rw [if_pos h1] at h
    by_cases h2 : len = 2 ^ n.toNat
    · exact ⟨n.toNat, by omega, by omega, h2⟩
    · rw [if_neg h2] at h; cases h
  · rw [if_neg h1] at h; cases h
theorem Table_err (n : Int) (A : Option Addr) (len c : Nat) (w : World) (he : tblErr n len ≠ 0) :
    Calls Tryd.prog 22 #[.int .i64 n, .slice A len c] w fun e w' => e = .returned (.tuple #[.slice none 0 0, .int .i64 (tblErr n len : Nat)]) ∧ w = w' := by
  by_cases h0 : n < 0
  · have hd1 : decide (n < 0) = true := decide_eq_true h0
    have HE := Lib.hid (show tblErr n len = 2 from if_neg (by omega))
    clear he h0
    go_enter Tryd.func22, Tryd.ntmps22
    go_wp2
    go_ret2
    exact ⟨by rw [HE.out]; rfl, rfl⟩
  · have hd1 : decide (n < 0) = false := decide_eq_false h0
    by_cases h3 : 3 < n
    · have hd2 : decide (3 < n) = true := decide_eq_true h3
      have HE := Lib.hid (show tblErr n len = 2 from if_neg (by omega))
      clear he h0 h3
      go_enter Tryd.func22, Tryd.ntmps22
      go_wp2
      go_ret2
      exact ⟨by rw [HE.out]; rfl, rfl⟩
    · have hd2 : decide (3 < n) = false := decide_eq_false h3
      obtain ⟨k, rfl⟩ : ∃ k : Nat, n = k := ⟨n.toNat, by omega⟩
      have hk : k ≤ 3 := by omega
      obtain ⟨N, hN⟩ : ∃ N, N = 2 ^ k := ⟨_, rfl⟩
      have hw := wrap_pow hN (by omega)
      have hne : len ≠ N := fun h => he (by unfold tblErr; rw [if_pos (by omega), if_pos (by rw [h, hN]; rfl)])
      have h1 : ((len : Int) != (N : Int)) = true := by rw [bne_iff_ne]; omega
      have HE := Lib.hid (show tblErr k len = 3 by unfold tblErr; rw [if_pos (by omega), if_neg (by rw [show (2:Nat) ^ (k : Int).toNat = N from hN.symm]; exact hne)])
      clear he h0 h3 hne hN
      go_enter Tryd.func22, Tryd.ntmps22
      go_wp2
      go_ret2
      exact ⟨by rw [HE.out]; rfl, rfl⟩
def TabPost (S : Nat) (T : Nat → Nat) (w : World) (e : Ending) (w' : World) : Prop :=
  ∃ B, e = .returned (.tuple #[.slice (some ⟨B, 0, none⟩) S S, .int .i64 0]) ∧ RowU w' B S T ∧ Below w.heap.size w w'
set_option maxHeartbeats 1000000 in
theorem Table_in (k N S c : Nat) (A : Option Addr) (f : Nat → Int) (w : World) (hx : I64s w A N f) (hk : k ≤ 3) (hN : N = 2 ^ k) (hS : S = 2 ^ N) :
    Calls Tryd.prog 22 #[.int .i64 k, .slice A N c] w (TabPost S (tabF f N) w) := by
  have hSk : S = 2 ^ 2 ^ k := by rw [hS, hN]
  have hS2 := sets_le hk hSk
  have hN8 : N ≤ 8 := by rw [hN]; exact Nat.le_trans (Nat.pow_le_pow_right (by decide) hk) (by decide)
  have hw := wrap_pow hN (by omega)
  have hd1 : decide ((k : Int) < 0) = false := by simp
  have hd2 : decide (3 < (k : Int)) = false := decide_eq_false (by omega)
  have hmk := run_make_row' (P := Tryd.prog) 23 22 (.int .u64 0) 8 Tryd.underlying23 Tryd.infoU64 rfl .i64 .i64 S (by omega) (by omega)
  have HX := Lib.hid hx
  have HSK := Lib.hid hSk
  clear hx hN hS hSk
  go_enter Tryd.func22, Tryd.ntmps22
  go_wp2_with (go_at_call 27; refine (sets_any k S _ hk HSK.out).mono ?_; rintro e w' ⟨rfl, rfl⟩)
  have hrow := RowU.made w S 22
  have hbl := below_alloc w (.cells (madeCells #[.int .u64 0] S) 22)
  clear hmk
  generalize hW : w.alloc (.cells (madeCells #[.int .u64 0] S) 22) = W at hrow hbl ⊢
  clear hW
  have HW := Lib.hid hbl
  have HRo := Lib.hid hrow
  clear hrow hbl
  go_loopw [24] (fun iv wr => ∃ x : Nat, x ≤ S ∧ iv = .int .i64 x ∧ RowU wr w.heap.size S (fun u => if u < x then tabF f N u else 0) ∧ Below w.heap.size w wr) (fun iv _ => S - (intOf iv).toNat)
  case atStart => exact ⟨0, Nat.zero_le _, rfl, HRo.out.congr fun u hu => by rw [if_neg (Nat.not_lt_zero _)], HW.out⟩
  case round =>
    clear HW HRo
    obtain ⟨x, hx, rfl, hrow, hbl⟩ := hrel
    by_cases hlt : x < S
    · obtain ⟨hcv, hfv⟩ := hrow x hlt
      have HRo := Lib.hid hrow
      have HB := Lib.hid hbl
      have HXr := Lib.hid (HX.out.below hbl)
      clear hrow hbl
      go_wp2_with (go_at_call 39; refine (least_any _ _ _ _ _ _ HXr.out (by omega) (by omega)).mono ?_; rintro e w' ⟨rfl, rfl⟩)
      go_roundw
      case rel => exact ⟨x + 1, by omega, by go_num, (HRo.out.set hlt).congr fun u hu => by
        unfold upd
        dsimp only
        by_cases h2 : u = x
        · subst h2; rw [if_pos rfl, if_pos (by omega)]
        · rw [if_neg h2]
          by_cases h3 : u < x
          · rw [if_pos h3, if_pos (by omega)]
          · rw [if_neg h3, if_neg (by omega)], HB.out.setCell (Nat.le_refl _) _⟩
      case measure => simp [intOf]; omega
    · obtain rfl : x = S := by omega
      have HRo := Lib.hid (hrow.congr (g' := tabF f N) fun u hu => by rw [if_pos hu])
      have HB := Lib.hid hbl
      clear hrow hbl
      go_wp2_with fail
      go_ret2
      exact ⟨_, rfl, HRo.out, HB.out⟩

/-- What Faithful returns. -/
def faithB (n : Int) (kb len : Nat) (f : Nat → Int) : Bool := tblErr n len == 0 && decide (kb < setsZ n) && (kb == 0 || kb == tabF f (2 ^ n.toNat) (setsZ n - 1))
set_option maxHeartbeats 1000000 in
theorem Faithful_any (n : Int) (kb len c : Nat) (A : Option Addr) (f : Nat → Int) (w : World) (hx : I64s w A len f) (_hkb : kb < 18446744073709551616) :
    Calls Tryd.prog 25 #[.int .i64 n, .int .u64 kb, .slice A len c] w fun e w' => e = .returned (.bool (faithB n kb len f)) ∧ w = w' := by
  have HX := Lib.hid hx
  clear hx
  by_cases h0 : n < 0
  · have hd1 : decide (n < 0) = true := decide_eq_true h0
    have HE := Lib.hid (show faithB n kb len f = false by unfold faithB; rw [show tblErr n len = 2 from if_neg (by omega)]; rfl)
    clear h0
    go_enter Tryd.func25, Tryd.ntmps25
    go_wp2
    go_ret
    exact ⟨by rw [HE.out]; rfl, rfl⟩
  · have hd1 : decide (n < 0) = false := decide_eq_false h0
    by_cases h3 : 3 < n
    · have hd2 : decide (3 < n) = true := decide_eq_true h3
      have HE := Lib.hid (show faithB n kb len f = false by unfold faithB; rw [show tblErr n len = 2 from if_neg (by omega)]; rfl)
      clear h0 h3
      go_enter Tryd.func25, Tryd.ntmps25
      go_wp2
      go_ret
      exact ⟨by rw [HE.out]; rfl, rfl⟩
    · have hd2 : decide (3 < n) = false := decide_eq_false h3
      obtain ⟨k, rfl⟩ : ∃ k : Nat, n = k := ⟨n.toNat, by omega⟩
      have hk : k ≤ 3 := by omega
      obtain ⟨N, hN⟩ : ∃ N, N = 2 ^ k := ⟨_, rfl⟩
      have hw := wrap_pow hN (by omega)
      have hN8 : N ≤ 8 := by rw [hN]; exact Nat.le_trans (Nat.pow_le_pow_right (by decide) hk) (by decide)
      by_cases hlN : len = N
      · obtain ⟨S, hS⟩ : ∃ S, S = 2 ^ 2 ^ k := ⟨_, rfl⟩
        have hS2 := sets_le hk hS
        have h1 : ((len : Int) != (N : Int)) = false := by rw [hlN]; simp
        have hE : faithB k kb len f = (decide (kb < S) && (kb == 0 || kb == tabF f N (S - 1))) := by
          unfold faithB
          rw [show tblErr k len = 0 by unfold tblErr; rw [if_pos (by omega), if_pos (by rw [hlN, hN]; rfl)], show setsZ k = S from hS.symm, show (2:Nat) ^ (k : Int).toNat = N from hN.symm]
          rfl
        by_cases hb : kb < S
        · have hd3 : decide (S ≤ kb) = false := decide_eq_false (by omega)
          rw [decide_eq_true hb, Bool.true_and] at hE
          have hSm : (S : Int) - 1 = ((S - 1 : Nat) : Int) := by omega
          cases hk0 : (kb == 0)
          · have hk0' : ((kb : Int) == 0) = false := by rw [eq0_nat, hk0]
            rw [hk0, Bool.false_or] at hE
            have HE := Lib.hid hE
            have HS := Lib.hid hS
            have hLE := Lib.hid (fun w (h : I64s w A len f) => least_any A len c (S - 1) f w h (by omega) (by omega))
            subst hlN
            clear hE h0 h3 hk0 hN hS
            go_enter Tryd.func25, Tryd.ntmps25
            go_wp2_with (first | (go_at_call 27; refine (sets_any k S _ hk HS.out).mono ?_; rintro e w' ⟨rfl, rfl⟩) | (go_at_call 39; refine (hLE.out _ HX.out).mono ?_; rintro e w' ⟨rfl, rfl⟩))
            go_ret
            exact ⟨by rw [HE.out, ← eq_nat]; rfl, rfl⟩
          · have hk0' : ((kb : Int) == 0) = true := by rw [eq0_nat, hk0]
            rw [hk0] at hE
            have HE := Lib.hid hE
            have HS := Lib.hid hS
            clear hE h0 h3 hk0 hN hS hlN
            go_enter Tryd.func25, Tryd.ntmps25
            go_wp2_with (first | (go_at_call 27; refine (sets_any k S _ hk HS.out).mono ?_; rintro e w' ⟨rfl, rfl⟩))
            go_ret
            exact ⟨by rw [HE.out]; rfl, rfl⟩
        · have hd3 : decide (S ≤ kb) = true := decide_eq_true (by omega)
          rw [decide_eq_false hb] at hE
          have HE := Lib.hid hE
          have HS := Lib.hid hS
          clear hE h0 h3 hN hS hlN hb
          go_enter Tryd.func25, Tryd.ntmps25
          go_wp2_with (first | (go_at_call 27; refine (sets_any k S _ hk HS.out).mono ?_; rintro e w' ⟨rfl, rfl⟩))
          go_ret
          exact ⟨by rw [HE.out]; rfl, rfl⟩
      · have h1 : ((len : Int) != (N : Int)) = true := by rw [bne_iff_ne]; omega
        have HE := Lib.hid (show faithB k kb len f = false by unfold faithB; rw [show tblErr k len = 3 by unfold tblErr; rw [if_pos (by omega), if_neg (by rw [show (2:Nat) ^ (k : Int).toNat = N from hN.symm]; exact hlN)]]; rfl)
        clear h0 h3 hN hlN
        go_enter Tryd.func25, Tryd.ntmps25
        go_wp2_with fail
        go_ret
        exact ⟨by rw [HE.out]; rfl, rfl⟩
end Go.Proofs.YtflhngmfcpeamaaDoor
