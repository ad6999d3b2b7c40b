/-
  Walks: package revision: least, Check.
-/
import Derived.Test.YtgnmelmmcpmhoaaProg
import Derived.Test.YtgnmelmmcpmhoaaBase
import Derived.Test.YtgnmelmmcpmhoaaUpdA
import Derived.Test.YtgnmelmmcpmhoaaUpdB
import Derived.Test.YtgnmelmmcpmhoaaUpdC
namespace Go.Proofs.Ytgnmelmmcpmhoaa
open Go.RowKit

/-- A slice of ints, read. -/
def I64s (w : World) (A : Option Addr) (n : Nat) (f : Nat → Int) : Prop :=
  ∀ k, k < n → ∃ b off, A = some ⟨b, off, none⟩ ∧ w.cell? ⟨b, off + k, none⟩ = some (.int .i64 (f k)) ∧ -9223372036854775808 ≤ f k ∧ f k ≤ 9223372036854775807

/-- What 'least' has after n elements. -/
def leastP (s : Nat) (f : Nat → Int) : Nat → Nat × Int
  | 0 => (0, 0)
  | v + 1 => if s.testBit v = false then leastP s f v
    else if (leastP s f v).1 = 0 ∨ f v < (leastP s f v).2 then (2 ^ v, f v)
    else if f v = (leastP s f v).2 then ((leastP s f v).1 ||| 2 ^ v, (leastP s f v).2)
    else leastP s f v
theorem leastP_lt (s : Nat) (f : Nat → Int) (n : Nat) : (leastP s f n).1 < 2 ^ n := by
  induction n with
  | zero => exact Nat.one_pos
  | succ v ih =>
    have h1 : 2 ^ v < 2 ^ (v + 1) := Nat.pow_lt_pow_right (by decide) (by omega)
    unfold leastP
    split
    · omega
    · split
      · exact h1
      · split
        · exact Nat.or_lt_two_pow (by omega) h1
        · omega

set_option maxHeartbeats 1000000 in
theorem least_any (A : Option Addr) (n c s : Nat) (f : Nat → Int) (w : World) (hx : I64s w A n f) (hn : n ≤ 63) (hs : s < 18446744073709551616) :
    Calls Try.prog 63 #[.slice A n c, .int .u64 s] w fun e w' => e = .returned (.int .u64 (leastP s f n).1) ∧ w = w' := by
  have HX := Lib.hid hx
  clear hx
  go_enter Try.func63, Try.ntmps63
  go_wp2
  go_loop [5, 6, 11] (fun o bv i => ∃ v : Nat, v ≤ n ∧ i = .int .i64 v ∧ o = .int .u64 (leastP s f v).1 ∧ bv = .int .i64 (leastP s f v).2) (fun _ _ i => n - (intOf i).toNat)
  case atStart => exact ⟨0, Nat.zero_le _, rfl, rfl, rfl⟩
  case round =>
    obtain ⟨v, hv, rfl, rfl, rfl⟩ := hrel
    by_cases hlt : v < n
    · obtain ⟨b, off, rfl, hc, hr1, hr2⟩ := HX.out v hlt
      have HS := Lib.hid (show leastP s f (v + 1) = if s.testBit v = false then leastP s f v
        else if (leastP s f v).1 = 0 ∨ f v < (leastP s f v).2 then (2 ^ v, f v)
        else if f v = (leastP s f v).2 then ((leastP s f v).1 ||| 2 ^ v, (leastP s f v).2)
        else leastP s f v from rfl)
      have hol := Nat.lt_trans (leastP_lt s f v) (pow_lt64 (k := v) (by omega))
      have hbit : (bits .and .u64 ((s : Int) / 2 ^ v) 1 == 0) = !s.testBit v := by
        have h := bits_hasnt s v hs
        rwa [Nat.min_eq_left (by omega)] at h
      obtain ⟨o, eo⟩ : ∃ o, o = (leastP s f v).1 := ⟨_, rfl⟩
      obtain ⟨q, eq⟩ : ∃ q, q = (leastP s f v).2 := ⟨_, rfl⟩
      obtain ⟨r, er⟩ : ∃ r, r = f v := ⟨_, rfl⟩
      rw [← eo] at hol
      rw [← er] at hc hr1 hr2
      rw [← eo, ← eq]
      rw [← eo, ← eq, ← er] at HS
      have EO := Lib.hid eo
      have EQ := Lib.hid eq
      clear eo eq er
      cases hb : s.testBit v
      · rw [hb] at hbit
        have hbit' : (bits .and .u64 ((s : Int) / 2 ^ v) 1 == 0) = true := hbit
        go_wp2
        have hv1 := HS.out
        rw [if_pos hb] at hv1
        exact ⟨⟨v + 1, by omega, by go_num, by rw [hv1, ← EO.out], by rw [hv1, ← EQ.out]⟩, by simp [intOf]; omega⟩
      · rw [hb] at hbit
        have hbit' : (bits .and .u64 ((s : Int) / 2 ^ v) 1 == 0) = false := hbit
        obtain ⟨P, hP⟩ : ∃ P, P = 2 ^ v := ⟨_, rfl⟩
        have hsh := shl_one hP (by omega)
        have hor : bits .or .u64 (o : Int) (P : Int) = ((o ||| P : Nat) : Int) := u64_or_nat _ _ hol (by rw [hP]; exact pow_lt64 (by omega))
        have HP := Lib.hid hP
        clear hP
        by_cases h0 : o = 0
        · have h1 : ((o : Int) == 0) = true := by rw [h0]; rfl
          go_wp2
          have hv1 := HS.out
          rw [if_neg (by rw [hb]; exact fun h => by cases h), if_pos (.inl h0)] at hv1
          exact ⟨⟨v + 1, by omega, by go_num, by rw [hv1, HP.out], by rw [hv1]⟩, by simp [intOf]; omega⟩
        · have h1 : ((o : Int) == 0) = false := by rw [beq_eq_false_iff_ne]; omega
          by_cases h2 : r < q
          · have h2' : decide (r < q) = true := decide_eq_true h2
            go_wp2
            have hv1 := HS.out
            rw [if_neg (by rw [hb]; exact fun h => by cases h), if_pos (.inr h2)] at hv1
            exact ⟨⟨v + 1, by omega, by go_num, by rw [hv1, HP.out], by rw [hv1]⟩, by simp [intOf]; omega⟩
          · have h2' : decide (r < q) = false := decide_eq_false h2
            by_cases h3 : r = q
            · have h3' : (r == q) = true := by rw [h3]; simp
              go_wp2
              have hv1 := HS.out
              rw [if_neg (by rw [hb]; exact fun h => by cases h), if_neg (fun h => h.elim h0 h2), if_pos h3] at hv1
              exact ⟨⟨v + 1, by omega, by go_num, by rw [hv1, HP.out], by rw [hv1]⟩, by simp [intOf]; omega⟩
            · have h3' : (r == q) = false := by rw [beq_eq_false_iff_ne]; exact h3
              go_wp2
              have hv1 := HS.out
              rw [if_neg (by rw [hb]; exact fun h => by cases h), if_neg (fun h => h.elim h0 h2), if_neg h3] at hv1
              exact ⟨⟨v + 1, by omega, by go_num, by rw [hv1, ← EO.out], by rw [hv1, ← EQ.out]⟩, by simp [intOf]; omega⟩
    · obtain rfl : v = n := by omega
      go_wp2
      go_ret
      exact ⟨rfl, rfl⟩

/-! ### Check -/
theorem check1_any (r : Int) (w : World) :
    Calls Try.prog 66 #[.int .i64 r] w fun e w' => e = .returned (.bool (decide (r < 0 ∨ 1000 < r))) ∧ w = w' := by
  by_cases h0 : r < 0
  · have h1 : decide (r < 0) = true := decide_eq_true h0
    have HF := Lib.hid (decide_eq_true (p := r < 0 ∨ 1000 < r) (.inl h0))
    go_enter Try.func66, Try.ntmps66
    go_wp2
    go_ret
    first | (rw [HF.out]; exact ⟨rfl, rfl⟩) | exact ⟨rfl, rfl⟩
  · have h1 : decide (r < 0) = false := decide_eq_false h0
    by_cases h2 : 1000 < r
    · have h3 : decide (1000 < r) = true := decide_eq_true h2
      have HF := Lib.hid (decide_eq_true (p := r < 0 ∨ 1000 < r) (.inr h2))
      go_enter Try.func66, Try.ntmps66
      go_wp2
      go_ret
      first | (rw [HF.out]; exact ⟨rfl, rfl⟩) | exact ⟨rfl, rfl⟩
    · have h3 : decide (1000 < r) = false := decide_eq_false h2
      have HF := Lib.hid (decide_eq_false (p := r < 0 ∨ 1000 < r) (fun h => h.elim h0 h2))
      go_enter Try.func66, Try.ntmps66
      go_wp2
      go_ret
      first | (rw [HF.out]; exact ⟨rfl, rfl⟩) | exact ⟨rfl, rfl⟩

def badI (f : Nat → Int) (k : Nat) : Bool := decide (f k < 0 ∨ 1000 < f k)
theorem check1_val (f : Nat → Int) (k : Nat) (t : Bool) {w : World} (h : badI f k = t) :
    Calls Try.prog 66 #[.int .i64 (f k)] w fun e w' => e = .returned (.bool t) ∧ w = w' := by
  rw [← h]; exact check1_any (f k) w
def fbad (f : Nat → Int) : Nat → Option Nat
  | 0 => none
  | k + 1 => (fbad f k).orElse fun _ => if badI f k then some k else none
theorem fbad_next {f : Nat → Int} {k : Nat} (h : fbad f k = none) (hb : badI f k = false) : fbad f (k + 1) = none := by
  unfold fbad; rw [h, hb]; rfl
theorem fbad_hit {f : Nat → Int} {k : Nat} (h : fbad f k = none) (hb : badI f k = true) : ∀ n, k < n → fbad f n = some k := by
  intro n hn
  induction n with
  | zero => omega
  | succ n ih =>
    rcases Nat.lt_succ_iff_lt_or_eq.1 hn with h1 | rfl
    · unfold fbad; rw [ih h1]; rfl
    · unfold fbad; rw [h, hb]; rfl
def idxV (f : Nat → Int) (n : Nat) : Int := match fbad f n with | some i => i | none => -1

theorem index_any (A : Option Addr) (n c : Nat) (f : Nat → Int) (w : World) (hx : I64s w A n f) (hn : n ≤ 9223372036854775807) :
    Calls Try.prog 67 #[.slice A n c, .func (.func 66) #[] #[]] w fun e w' => e = .returned (.int .i64 (idxV f n)) ∧ w = w' := by
  have HX := Lib.hid hx
  clear hx
  go_enter Try.func67, Try.ntmps67
  go_wp2
  go_loop [8] (fun i => ∃ v : Nat, v ≤ n ∧ i = .int .i64 v ∧ Hid (fbad f v = none)) (fun i => n - (intOf i).toNat)
  case atStart => exact ⟨0, Nat.zero_le _, rfl, Lib.hid rfl⟩
  case round =>
    obtain ⟨v, hv, rfl, HF⟩ := hrel
    by_cases hlt : v < n
    · obtain ⟨b, off, rfl, hc, hr1, hr2⟩ := HX.out v hlt
      cases hb : badI f v
      · go_wp2_with (go_at_call 66; refine (check1_val f v _ hb).mono ?_; rintro e w' ⟨rfl, rfl⟩)
        exact ⟨⟨v + 1, by omega, by go_num, Lib.hid (fbad_next HF.out hb)⟩, by simp [intOf]; omega⟩
      · have HI := Lib.hid (show idxV f n = (v : Int) by unfold idxV; rw [fbad_hit HF.out hb n hlt])
        go_wp2_with (go_at_call 66; refine (check1_val f v _ hb).mono ?_; rintro e w' ⟨rfl, rfl⟩)
        go_ret
        exact ⟨by rw [HI.out]; rfl, rfl⟩
    · obtain rfl : v = n := by omega
      have HI := Lib.hid (show idxV f v = -1 by unfold idxV; rw [HF.out])
      go_wp2
      go_ret
      exact ⟨by rw [HI.out]; rfl, rfl⟩
theorem contains_any (A : Option Addr) (n c : Nat) (f : Nat → Int) (w : World) (hx : I64s w A n f) (hn : n ≤ 9223372036854775807) :
    Calls Try.prog 65 #[.slice A n c, .func (.func 66) #[] #[]] w fun e w' => e = .returned (.bool (decide (0 ≤ idxV f n))) ∧ w = w' := by
  have HX := Lib.hid hx
  clear hx
  go_enter Try.func65, Try.ntmps65
  go_wp2_with (go_at_call 67; refine (index_any _ _ _ _ _ HX.out hn).mono ?_; rintro e w' ⟨rfl, rfl⟩)
  go_ret
  exact ⟨rfl, rfl⟩
end Go.Proofs.Ytgnmelmmcpmhoaa
