/-
  Walks: package revision: least, Check.
-/
import Derived.Test.YtiifmdgcnpdibaaDoorProg
import Derived.Test.YtiifmdgcnpdibaaDoorBase
import Derived.Test.YtiifmdgcnpdibaaDoorRow
import Derived.Test.YtiifmdgcnpdibaaDoorLeast
namespace Go.Proofs.YtiifmdgcnpdibaaDoor
open Go.RowKit

set_option maxHeartbeats 1000000 in
theorem least_any (A : Option Addr) (n c s : Nat) (f : Nat → Int) (w : World) (hx : I64s w A n f) (hn : n ≤ 63) (hs : s < 18446744073709551616) :
    Calls Tryd.prog 57 #[.slice A n c, .int .u64 s] w fun e w' => e = .returned (.int .u64 (leastP s f n).1) ∧ w = w' := by
  have HX := Lib.hid hx
  clear hx
  go_enter Tryd.func57, Tryd.ntmps57
  go_wp2
  go_loop [5, 6, 11] (fun o bv i => ∃ v : Nat, v ≤ n ∧ i = .int .i64 v ∧ o = .int .u64 (leastP s f v).1 ∧ bv = .int .i64 (leastP s f v).2) (fun _ _ i => n - (intOf i).toNat)
  case atStart => exact ⟨0, Nat.zero_le _, rfl, rfl, rfl⟩
  case round =>
    obtain ⟨v, hv, rfl, rfl, rfl⟩ := hrel
    by_cases hlt : v < n
    · obtain ⟨b, off, rfl, hc, hr1, hr2⟩ := HX.out v hlt
      have HS := Lib.hid (show leastP s f (v + 1) = if s.testBit v = false then leastP s f v
        else if (leastP s f v).1 = 0 ∨ f v < (leastP s f v).2 then (2 ^ v, f v)
        else if f v = (leastP s f v).2 then ((leastP s f v).1 ||| 2 ^ v, (leastP s f v).2)
        else leastP s f v from rfl)
      have hol := Nat.lt_trans (leastP_lt s f v) (pow_lt64 (k := v) (by omega))
      have hbit : (bits .and .u64 ((s : Int) / 2 ^ v) 1 == 0) = !s.testBit v := by
        have h := bits_hasnt s v hs
        rwa [Nat.min_eq_left (by omega)] at h
      obtain ⟨o, eo⟩ : ∃ o, o = (leastP s f v).1 := ⟨_, rfl⟩
      obtain ⟨q, eq⟩ : ∃ q, q = (leastP s f v).2 := ⟨_, rfl⟩
      obtain ⟨r, er⟩ : ∃ r, r = f v := ⟨_, rfl⟩
      rw [← eo] at hol
      rw [← er] at hc hr1 hr2
      rw [← eo, ← eq]
      rw [← eo, ← eq, ← er] at HS
      have EO := Lib.hid eo
      have EQ := Lib.hid eq
      clear eo eq er
      cases hb : s.testBit v
      · rw [hb] at hbit
        have hbit' : (bits .and .u64 ((s : Int) / 2 ^ v) 1 == 0) = true := hbit
        go_wp2
        have hv1 := HS.out
        rw [if_pos hb] at hv1
        exact ⟨⟨v + 1, by omega, by go_num, by rw [hv1, ← EO.out], by rw [hv1, ← EQ.out]⟩, by simp [intOf]; omega⟩
      · rw [hb] at hbit
        have hbit' : (bits .and .u64 ((s : Int) / 2 ^ v) 1 == 0) = false := hbit
        obtain ⟨P, hP⟩ : ∃ P, P = 2 ^ v := ⟨_, rfl⟩
        have hsh := shl_one hP (by omega)
        have hor : bits .or .u64 (o : Int) (P : Int) = ((o ||| P : Nat) : Int) := u64_or_nat _ _ hol (by rw [hP]; exact pow_lt64 (by omega))
        have HP := Lib.hid hP
        clear hP
        by_cases h0 : o = 0
        · have h1 : ((o : Int) == 0) = true := by rw [h0]; rfl
          go_wp2
          have hv1 := HS.out
          rw [if_neg (by rw [hb]; exact fun h => by cases h), if_pos (.inl h0)] at hv1
          exact ⟨⟨v + 1, by omega, by go_num, by rw [hv1, HP.out], by rw [hv1]⟩, by simp [intOf]; omega⟩
        · have h1 : ((o : Int) == 0) = false := by rw [beq_eq_false_iff_ne]; omega
          by_cases h2 : r < q
          · have h2' : decide (r < q) = true := decide_eq_true h2
            go_wp2
            have hv1 := HS.out
            rw [if_neg (by rw [hb]; exact fun h => by cases h), if_pos (.inr h2)] at hv1
            exact ⟨⟨v + 1, by omega, by go_num, by rw [hv1, HP.out], by rw [hv1]⟩, by simp [intOf]; omega⟩
          · have h2' : decide (r < q) = false := decide_eq_false h2
            by_cases h3 : r = q
            · have h3' : (r == q) = true := by rw [h3]; simp
              go_wp2
              have hv1 := HS.out
              rw [if_neg (by rw [hb]; exact fun h => by cases h), if_neg (fun h => h.elim h0 h2), if_pos h3] at hv1
              exact ⟨⟨v + 1, by omega, by go_num, by rw [hv1, HP.out], by rw [hv1]⟩, by simp [intOf]; omega⟩
            · have h3' : (r == q) = false := by rw [beq_eq_false_iff_ne]; exact h3
              go_wp2
              have hv1 := HS.out
              rw [if_neg (by rw [hb]; exact fun h => by cases h), if_neg (fun h => h.elim h0 h2), if_neg h3] at hv1
              exact ⟨⟨v + 1, by omega, by go_num, by rw [hv1, ← EO.out], by rw [hv1, ← EQ.out]⟩, by simp [intOf]; omega⟩
    · obtain rfl : v = n := by omega
      go_wp2
      go_ret
      exact ⟨rfl, rfl⟩

/-! ### Check -/
theorem check1_any (r : Int) (w : World) :
    Calls Tryd.prog 73 #[.int .i64 r] w fun e w' => e = .returned (.bool (decide (r < 0 ∨ 1000 < r))) ∧ w = w' := by
  by_cases h0 : r < 0
  · have h1 : decide (r < 0) = true := decide_eq_true h0
    have HF := Lib.hid (decide_eq_true (p := r < 0 ∨ 1000 < r) (.inl h0))
    go_enter Tryd.func73, Tryd.ntmps73
    go_wp2
    go_ret
    first | (rw [HF.out]; exact ⟨rfl, rfl⟩) | exact ⟨rfl, rfl⟩
  · have h1 : decide (r < 0) = false := decide_eq_false h0
    by_cases h2 : 1000 < r
    · have h3 : decide (1000 < r) = true := decide_eq_true h2
      have HF := Lib.hid (decide_eq_true (p := r < 0 ∨ 1000 < r) (.inr h2))
      go_enter Tryd.func73, Tryd.ntmps73
      go_wp2
      go_ret
      first | (rw [HF.out]; exact ⟨rfl, rfl⟩) | exact ⟨rfl, rfl⟩
    · have h3 : decide (1000 < r) = false := decide_eq_false h2
      have HF := Lib.hid (decide_eq_false (p := r < 0 ∨ 1000 < r) (fun h => h.elim h0 h2))
      go_enter Tryd.func73, Tryd.ntmps73
      go_wp2
      go_ret
      first | (rw [HF.out]; exact ⟨rfl, rfl⟩) | exact ⟨rfl, rfl⟩

def badI (f : Nat → Int) (k : Nat) : Bool := decide (f k < 0 ∨ 1000 < f k)
theorem check1_val (f : Nat → Int) (k : Nat) (t : Bool) {w : World} (h : badI f k = t) :
    Calls Tryd.prog 73 #[.int .i64 (f k)] w fun e w' => e = .returned (.bool t) ∧ w = w' := by
  rw [← h]; exact check1_any (f k) w
def fbad (f : Nat → Int) : Nat → Option Nat
  | 0 => none
  | k + 1 => (fbad f k).orElse fun _ => if badI f k then some k else none
theorem fbad_next {f : Nat → Int} {k : Nat} (h : fbad f k = none) (hb : badI f k = false) : fbad f (k + 1) = none := by
  unfold fbad; rw [h, hb]; rfl
theorem fbad_hit {f : Nat → Int} {k : Nat} (h : fbad f k = none) (hb : badI f k = true) : ∀ n, k < n → fbad f n = some k := by
  intro n hn
  induction n with
  | zero => omega
  | succ n ih =>
    rcases Nat.lt_succ_iff_lt_or_eq.1 hn with h1 | rfl
    · unfold fbad; rw [ih h1]; rfl
    · unfold fbad; rw [h, hb]; rfl
def idxV (f : Nat → Int) (n : Nat) : Int := match fbad f n with | some i => i | none => -1

theorem indexR_any (A : Option Addr) (n c : Nat) (f : Nat → Int) (w : World) (hx : I64s w A n f) (hn : n ≤ 9223372036854775807) :
    Calls Tryd.prog 46 #[.slice A n c, .func (.func 73) #[] #[]] w fun e w' => e = .returned (.int .i64 (idxV f n)) ∧ w = w' := by
  have HX := Lib.hid hx
  clear hx
  go_enter Tryd.func46, Tryd.ntmps46
  go_wp2
  go_loop [8] (fun i => ∃ v : Nat, v ≤ n ∧ i = .int .i64 v ∧ Hid (fbad f v = none)) (fun i => n - (intOf i).toNat)
  case atStart => exact ⟨0, Nat.zero_le _, rfl, Lib.hid rfl⟩
  case round =>
    obtain ⟨v, hv, rfl, HF⟩ := hrel
    by_cases hlt : v < n
    · obtain ⟨b, off, rfl, hc, hr1, hr2⟩ := HX.out v hlt
      cases hb : badI f v
      · go_wp2_with (go_at_call 73; refine (check1_val f v _ hb).mono ?_; rintro e w' ⟨rfl, rfl⟩)
        exact ⟨⟨v + 1, by omega, by go_num, Lib.hid (fbad_next HF.out hb)⟩, by simp [intOf]; omega⟩
      · have HI := Lib.hid (show idxV f n = (v : Int) by unfold idxV; rw [fbad_hit HF.out hb n hlt])
        go_wp2_with (go_at_call 73; refine (check1_val f v _ hb).mono ?_; rintro e w' ⟨rfl, rfl⟩)
        go_ret
        exact ⟨by rw [HI.out]; rfl, rfl⟩
    · obtain rfl : v = n := by omega
      have HI := Lib.hid (show idxV f v = -1 by unfold idxV; rw [HF.out])
      go_wp2
      go_ret
      exact ⟨by rw [HI.out]; rfl, rfl⟩
theorem containsR_any (A : Option Addr) (n c : Nat) (f : Nat → Int) (w : World) (hx : I64s w A n f) (hn : n ≤ 9223372036854775807) :
    Calls Tryd.prog 72 #[.slice A n c, .func (.func 73) #[] #[]] w fun e w' => e = .returned (.bool (decide (0 ≤ idxV f n))) ∧ w = w' := by
  have HX := Lib.hid hx
  clear hx
  go_enter Tryd.func72, Tryd.ntmps72
  go_wp2_with (go_at_call 46; refine (indexR_any _ _ _ _ _ HX.out hn).mono ?_; rintro e w' ⟨rfl, rfl⟩)
  go_ret
  exact ⟨rfl, rfl⟩

/-- What revision.Check returns. -/
def revErr (n : Int) (len : Nat) (f : Nat → Int) : Nat := if 0 ≤ n ∧ n ≤ 4 then (if len = 2 ^ n.toNat then (if 0 ≤ idxV f len then 1 else 0) else 3) else 2
set_option maxHeartbeats 1000000 in
theorem revCheck_any (n : Int) (len c : Nat) (A : Option Addr) (f : Nat → Int) (w : World) (hx : I64s w A len f) (hlen : len ≤ 9223372036854775807) :
    Calls Tryd.prog 56 #[.int .i64 n, .slice A len c] w fun e w' => e = .returned (.int .i64 (revErr n len f : Nat)) ∧ w = w' := by
  have HX := Lib.hid hx
  clear hx
  by_cases h0 : n < 0
  · have hd1 : decide (n < 0) = true := decide_eq_true h0
    have HE := Lib.hid (show revErr n len f = 2 from if_neg (by omega))
    clear h0
    go_enter Tryd.func56, Tryd.ntmps56
    go_wp2
    go_ret
    exact ⟨by rw [HE.out]; rfl, rfl⟩
  · have hd1 : decide (n < 0) = false := decide_eq_false h0
    by_cases h4 : 4 < n
    · have hd2 : decide (4 < n) = true := decide_eq_true h4
      have HE := Lib.hid (show revErr n len f = 2 from if_neg (by omega))
      clear h0 h4
      go_enter Tryd.func56, Tryd.ntmps56
      go_wp2
      go_ret
      exact ⟨by rw [HE.out]; rfl, rfl⟩
    · have hd2 : decide (4 < n) = false := decide_eq_false h4
      obtain ⟨k, rfl⟩ : ∃ k : Nat, n = k := ⟨n.toNat, by omega⟩
      have hk : k ≤ 4 := by omega
      obtain ⟨N, hN⟩ : ∃ N, N = 2 ^ k := ⟨_, rfl⟩
      have hw := wrap_pow hN (by omega)
      have hE : revErr k len f = if len = N then (if 0 ≤ idxV f len then 1 else 0) else 3 := by
        unfold revErr; rw [if_pos (by omega), hN]; rfl
      clear h0 h4 hN
      by_cases hl : len = N
      · rw [if_pos hl] at hE
        have h1 : ((len : Int) != (N : Int)) = false := by rw [hl]; simp
        subst hl
        by_cases hi : 0 ≤ idxV f len
        · rw [if_pos hi] at hE
          have HE := Lib.hid hE
          have hi' : decide (0 ≤ idxV f len) = true := decide_eq_true hi
          clear hi hE
          go_enter Tryd.func56, Tryd.ntmps56
          go_wp2_with (go_at_call 72; refine (containsR_any _ _ _ _ _ HX.out (by omega)).mono ?_; rintro e w' ⟨rfl, rfl⟩)
          go_ret
          exact ⟨by rw [HE.out]; rfl, rfl⟩
        · rw [if_neg hi] at hE
          have HE := Lib.hid hE
          have hi' : decide (0 ≤ idxV f len) = false := decide_eq_false hi
          clear hi hE
          go_enter Tryd.func56, Tryd.ntmps56
          go_wp2_with (go_at_call 72; refine (containsR_any _ _ _ _ _ HX.out (by omega)).mono ?_; rintro e w' ⟨rfl, rfl⟩)
          go_ret
          exact ⟨by rw [HE.out]; rfl, rfl⟩
      · rw [if_neg hl] at hE
        have HE := Lib.hid hE
        have h1 : ((len : Int) != (N : Int)) = true := by rw [bne_iff_ne]; omega
        clear hl hE
        go_enter Tryd.func56, Tryd.ntmps56
        go_wp2
        go_ret
        exact ⟨by rw [HE.out]; rfl, rfl⟩
theorem fbad_ok {f : Nat → Int} {n : Nat} (h : ∀ k, k < n → badI f k = false) : fbad f n = none := by
  induction n with
  | zero => rfl
  | succ n ih => exact fbad_next (ih fun k hk => h k (by omega)) (h n (by omega))
theorem idxV_ok {f : Nat → Int} {n : Nat} (h : ∀ k, k < n → badI f k = false) : idxV f n = -1 := by unfold idxV; rw [fbad_ok h]
theorem fbad_none {f : Nat → Int} {n : Nat} (h : fbad f n = none) : ∀ k, k < n → badI f k = false := by
  intro k hk
  cases hb : badI f k
  · rfl
  · obtain ⟨m, hm⟩ : ∃ m, fbad f n = some m := by
      clear h
      induction n with
      | zero => omega
      | succ n ih =>
        unfold fbad
        rcases Nat.lt_succ_iff_lt_or_eq.1 hk with h1 | rfl
        · obtain ⟨m, e⟩ := ih h1; exact ⟨m, by rw [e]; rfl⟩
        · cases h2 : fbad f k with
          | none => exact ⟨k, by rw [hb]; rfl⟩
          | some m => exact ⟨m, rfl⟩
    rw [hm] at h; cases h
theorem idxV_range {f : Nat → Int} {n : Nat} (h : ¬ 0 ≤ idxV f n) : ∀ k, k < n → 0 ≤ f k ∧ f k ≤ 1000 := by
  have h1 : fbad f n = none := by
    unfold idxV at h
    cases h2 : fbad f n with
    | none => rfl
    | some i => rw [h2] at h; exact absurd (by simp) h
  intro k hk
  have := fbad_none h1 k hk
  unfold badI at this
  rw [decide_eq_false_iff_not] at this
  omega
theorem idxV_iff {f : Nat → Int} {n : Nat} : 0 ≤ idxV f n ↔ ∃ k, k < n ∧ (f k < 0 ∨ 1000 < f k) := by
  constructor
  · intro h
    apply Classical.byContradiction
    intro hn
    have : idxV f n = -1 := idxV_ok fun k hk => by
      unfold badI; rw [decide_eq_false_iff_not]
      exact fun h => hn ⟨k, hk, h⟩
    omega
  · rintro ⟨k, hk, h⟩
    apply Classical.byContradiction
    intro hn
    have := idxV_range hn k hk
    omega
theorem revErr_ok {n : Int} {len : Nat} {f : Nat → Int} (h : revErr n len f = 0) : ∃ k : Nat, n = k ∧ k ≤ 4 ∧ len = 2 ^ k ∧ (∀ i, i < len → 0 ≤ f i ∧ f i ≤ 1000) := by
  unfold revErr at h
  by_cases h1 : 0 ≤ n ∧ n ≤ 4
  · rw [if_pos h1] at h
    by_cases h2 : len = 2 ^ n.toNat
    · rw [if_pos h2] at h
      by_cases h3 : 0 ≤ idxV f len
      · rw [if_pos h3] at h; cases h
      · exact ⟨n.toNat, by omega, by omega, h2, idxV_range h3⟩
    · rw [if_neg h2] at h; cases h
  · rw [if_neg h1] at h; cases h
theorem revErr_of {k len : Nat} {f : Nat → Int} (hk : k ≤ 4) (hl : len = 2 ^ k) (h : ∀ i, i < len → 0 ≤ f i ∧ f i ≤ 1000) : revErr k len f = 0 := by
  unfold revErr
  rw [if_pos (by omega), if_pos (by rw [hl]; rfl), if_neg]
  rw [idxV_iff]
  rintro ⟨i, hi, h1⟩
  have := h i hi
  omega
end Go.Proofs.YtiifmdgcnpdibaaDoor
