/-
  Walks: package postulates: the postulates of revision; the check of a table.
-/
import Derived.Test.YtlcojpopngdigaaDoorProg
import Derived.Test.YtlcojpopngdigaaDoorBase
import Derived.Test.YtlcojpopngdigaaDoorPoP
import Derived.Test.YtlcojpopngdigaaDoorPoA
namespace Go.Proofs.YtlcojpopngdigaaDoor
open Go.RowKit

theorem same_below {P : Program} {f : FuncId} {args : Array Value} {w : World} {v : Value}
    (h : Calls P f args w fun e w' => e = .returned v ∧ w = w') : Calls P f args w fun e w' => e = .returned v ∧ Below w.heap.size w w' :=
  h.mono fun _ _ ⟨he, hm⟩ => ⟨he, by rw [← hm]; exact Below.refl _ _⟩
theorem drew_below {P : Program} {f : FuncId} {args : Array Value} {w : World} {v : Value}
    (h : Calls P f args w fun e w' => e = .returned v ∧ ∃ m, w' = w.drewN m) : Calls P f args w fun e w' => e = .returned v ∧ Below w.heap.size w w' :=
  h.mono fun _ _ ⟨he, m, hm⟩ => ⟨he, by rw [hm]; exact below_drewN (Below.refl _ _) _⟩
theorem eq0_nat (a : Nat) : ((a : Int) == 0) = (a == 0) := by cases h : (a == 0) <;> simp_all
theorem ne0_nat (a : Nat) : ((a : Int) != 0) = (a != 0) := by simp only [bne]; rw [eq0_nat]
theorem eq_nat (a b : Nat) : ((a : Int) == (b : Int)) = (a == b) := by
  rw [Bool.eq_iff_iff]; simp only [beq_iff_eq]; omega
theorem ne_nat (a b : Nat) : ((a : Int) != (b : Int)) = (a != b) := by simp only [bne]; rw [eq_nat]
theorem and_le_left' (a b : Nat) : a &&& b ≤ a := Nat.and_le_left

theorem rv1_any (k x y S c : Nat) (A : Option Addr) (T : Nat → Nat) (w : World) (hT : U64s w A S T) (hx : x < S) (hS : S ≤ 256) :
    Calls Tryd.prog 67 #[.int .u64 k, .slice A S c, .int .u64 x, .int .u64 y] w fun e w' => e = .returned (.bool (rvFit 0 k T x y)) ∧ w = w' := by
  obtain ⟨b, off, rfl, hc, hl⟩ := hT x hx
  have ha := bits_andNot (T x) x hl (by omega)
  have HF := Lib.hid (show rvFit 0 k T x y = (andNot (T x) x == 0) from rfl)
  clear hT
  go_enter Tryd.func67, Tryd.ntmps67
  go_wp2
  go_ret
  exact ⟨by rw [HF.out, ← eq0_nat]; rfl, rfl⟩
theorem rv2_any (k x y S c : Nat) (A : Option Addr) (T : Nat → Nat) (w : World) (hT : U64s w A S T) (hx : x < S) (hS : S ≤ 256) (hk : k < 18446744073709551616) :
    Calls Tryd.prog 68 #[.int .u64 k, .slice A S c, .int .u64 x, .int .u64 y] w fun e w' => e = .returned (.bool (rvFit 1 k T x y)) ∧ w = w' := by
  obtain ⟨b, off, rfl, hc, hl⟩ := hT x hx
  obtain ⟨E, eE⟩ : ∃ E, E = k &&& x := ⟨_, rfl⟩
  have ha : bits .and .u64 (k : Int) (x : Int) = (E : Int) := by rw [u64_and_nat _ _ hk (by omega), eE]
  have hF : rvFit 1 k T x y = (E == 0 || T x == E) := by rw [eE]; rfl
  clear hT eE
  cases h1 : (E == 0)
  · have h1' : ((E : Int) == 0) = false := by rw [eq0_nat, h1]
    rw [h1] at hF
    have HF := Lib.hid hF
    clear hF
    go_enter Tryd.func68, Tryd.ntmps68
    go_wp2
    go_ret
    exact ⟨by rw [HF.out, Bool.false_or, ← eq_nat]; rfl, rfl⟩
  · have h1' : ((E : Int) == 0) = true := by rw [eq0_nat, h1]
    rw [h1] at hF
    have HF := Lib.hid hF
    clear hF
    go_enter Tryd.func68, Tryd.ntmps68
    go_wp2
    go_ret
    exact ⟨by rw [HF.out]; rfl, rfl⟩
theorem rv3_any (k x y S c : Nat) (A : Option Addr) (T : Nat → Nat) (w : World) (hT : U64s w A S T) (hx : x < S) (_hS : S ≤ 256) :
    Calls Tryd.prog 69 #[.int .u64 k, .slice A S c, .int .u64 x, .int .u64 y] w fun e w' => e = .returned (.bool (rvFit 2 k T x y)) ∧ w = w' := by
  obtain ⟨b, off, rfl, hc, hl⟩ := hT x hx
  have hF : rvFit 2 k T x y = (x == 0 || T x != 0) := rfl
  clear hT
  cases h1 : (x == 0)
  · have h1' : ((x : Int) == 0) = false := by rw [eq0_nat, h1]
    rw [h1] at hF
    have HF := Lib.hid hF
    clear hF
    go_enter Tryd.func69, Tryd.ntmps69
    go_wp2
    go_ret
    exact ⟨by rw [HF.out, Bool.false_or, ← ne0_nat]; rfl, rfl⟩
  · have h1' : ((x : Int) == 0) = true := by rw [eq0_nat, h1]
    rw [h1] at hF
    have HF := Lib.hid hF
    clear hF
    go_enter Tryd.func69, Tryd.ntmps69
    go_wp2
    go_ret
    exact ⟨by rw [HF.out]; rfl, rfl⟩
theorem rv4_any (k x y S c : Nat) (A : Option Addr) (T : Nat → Nat) (w : World) :
    Calls Tryd.prog 70 #[.int .u64 k, .slice A S c, .int .u64 x, .int .u64 y] w fun e w' => e = .returned (.bool (rvFit 3 k T x y)) ∧ w = w' := by
  go_enter Tryd.func70, Tryd.ntmps70
  go_wp2
  go_ret
  exact ⟨rfl, rfl⟩
theorem rv5_any (k x y S c : Nat) (A : Option Addr) (T : Nat → Nat) (w : World) (hT : U64s w A S T) (hx : x < S) (hy : y < S) (hS : S ≤ 256) :
    Calls Tryd.prog 71 #[.int .u64 k, .slice A S c, .int .u64 x, .int .u64 y] w fun e w' => e = .returned (.bool (rvFit 4 k T x y)) ∧ ∃ m, w' = w.drewN m := by
  obtain ⟨b, off, rfl, hc, hl⟩ := hT x hx
  obtain ⟨z, ez⟩ : ∃ z, z = x &&& y := ⟨_, rfl⟩
  have hzx : z < S := by have := and_le_left' x y; omega
  obtain ⟨b2, off2, e2, hc2, hl2⟩ := hT z hzx
  injection e2 with e2
  injection e2 with e3 e4
  subst e3 e4
  obtain ⟨E, eE⟩ : ∃ E, E = T x &&& y := ⟨_, rfl⟩
  have hEl : E < 18446744073709551616 := by rw [eE]; exact Nat.lt_of_le_of_lt Nat.and_le_left hl
  have ha : bits .and .u64 (x : Int) (y : Int) = (z : Int) := by rw [u64_and_nat _ _ (by omega) (by omega), ez]
  have hb : bits .and .u64 (T x : Int) (y : Int) = (E : Int) := by rw [u64_and_nat _ _ hl (by omega), eE]
  have hd := bits_andNot E (T z) hEl hl2
  have HF := Lib.hid (show rvFit 4 k T x y = (andNot E (T z) == 0) by rw [eE, ez]; rfl)
  have hxb : (x : Int) < (S : Int) := by omega
  have hzb : (z : Int) < (S : Int) := by omega
  clear hT eE ez
  go_enter Tryd.func71, Tryd.ntmps71
  go_wp2
  go_quiet (fail)
  go_wp2
  go_ret
  exact ⟨by rw [HF.out, ← eq0_nat]; rfl, _, rfl⟩
theorem rv6_any (k x y S c : Nat) (A : Option Addr) (T : Nat → Nat) (w : World) (hT : U64s w A S T) (hx : x < S) (hy : y < S) (hS : S ≤ 256) :
    Calls Tryd.prog 72 #[.int .u64 k, .slice A S c, .int .u64 x, .int .u64 y] w fun e w' => e = .returned (.bool (rvFit 5 k T x y)) ∧ ∃ m, w' = w.drewN m := by
  obtain ⟨b, off, rfl, hc, hl⟩ := hT x hx
  obtain ⟨z, ez⟩ : ∃ z, z = x &&& y := ⟨_, rfl⟩
  have hzx : z < S := by have := and_le_left' x y; omega
  obtain ⟨b2, off2, e2, hc2, hl2⟩ := hT z hzx
  injection e2 with e2
  injection e2 with e3 e4
  subst e3 e4
  obtain ⟨E, eE⟩ : ∃ E, E = T x &&& y := ⟨_, rfl⟩
  have hEl : E < 18446744073709551616 := by rw [eE]; exact Nat.lt_of_le_of_lt Nat.and_le_left hl
  have ha : bits .and .u64 (x : Int) (y : Int) = (z : Int) := by rw [u64_and_nat _ _ (by omega) (by omega), ez]
  have hb : bits .and .u64 (T x : Int) (y : Int) = (E : Int) := by rw [u64_and_nat _ _ hl (by omega), eE]
  have hd := bits_andNot (T z) E hl2 hEl
  have hF : rvFit 5 k T x y = (E == 0 || andNot (T z) E == 0) := by rw [eE, ez]; rfl
  have hxb : (x : Int) < (S : Int) := by omega
  have hzb : (z : Int) < (S : Int) := by omega
  clear hT eE ez
  cases h1 : (E == 0)
  · have h1' : ((E : Int) == 0) = false := by rw [eq0_nat, h1]
    rw [h1] at hF
    have HF := Lib.hid hF
    clear hF
    go_enter Tryd.func72, Tryd.ntmps72
    go_wp2
    go_quiet (fail)
    go_wp2
    go_ret
    exact ⟨by rw [HF.out, Bool.false_or, ← eq0_nat]; rfl, _, rfl⟩
  · have h1' : ((E : Int) == 0) = true := by rw [eq0_nat, h1]
    rw [h1] at hF
    have HF := Lib.hid hF
    clear hF
    go_enter Tryd.func72, Tryd.ntmps72
    go_wp2
    go_quiet (fail)
    go_wp2
    go_ret
    exact ⟨by rw [HF.out]; rfl, _, rfl⟩

/-! ### the check of a table -/
def idxS (S n : Nat) (f : Nat → Nat) : Int := if firstNo n (fun v => decide (f v < S)) < n then (firstNo n (fun v => decide (f v < S)) : Nat) else -1
theorem idxS_hit {S n v : Nat} {f : Nat → Nat} (hv : v < n) (h : ∀ i, i < v → f i < S) (hb : ¬ f v < S) : idxS S n f = (v : Int) := by
  have e := firstNo_hit (p := fun v => decide (f v < S)) hv (fun i hi => decide_eq_true (h i hi)) (decide_eq_false hb)
  unfold idxS; rw [e, if_pos hv]
theorem idxS_none {S n : Nat} {f : Nat → Nat} (h : ∀ i, i < n → f i < S) : idxS S n f = -1 := by
  have e := firstNo_all (p := fun v => decide (f v < S)) (n := n) (fun i hi => decide_eq_true (h i hi))
  unfold idxS; rw [e, if_neg (Nat.lt_irrefl _)]
theorem index_any (A : Option Addr) (n c k S bn : Nat) (f : Nat → Nat) (w : World) (hT : U64s w A n f) (hn : n ≤ 9223372036854775807) (hk : k ≤ 3) (hS : S = 2 ^ 2 ^ k) (hc : w.cell? ⟨bn, 0, none⟩ = some (.int .i64 k)) :
    Calls Tryd.prog 43 #[.slice A n c, .func (.func 29) #[] #[.pointer (some ⟨bn, 0, none⟩)]] w fun e w' => e = .returned (.int .i64 (idxS S n f)) ∧ w = w' := by
  have HT := Lib.hid hT
  have HS := Lib.hid hS
  clear hT hS
  go_enter Tryd.func43, Tryd.ntmps43
  go_wp2
  go_loop [8] (fun i => ∃ v : Nat, v ≤ n ∧ i = .int .i64 v ∧ Hid (∀ i, i < v → f i < S)) (fun i => n - (intOf i).toNat)
  case atStart => exact ⟨0, Nat.zero_le _, rfl, Lib.hid fun i h => absurd h (Nat.not_lt_zero _)⟩
  case round =>
    obtain ⟨v, hv, rfl, HF⟩ := hrel
    by_cases hlt : v < n
    · obtain ⟨b, off, rfl, hcv, hr⟩ := HT.out v hlt
      by_cases hb : f v < S
      · have hd : decide (S ≤ f v) = false := decide_eq_false (by omega)
        have HF2 : Hid (∀ i, i < v + 1 → f i < S) := Lib.hid fun i h => by
          rcases Nat.lt_succ_iff_lt_or_eq.1 h with h3 | rfl
          · exact HF.out i h3
          · exact hb
        clear hb
        go_wp2_with (go_at_call 29; refine (table1_any k S (f v) bn _ hk HS.out hr hc).mono ?_; rintro e w' ⟨rfl, rfl⟩)
        go_round
        case rel => exact ⟨v + 1, by omega, by go_num, HF2⟩
        case measure => simp [intOf]; omega
      · have HI := Lib.hid (idxS_hit hlt HF.out hb)
        have hd : decide (S ≤ f v) = true := decide_eq_true (by omega)
        clear hb
        go_wp2_with (go_at_call 29; refine (table1_any k S (f v) bn _ hk HS.out hr hc).mono ?_; rintro e w' ⟨rfl, rfl⟩)
        go_ret
        exact ⟨by rw [HI.out]; rfl, rfl⟩
    · obtain rfl : v = n := by omega
      have HI := Lib.hid (idxS_none HF.out)
      go_wp2
      go_ret
      exact ⟨by rw [HI.out]; rfl, rfl⟩
theorem contains_any (A : Option Addr) (n c k S bn : Nat) (f : Nat → Nat) (w : World) (hT : U64s w A n f) (hn : n ≤ 9223372036854775807) (hk : k ≤ 3) (hS : S = 2 ^ 2 ^ k) (hc : w.cell? ⟨bn, 0, none⟩ = some (.int .i64 k)) :
    Calls Tryd.prog 28 #[.slice A n c, .func (.func 29) #[] #[.pointer (some ⟨bn, 0, none⟩)]] w fun e w' => e = .returned (.bool (!allB n (fun v => decide (f v < S)))) ∧ w = w' := by
  have HT := Lib.hid hT
  have HS := Lib.hid hS
  have HE : Hid (decide (0 ≤ idxS S n f) = !allB n (fun v => decide (f v < S))) := Lib.hid (by
    cases ha : allB n (fun v => decide (f v < S))
    · obtain ⟨u, hu, hf⟩ := not_allB ha
      obtain ⟨i1, i2, i3⟩ := firstNo_spec n (fun v => decide (f v < S))
      have : firstNo n (fun v => decide (f v < S)) < n := by
        rcases Nat.lt_or_ge (firstNo n (fun v => decide (f v < S))) n with h1 | h1
        · exact h1
        · have := i2 u (by omega); rw [hf] at this; cases this
      unfold idxS; rw [if_pos this]; simp
    · rw [idxS_none fun i hi => of_decide_eq_true (allB_iff.1 ha i hi)]; rfl)
  clear hT hS
  go_enter Tryd.func28, Tryd.ntmps28
  go_wp2_with (go_at_call 43; refine (index_any _ _ _ _ _ _ _ _ HT.out hn hk HS.out hc).mono ?_; rintro e w' ⟨rfl, rfl⟩)
  go_ret
  exact ⟨by rw [← HE.out]; rfl, rfl⟩
theorem table_any (A : Option Addr) (n c k S : Nat) (f : Nat → Nat) (w : World) (hT : U64s w A n f) (hn : n ≤ 9223372036854775807) (hk : k ≤ 3) (hS : S = 2 ^ 2 ^ k) :
    Calls Tryd.prog 22 #[.int .i64 k, .slice A n c] w fun e w' => e = .returned (.int .i64 (tabErr S n f : Nat)) ∧ Below w.heap.size w w' := by
  have hb := below_alloc w (.cells #[.int .i64 k] 3)
  have HT := Lib.hid (hT.below hb)
  have HB := Lib.hid hb
  have hcc : (w.alloc (.cells #[.int .i64 k] 3)).cell? ⟨w.heap.size, 0, none⟩ = some (.int .i64 k) := by simp
  have HS := Lib.hid hS
  clear hb hT
  by_cases hnS : n = S
  · have h1 : ((n : Int) != (S : Int)) = false := by rw [hnS]; simp
    cases ha : allB n (fun v => decide (f v < S))
    · have HV := Lib.hid (show tabErr S n f = 2 by unfold tabErr; rw [if_pos hnS, ha]; rfl)
      clear hnS hS
      go_enter Tryd.func22, Tryd.ntmps22
      go_wp2_with (first | (go_at_call 21; refine (sets_any k S _ hk HS.out).mono ?_; rintro e w' ⟨rfl, rfl⟩))
      generalize w.alloc _ = W at hcc HT HB ⊢
      go_wp2_with (first | (go_at_call 28; refine (contains_any _ _ _ _ _ _ _ _ HT.out hn hk HS.out hcc).mono ?_; rintro e w' ⟨rfl, rfl⟩))
      go_ret
      exact ⟨by rw [HV.out]; rfl, HB.out⟩
    · have HV := Lib.hid (show tabErr S n f = 0 by unfold tabErr; rw [if_pos hnS, ha]; rfl)
      clear hnS hS
      go_enter Tryd.func22, Tryd.ntmps22
      go_wp2_with (first | (go_at_call 21; refine (sets_any k S _ hk HS.out).mono ?_; rintro e w' ⟨rfl, rfl⟩))
      generalize w.alloc _ = W at hcc HT HB ⊢
      go_wp2_with (first | (go_at_call 28; refine (contains_any _ _ _ _ _ _ _ _ HT.out hn hk HS.out hcc).mono ?_; rintro e w' ⟨rfl, rfl⟩))
      go_ret
      exact ⟨by rw [HV.out]; rfl, HB.out⟩
  · have h1 : ((n : Int) != (S : Int)) = true := by rw [bne_iff_ne]; omega
    have HV := Lib.hid (show tabErr S n f = 3 by unfold tabErr; rw [if_neg hnS])
    clear hnS hS
    go_enter Tryd.func22, Tryd.ntmps22
    go_wp2_with (first | (go_at_call 21; refine (sets_any k S _ hk HS.out).mono ?_; rintro e w' ⟨rfl, rfl⟩))
    go_ret
    exact ⟨by rw [HV.out]; rfl, HB.out⟩
end Go.Proofs.YtlcojpopngdigaaDoor
