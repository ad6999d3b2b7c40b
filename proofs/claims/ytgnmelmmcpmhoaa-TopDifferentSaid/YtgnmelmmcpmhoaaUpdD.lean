/-
  Walks: of package update: Update, Erase, Total.
-/
import Derived.Test.YtgnmelmmcpmhoaaProg
import Derived.Test.YtgnmelmmcpmhoaaBase
import Derived.Test.YtgnmelmmcpmhoaaUpdA
import Derived.Test.YtgnmelmmcpmhoaaUpdB
import Derived.Test.YtgnmelmmcpmhoaaUpdC
namespace Go.Proofs.Ytgnmelmmcpmhoaa
open Go.RowKit

/-- The union of g v over the v < n of the set b. -/
def unionS (b : Nat) (g : Nat → Nat) : Nat → Nat
  | 0 => 0
  | k + 1 => if b.testBit k then unionS b g k ||| g k else unionS b g k
theorem unionS_yes {b k : Nat} {g : Nat → Nat} (h : b.testBit k = true) : unionS b g (k + 1) = unionS b g k ||| g k := by rw [unionS, if_pos h]
theorem unionS_no {b k : Nat} {g : Nat → Nat} (h : b.testBit k = false) : unionS b g (k + 1) = unionS b g k := by rw [unionS, if_neg (by simp [h])]
theorem unionS_lt {b n N : Nat} {g : Nat → Nat} (h : ∀ v, v < n → g v < 2 ^ N) : unionS b g n < 2 ^ N := by
  induction n with
  | zero => exact Nat.two_pow_pos N
  | succ k ih =>
    have h1 := ih fun v hv => h v (by omega)
    unfold unionS
    split
    · exact Nat.or_lt_two_pow h1 (h k (by omega))
    · exact h1
theorem testBit_unionS (b n : Nat) (g : Nat → Nat) (i : Nat) : (unionS b g n).testBit i = true ↔ ∃ v, v < n ∧ b.testBit v = true ∧ (g v).testBit i = true := by
  induction n with
  | zero => simp [unionS]
  | succ k ih =>
    cases hb : b.testBit k
    · rw [unionS_no hb, ih]
      constructor
      · rintro ⟨v, h1, h2, h3⟩; exact ⟨v, by omega, h2, h3⟩
      · rintro ⟨v, h1, h2, h3⟩
        have : v ≠ k := fun e => by subst e; rw [hb] at h2; cases h2
        exact ⟨v, by omega, h2, h3⟩
    · rw [unionS_yes hb, Nat.testBit_or, Bool.or_eq_true, ih]
      constructor
      · rintro (⟨v, h1, h2, h3⟩ | h)
        · exact ⟨v, by omega, h2, h3⟩
        · exact ⟨k, by omega, hb, h⟩
      · rintro ⟨v, h1, h2, h3⟩
        by_cases hv : v = k
        · subst hv; exact .inr h3
        · exact .inl ⟨v, by omega, h2, h3⟩
def updS (n : Nat) (F : Nat → Nat → Nat) (b s : Nat) : Nat := unionS b (fun v => minS n (F v) s) n
theorem updS_lt (n : Nat) (F : Nat → Nat → Nat) (b s : Nat) : updS n F b s < 2 ^ n := unionS_lt fun _ _ => mkSet_lt _ _
def updV (k : Int) (n : Nat) (m : Nat → Nat) (F : Nat → Nat → Nat) (b s : Nat) : Nat :=
  if checkZ k n m F = 0 ∧ b < 2 ^ n ∧ s < 2 ^ n then updS n F b s else 0
def updE (k : Int) (n : Nat) (m : Nat → Nat) (F : Nat → Nat → Nat) (b s : Nat) : Nat :=
  if checkZ k n m F = 0 then (if b < 2 ^ n ∧ s < 2 ^ n then 0 else 2) else checkZ k n m F
theorem or_union {u n : Nat} {b : Nat} {g : Nat → Nat} (hn : n ≤ 63) (hu : u < n) (hg : ∀ v, v < n → g v < 2 ^ n) (h : b.testBit u = true) : bits .or .u64 (unionS b g u : Int) (g u : Int) = ((unionS b g (u + 1) : Nat) : Int) := by
  have h1 : unionS b g u < 2 ^ n := unionS_lt fun v hv => hg v (by omega)
  have h2 := hg u hu
  have h3 : 2 ^ n ≤ 2 ^ 64 := Nat.pow_le_pow_right (by decide) (by omega)
  rw [u64_or_nat _ _ (by omega) (by omega), unionS_yes h]

set_option maxHeartbeats 1000000 in
theorem Update_in (kk : Nat) (b s : Nat) (A : Option Addr) (n c : Nat) (R : Nat → Option Addr) (m cc : Nat → Nat) (F : Nat → Nat → Nat) (w : World) (hM : Mat w A n R m cc F) (hb : b < 18446744073709551616) (hs : s < 18446744073709551616)
    (hchk : checkZ kk n m F = 0) (hbn : b < 2 ^ n) (hsn : s < 2 ^ n) :
    Calls Try.prog 27 #[.agg #[.int .i64 kk, .slice A n c], .int .u64 b, .int .u64 s] w fun e w' =>
      e = .returned (.tuple #[.int .u64 (updS n F b s : Nat), .int .i64 0]) ∧ Below w.heap.size w w' := by
  have HM := Lib.hid hM
  clear hM
  obtain ⟨kk', hkk, hk3, hnk, hmv, hFv, _⟩ := checkZ_ok hchk
  obtain rfl : kk = kk' := by omega
  have HMV := Lib.hid hmv
  have hn8 := pow_le8 hnk hk3
  have hz : ((checkZ kk n m F : Int) != 0) = false := int_ne0f.2 hchk
  have he1 : ((setErr kk b : Int) != 0) = false := by unfold setErr; rw [← hnk, if_pos hbn]; rfl
  have he2 : ((setErr kk s : Int) != 0) = false := by unfold setErr; rw [← hnk, if_pos hsn]; rfl
  clear hnk hmv hFv hkk hchk hbn hsn
  go_enter Try.func27, Try.ntmps27
  go_wp2_with fail
  obtain ⟨c0, c1⟩ := cells_box2 w (.int .i64 kk) (.slice A n c) 24
  have hB := below_alloc w (.cells #[.int .i64 kk, .slice A n c] 24)
  generalize w.alloc (.cells #[.int .i64 kk, .slice A n c] 24) = W at c0 c1 hB ⊢
  refine (updCheck_any _ _ _ _ _ _ _ _ _ (HM.out.below hB)).mono ?_
  rintro e w1 ⟨rfl, hb1⟩
  have d0 := cell_below hb1 c0
  have d1 := cell_below hb1 c1
  have HM1 := Lib.hid ((HM.out.below hB).below hb1)
  have HB := Lib.hid (hB.trans (hb1.mono hB.size))
  clear c0 c1 hb1 HM hB
  go_wp2_with (first | (go_at_call 43; refine (bsCheck_any _ _ _ (by assumption) (by omega)).mono ?_; rintro e w' ⟨rfl, rfl⟩))
  go_loop [9, 32] (fun o i => ∃ u : Nat, u ≤ n ∧ i = .int .i64 u ∧ o = .int .u64 (unionS b (fun v => minS n (F v) s) u : Nat)) (fun _ i => n - (intOf i).toNat)
  case atStart => exact ⟨0, Nat.zero_le _, rfl, rfl⟩
  case round =>
    obtain ⟨u, hu, rfl, rfl⟩ := hrel
    by_cases hlt : u < n
    · obtain ⟨b1, off, rfl, hc, hm, hr⟩ := HM1.out u hlt
      rw [HMV.out u hlt] at hc hr
      have HR := Lib.hid hr
      clear hr hm
      cases hbu : b.testBit u
      · go_wp2_with (go_at_call 49; refine (has_any _ _ _ (by assumption)).mono ?_; rintro e w' ⟨rfl, rfl⟩)
        go_round
        case rel => exact ⟨u + 1, by omega, by go_num, by rw [unionS_no hbu]⟩
        case measure => simp [intOf]; omega
      · have hor := or_union (n := n) (b := b) (g := fun v => minS n (F v) s) (by omega) hlt (fun v _ => mkSet_lt _ _) hbu
        go_wp2_with (first | (go_at_call 49; refine (has_any _ _ _ (by assumption)).mono ?_; rintro e w' ⟨rfl, rfl⟩) | (go_at_call 51; refine (minimal_any _ _ _ _ _ _ HR.out (by omega) (by assumption)).mono ?_; rintro e w' ⟨rfl, rfl⟩))
        go_round
        case rel => exact ⟨u + 1, by omega, by go_num, rfl⟩
        case measure => simp [intOf]; omega
    · obtain rfl : u = n := by omega
      go_wp2
      go_ret2
      exact ⟨rfl, HB.out⟩
set_option maxHeartbeats 1000000 in
theorem Update_bad (kk : Nat) (b s : Nat) (A : Option Addr) (n c : Nat) (R : Nat → Option Addr) (m cc : Nat → Nat) (F : Nat → Nat → Nat) (w : World) (hM : Mat w A n R m cc F) (hb : b < 18446744073709551616) (hs : s < 18446744073709551616)
    (hchk : checkZ kk n m F = 0) (hbn : ¬ (b < 2 ^ n ∧ s < 2 ^ n)) :
    Calls Try.prog 27 #[.agg #[.int .i64 kk, .slice A n c], .int .u64 b, .int .u64 s] w fun e w' =>
      e = .returned (.tuple #[.int .u64 0, .int .i64 2]) ∧ Below w.heap.size w w' := by
  have HM := Lib.hid hM
  clear hM
  obtain ⟨kk', hkk, hk3, hnk, hmv, hFv, _⟩ := checkZ_ok hchk
  obtain rfl : kk = kk' := by omega
  have hz : ((checkZ kk n m F : Int) != 0) = false := int_ne0f.2 hchk
  by_cases hb1 : b < 2 ^ n
  · have he1 : ((setErr kk b : Int) != 0) = false := by unfold setErr; rw [← hnk, if_pos hb1]; rfl
    have he2 : ((setErr kk s : Int) != 0) = true := by unfold setErr; rw [← hnk, if_neg fun h => hbn ⟨hb1, h⟩]; rfl
    clear hnk hmv hFv hkk hchk hbn hb1
    go_enter Try.func27, Try.ntmps27
    go_wp2_with fail
    obtain ⟨c0, c1⟩ := cells_box2 w (.int .i64 kk) (.slice A n c) 24
    have hB := below_alloc w (.cells #[.int .i64 kk, .slice A n c] 24)
    generalize w.alloc (.cells #[.int .i64 kk, .slice A n c] 24) = W at c0 c1 hB ⊢
    refine (updCheck_any _ _ _ _ _ _ _ _ _ (HM.out.below hB)).mono ?_
    rintro e w1 ⟨rfl, hb1⟩
    have d0 := cell_below hb1 c0
    have d1 := cell_below hb1 c1
    have HB := Lib.hid (hB.trans (hb1.mono hB.size))
    clear c0 c1 hb1 HM hB
    go_wp2_with (first | (go_at_call 43; refine (bsCheck_any _ _ _ (by assumption) (by omega)).mono ?_; rintro e w' ⟨rfl, rfl⟩))
    go_ret2
    exact ⟨rfl, HB.out⟩
  · have he1 : ((setErr kk b : Int) != 0) = true := by unfold setErr; rw [← hnk, if_neg hb1]; rfl
    clear hnk hmv hFv hkk hchk hbn hb1
    go_enter Try.func27, Try.ntmps27
    go_wp2_with fail
    obtain ⟨c0, c1⟩ := cells_box2 w (.int .i64 kk) (.slice A n c) 24
    have hB := below_alloc w (.cells #[.int .i64 kk, .slice A n c] 24)
    generalize w.alloc (.cells #[.int .i64 kk, .slice A n c] 24) = W at c0 c1 hB ⊢
    refine (updCheck_any _ _ _ _ _ _ _ _ _ (HM.out.below hB)).mono ?_
    rintro e w1 ⟨rfl, hb1⟩
    have d0 := cell_below hb1 c0
    have d1 := cell_below hb1 c1
    have HB := Lib.hid (hB.trans (hb1.mono hB.size))
    clear c0 c1 hb1 HM hB
    go_wp2_with (first | (go_at_call 43; refine (bsCheck_any _ _ _ (by assumption) (by omega)).mono ?_; rintro e w' ⟨rfl, rfl⟩))
    go_ret2
    exact ⟨rfl, HB.out⟩

theorem Update_any (k : Int) (b s : Nat) (A : Option Addr) (n c : Nat) (R : Nat → Option Addr) (m cc : Nat → Nat) (F : Nat → Nat → Nat) (w : World) (hM : Mat w A n R m cc F) (hb : b < 18446744073709551616) (hs : s < 18446744073709551616) :
    Calls Try.prog 27 #[.agg #[.int .i64 k, .slice A n c], .int .u64 b, .int .u64 s] w fun e w' =>
      e = .returned (.tuple #[.int .u64 (updV k n m F b s : Nat), .int .i64 (updE k n m F b s : Nat)]) ∧ Below w.heap.size w w' := by
  by_cases hchk : checkZ k n m F = 0
  · obtain ⟨kk, rfl, hk3, hnk, hmv, hFv, _⟩ := checkZ_ok hchk
    by_cases h : b < 2 ^ n ∧ s < 2 ^ n
    · rw [show updV kk n m F b s = updS n F b s by unfold updV; rw [if_pos ⟨hchk, h⟩], show updE kk n m F b s = 0 by unfold updE; rw [if_pos hchk, if_pos h]]
      exact Update_in kk b s A n c R m cc F w hM hb hs hchk h.1 h.2
    · rw [show updV kk n m F b s = 0 by unfold updV; rw [if_neg fun h' => h h'.2], show updE kk n m F b s = 2 by unfold updE; rw [if_pos hchk, if_neg h]]
      exact Update_bad kk b s A n c R m cc F w hM hb hs hchk h
  · rw [show updV k n m F b s = 0 by unfold updV; rw [if_neg fun h' => hchk h'.1], show updE k n m F b s = checkZ k n m F by unfold updE; rw [if_neg hchk]]
    have hz : ((checkZ k n m F : Int) != 0) = true := int_ne0.2 hchk
    have HM := Lib.hid hM
    clear hchk hM
    go_enter Try.func27, Try.ntmps27
    go_wp2_with (go_at_call 20; refine (updCheck_any _ _ _ _ _ _ _ _ _ (HM.out.below (below_alloc _ _))).mono ?_; rintro e w1 ⟨rfl, hb1⟩)
    go_ret2
    exact ⟨rfl, (below_alloc _ _).trans (hb1.mono (below_alloc _ _).size)⟩

def complS (n s : Nat) : Nat := andNot (2 ^ n - 1) s
def eraV (k : Int) (n : Nat) (m : Nat → Nat) (F : Nat → Nat → Nat) (b s : Nat) : Nat :=
  if updE k n m F b s = 0 then updS n F b (complS n s) ||| b else 0
theorem updE_ok {k : Int} {n : Nat} {m : Nat → Nat} {F : Nat → Nat → Nat} {b s : Nat} (h : updE k n m F b s = 0) : checkZ k n m F = 0 ∧ b < 2 ^ n ∧ s < 2 ^ n := by
  unfold updE at h
  by_cases hc : checkZ k n m F = 0
  · rw [if_pos hc] at h
    by_cases hb : b < 2 ^ n ∧ s < 2 ^ n
    · exact ⟨hc, hb⟩
    · rw [if_neg hb] at h; cases h
  · rw [if_neg hc] at h; exact absurd h hc
theorem complS_lt {n s : Nat} : complS n s < 2 ^ n := by
  have h0 : 0 < 2 ^ n := Nat.two_pow_pos n
  have : complS n s ≤ 2 ^ n - 1 := Nat.and_le_left
  omega
theorem compl_bits {n s M : Nat} (hM : M = 2 ^ n) (hn : n ≤ 63) (hs : s < 18446744073709551616) : bits .andNot .u64 (IntKind.u64.wrap ((M : Int) - 1)) (s : Int) = ((complS n s : Nat) : Int) := by
  have h0 : 0 < 2 ^ n := Nat.two_pow_pos n
  have h3 : 2 ^ n ≤ 2 ^ 64 := Nat.pow_le_pow_right (by decide) (by omega)
  rw [show IntKind.u64.wrap ((M : Int) - 1) = ((2 ^ n - 1 : Nat) : Int) by rw [IntWalk.u64_in _ (by subst hM; omega)]; subst hM; omega]
  exact bits_andNot _ _ (by omega) hs

set_option maxHeartbeats 400000 in
theorem Erase_in (k : Int) (b s : Nat) (A : Option Addr) (n c : Nat) (R : Nat → Option Addr) (m cc : Nat → Nat) (F : Nat → Nat → Nat) (w : World) (hM : Mat w A n R m cc F) (hb : b < 18446744073709551616) (hs : s < 18446744073709551616)
    (he : updE k n m F b s = 0) :
    Calls Try.prog 29 #[.agg #[.int .i64 k, .slice A n c], .int .u64 b, .int .u64 s] w fun e w' =>
      e = .returned (.tuple #[.int .u64 (updS n F b (complS n s) ||| b : Nat), .int .i64 0]) ∧ Below w.heap.size w w' := by
  have HM := Lib.hid hM
  clear hM
  have hez : ((updE k n m F b s : Int) != 0) = false := int_ne0f.2 he
  obtain ⟨hchk, hbn, hsn⟩ := updE_ok he
  obtain ⟨kk, rfl, hk3, hnk, _⟩ := checkZ_ok hchk
  have hn8 := pow_le8 hnk hk3
  obtain ⟨M, hMn⟩ : ∃ M, M = 2 ^ n := ⟨_, rfl⟩
  have hsh := shl_one hMn (by omega)
  have hM64 : M < 18446744073709551616 := by rw [hMn]; exact pow_lt64 (by omega)
  have hM0 : 1 ≤ M := by rw [hMn]; exact Nat.two_pow_pos n
  have hcm := compl_bits hMn (by omega) hs
  have hcl : complS n s < 18446744073709551616 := Nat.lt_trans complS_lt (pow_lt64 (by omega))
  have HE := Lib.hid (show updV kk n m F b (complS n s) = updS n F b (complS n s) ∧ updE kk n m F b (complS n s) = 0 from
    ⟨by unfold updV; rw [if_pos ⟨hchk, hbn, complS_lt⟩], by unfold updE; rw [if_pos hchk, if_pos ⟨hbn, complS_lt⟩]⟩)
  obtain ⟨Z, HZ⟩ : ∃ Z, Hid (Z = updS n F b (complS n s) ||| b) := ⟨_, rfl⟩
  have hor : bits .or .u64 (updV kk n m F b (complS n s) : Int) (b : Int) = (Z : Int) := by
    rw [HE.out.1, HZ.out]; exact u64_or_nat _ _ (Nat.lt_trans (updS_lt _ _ _ _) (pow_lt64 (by omega))) hb
  clear hnk hchk hbn hsn he hMn
  go_enter Try.func29, Try.ntmps29
  go_wp2_with fail
  obtain ⟨c0, c1⟩ := cells_box2 w (.int .i64 kk) (.slice A n c) 24
  have hB := below_alloc w (.cells #[.int .i64 kk, .slice A n c] 24)
  generalize w.alloc (.cells #[.int .i64 kk, .slice A n c] 24) = W at c0 c1 hB ⊢
  refine (Update_any _ _ _ _ _ _ _ _ _ _ _ (HM.out.below hB) hb hs).mono ?_
  rintro e w1 ⟨rfl, hb1⟩
  have d0 := cell_below hb1 c0
  have d1 := cell_below hb1 c1
  have HM1 := Lib.hid ((HM.out.below hB).below hb1)
  have HB := Lib.hid (hB.trans (hb1.mono hB.size))
  clear c0 c1 hb1 HM hB
  go_wp2_with fail
  go_region_held3 (fun w' => w'.cell? ⟨w.heap.size, 0, none⟩ = some (.int .i64 kk) ∧ w'.cell? ⟨w.heap.size, 1, none⟩ = some (.slice A n c)) (first | exact ⟨d0, d1⟩ | (exact ⟨by assumption, by assumption⟩))
    (first | (go_at_call 27; refine (Update_any _ _ _ _ _ _ _ _ _ _ _ (by exact HM1.out) hb hcl).mono ?_; rintro e w2 ⟨rfl, hb2⟩; have e0 := cell_below hb2 d0; have e1 := cell_below hb2 d1))
  go_wp2
  go_ret2
  exact ⟨by rw [HZ.out, HE.out.2]; rfl, HB.out.drew.trans (hb2.mono HB.out.size)⟩
theorem Erase_any (k : Int) (b s : Nat) (A : Option Addr) (n c : Nat) (R : Nat → Option Addr) (m cc : Nat → Nat) (F : Nat → Nat → Nat) (w : World) (hM : Mat w A n R m cc F) (hb : b < 18446744073709551616) (hs : s < 18446744073709551616) :
    Calls Try.prog 29 #[.agg #[.int .i64 k, .slice A n c], .int .u64 b, .int .u64 s] w fun e w' =>
      e = .returned (.tuple #[.int .u64 (eraV k n m F b s : Nat), .int .i64 (updE k n m F b s : Nat)]) ∧ Below w.heap.size w w' := by
  by_cases he : updE k n m F b s = 0
  · rw [show eraV k n m F b s = updS n F b (complS n s) ||| b by unfold eraV; rw [if_pos he], he]
    exact Erase_in k b s A n c R m cc F w hM hb hs he
  · rw [show eraV k n m F b s = 0 by unfold eraV; rw [if_neg he]]
    have hz : ((updE k n m F b s : Int) != 0) = true := int_ne0.2 he
    have HM := Lib.hid hM
    clear he hM
    go_enter Try.func29, Try.ntmps29
    go_wp2_with (go_at_call 27; refine (Update_any _ _ _ _ _ _ _ _ _ _ _ (HM.out.below (below_alloc _ _)) hb hs).mono ?_; rintro e w1 ⟨rfl, hb1⟩)
    go_ret2
    exact ⟨rfl, (below_alloc _ _).trans (hb1.mono (below_alloc _ _).size)⟩

/-! ### Total -/
def totIn (f : Nat → Nat) (u x : Nat) : Bool := (f u).testBit x || (f x).testBit u
def totRow (n : Nat) (f : Nat → Nat) (u : Nat) : Bool := allB n (totIn f u)
def totMat (n : Nat) (F : Nat → Nat → Nat) (v : Nat) : Bool := allB n (totRow n (F v))
def totalB (k : Int) (n : Nat) (m : Nat → Nat) (F : Nat → Nat → Nat) : Bool := checkZ k n m F == 0 && allB n (totMat n F)

set_option maxHeartbeats 1000000 in
theorem Total_any (k : Int) (A : Option Addr) (n c : Nat) (R : Nat → Option Addr) (m cc : Nat → Nat) (F : Nat → Nat → Nat) (w : World) (hM : Mat w A n R m cc F) :
    Calls Try.prog 22 #[.agg #[.int .i64 k, .slice A n c]] w fun e w' => e = .returned (.bool (totalB k n m F)) ∧ Below w.heap.size w w' := by
  have HM := Lib.hid hM
  clear hM
  by_cases hchk : checkZ k n m F = 0
  · have hz : ((checkZ k n m F : Int) != 0) = false := int_ne0f.2 hchk
    have HT := Lib.hid (show totalB k n m F = allB n (totMat n F) by unfold totalB; rw [hchk]; rfl)
    obtain ⟨kk, rfl, hk3, hnk, hmv, hFv, _⟩ := checkZ_ok hchk
    have HMV := Lib.hid hmv
    have hn8 := pow_le8 hnk hk3
    clear hnk hmv hFv hchk
    go_enter Try.func22, Try.ntmps22
    go_wp2_with fail
    obtain ⟨c0, c1⟩ := cells_box2 w (.int .i64 kk) (.slice A n c) 24
    have hB := below_alloc w (.cells #[.int .i64 kk, .slice A n c] 24)
    generalize w.alloc (.cells #[.int .i64 kk, .slice A n c] 24) = W at c0 c1 hB ⊢
    refine (updCheck_any _ _ _ _ _ _ _ _ _ (HM.out.below hB)).mono ?_
    rintro e w1 ⟨rfl, hb1⟩
    have d0 := cell_below hb1 c0
    have d1 := cell_below hb1 c1
    have HM1 := Lib.hid ((HM.out.below hB).below hb1)
    have HB := Lib.hid (hB.trans (hb1.mono hB.size))
    clear c0 c1 hb1 HM hB
    go_wp2
    go_loop [13] (fun i => ∃ v : Nat, v ≤ n ∧ i = .int .i64 v ∧ Upto (totMat n F) v) (fun i => n - (intOf i).toNat)
    case atStart => exact ⟨0, Nat.zero_le _, rfl, upto_zero _⟩
    case round =>
      obtain ⟨v, hv, rfl, hV⟩ := hrel
      by_cases hlt : v < n
      · obtain ⟨b1, off, rfl, hc, hm, hr⟩ := HM1.out v hlt
        rw [HMV.out v hlt] at hc hr
        have HR := Lib.hid hr
        clear hr hm
        go_wp2
        go_loop [19] (fun i => ∃ u : Nat, u ≤ n ∧ i = .int .i64 u ∧ Upto (totRow n (F v)) u) (fun i => n - (intOf i).toNat)
        case atStart => exact ⟨0, Nat.zero_le _, rfl, upto_zero _⟩
        case round =>
          obtain ⟨u, hu, rfl, hU⟩ := hrel
          by_cases hult : u < n
          · go_wp2
            go_loop [24] (fun i => ∃ x : Nat, x ≤ n ∧ i = .int .i64 x ∧ Upto (totIn (F v) u) x) (fun i => n - (intOf i).toNat)
            case atStart => exact ⟨0, Nat.zero_le _, rfl, upto_zero _⟩
            case round =>
              obtain ⟨x, hx, rfl, hX⟩ := hrel
              by_cases hxlt : x < n
              · obtain ⟨b2, off2, he2, hc2, hb2⟩ := HR.out u hult
                obtain ⟨b3, off3, he3, hc3, hb3⟩ := HR.out x hxlt
                rw [he2] at he3
                injection he3 with he3
                injection he3 with he31 he32 he33
                subst he31 he32
                rw [he2] at hc ⊢
                have HE := Lib.hid he2
                clear he2
                cases h1 : (F v u).testBit x
                · cases h2 : (F v x).testBit u
                  · go_wp2_with (go_at_call 49; refine (has_any _ _ _ (by assumption)).mono ?_; rintro e w' ⟨rfl, rfl⟩)
                    go_ret
                    exact ⟨ret_bool (by rw [HT.out]; exact (not_all hlt (not_all hult (not_all hxlt (by unfold totIn; rw [h1, h2]; rfl)))).symm), HB.out⟩
                  · go_wp2_with (go_at_call 49; refine (has_any _ _ _ (by assumption)).mono ?_; rintro e w' ⟨rfl, rfl⟩)
                    go_round
                    case rel => exact ⟨x + 1, by omega, by go_num, hX.succ (by unfold totIn; rw [h1, h2]; rfl)⟩
                    case measure => simp [intOf]; omega
                · go_wp2_with (go_at_call 49; refine (has_any _ _ _ (by assumption)).mono ?_; rintro e w' ⟨rfl, rfl⟩)
                  go_round
                  case rel => exact ⟨x + 1, by omega, by go_num, hX.succ (by unfold totIn; rw [h1]; rfl)⟩
                  case measure => simp [intOf]; omega
              · go_wp2
                go_round
                case rel => exact ⟨u + 1, by omega, by go_num, hU.succ (hX.all (by omega))⟩
                case measure => simp [intOf]; omega
          · go_wp2
            go_round
            case rel => exact ⟨v + 1, by omega, by go_num, hV.succ (hU.all (by omega))⟩
            case measure => simp [intOf]; omega
      · go_wp2
        go_ret
        exact ⟨ret_bool (by rw [HT.out]; exact (hV.all (by omega)).symm), HB.out⟩
  · have hz : ((checkZ k n m F : Int) != 0) = true := int_ne0.2 hchk
    have HT := Lib.hid (show totalB k n m F = false by unfold totalB; simp [hchk])
    clear hchk
    go_enter Try.func22, Try.ntmps22
    go_wp2_with (go_at_call 20; refine (updCheck_any _ _ _ _ _ _ _ _ _ (HM.out.below (below_alloc _ _))).mono ?_; rintro e w1 ⟨rfl, hb1⟩)
    go_ret
    exact ⟨by rw [HT.out]; rfl, (below_alloc _ _).trans (hb1.mono (below_alloc _ _).size)⟩
end Go.Proofs.Ytgnmelmmcpmhoaa
