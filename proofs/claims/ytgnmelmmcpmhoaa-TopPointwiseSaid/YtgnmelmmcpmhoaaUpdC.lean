/-
  Walks: of package update: minimal.
-/
import Derived.Test.YtgnmelmmcpmhoaaProg
import Derived.Test.YtgnmelmmcpmhoaaBase
import Derived.Test.YtgnmelmmcpmhoaaUpdA
import Derived.Test.YtgnmelmmcpmhoaaUpdB
namespace Go.Proofs.Ytgnmelmmcpmhoaa
open Go.RowKit

/-- What makes u no minimal element: an x of the set that is strictly before it. -/
def notBefore (f : Nat → Nat) (s u x : Nat) : Bool := !(s.testBit x && strB f x u)
def bestAt (f : Nat → Nat) (s u j : Nat) : Bool := s.testBit u && allB j (notBefore f s u)
def minB (n : Nat) (f : Nat → Nat) (s : Nat) (u : Nat) : Bool := bestAt f s u n
def minS (n : Nat) (f : Nat → Nat) (s : Nat) : Nat := mkSet n (minB n f s)
theorem allB_succ (n : Nat) (p : Nat → Bool) : allB (n + 1) p = (allB n p && p n) := by
  unfold allB; rw [List.range_succ, List.all_append]; simp
theorem bestAt_succ (f : Nat → Nat) (s u j : Nat) : bestAt f s u (j + 1) = (bestAt f s u j && notBefore f s u j) := by
  unfold bestAt; rw [allB_succ, Bool.and_assoc]
theorem bestAt_zero (f : Nat → Nat) (s u : Nat) : bestAt f s u 0 = s.testBit u := by unfold bestAt allB; simp
theorem shl_one {u P : Nat} (hP : P = 2 ^ u) (hu : u < 64) : IntKind.u64.wrap ((2 : Int) ^ u) = (P : Int) := by
  have h := pow_lt64 hu
  have e : ((2 : Int) ^ u) = ((2 ^ u : Nat) : Int) := by simp
  rw [e, IntWalk.u64_in _ (by omega), hP]
theorem mkSet_lt64 {n : Nat} {p : Nat → Bool} (hn : n ≤ 64) : mkSet n p < 18446744073709551616 := by
  have h1 := mkSet_lt n p
  have h2 : 2 ^ n ≤ 2 ^ 64 := Nat.pow_le_pow_right (by decide) hn
  omega
theorem or_mkSet {u P : Nat} {p : Nat → Bool} (hP : P = 2 ^ u) (hu : u < 64) (h : p u = true) : bits .or .u64 (mkSet u p : Int) (P : Int) = ((mkSet (u + 1) p : Nat) : Int) := by
  rw [u64_or_nat _ _ (mkSet_lt64 (by omega)) (by rw [hP]; exact pow_lt64 hu), mkSet_succ_yes h, hP]

set_option maxHeartbeats 1000000 in
theorem minimal_any (A : Option Addr) (n cap s : Nat) (f : Nat → Nat) (w : World) (hx : U64s w A n f) (hn : n ≤ 63) (hs : s < 18446744073709551616) :
    Calls Try.prog 51 #[.slice A n cap, .int .u64 s] w fun e w' => e = .returned (.int .u64 (minS n f s : Nat)) ∧ w = w' := by
  have HX := Lib.hid hx
  clear hx
  go_enter Try.func51, Try.ntmps51
  go_wp2
  go_loop [5, 11] (fun o i => ∃ u : Nat, u ≤ n ∧ i = .int .i64 u ∧ o = .int .u64 (mkSet u (minB n f s) : Nat)) (fun _ i => n - (intOf i).toNat)
  case atStart => exact ⟨0, Nat.zero_le _, rfl, rfl⟩
  case round =>
    obtain ⟨u, hu, rfl, rfl⟩ := hrel
    by_cases hlt : u < n
    · go_wp2_with (go_at_call 49; refine (has_any _ _ _ (by assumption)).mono ?_; rintro e w' ⟨rfl, rfl⟩)
      go_loop [7, 19] (fun b i => ∃ j : Nat, j ≤ n ∧ i = .int .i64 j ∧ b = .bool (bestAt f s u j)) (fun _ i => n - (intOf i).toNat)
      case atStart => exact ⟨0, Nat.zero_le _, rfl, by rw [bestAt_zero]⟩
      case round =>
        obtain ⟨j, hj, rfl, rfl⟩ := hrel
        by_cases hjlt : j < n
        · have HB := Lib.hid (bestAt_succ f s u j)
          cases hb : bestAt f s u j
          · go_wp2
            go_round
            case rel => exact ⟨j + 1, by omega, by go_num, by rw [HB.out, hb]; rfl⟩
            case measure => simp [intOf]; omega
          · cases h1 : s.testBit j
            · go_wp2_with (go_at_call 49; refine (has_any _ _ _ (by assumption)).mono ?_; rintro e w' ⟨rfl, rfl⟩)
              go_round
              case rel => exact ⟨j + 1, by omega, by go_num, by rw [HB.out, hb]; unfold notBefore; rw [h1]; rfl⟩
              case measure => simp [intOf]; omega
            · go_wp2_with (first | (go_at_call 49; refine (has_any _ _ _ (by assumption)).mono ?_; rintro e w' ⟨rfl, rfl⟩) | (go_at_call 45; refine (strictly_any _ _ _ _ _ _ _ HX.out (by omega) (by omega)).mono ?_; rintro e w' ⟨rfl, rfl⟩))
              go_round
              case rel => exact ⟨j + 1, by omega, by go_num, by rw [HB.out, hb]; unfold notBefore; rw [h1]; rfl⟩
              case measure => simp [intOf]; omega
        · obtain rfl : j = n := by omega
          obtain ⟨P, hP⟩ : ∃ P, P = 2 ^ u := ⟨_, rfl⟩
          have hsh := shl_one hP (by omega)
          have HP := Lib.hid hP
          clear hP
          cases hb : bestAt f s u j
          · go_wp2
            go_round
            case rel => exact ⟨u + 1, by omega, by go_num, by rw [mkSet_succ_no (p := minB j f s) hb]⟩
            case measure => simp [intOf]; omega
          · have hor := or_mkSet (p := minB j f s) HP.out (by omega) hb
            go_wp2
            go_round
            case rel => exact ⟨u + 1, by omega, by go_num, rfl⟩
            case measure => simp [intOf]; omega
    · obtain rfl : u = n := by omega
      go_wp2
      go_ret
      exact ⟨rfl, rfl⟩

/-- What 'Minimal' returns: the error of the family; ErrRange; else the minimal elements. -/
def minimalV (k : Int) (n : Nat) (m : Nat → Nat) (F : Nat → Nat → Nat) (v : Int) (s : Nat) : Nat :=
  if checkZ k n m F = 0 ∧ (0 ≤ v ∧ v < n) ∧ s < 2 ^ n then minS n (F v.toNat) s else 0
def minimalE (k : Int) (n : Nat) (m : Nat → Nat) (F : Nat → Nat → Nat) (v : Int) (s : Nat) : Nat :=
  if checkZ k n m F = 0 then (if (0 ≤ v ∧ v < n) ∧ s < 2 ^ n then 0 else 2) else checkZ k n m F
theorem checkZ_ok {k : Int} {n : Nat} {m : Nat → Nat} {F : Nat → Nat → Nat} (h : checkZ k n m F = 0) :
    ∃ kk : Nat, k = kk ∧ kk ≤ 3 ∧ n = 2 ^ kk ∧ (∀ v, v < n → m v = n) ∧ (∀ v j, v < n → j < n → F v j < 2 ^ n) ∧ ∀ v, v < n → preB n (F v) = true ∧ stateB n (F v) v = true := by
  unfold checkZ at h
  by_cases hk : 0 ≤ k ∧ k ≤ 3
  · rw [if_pos hk] at h
    obtain ⟨kk, rfl⟩ := Int.eq_ofNat_of_zero_le hk.1
    rw [Int.toNat_natCast] at h
    by_cases hn : n = 2 ^ kk
    · cases hf : allB n (formRow kk n m F)
      · rw [checkF_form hn hf] at h; cases h
      · rw [checkF_ok hn hf] at h
        have hform := allB_iff.1 hf
        refine ⟨kk, rfl, by omega, hn, fun v hv => (formRow_of (hform v hv)).1, fun v j hv hj => by rw [hn]; exact (formRow_of (hform v hv)).2 j hj, fun v hv => ?_⟩
        have hz : ordErr n F v = 0 := by
          apply Classical.byContradiction
          intro hne
          have hex : ∃ z, z < n ∧ ordErr n F z ≠ 0 ∧ ∀ u, u < z → ordErr n F u = 0 := by
            clear h hform hf
            induction v using Nat.strongRecOn with
            | ind v ih =>
              by_cases hall : ∀ u, u < v → ordErr n F u = 0
              · exact ⟨v, hv, hne, hall⟩
              · obtain ⟨u, hu⟩ := Classical.not_forall.1 hall
                obtain ⟨hu1, hu2⟩ := Classical.not_imp.1 hu
                exact ih u hu1 (by omega) hu2
          obtain ⟨z, hz, hz1, hz2⟩ := hex
          rw [firstErr_hit hz hz2 hz1] at h
          exact hz1 h
        unfold ordErr at hz
        cases hp : preB n (F v)
        · rw [hp] at hz; cases hz
        · cases hs : stateB n (F v) v
          · rw [hp, hs] at hz; cases hz
          · exact ⟨rfl, rfl⟩
    · unfold checkF at h; rw [if_neg hn] at h; cases h
  · rw [if_neg hk] at h; cases h

set_option maxHeartbeats 1000000 in
theorem Minimal_any (k v : Int) (s : Nat) (A : Option Addr) (n c : Nat) (R : Nat → Option Addr) (m cc : Nat → Nat) (F : Nat → Nat → Nat) (w : World) (hM : Mat w A n R m cc F) (hn : n ≤ 9223372036854775807) (hs : s < 18446744073709551616) :
    Calls Try.prog 25 #[.agg #[.int .i64 k, .slice A n c], .int .i64 v, .int .u64 s] w fun e w' =>
      e = .returned (.tuple #[.int .u64 (minimalV k n m F v s : Nat), .int .i64 (minimalE k n m F v s : Nat)]) ∧ Below w.heap.size w w' := by
  have HM := Lib.hid hM
  clear hM
  by_cases hchk : checkZ k n m F = 0
  · obtain ⟨kk, rfl, hk3, hnk, hmv, hFv, _⟩ := checkZ_ok hchk
    have HMV := Lib.hid hmv
    have hn8 := pow_le8 hnk hk3
    have hb : ((checkZ kk n m F : Int) != 0) = false := int_ne0f.2 hchk
    have HN := Lib.hid hnk
    clear hnk hmv hFv
    by_cases hv : 0 ≤ v ∧ v < n
    · obtain ⟨z, rfl⟩ := Int.eq_ofNat_of_zero_le hv.1
      have hzn : z < n := by omega
      have hv1 : decide ((z : Int) < 0) = false := by simp
      have hv2 : decide ((n : Int) ≤ (z : Int)) = false := by simp; omega
      by_cases hsn : s < 2 ^ n
      · have hse : ((setErr kk s : Int) != 0) = false := by
          unfold setErr; rw [← HN.out, if_pos hsn]; rfl
        have HV := Lib.hid (show minimalV kk n m F z s = minS n (F z) s ∧ minimalE kk n m F z s = 0 from ⟨by unfold minimalV; rw [if_pos ⟨hchk, ⟨by omega, by omega⟩, hsn⟩]; rfl, by unfold minimalE; rw [if_pos hchk, if_pos ⟨⟨by omega, by omega⟩, hsn⟩]⟩)
        clear hchk hv hsn
        go_enter Try.func25, Try.ntmps25
        go_wp2_with fail
        obtain ⟨c0, c1⟩ := cells_box2 w (.int .i64 kk) (.slice A n c) 24
        have hB := below_alloc w (.cells #[.int .i64 kk, .slice A n c] 24)
        generalize w.alloc (.cells #[.int .i64 kk, .slice A n c] 24) = W at c0 c1 hB ⊢
        refine (updCheck_any _ _ _ _ _ _ _ _ _ (HM.out.below hB)).mono ?_
        rintro e w1 ⟨rfl, hb1⟩
        have d0 := cell_below hb1 c0
        have d1 := cell_below hb1 c1
        have HM1 := Lib.hid ((HM.out.below hB).below hb1)
        have HB := Lib.hid (hB.trans (hb1.mono hB.size))
        obtain ⟨b, off, rfl, hc, hm, hr⟩ := HM1.out z hzn
        rw [HMV.out z hzn] at hc hr
        have HR := Lib.hid hr
        clear hr hm c0 c1 hb1 HM HM1 hB
        go_wp2_with (first | (go_at_call 43; refine (bsCheck_any _ _ _ (by assumption) (by omega)).mono ?_; rintro e w' ⟨rfl, rfl⟩) | (go_at_call 51; refine (minimal_any _ _ _ _ _ _ HR.out (by omega) (by assumption)).mono ?_; rintro e w' ⟨rfl, rfl⟩))
        go_ret2
        exact ⟨by rw [HV.out.1, HV.out.2]; rfl, HB.out⟩
      · have hse : ((setErr kk s : Int) != 0) = true := by
          unfold setErr; rw [← HN.out, if_neg hsn]; rfl
        have HV := Lib.hid (show minimalV kk n m F z s = 0 ∧ minimalE kk n m F z s = 2 from ⟨by unfold minimalV; rw [if_neg fun h => hsn h.2.2], by unfold minimalE; rw [if_pos hchk, if_neg fun h => hsn h.2]⟩)
        clear hchk hv hsn
        go_enter Try.func25, Try.ntmps25
        go_wp2_with fail
        obtain ⟨c0, c1⟩ := cells_box2 w (.int .i64 kk) (.slice A n c) 24
        have hB := below_alloc w (.cells #[.int .i64 kk, .slice A n c] 24)
        generalize w.alloc (.cells #[.int .i64 kk, .slice A n c] 24) = W at c0 c1 hB ⊢
        refine (updCheck_any _ _ _ _ _ _ _ _ _ (HM.out.below hB)).mono ?_
        rintro e w1 ⟨rfl, hb1⟩
        have d0 := cell_below hb1 c0
        have d1 := cell_below hb1 c1
        have HB := Lib.hid (hB.trans (hb1.mono hB.size))
        clear c0 c1 hb1 hB
        go_wp2_with (first | (go_at_call 43; refine (bsCheck_any _ _ _ (by assumption) (by omega)).mono ?_; rintro e w' ⟨rfl, rfl⟩))
        go_ret2
        exact ⟨by rw [HV.out.1, HV.out.2]; rfl, HB.out⟩
    · have HV := Lib.hid (show minimalV kk n m F v s = 0 ∧ minimalE kk n m F v s = 2 from ⟨by unfold minimalV; rw [if_neg fun h => hv h.2.1], by unfold minimalE; rw [if_pos hchk, if_neg fun h => hv h.1]⟩)
      by_cases h0 : v < 0
      · have hv1 : decide (v < 0) = true := by simpa using h0
        clear hchk hv
        go_enter Try.func25, Try.ntmps25
        go_wp2_with fail
        obtain ⟨c0, c1⟩ := cells_box2 w (.int .i64 kk) (.slice A n c) 24
        have hB := below_alloc w (.cells #[.int .i64 kk, .slice A n c] 24)
        generalize w.alloc (.cells #[.int .i64 kk, .slice A n c] 24) = W at c0 c1 hB ⊢
        refine (updCheck_any _ _ _ _ _ _ _ _ _ (HM.out.below hB)).mono ?_
        rintro e w1 ⟨rfl, hb1⟩
        have d0 := cell_below hb1 c0
        have d1 := cell_below hb1 c1
        have HB := Lib.hid (hB.trans (hb1.mono hB.size))
        clear c0 c1 hb1 hB
        go_wp2_with (first | (go_at_call 43; refine (bsCheck_any _ _ _ (by assumption) (by omega)).mono ?_; rintro e w' ⟨rfl, rfl⟩))
        go_ret2
        exact ⟨by rw [HV.out.1, HV.out.2]; rfl, HB.out⟩
      · have h0 : decide (v < 0) = false := by simpa using h0
        have hv1 : decide ((n : Int) ≤ v) = true := by simp at h0 ⊢; omega
        clear hchk hv
        go_enter Try.func25, Try.ntmps25
        go_wp2_with fail
        obtain ⟨c0, c1⟩ := cells_box2 w (.int .i64 kk) (.slice A n c) 24
        have hB := below_alloc w (.cells #[.int .i64 kk, .slice A n c] 24)
        generalize w.alloc (.cells #[.int .i64 kk, .slice A n c] 24) = W at c0 c1 hB ⊢
        refine (updCheck_any _ _ _ _ _ _ _ _ _ (HM.out.below hB)).mono ?_
        rintro e w1 ⟨rfl, hb1⟩
        have d0 := cell_below hb1 c0
        have d1 := cell_below hb1 c1
        have HB := Lib.hid (hB.trans (hb1.mono hB.size))
        clear c0 c1 hb1 hB
        go_wp2_with (first | (go_at_call 43; refine (bsCheck_any _ _ _ (by assumption) (by omega)).mono ?_; rintro e w' ⟨rfl, rfl⟩))
        go_ret2
        exact ⟨by rw [HV.out.1, HV.out.2]; rfl, HB.out⟩
  · have hb : ((checkZ k n m F : Int) != 0) = true := int_ne0.2 hchk
    have HV := Lib.hid (show minimalV k n m F v s = 0 ∧ minimalE k n m F v s = checkZ k n m F from ⟨by unfold minimalV; rw [if_neg fun h => hchk h.1], by unfold minimalE; rw [if_neg hchk]⟩)
    clear hchk
    go_enter Try.func25, Try.ntmps25
    go_wp2_with (go_at_call 20; refine (updCheck_any _ _ _ _ _ _ _ _ _ (HM.out.below (below_alloc _ _))).mono ?_; rintro e w1 ⟨rfl, hb1⟩)
    go_ret2
    exact ⟨by rw [HV.out.1, HV.out.2]; rfl, (below_alloc _ _).trans (hb1.mono (below_alloc _ _).size)⟩
end Go.Proofs.Ytgnmelmmcpmhoaa
