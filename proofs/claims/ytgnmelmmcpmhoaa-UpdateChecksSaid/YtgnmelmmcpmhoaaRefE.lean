/-
  Walks: the reference of layer 41: Winslett, Forbus, Same.
-/
import Derived.Test.YtgnmelmmcpmhoaaProg
import Derived.Test.YtgnmelmmcpmhoaaBase
import Derived.Test.YtgnmelmmcpmhoaaRowsOf
import Derived.Test.YtgnmelmmcpmhoaaUpdE
import Derived.Test.YtgnmelmmcpmhoaaUpdF
import Derived.Test.YtgnmelmmcpmhoaaRefD
import Derived.Test.YtgnmelmmcpmhoaaLawC
namespace Go.Proofs.Ytgnmelmmcpmhoaa
open Go.RowKit

set_option maxHeartbeats 400000 in
theorem refWinslett_any (k : Int) (w : World) : Calls Try.prog 17 #[.int .i64 k] w (FamPost k subB w) := by
  by_cases hk : 0 ≤ k ∧ k ≤ 3
  · obtain ⟨kk, rfl⟩ := Int.eq_ofNat_of_zero_le hk.1
    have hkk : kk ≤ 3 := by omega
    obtain ⟨n, hn⟩ : ∃ n, n = 2 ^ kk := ⟨_, rfl⟩
    have HF := Lib.hid (show famK kk = kk ∧ famN kk = n ∧ famE kk = 0 from ⟨by unfold famK; rw [if_pos hk], by unfold famN; rw [if_pos hk, hn]; rfl, by unfold famE; rw [if_pos hk]⟩)
    have HN := Lib.hid hn
    clear hn hk
    go_enter Try.func17, Try.ntmps17
    go_wp2_with fail
    obtain ⟨c0, c1⟩ := cells_box2 w (.int .i64 0) (.slice none 0 0) 24
    have f0 : (w.alloc (.cells #[.int .i64 0, .slice none 0 0] 24)).frozen? ⟨w.heap.size, 0, none⟩ = false := by go_simp
    have f1 : (w.alloc (.cells #[.int .i64 0, .slice none 0 0] 24)).frozen? ⟨w.heap.size, 1, none⟩ = false := by go_simp
    have hB := below_alloc w (.cells #[.int .i64 0, .slice none 0 0] 24)
    have hlt : w.heap.size < (w.alloc (.cells #[.int .i64 0, .slice none 0 0] 24)).heap.size := by simp
    generalize w.alloc (.cells #[.int .i64 0, .slice none 0 0] 24) = W at c0 c1 f0 f1 hB hlt ⊢
    refine (build_W kk n _ hkk HN.out).mono ?_
    rintro e w1 ⟨A, c, R, cc, rfl, hm, hf, hb⟩
    have d0 := cell_below hb c0
    have d1 := cell_below hb c1
    have g0 := (bcell hb).2 w.heap.size 0 hlt
    have g1 := (bcell hb).2 w.heap.size 1 hlt
    rw [f0] at g0
    rw [f1] at g1
    obtain ⟨k0, k1⟩ := set2 (x := .int .i64 kk) (y := .slice A n c) d0 d1
    have HM := Lib.hid ((hm.setCell hf (p := ⟨w.heap.size, 0, none⟩) hlt (.int .i64 kk)).setCell hf (p := ⟨w.heap.size, 1, none⟩) hlt (.slice A n c))
    have HFr := Lib.hid (hf.mono (Nat.le_of_lt hlt))
    have HB := Lib.hid (hB.trans (hb.mono hB.size))
    clear hm hb hf hB c0 c1 f0 f1
    go_wp2
    refine bodyPost_ret (v := .tuple #[.agg #[.int .i64 kk, .slice A n c], .int .i64 0]) (by simp [results, Try.results17, go_sem, k0, k1]) rfl ?_
    obtain ⟨e1, e2, e3⟩ := HF.out
    unfold FamPost
    rw [e1, e2, e3]
    exact ⟨A, c, R, cc, rfl, HM.out, HFr.out, (HB.out.setCell (Nat.le_refl _) _).setCell (Nat.le_refl _) _⟩
  · have HF := Lib.hid (show famK k = 0 ∧ famN k = 0 ∧ famE k = 2 from ⟨by unfold famK; rw [if_neg hk], by unfold famN; rw [if_neg hk], by unfold famE; rw [if_neg hk]⟩)
    have HK := Lib.hid hk
    clear hk
    go_enter Try.func17, Try.ntmps17
    go_wp2_with fail
    obtain ⟨c0, c1⟩ := cells_box2 w (.int .i64 0) (.slice none 0 0) 24
    have f0 : (w.alloc (.cells #[.int .i64 0, .slice none 0 0] 24)).frozen? ⟨w.heap.size, 0, none⟩ = false := by go_simp
    have f1 : (w.alloc (.cells #[.int .i64 0, .slice none 0 0] 24)).frozen? ⟨w.heap.size, 1, none⟩ = false := by go_simp
    have hB := below_alloc w (.cells #[.int .i64 0, .slice none 0 0] 24)
    have hlt : w.heap.size < (w.alloc (.cells #[.int .i64 0, .slice none 0 0] 24)).heap.size := by simp
    generalize w.alloc (.cells #[.int .i64 0, .slice none 0 0] 24) = W at c0 c1 f0 f1 hB hlt ⊢
    refine (refFam_bad k _ _ HK.out).mono ?_
    rintro e w1 ⟨rfl, hb⟩
    have d0 := cell_below hb c0
    have d1 := cell_below hb c1
    have g0 := (bcell hb).2 w.heap.size 0 hlt
    have g1 := (bcell hb).2 w.heap.size 1 hlt
    rw [f0] at g0
    rw [f1] at g1
    obtain ⟨k0, k1⟩ := set2 (x := .int .i64 0) (y := .slice none 0 0) d0 d1
    have HB := Lib.hid (hB.trans (hb.mono hB.size))
    clear hb hB c0 c1 f0 f1
    go_wp2
    refine bodyPost_ret (v := .tuple #[.agg #[.int .i64 0, .slice none 0 0], .int .i64 2]) (by simp [results, Try.results17, go_sem, k0, k1]) rfl ?_
    obtain ⟨e1, e2, e3⟩ := HF.out
    unfold FamPost
    rw [e1, e2, e3]
    exact ⟨none, 0, fun _ => none, fun _ => 0, rfl, fun i hi => absurd hi (Nat.not_lt_zero _), ⟨fun i hi => absurd hi (Nat.not_lt_zero _), fun i hi => absurd hi (Nat.not_lt_zero _)⟩, (HB.out.setCell (Nat.le_refl _) _).setCell (Nat.le_refl _) _⟩

set_option maxHeartbeats 400000 in
theorem refForbus_any (k : Int) (w : World) : Calls Try.prog 19 #[.int .i64 k] w (FamPost k cntB w) := by
  by_cases hk : 0 ≤ k ∧ k ≤ 3
  · obtain ⟨kk, rfl⟩ := Int.eq_ofNat_of_zero_le hk.1
    have hkk : kk ≤ 3 := by omega
    obtain ⟨n, hn⟩ : ∃ n, n = 2 ^ kk := ⟨_, rfl⟩
    have HF := Lib.hid (show famK kk = kk ∧ famN kk = n ∧ famE kk = 0 from ⟨by unfold famK; rw [if_pos hk], by unfold famN; rw [if_pos hk, hn]; rfl, by unfold famE; rw [if_pos hk]⟩)
    have HN := Lib.hid hn
    clear hn hk
    go_enter Try.func19, Try.ntmps19
    go_wp2_with fail
    obtain ⟨c0, c1⟩ := cells_box2 w (.int .i64 0) (.slice none 0 0) 24
    have f0 : (w.alloc (.cells #[.int .i64 0, .slice none 0 0] 24)).frozen? ⟨w.heap.size, 0, none⟩ = false := by go_simp
    have f1 : (w.alloc (.cells #[.int .i64 0, .slice none 0 0] 24)).frozen? ⟨w.heap.size, 1, none⟩ = false := by go_simp
    have hB := below_alloc w (.cells #[.int .i64 0, .slice none 0 0] 24)
    have hlt : w.heap.size < (w.alloc (.cells #[.int .i64 0, .slice none 0 0] 24)).heap.size := by simp
    generalize w.alloc (.cells #[.int .i64 0, .slice none 0 0] 24) = W at c0 c1 f0 f1 hB hlt ⊢
    refine (build_F kk n _ hkk HN.out).mono ?_
    rintro e w1 ⟨A, c, R, cc, rfl, hm, hf, hb⟩
    have d0 := cell_below hb c0
    have d1 := cell_below hb c1
    have g0 := (bcell hb).2 w.heap.size 0 hlt
    have g1 := (bcell hb).2 w.heap.size 1 hlt
    rw [f0] at g0
    rw [f1] at g1
    obtain ⟨k0, k1⟩ := set2 (x := .int .i64 kk) (y := .slice A n c) d0 d1
    have HM := Lib.hid ((hm.setCell hf (p := ⟨w.heap.size, 0, none⟩) hlt (.int .i64 kk)).setCell hf (p := ⟨w.heap.size, 1, none⟩) hlt (.slice A n c))
    have HFr := Lib.hid (hf.mono (Nat.le_of_lt hlt))
    have HB := Lib.hid (hB.trans (hb.mono hB.size))
    clear hm hb hf hB c0 c1 f0 f1
    go_wp2
    refine bodyPost_ret (v := .tuple #[.agg #[.int .i64 kk, .slice A n c], .int .i64 0]) (by simp [results, Try.results19, go_sem, k0, k1]) rfl ?_
    obtain ⟨e1, e2, e3⟩ := HF.out
    unfold FamPost
    rw [e1, e2, e3]
    exact ⟨A, c, R, cc, rfl, HM.out, HFr.out, (HB.out.setCell (Nat.le_refl _) _).setCell (Nat.le_refl _) _⟩
  · have HF := Lib.hid (show famK k = 0 ∧ famN k = 0 ∧ famE k = 2 from ⟨by unfold famK; rw [if_neg hk], by unfold famN; rw [if_neg hk], by unfold famE; rw [if_neg hk]⟩)
    have HK := Lib.hid hk
    clear hk
    go_enter Try.func19, Try.ntmps19
    go_wp2_with fail
    obtain ⟨c0, c1⟩ := cells_box2 w (.int .i64 0) (.slice none 0 0) 24
    have f0 : (w.alloc (.cells #[.int .i64 0, .slice none 0 0] 24)).frozen? ⟨w.heap.size, 0, none⟩ = false := by go_simp
    have f1 : (w.alloc (.cells #[.int .i64 0, .slice none 0 0] 24)).frozen? ⟨w.heap.size, 1, none⟩ = false := by go_simp
    have hB := below_alloc w (.cells #[.int .i64 0, .slice none 0 0] 24)
    have hlt : w.heap.size < (w.alloc (.cells #[.int .i64 0, .slice none 0 0] 24)).heap.size := by simp
    generalize w.alloc (.cells #[.int .i64 0, .slice none 0 0] 24) = W at c0 c1 f0 f1 hB hlt ⊢
    refine (refFam_bad k _ _ HK.out).mono ?_
    rintro e w1 ⟨rfl, hb⟩
    have d0 := cell_below hb c0
    have d1 := cell_below hb c1
    have g0 := (bcell hb).2 w.heap.size 0 hlt
    have g1 := (bcell hb).2 w.heap.size 1 hlt
    rw [f0] at g0
    rw [f1] at g1
    obtain ⟨k0, k1⟩ := set2 (x := .int .i64 0) (y := .slice none 0 0) d0 d1
    have HB := Lib.hid (hB.trans (hb.mono hB.size))
    clear hb hB c0 c1 f0 f1
    go_wp2
    refine bodyPost_ret (v := .tuple #[.agg #[.int .i64 0, .slice none 0 0], .int .i64 2]) (by simp [results, Try.results19, go_sem, k0, k1]) rfl ?_
    obtain ⟨e1, e2, e3⟩ := HF.out
    unfold FamPost
    rw [e1, e2, e3]
    exact ⟨none, 0, fun _ => none, fun _ => 0, rfl, fun i hi => absurd hi (Nat.not_lt_zero _), ⟨fun i hi => absurd hi (Nat.not_lt_zero _), fun i hi => absurd hi (Nat.not_lt_zero _)⟩, (HB.out.setCell (Nat.le_refl _) _).setCell (Nat.le_refl _) _⟩


/-! ### Same -/
set_option maxHeartbeats 1000000 in
theorem same_yes (k : Int) (n c1 c2 : Nat) (A1 A2 : Option Addr) (R1 R2 : Nat → Option Addr) (m cc1 cc2 : Nat → Nat) (F : Nat → Nat → Nat) (w : World) (h1 : Mat w A1 n R1 m cc1 F) (h2 : Mat w A2 n R2 m cc2 F) (hn : n ≤ 9223372036854775807) :
    Calls Try.prog 24 #[.agg #[.int .i64 k, .slice A1 n c1], .agg #[.int .i64 k, .slice A2 n c2]] w fun e w' => e = .returned (.bool true) ∧ Below w.heap.size w w' := by
  have HM1 := Lib.hid h1
  have HM2 := Lib.hid h2
  clear h1 h2
  go_enter Try.func24, Try.ntmps24
  go_wp2_with fail
  obtain ⟨d0, d1, e0, e1, hB⟩ := cells_box22 w (.int .i64 k) (.slice A1 n c1) (.int .i64 k) (.slice A2 n c2) 24 24
  generalize (w.alloc (.cells #[.int .i64 k, .slice A1 n c1] 24)).alloc (.cells #[.int .i64 k, .slice A2 n c2] 24) = W at d0 d1 e0 e1 hB ⊢
  have HM1 := Lib.hid (HM1.out.below hB)
  have HM2 := Lib.hid (HM2.out.below hB)
  have HB0 := Lib.hid hB
  have D1 := Lib.hid d1
  have E1 := Lib.hid e1
  clear hB d0 d1 e0 e1
  go_loopw [5] (fun i wr => ∃ i' : Nat, i' ≤ n ∧ i = .int .i64 i' ∧ Below W.heap.size W wr) (fun i _ => n - (intOf i).toNat)
  case atStart => exact ⟨0, Nat.zero_le _, rfl, Below.refl _ _⟩
  case round =>
    obtain ⟨i, hi, rfl, hbl⟩ := hrel
    have d1 := cell_below hbl D1.out
    have e1 := cell_below hbl E1.out
    have HB := Lib.hid hbl
    clear hbl
    by_cases hlt : i < n
    · obtain ⟨b1, o1, rfl, hc1, hm1, hr1⟩ := HM1.out.below HB.out i hlt
      obtain ⟨b2, o2, rfl, hc2, hm2, hr2⟩ := HM2.out.below HB.out i hlt
      clear hr1 hr2
      go_wp2_with fail
      go_quiet (fail)
      have HB := Lib.hid (below_drewN HB.out nq)
      generalize wr.drewN nq = V at HB ⊢
      clear d1 e1 hc1 hc2
      go_wp2
      go_loopw [6] (fun j wr => ∃ j' : Nat, j' ≤ m i ∧ j = .int .i64 j' ∧ Below W.heap.size W wr) (fun j _ => m i - (intOf j).toNat)
      case atStart => exact ⟨0, Nat.zero_le _, rfl, HB.out⟩
      case round =>
        clear HB
        obtain ⟨j, hj, rfl, hbl⟩ := hrel
        have d1 := cell_below hbl D1.out
        have e1 := cell_below hbl E1.out
        have HB := Lib.hid hbl
        clear hbl
        obtain ⟨b3, o3, he3, hc1, hm3, hr1⟩ := HM1.out.below HB.out i hlt
        obtain ⟨b4, o4, he4, hc2, hm4, hr2⟩ := HM2.out.below HB.out i hlt
        injection he3 with he3
        injection he3 with he31 he32 he33
        subst he31 he32
        injection he4 with he4
        injection he4 with he41 he42 he43
        subst he41 he42
        clear he33 he43 hm3 hm4
        by_cases hjlt : j < m i
        · obtain ⟨b5, o5, hR1, hg1, hf1⟩ := hr1 j hjlt
          obtain ⟨b6, o6, hR2, hg2, hf2⟩ := hr2 j hjlt
          clear hr1 hr2 hf1 hf2
          rw [hR1] at hc1
          rw [hR2] at hc2
          clear hR1 hR2
          go_wp2_with fail
          go_quiet (fail)
          have HB := Lib.hid (below_drewN HB.out nq)
          generalize wr.drewN nq = V at HB ⊢
          clear d1 e1 hc1 hc2 hg1 hg2
          go_wp2
          go_round
          case rel => exact ⟨j + 1, by omega, by go_num, HB.out⟩
          case measure => simp [intOf]; omega
        · clear hr1 hr2
          go_wp2
          go_round
          case rel => exact ⟨i + 1, by omega, by go_num, HB.out⟩
          case measure => simp [intOf]; omega
    · go_wp2
      go_ret
      exact ⟨rfl, HB0.out.trans (HB.out.mono HB0.out.size)⟩
end Go.Proofs.Ytgnmelmmcpmhoaa
