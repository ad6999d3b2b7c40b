/-
  Walks: of package update: Winslett and Forbus, for every number of facts.
-/
import Derived.Test.YtgnmelmmcpmhoaaProg
import Derived.Test.YtgnmelmmcpmhoaaBase
import Derived.Test.YtgnmelmmcpmhoaaUpdA
import Derived.Test.YtgnmelmmcpmhoaaUpdB
import Derived.Test.YtgnmelmmcpmhoaaUpdE
import Derived.Test.YtgnmelmmcpmhoaaOnes
namespace Go.Proofs.Ytgnmelmmcpmhoaa
open Go.RowKit

def subB (a b : Nat) : Bool := a &&& b == a
def cntB (a b : Nat) : Bool := decide (popc a ≤ popc b)
theorem sub_val (a b : Nat) (ha : a < 8) (hb : b < 8) : (bits .andNot .i64 (a : Int) (b : Int) == 0) = subB a b := by
  have h : ∀ a : Nat, a < 8 → ∀ b : Nat, b < 8 → (bits .andNot .i64 (a : Int) (b : Int) == 0) = subB a b := by decide +kernel
  exact h a ha b hb
theorem closW_any (a b : Nat) (w : World) (ha : a < 8) (hb : b < 8) :
    Calls Try.prog 39 #[.int .i64 a, .int .i64 b] w fun e w' => e = .returned (.bool (subB a b)) ∧ w = w' := by
  have h := Lib.hid (sub_val a b ha hb)
  go_enter Try.func39, Try.ntmps39
  go_wp2
  go_ret
  exact ⟨by rw [h.out]; rfl, rfl⟩
theorem closF_any (a b : Nat) (w : World) (ha : a < 8) (hb : b < 8) :
    Calls Try.prog 41 #[.int .i64 a, .int .i64 b] w fun e w' => e = .returned (.bool (cntB a b)) ∧ w = w' := by
  go_enter Try.func41, Try.ntmps41
  go_wp2_with (go_at_call 42; refine (ones_any _ _ (by omega)).mono ?_; rintro e w' ⟨rfl, rfl⟩)
  go_ret
  exact ⟨rfl, rfl⟩

/-- The results of Winslett and Forbus for k facts. -/
def famK (k : Int) : Int := if 0 ≤ k ∧ k ≤ 3 then k else 0
def famN (k : Int) : Nat := if 0 ≤ k ∧ k ≤ 3 then 2 ^ k.toNat else 0
def famE (k : Int) : Nat := if 0 ≤ k ∧ k ≤ 3 then 0 else 2
def FamPost (k : Int) (cl : Nat → Nat → Bool) (w : World) (e : Ending) (w' : World) : Prop :=
  ∃ A c R cc, e = .returned (.tuple #[.agg #[.int .i64 (famK k), .slice A (famN k) c], .int .i64 (famE k : Nat)]) ∧ Mat w' A (famN k) R (fun _ => famN k) cc (famF (famN k) cl) ∧ FreshM w.heap.size A (famN k) R (fun _ => famN k) ∧ Below w.heap.size w w'

theorem family_bad (K : FuncId) (k : Int) (w : World) (hk : ¬ (0 ≤ k ∧ k ≤ 3)) :
    Calls Try.prog 38 #[.int .i64 k, .func (.func K) #[] #[]] w fun e w' => e = .returned (.tuple #[.agg #[.int .i64 0, .slice none 0 0], .int .i64 2]) ∧ Below w.heap.size w w' := by
  have key : ∀ x y : Value, (w.alloc (.cells #[x, y] 24)).cell? ⟨w.heap.size, 0, none⟩ = some x ∧ (w.alloc (.cells #[x, y] 24)).cell? ⟨w.heap.size, 1, none⟩ = some y := fun x y => cells_box2 w x y _
  by_cases h0 : k < 0
  · go_enter Try.func38, Try.ntmps38
    go_wp2
    exact bodyPost_ret (v := .tuple #[.agg #[.int .i64 0, .slice none 0 0], .int .i64 2]) (by simp [results, Try.results38, go_sem]) rfl ⟨rfl, below_alloc _ _⟩
  · have h3 : 3 < k := by omega
    clear hk
    go_enter Try.func38, Try.ntmps38
    go_wp2
    exact bodyPost_ret (v := .tuple #[.agg #[.int .i64 0, .slice none 0 0], .int .i64 2]) (by simp [results, Try.results38, go_sem]) rfl ⟨rfl, below_alloc _ _⟩

set_option maxHeartbeats 400000 in
theorem Winslett_any (k : Int) (w : World) : Calls Try.prog 16 #[.int .i64 k] w (FamPost k subB w) := by
  by_cases hk : 0 ≤ k ∧ k ≤ 3
  · obtain ⟨kk, rfl⟩ := Int.eq_ofNat_of_zero_le hk.1
    have hkk : kk ≤ 3 := by omega
    obtain ⟨n, hn⟩ : ∃ n, n = 2 ^ kk := ⟨_, rfl⟩
    have HF := Lib.hid (show famK kk = kk ∧ famN kk = n ∧ famE kk = 0 from ⟨by unfold famK; rw [if_pos hk], by unfold famN; rw [if_pos hk, hn]; rfl, by unfold famE; rw [if_pos hk]⟩)
    have HN := Lib.hid hn
    clear hn hk
    have HC := Lib.hid closW_any
    go_enter Try.func16, Try.ntmps16
    go_wp2_with fail
    obtain ⟨c0, c1⟩ := cells_box2 w (.int .i64 0) (.slice none 0 0) 24
    have f0 : (w.alloc (.cells #[.int .i64 0, .slice none 0 0] 24)).frozen? ⟨w.heap.size, 0, none⟩ = false := by go_simp
    have f1 : (w.alloc (.cells #[.int .i64 0, .slice none 0 0] 24)).frozen? ⟨w.heap.size, 1, none⟩ = false := by go_simp
    have hB := below_alloc w (.cells #[.int .i64 0, .slice none 0 0] 24)
    have hlt : w.heap.size < (w.alloc (.cells #[.int .i64 0, .slice none 0 0] 24)).heap.size := by simp
    generalize w.alloc (.cells #[.int .i64 0, .slice none 0 0] 24) = W at c0 c1 f0 f1 hB hlt ⊢
    refine (family_W kk n subB _ hkk HN.out HC.out).mono ?_
    rintro e w1 ⟨A, c, R, cc, rfl, hm, hf, hb⟩
    have d0 := cell_below hb c0
    have d1 := cell_below hb c1
    have g0 := (bcell hb).2 w.heap.size 0 hlt
    have g1 := (bcell hb).2 w.heap.size 1 hlt
    rw [f0] at g0
    rw [f1] at g1
    obtain ⟨k0, k1⟩ := set2 (x := .int .i64 kk) (y := .slice A n c) d0 d1
    have HM := Lib.hid ((hm.setCell hf (p := ⟨w.heap.size, 0, none⟩) hlt (.int .i64 kk)).setCell hf (p := ⟨w.heap.size, 1, none⟩) hlt (.slice A n c))
    have HFr := Lib.hid (hf.mono (Nat.le_of_lt hlt))
    have HB := Lib.hid (hB.trans (hb.mono hB.size))
    clear hm hb hf hB c0 c1 f0 f1
    go_wp2
    refine bodyPost_ret (v := .tuple #[.agg #[.int .i64 kk, .slice A n c], .int .i64 0]) (by simp [results, Try.results16, go_sem, k0, k1]) rfl ?_
    obtain ⟨e1, e2, e3⟩ := HF.out
    unfold FamPost
    rw [e1, e2, e3]
    exact ⟨A, c, R, cc, rfl, HM.out, HFr.out, (HB.out.setCell (Nat.le_refl _) _).setCell (Nat.le_refl _) _⟩
  · have HF := Lib.hid (show famK k = 0 ∧ famN k = 0 ∧ famE k = 2 from ⟨by unfold famK; rw [if_neg hk], by unfold famN; rw [if_neg hk], by unfold famE; rw [if_neg hk]⟩)
    have HK := Lib.hid hk
    clear hk
    go_enter Try.func16, Try.ntmps16
    go_wp2_with fail
    obtain ⟨c0, c1⟩ := cells_box2 w (.int .i64 0) (.slice none 0 0) 24
    have f0 : (w.alloc (.cells #[.int .i64 0, .slice none 0 0] 24)).frozen? ⟨w.heap.size, 0, none⟩ = false := by go_simp
    have f1 : (w.alloc (.cells #[.int .i64 0, .slice none 0 0] 24)).frozen? ⟨w.heap.size, 1, none⟩ = false := by go_simp
    have hB := below_alloc w (.cells #[.int .i64 0, .slice none 0 0] 24)
    have hlt : w.heap.size < (w.alloc (.cells #[.int .i64 0, .slice none 0 0] 24)).heap.size := by simp
    generalize w.alloc (.cells #[.int .i64 0, .slice none 0 0] 24) = W at c0 c1 f0 f1 hB hlt ⊢
    refine (family_bad _ k _ HK.out).mono ?_
    rintro e w1 ⟨rfl, hb⟩
    have d0 := cell_below hb c0
    have d1 := cell_below hb c1
    have g0 := (bcell hb).2 w.heap.size 0 hlt
    have g1 := (bcell hb).2 w.heap.size 1 hlt
    rw [f0] at g0
    rw [f1] at g1
    obtain ⟨k0, k1⟩ := set2 (x := .int .i64 0) (y := .slice none 0 0) d0 d1
    have HB := Lib.hid (hB.trans (hb.mono hB.size))
    clear hb hB c0 c1 f0 f1
    go_wp2
    refine bodyPost_ret (v := .tuple #[.agg #[.int .i64 0, .slice none 0 0], .int .i64 2]) (by simp [results, Try.results16, go_sem, k0, k1]) rfl ?_
    obtain ⟨e1, e2, e3⟩ := HF.out
    unfold FamPost
    rw [e1, e2, e3]
    exact ⟨none, 0, fun _ => none, fun _ => 0, rfl, fun i hi => absurd hi (Nat.not_lt_zero _), ⟨fun i hi => absurd hi (Nat.not_lt_zero _), fun i hi => absurd hi (Nat.not_lt_zero _)⟩, (HB.out.setCell (Nat.le_refl _) _).setCell (Nat.le_refl _) _⟩

set_option maxHeartbeats 400000 in
theorem Forbus_any (k : Int) (w : World) : Calls Try.prog 18 #[.int .i64 k] w (FamPost k cntB w) := by
  by_cases hk : 0 ≤ k ∧ k ≤ 3
  · obtain ⟨kk, rfl⟩ := Int.eq_ofNat_of_zero_le hk.1
    have hkk : kk ≤ 3 := by omega
    obtain ⟨n, hn⟩ : ∃ n, n = 2 ^ kk := ⟨_, rfl⟩
    have HF := Lib.hid (show famK kk = kk ∧ famN kk = n ∧ famE kk = 0 from ⟨by unfold famK; rw [if_pos hk], by unfold famN; rw [if_pos hk, hn]; rfl, by unfold famE; rw [if_pos hk]⟩)
    have HN := Lib.hid hn
    clear hn hk
    have HC := Lib.hid closF_any
    go_enter Try.func18, Try.ntmps18
    go_wp2_with fail
    obtain ⟨c0, c1⟩ := cells_box2 w (.int .i64 0) (.slice none 0 0) 24
    have f0 : (w.alloc (.cells #[.int .i64 0, .slice none 0 0] 24)).frozen? ⟨w.heap.size, 0, none⟩ = false := by go_simp
    have f1 : (w.alloc (.cells #[.int .i64 0, .slice none 0 0] 24)).frozen? ⟨w.heap.size, 1, none⟩ = false := by go_simp
    have hB := below_alloc w (.cells #[.int .i64 0, .slice none 0 0] 24)
    have hlt : w.heap.size < (w.alloc (.cells #[.int .i64 0, .slice none 0 0] 24)).heap.size := by simp
    generalize w.alloc (.cells #[.int .i64 0, .slice none 0 0] 24) = W at c0 c1 f0 f1 hB hlt ⊢
    refine (family_F kk n cntB _ hkk HN.out HC.out).mono ?_
    rintro e w1 ⟨A, c, R, cc, rfl, hm, hf, hb⟩
    have d0 := cell_below hb c0
    have d1 := cell_below hb c1
    have g0 := (bcell hb).2 w.heap.size 0 hlt
    have g1 := (bcell hb).2 w.heap.size 1 hlt
    rw [f0] at g0
    rw [f1] at g1
    obtain ⟨k0, k1⟩ := set2 (x := .int .i64 kk) (y := .slice A n c) d0 d1
    have HM := Lib.hid ((hm.setCell hf (p := ⟨w.heap.size, 0, none⟩) hlt (.int .i64 kk)).setCell hf (p := ⟨w.heap.size, 1, none⟩) hlt (.slice A n c))
    have HFr := Lib.hid (hf.mono (Nat.le_of_lt hlt))
    have HB := Lib.hid (hB.trans (hb.mono hB.size))
    clear hm hb hf hB c0 c1 f0 f1
    go_wp2
    refine bodyPost_ret (v := .tuple #[.agg #[.int .i64 kk, .slice A n c], .int .i64 0]) (by simp [results, Try.results18, go_sem, k0, k1]) rfl ?_
    obtain ⟨e1, e2, e3⟩ := HF.out
    unfold FamPost
    rw [e1, e2, e3]
    exact ⟨A, c, R, cc, rfl, HM.out, HFr.out, (HB.out.setCell (Nat.le_refl _) _).setCell (Nat.le_refl _) _⟩
  · have HF := Lib.hid (show famK k = 0 ∧ famN k = 0 ∧ famE k = 2 from ⟨by unfold famK; rw [if_neg hk], by unfold famN; rw [if_neg hk], by unfold famE; rw [if_neg hk]⟩)
    have HK := Lib.hid hk
    clear hk
    go_enter Try.func18, Try.ntmps18
    go_wp2_with fail
    obtain ⟨c0, c1⟩ := cells_box2 w (.int .i64 0) (.slice none 0 0) 24
    have f0 : (w.alloc (.cells #[.int .i64 0, .slice none 0 0] 24)).frozen? ⟨w.heap.size, 0, none⟩ = false := by go_simp
    have f1 : (w.alloc (.cells #[.int .i64 0, .slice none 0 0] 24)).frozen? ⟨w.heap.size, 1, none⟩ = false := by go_simp
    have hB := below_alloc w (.cells #[.int .i64 0, .slice none 0 0] 24)
    have hlt : w.heap.size < (w.alloc (.cells #[.int .i64 0, .slice none 0 0] 24)).heap.size := by simp
    generalize w.alloc (.cells #[.int .i64 0, .slice none 0 0] 24) = W at c0 c1 f0 f1 hB hlt ⊢
    refine (family_bad _ k _ HK.out).mono ?_
    rintro e w1 ⟨rfl, hb⟩
    have d0 := cell_below hb c0
    have d1 := cell_below hb c1
    have g0 := (bcell hb).2 w.heap.size 0 hlt
    have g1 := (bcell hb).2 w.heap.size 1 hlt
    rw [f0] at g0
    rw [f1] at g1
    obtain ⟨k0, k1⟩ := set2 (x := .int .i64 0) (y := .slice none 0 0) d0 d1
    have HB := Lib.hid (hB.trans (hb.mono hB.size))
    clear hb hB c0 c1 f0 f1
    go_wp2
    refine bodyPost_ret (v := .tuple #[.agg #[.int .i64 0, .slice none 0 0], .int .i64 2]) (by simp [results, Try.results18, go_sem, k0, k1]) rfl ?_
    obtain ⟨e1, e2, e3⟩ := HF.out
    unfold FamPost
    rw [e1, e2, e3]
    exact ⟨none, 0, fun _ => none, fun _ => 0, rfl, fun i hi => absurd hi (Nat.not_lt_zero _), ⟨fun i hi => absurd hi (Nat.not_lt_zero _), fun i hi => absurd hi (Nat.not_lt_zero _)⟩, (HB.out.setCell (Nat.le_refl _) _).setCell (Nat.le_refl _) _⟩
end Go.Proofs.Ytgnmelmmcpmhoaa
