/-
  Walks: awake of layer 39.
-/
import Derived.Test.YtnilfpcipclagaaProg
import Derived.Test.YtnilfpcipclagaaBase
import Derived.Test.YtnilfpcipclagaaRow
import Derived.Test.YtnilfpcipclagaaRowU
import Derived.Test.YtnilfpcipclagaaLeast
import Derived.Test.YtnilfpcipclagaaRkP
import Derived.Test.YtnilfpcipclagaaRkQ
import Derived.Test.YtnilfpcipclagaaRkA
import Derived.Test.YtnilfpcipclagaaRkB
import Derived.Test.YtnilfpcipclagaaRkD
import Derived.Test.YtnilfpcipclagaaRkC
import Derived.Test.YtnilfpcipclagaaRkR
import Derived.Test.YtnilfpcipclagaaRkT
namespace Go.Proofs.Ytnilfpcipclagaa
open Go.RowKit

def lit4 (a b c d : Nat) : Nat → Int := fun i => if i = 0 then a else if i = 1 then b else if i = 2 then c else d
theorem lit4_i64s (w : World) (a b c d : Nat) (T : TypeId) (h : a < 256 ∧ b < 256 ∧ c < 256 ∧ d < 256) :
    I64s (w.alloc (.cells #[.int .i64 a, .int .i64 b, .int .i64 c, .int .i64 d] T)) (some ⟨w.heap.size, 0, none⟩) 4 (lit4 a b c d) := fun k hk => by
  have h4 : k = 0 ∨ k = 1 ∨ k = 2 ∨ k = 3 := by omega
  refine ⟨w.heap.size, 0, rfl, ?_, ?_⟩
  · rcases h4 with rfl | rfl | rfl | rfl <;> simp [lit4]
  · rcases h4 with rfl | rfl | rfl | rfl <;> simp [lit4] <;> omega
def exR : Nat → Int := lit4 2 0 2 5
theorem ex1 : revErr 2 4 exR = 0 ∧ belV 2 4 exR = 2 ∧ rvsErr 2 4 exR 12 = 0 ∧ rvsV 2 4 exR 12 = 4 ∧ rvsErr 2 4 exR 9 = 0 ∧ rvsV 2 4 exR 9 = 1 ∧ dalErr 2 2 12 = 0 ∧ dalV 2 2 12 = 8 ∧ revErr 2 3 exR = 3 := by decide +kernel
theorem bel_ex (A : Option Addr) (c : Nat) (w : World) (h : I64s w A 4 exR) : Calls Try.prog 21 #[.int .i64 2, .slice A 4 c] w fun e w' => e = .returned (.tuple #[.int .u64 2, .int .i64 0]) ∧ w = w' := by
  have h := Belief_any 2 4 c A exR w h (by decide)
  rw [ex1.1, ex1.2.1] at h; exact h
theorem rev_ex1 (A : Option Addr) (c : Nat) (w : World) (h : I64s w A 4 exR) : Calls Try.prog 23 #[.int .i64 2, .slice A 4 c, .int .u64 12] w fun e w' => e = .returned (.tuple #[.int .u64 4, .int .i64 0]) ∧ w = w' := by
  have h := Revise_any 2 4 c 12 A exR w h (by decide) (by decide)
  rw [ex1.2.2.1, ex1.2.2.2.1] at h; exact h
theorem rev_ex2 (A : Option Addr) (c : Nat) (w : World) (h : I64s w A 4 exR) : Calls Try.prog 23 #[.int .i64 2, .slice A 4 c, .int .u64 9] w fun e w' => e = .returned (.tuple #[.int .u64 1, .int .i64 0]) ∧ w = w' := by
  have h := Revise_any 2 4 c 9 A exR w h (by decide) (by decide)
  rw [ex1.2.2.2.2.1, ex1.2.2.2.2.2.1] at h; exact h
theorem dal_ex (w : World) : Calls Try.prog 32 #[.int .i64 2, .int .u64 2, .int .u64 12] w fun e w' => e = .returned (.tuple #[.int .u64 8, .int .i64 0]) ∧ Below w.heap.size w w' := by
  have h := Dalal_any 2 2 12 w (by decide) (by decide)
  rw [ex1.2.2.2.2.2.2.1, ex1.2.2.2.2.2.2.2.1] at h; exact h
theorem chk_ex (A : Option Addr) (c : Nat) (w : World) (h : I64s w A 4 exR) : Calls Try.prog 18 #[.int .i64 2, .slice A 3 c] w fun e w' => e = .returned (.int .i64 3) ∧ w = w' := by
  have h := revCheck_any 2 3 c A exR w (fun k hk => h k (by omega)) (by decide)
  rw [ex1.2.2.2.2.2.2.2.2] at h; exact h
theorem can_ex (A : Option Addr) (c : Nat) (w : World) (h : I64s w A 4 exR) : Calls Try.prog 16 #[.int .i64 2, .slice A 4 c] w (CanPost 4 (canF 4 exR) w) := Canonical_in 2 4 c A exR w h (by decide) (by decide) ex1.1
theorem dist_ex0 (w : World) : Calls Try.prog 30 #[.int .i64 2, .int .u64 2] w fun e w' => e = .returned (.tuple #[.slice (some ⟨w.heap.size, 0, none⟩) 4 4, .int .i64 0]) ∧ RowI w' w.heap.size 4 (distF 4 2) ∧ Below w.heap.size w w' := Distances_in 2 4 2 w (by decide) (by decide) (by decide) (by decide)
theorem iter_ex (A : Option Addr) (c : Nat) (w : World) (h : I64s w A 4 exR) : Calls Try.prog 25 #[.int .i64 2, .slice A 4 c, .int .u64 12] w (CanPost 4 (iterF 4 12 exR) w) := Iterate_in 2 4 c 12 A exR w h (by decide) (by decide) ex1.1 (by decide)
theorem tab_ex (A : Option Addr) (c : Nat) (w : World) (h : I64s w A 4 exR) : Calls Try.prog 27 #[.int .i64 2, .slice A 4 c] w (TabPost 16 (lst 4 exR) w) := Table_in 2 4 16 c A exR w h (by decide) (by decide) (by decide) ex1.1
theorem exI1 : eqI 4 4 (fun k => (canF 4 exR k : Int)) (lit4 1 0 1 2) = true := by decide +kernel
theorem exI2 : eqI 4 4 (fun k => (distF 4 2 k : Int)) (lit4 1 0 2 1) = true := by decide +kernel
theorem exI3 : eqI 4 4 (fun k => (iterF 4 12 exR k : Int)) (lit4 3 2 0 1) = true := by decide +kernel
theorem exT : lst 4 exR 12 = 4 ∧ lst 4 exR 0 = 0 := by decide +kernel
theorem same_ex (B n c : Nat) (g : Nat → Nat) (x y z t : Nat) (_w : World) (A : Option Addr) (W : World) (hr : RowI W B 4 g) (hg : ∀ k, k < 4 → g k ≤ 1000) (hl : I64s W A 4 (lit4 x y z t)) (he : eqI 4 4 (fun k => (g k : Int)) (lit4 x y z t) = true) :
    Calls Try.prog 20 #[.slice (some ⟨B, 0, none⟩) 4 n, .slice A 4 c] W fun e w' => e = .returned (.bool true) ∧ Below W.heap.size W w' := by
  have hI : I64s W (some ⟨B, 0, none⟩) 4 (fun k => (g k : Int)) := fun u hu => by
    have := hg u hu
    exact ⟨B, 0, rfl, by rw [Nat.zero_add]; exact (hr u hu).1, by dsimp only; omega, by dsimp only; omega⟩
  have h := same_any (some ⟨B, 0, none⟩) A 4 4 n c _ _ W hI hl (by decide) (by decide)
  rw [he] at h; exact h

set_option maxHeartbeats 4000000 in
set_option maxRecDepth 100000 in
theorem awake_any (w : World) : Calls Try.prog 15 #[] w fun e w' => e = .returned (.bool true) ∧ Below w.heap.size w w' := by
  go_enter Try.func15, Try.ntmps15
  have HB := Lib.hid (Below.refl w.heap.size w)
  go_wp2_with fail
  have hu := lit4_i64s w 2 0 2 5 3 (by decide)
  have hst := below_alloc w (.cells #[.int .i64 2, .int .i64 0, .int .i64 2, .int .i64 5] 3)
  generalize w.heap.size = B1 at hu ⊢
  generalize w.alloc _ = W at hu hst ⊢
  have HB := Lib.hid (HB.out.trans (hst.mono HB.out.size))
  have HR : Hid (I64s W (some ⟨B1, 0, none⟩) 4 exR) := Lib.hid hu
  clear hu hst
  refine (bel_ex _ _ _ HR.out).mono ?_
  rintro e w' ⟨rfl, rfl⟩
  go_wp2_with fail
  refine (rev_ex1 _ _ _ HR.out).mono ?_
  rintro e w' ⟨rfl, rfl⟩
  go_wp2_with fail
  refine (rev_ex2 _ _ _ HR.out).mono ?_
  rintro e w' ⟨rfl, rfl⟩
  go_wp2_with fail
  refine (can_ex _ _ _ HR.out).mono ?_
  rintro e w1 ⟨B2, rfl, hrow, -, hst⟩
  have HB := Lib.hid (HB.out.trans (hst.mono HB.out.size))
  have HR := Lib.hid (HR.out.below hst)
  have H2 := Lib.hid hrow
  clear hrow hst
  go_wp2_with fail
  refine (dist_ex0 _).mono ?_
  rintro e w2 ⟨rfl, hrow, hst⟩
  have HB := Lib.hid (HB.out.trans (hst.mono HB.out.size))
  have HR := Lib.hid (HR.out.below hst)
  have H2 := Lib.hid (H2.out.below hst)
  have H3 := Lib.hid hrow
  clear hrow hst
  generalize w1.heap.size = B3 at H3 ⊢
  go_wp2_with fail
  refine (dal_ex _).mono ?_
  rintro e w3 ⟨rfl, hst⟩
  have HB := Lib.hid (HB.out.trans (hst.mono HB.out.size))
  have HR := Lib.hid (HR.out.below hst)
  have H2 := Lib.hid (H2.out.below hst)
  have H3 := Lib.hid (H3.out.below hst)
  clear hst
  go_wp2_with fail
  refine (iter_ex _ _ _ HR.out).mono ?_
  rintro e w4 ⟨B4, rfl, hrow, -, hst⟩
  have HB := Lib.hid (HB.out.trans (hst.mono HB.out.size))
  have HR := Lib.hid (HR.out.below hst)
  have H2 := Lib.hid (H2.out.below hst)
  have H3 := Lib.hid (H3.out.below hst)
  have H4 := Lib.hid hrow
  clear hrow hst
  go_wp2_with fail
  refine (tab_ex _ _ _ HR.out).mono ?_
  rintro e w5 ⟨B5, rfl, hrow, hst⟩
  have HB := Lib.hid (HB.out.trans (hst.mono HB.out.size))
  have HR := Lib.hid (HR.out.below hst)
  have H2 := Lib.hid (H2.out.below hst)
  have H3 := Lib.hid (H3.out.below hst)
  have H4 := Lib.hid (H4.out.below hst)
  have H5 := Lib.hid hrow
  clear hrow hst
  go_wp2_with fail
  have hu := lit4_i64s w5 1 0 1 2 3 (by decide)
  have hst := below_alloc w5 (.cells #[.int .i64 1, .int .i64 0, .int .i64 1, .int .i64 2] 3)
  generalize w5.heap.size = B6 at hu ⊢
  generalize w5.alloc _ = W6 at hu hst ⊢
  have HB := Lib.hid (HB.out.trans (hst.mono HB.out.size))
  have HR := Lib.hid (HR.out.below hst)
  have H2 := Lib.hid (H2.out.below hst)
  have H3 := Lib.hid (H3.out.below hst)
  have H4 := Lib.hid (H4.out.below hst)
  have H5 := Lib.hid (H5.out.below hst)
  refine (same_ex _ _ _ _ 1 0 1 2 w _ _ H2.out (fun k hk => by have := canF_lt (f := exR) hk; omega) hu exI1).mono ?_
  clear hu hst
  rintro e w7 ⟨rfl, hst⟩
  have HB := Lib.hid (HB.out.trans (hst.mono HB.out.size))
  have HR := Lib.hid (HR.out.below hst)
  have H3 := Lib.hid (H3.out.below hst)
  have H4 := Lib.hid (H4.out.below hst)
  have H5 := Lib.hid (H5.out.below hst)
  clear hst H2
  go_wp2_with fail
  have hu := lit4_i64s w7 1 0 2 1 3 (by decide)
  have hst := below_alloc w7 (.cells #[.int .i64 1, .int .i64 0, .int .i64 2, .int .i64 1] 3)
  generalize w7.heap.size = B8 at hu ⊢
  generalize w7.alloc _ = W8 at hu hst ⊢
  have HB := Lib.hid (HB.out.trans (hst.mono HB.out.size))
  have HR := Lib.hid (HR.out.below hst)
  have H3 := Lib.hid (H3.out.below hst)
  have H4 := Lib.hid (H4.out.below hst)
  have H5 := Lib.hid (H5.out.below hst)
  refine (same_ex _ _ _ _ 1 0 2 1 w _ _ H3.out (fun k hk => by have := distF_le 4 2 k; omega) hu exI2).mono ?_
  clear hu hst
  rintro e w9 ⟨rfl, hst⟩
  have HB := Lib.hid (HB.out.trans (hst.mono HB.out.size))
  have HR := Lib.hid (HR.out.below hst)
  have H4 := Lib.hid (H4.out.below hst)
  have H5 := Lib.hid (H5.out.below hst)
  clear hst H3
  go_wp2_with fail
  have hu := lit4_i64s w9 3 2 0 1 3 (by decide)
  have hst := below_alloc w9 (.cells #[.int .i64 3, .int .i64 2, .int .i64 0, .int .i64 1] 3)
  generalize w9.heap.size = B10 at hu ⊢
  generalize w9.alloc _ = W10 at hu hst ⊢
  have HB := Lib.hid (HB.out.trans (hst.mono HB.out.size))
  have HR := Lib.hid (HR.out.below hst)
  have H4 := Lib.hid (H4.out.below hst)
  have H5 := Lib.hid (H5.out.below hst)
  refine (same_ex _ _ _ _ 3 2 0 1 w _ _ H4.out (fun k hk => by have := iter_lt (s := 12) (f := exR) hk; omega) hu exI3).mono ?_
  clear hu hst
  rintro e w11 ⟨rfl, hst⟩
  have HB := Lib.hid (HB.out.trans (hst.mono HB.out.size))
  have HR := Lib.hid (HR.out.below hst)
  have H5 := Lib.hid (H5.out.below hst)
  clear hst H4
  have d12 := (H5.out 12 (by decide)).1
  have d0 := (H5.out 0 (by decide)).1
  rw [exT.1] at d12
  rw [exT.2] at d0
  go_wp2_with fail
  refine (chk_ex _ _ _ HR.out).mono ?_
  rintro e w' ⟨rfl, rfl⟩
  go_wp2_with fail
  go_ret
  exact ⟨rfl, HB.out⟩
end Go.Proofs.Ytnilfpcipclagaa
