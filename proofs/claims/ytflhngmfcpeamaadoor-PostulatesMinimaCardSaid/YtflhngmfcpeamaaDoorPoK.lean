/-
  Walks: awake of layer 43.
-/
import Derived.Test.YtflhngmfcpeamaaDoorProg
import Derived.Test.YtflhngmfcpeamaaDoorBase
import Derived.Test.YtflhngmfcpeamaaDoorRow
import Derived.Test.YtflhngmfcpeamaaDoorSlc
import Derived.Test.YtflhngmfcpeamaaDoorPoP
import Derived.Test.YtflhngmfcpeamaaDoorPoE
import Derived.Test.YtflhngmfcpeamaaDoorPoX
namespace Go.Proofs.YtflhngmfcpeamaaDoor
open Go.RowKit

def lit4 (a b c d : Nat) : Nat → Nat := fun i => if i = 0 then a else if i = 1 then b else if i = 2 then c else d
theorem lit4_u64s (w : World) (a b c d : Nat) (T : TypeId) (h : a < 256 ∧ b < 256 ∧ c < 256 ∧ d < 256) :
    U64s (w.alloc (.cells #[.int .u64 a, .int .u64 b, .int .u64 c, .int .u64 d] T)) (some ⟨w.heap.size, 0, none⟩) 4 (lit4 a b c d) := fun k hk => by
  have h4 : k = 0 ∨ k = 1 ∨ k = 2 ∨ k = 3 := by omega
  refine ⟨w.heap.size, 0, rfl, ?_, ?_⟩
  · rcases h4 with rfl | rfl | rfl | rfl <;> simp [lit4]
  · rcases h4 with rfl | rfl | rfl | rfl <;> simp [lit4] <;> omega
theorem ex1 : rvErr 1 1 4 (lit4 0 1 2 1) = 0 ∧ rvM 1 1 4 (lit4 0 1 2 1) = 63 := by decide +kernel
theorem ex2 : rvErr 1 1 4 (lit4 0 1 2 3) = 0 ∧ rvM 1 1 4 (lit4 0 1 2 3) = 61 ∧ rvA 1 1 4 (lit4 0 1 2 3) = 3 ∧ rvC 1 1 4 (lit4 0 1 2 3) = 0 := by decide +kernel
def exF : Nat → Nat → Nat := fun i => if i = 0 then lit4 0 0 0 0 else lit4 0 1 2 3
theorem ex3 : upErr 1 4 (fun _ => 4) exF = 0 ∧ upVal 1 4 (fun _ => 4) exF = 253 := by decide +kernel

theorem rev_ex1 (A : Option Addr) (c : Nat) (w : World) (hL : LaidR w) (hT : U64s w A 4 (lit4 0 1 2 1)) :
    Calls Tryd.prog 11 #[.int .i64 1, .int .u64 1, .slice A 4 c] w fun e w' => e = .returned (.tuple #[.int .i64 63, .int .u64 (rvA 1 1 4 (lit4 0 1 2 1) : Nat), .int .u64 (rvC 1 1 4 (lit4 0 1 2 1) : Nat), .int .i64 0]) ∧ Below w.heap.size w w' := by
  have h := Revision_any 1 1 4 c A _ w hL hT (by decide) (by decide)
  rw [ex1.1, ex1.2] at h
  exact h
theorem rev_ex2 (A : Option Addr) (c : Nat) (w : World) (hL : LaidR w) (hT : U64s w A 4 (lit4 0 1 2 3)) :
    Calls Tryd.prog 11 #[.int .i64 1, .int .u64 1, .slice A 4 c] w fun e w' => e = .returned (.tuple #[.int .i64 61, .int .u64 3, .int .u64 0, .int .i64 0]) ∧ Below w.heap.size w w' := by
  have h := Revision_any 1 1 4 c A _ w hL hT (by decide) (by decide)
  rw [ex2.1, ex2.2.1, ex2.2.2.1, ex2.2.2.2] at h
  exact h
theorem ord_ex (A : Option Addr) (c : Nat) (w : World) (hL : LaidR w) (hT : U64s w A 4 (lit4 0 1 2 1)) :
    Calls Tryd.prog 13 #[.int .i64 1, .int .u64 1, .slice A 4 c] w (OrdPost 2 (rankN 4 (lit4 0 1 2 1) 4) w) :=
  Order_in 1 2 4 1 c A (lit4 0 1 2 1) w hL hT (by decide) (by decide) (by decide) (by decide) (by decide +kernel) (by decide +kernel)
theorem upd_ex (A : Option Addr) (c : Nat) (R : Nat → Option Addr) (cc : Nat → Nat) (w : World) (hL : LaidU w) (hT : Mat w A 4 R (fun _ => 4) cc exF) :
    Calls Tryd.prog 16 #[.int .i64 1, .slice A 4 c] w fun e w' => e = .returned (.tuple #[.int .i64 253, .int .i64 0]) ∧ Below w.heap.size w w' := by
  have h := Update_any 1 A 4 c R (fun _ => 4) cc exF w hL hT (by decide)
  rw [ex3.1, ex3.2] at h
  exact h
theorem rank_ex : eqI 2 2 (fun k => (rankN 4 (lit4 0 1 2 1) 4 k : Int)) (fun k => if k = 0 then 0 else 1) = true := by decide +kernel
theorem lit2_i64s (w : World) (T : TypeId) : I64s (w.alloc (.cells #[.int .i64 0, .int .i64 1] T)) (some ⟨w.heap.size, 0, none⟩) 2 (fun k => if k = 0 then 0 else 1) := fun k hk => by
  have h2 : k = 0 ∨ k = 1 := by omega
  refine ⟨w.heap.size, 0, rfl, ?_, ?_⟩
  · rcases h2 with rfl | rfl <;> simp
  · rcases h2 with rfl | rfl <;> simp

def litO (a b c d : Int) (T : TypeId) : Obj := .cells #[.int .u64 a, .int .u64 b, .int .u64 c, .int .u64 d] T
def sliO (B : Nat) (T : TypeId) : Obj := .cells #[.slice (some ⟨B, 0, none⟩) 4 4, .slice (some ⟨B + 1, 0, none⟩) 4 4, .slice (some ⟨B + 1 + 1, 0, none⟩) 4 4, .slice (some ⟨B + 1 + 1 + 1, 0, none⟩) 4 4] T
def exW (w : World) (T T2 : TypeId) : World := ((((w.alloc (litO 0 0 0 0 T)).alloc (litO 0 1 2 3 T)).alloc (litO 0 1 2 3 T)).alloc (litO 0 1 2 3 T)).alloc (sliO w.heap.size T2)
theorem size_alloc (w : World) (o : Obj) : (w.alloc o).heap.size = w.heap.size + 1 := by simp
theorem exW_below (w : World) (T T2 : TypeId) : Below w.heap.size w (exW w T T2) := by
  refine (((((Below.refl _ _).alloc (Nat.le_refl _) _).alloc ?_ _).alloc ?_ _).alloc ?_ _).alloc ?_ _ <;> simp only [size_alloc] <;> omega
theorem four_cells (w : World) (x y z t : Value) (T : TypeId) : (w.alloc (.cells #[x, y, z, t] T)).cell? ⟨w.heap.size, 0, none⟩ = some x ∧ (w.alloc (.cells #[x, y, z, t] T)).cell? ⟨w.heap.size, 1, none⟩ = some y ∧ (w.alloc (.cells #[x, y, z, t] T)).cell? ⟨w.heap.size, 2, none⟩ = some z ∧ (w.alloc (.cells #[x, y, z, t] T)).cell? ⟨w.heap.size, 3, none⟩ = some t := by
  simp
theorem exMat (w : World) (T T2 : TypeId) : Mat (exW w T T2) (some ⟨w.heap.size + 1 + 1 + 1 + 1, 0, none⟩) 4 (fun i => some ⟨w.heap.size + i, 0, none⟩) (fun _ => 4) (fun _ => 4) exF := by
  have r0 := (((((lit4_u64s w 0 0 0 0 T (by omega)).below (below_alloc _ (litO 0 1 2 3 T))).below (below_alloc _ (litO 0 1 2 3 T))).below (below_alloc _ (litO 0 1 2 3 T))).below (below_alloc _ (sliO w.heap.size T2)))
  have r1 := ((((lit4_u64s (w.alloc (litO 0 0 0 0 T)) 0 1 2 3 T (by omega)).below (below_alloc _ (litO 0 1 2 3 T))).below (below_alloc _ (litO 0 1 2 3 T))).below (below_alloc _ (sliO w.heap.size T2)))
  have r2 := (((lit4_u64s ((w.alloc (litO 0 0 0 0 T)).alloc (litO 0 1 2 3 T)) 0 1 2 3 T (by omega)).below (below_alloc _ (litO 0 1 2 3 T))).below (below_alloc _ (sliO w.heap.size T2)))
  have r3 := ((lit4_u64s (((w.alloc (litO 0 0 0 0 T)).alloc (litO 0 1 2 3 T)).alloc (litO 0 1 2 3 T)) 0 1 2 3 T (by omega)).below (below_alloc _ (sliO w.heap.size T2)))
  obtain ⟨c0, c1, c2, c3⟩ := four_cells ((((w.alloc (litO 0 0 0 0 T)).alloc (litO 0 1 2 3 T)).alloc (litO 0 1 2 3 T)).alloc (litO 0 1 2 3 T)) (.slice (some ⟨w.heap.size, 0, none⟩) 4 4) (.slice (some ⟨w.heap.size + 1, 0, none⟩) 4 4) (.slice (some ⟨w.heap.size + 1 + 1, 0, none⟩) 4 4) (.slice (some ⟨w.heap.size + 1 + 1 + 1, 0, none⟩) 4 4) T2
  simp only [size_alloc] at r1 r2 r3 c0 c1 c2 c3
  intro i hi
  have h4 : i = 0 ∨ i = 1 ∨ i = 2 ∨ i = 3 := by omega
  refine ⟨w.heap.size + 1 + 1 + 1 + 1, 0, rfl, ?_, by show (4 : Nat) ≤ 9223372036854775807; omega, ?_⟩
  · rcases h4 with rfl | rfl | rfl | rfl
    · exact c0
    · exact c1
    · exact c2
    · exact c3
  · rcases h4 with rfl | rfl | rfl | rfl
    · exact r0
    · exact r1
    · exact r2
    · exact r3

set_option maxHeartbeats 4000000 in
theorem awake_any (w : World) (hL : LaidR w) (hU : LaidU w) : Calls Tryd.prog 10 #[] w fun e w' => e = .returned (.bool true) ∧ Below w.heap.size w w' := by
  have HL := Lib.hid hL
  have HU := Lib.hid hU
  clear hL hU
  go_enter Tryd.func10, Tryd.ntmps10
  have HB := Lib.hid (Below.refl w.heap.size w)
  go_wp2_with fail
  have hu := lit4_u64s w 0 1 2 1 22 (by decide)
  have hst := below_alloc w (.cells #[.int .u64 0, .int .u64 1, .int .u64 2, .int .u64 1] 22)
  generalize w.heap.size = B1 at hu ⊢
  generalize w.alloc _ = W at hu hst ⊢
  have HB := Lib.hid (HB.out.trans (hst.mono HB.out.size))
  refine (rev_ex1 _ _ _ (HL.out.below HB.out) hu).mono ?_
  rintro e w1 ⟨rfl, hst⟩
  have HB := Lib.hid (HB.out.trans (hst.mono HB.out.size))
  clear hu hst
  go_wp2_with fail
  have hu := lit4_u64s w1 0 1 2 1 22 (by decide)
  have hst := below_alloc w1 (.cells #[.int .u64 0, .int .u64 1, .int .u64 2, .int .u64 1] 22)
  generalize w1.heap.size = B2 at hu ⊢
  generalize w1.alloc _ = W2 at hu hst ⊢
  have HB := Lib.hid (HB.out.trans (hst.mono HB.out.size))
  refine (ord_ex _ _ _ (HL.out.below HB.out) hu).mono ?_
  rintro e w2 ⟨BR, rfl, hrow, hst⟩
  have HB := Lib.hid (HB.out.trans (hst.mono HB.out.size))
  have HR := Lib.hid hrow
  clear hu hst hrow
  go_wp2_with fail
  have hu := lit4_u64s w2 0 1 2 3 22 (by decide)
  have hst := below_alloc w2 (.cells #[.int .u64 0, .int .u64 1, .int .u64 2, .int .u64 3] 22)
  generalize w2.heap.size = B3 at hu ⊢
  generalize w2.alloc _ = W3 at hu hst ⊢
  have HB := Lib.hid (HB.out.trans (hst.mono HB.out.size))
  have HR := Lib.hid (HR.out.below hst)
  refine (rev_ex2 _ _ _ (HL.out.below HB.out) hu).mono ?_
  rintro e w3 ⟨rfl, hst⟩
  have HB := Lib.hid (HB.out.trans (hst.mono HB.out.size))
  have HR := Lib.hid (HR.out.below hst)
  clear hu hst
  go_wp2_with fail
  have hmat := exMat w3 22 23
  have hst := exW_below w3 22 23
  unfold exW litO sliO at hmat hst
  generalize World.alloc _ _ = W4 at hmat hst ⊢
  have HB := Lib.hid (HB.out.trans (hst.mono HB.out.size))
  have HR := Lib.hid (HR.out.below hst)
  refine (upd_ex _ _ _ _ _ (HU.out.below HB.out) hmat).mono ?_
  rintro e w4 ⟨rfl, hst⟩
  have HB := Lib.hid (HB.out.trans (hst.mono HB.out.size))
  have HR := Lib.hid (HR.out.below hst)
  clear hmat hst
  go_wp2_with fail
  have hl2 := lit2_i64s w4 3
  have hst := below_alloc w4 (.cells #[.int .i64 0, .int .i64 1] 3)
  generalize w4.heap.size = B5 at hl2 ⊢
  generalize w4.alloc _ = W5 at hl2 hst ⊢
  have HB := Lib.hid (HB.out.trans (hst.mono HB.out.size))
  have HR := Lib.hid (HR.out.below hst)
  have hri := HR.out.i64s (fun k => Nat.le_trans (rank_le 4 k) (by decide))
  have heq := equalI_any _ _ 2 2 2 2 _ _ _ hri hl2 (by decide) (by decide)
  rw [rank_ex] at heq
  have HEQ := Lib.hid heq
  clear hl2 hst hri heq
  go_wp2_with (go_at_call 15; refine HEQ.out.mono ?_; rintro e w5 ⟨rfl, hst⟩; have HB := Lib.hid (HB.out.trans (hst.mono HB.out.size)); clear hst)
  go_ret
  exact ⟨rfl, HB.out⟩
end Go.Proofs.YtflhngmfcpeamaaDoor
