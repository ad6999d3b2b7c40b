/-
  Plain facts for the walks: blocks of uint64s that a call has made.
-/
import Derived.Test.YtgnkeecjaffnaaaProg
import Derived.Test.YtgnkeecjaffnaaaBase
import Derived.Test.YtgnkeecjaffnaaaRow
namespace Go.Proofs.Ytgnkeecjaffnaaa
open Go.RowKit

/-- The cells of a block of uint64s. -/
def RowU (w : World) (B N : Nat) (g : Nat → Nat) : Prop := ∀ k, k < N → w.cell? ⟨B, k, none⟩ = some (.int .u64 (g k)) ∧ w.frozen? ⟨B, k, none⟩ = false
theorem RowU.set {w : World} {B N j x : Nat} {g : Nat → Nat} (h : RowU w B N g) (hj : j < N) : RowU (w.setCell ⟨B, j, none⟩ (.int .u64 x)) B N (upd g j x) := fun k hk => by
  obtain ⟨h1, h2⟩ := h k hk
  refine ⟨?_, by rw [World.frozen?_setCell]; exact h2⟩
  unfold upd
  by_cases hkj : k = j
  · subst hkj
    rw [if_pos rfl]
    exact World.cell?_setCell_same' _ _ _ (by rw [h1]; rfl)
  · rw [if_neg hkj, World.cell?_setCell_other _ _ _ _ (by simp)]
    exact h1
theorem RowU.congr {w : World} {B N : Nat} {g g' : Nat → Nat} (h : RowU w B N g) (e : ∀ k, k < N → g k = g' k) : RowU w B N g' := fun k hk => by
  rw [← e k hk]; exact h k hk
theorem RowU.made (w : World) (N : Nat) (T : TypeId) : RowU (w.alloc (.cells (madeCells #[.int .u64 0] N) T)) w.heap.size N (fun _ => 0) := fun k hk =>
  ⟨(World.rowIs_made w (.int .u64 0) N T).cell hk, (World.rowIs_made w (.int .u64 0) N T).frozen k⟩
theorem RowU.below {w w' : World} {B N : Nat} {g : Nat → Nat} (h : RowU w B N g) (hb : Below w.heap.size w w') : RowU w' B N g := fun k hk => by
  obtain ⟨h1, h2⟩ := h k hk
  refine ⟨cell_below hb h1, ?_⟩
  rw [hb.frozen (World.block_lt_of_cell? w _ h1)]; exact h2
theorem RowU.u64s {w : World} {B N : Nat} {g : Nat → Nat} (h : RowU w B N g) (hg : ∀ k, k < N → g k < 18446744073709551616) : U64s w (some ⟨B, 0, none⟩) N g := fun k hk =>
  ⟨B, 0, rfl, by rw [Nat.zero_add]; exact (h k hk).1, hg k hk⟩
theorem Try.infoU64 : (Try.prog.info? 64).map (fun i => (i.zero, i.size, i.bytes)) = some (some (.int .u64 0), 1, 8) := by kernel_rfl
end Go.Proofs.Ytgnkeecjaffnaaa
