/-
  Plain facts for the walks: blocks of ints that a call has made; shifts and masks.
-/
import Derived.Test.YtgnkeecjaffnaaaProg
import Derived.Test.YtgnkeecjaffnaaaBase
import Derived.Deep.OwnRows
import Derived.Handy
namespace Go.Proofs.Ytgnkeecjaffnaaa
open Go.RowKit

/-- The cells of a block of ints. -/
def RowI (w : World) (B N : Nat) (g : Nat → Nat) : Prop := ∀ k, k < N → w.cell? ⟨B, k, none⟩ = some (.int .i64 (g k)) ∧ w.frozen? ⟨B, k, none⟩ = false
def upd (g : Nat → Nat) (j x : Nat) : Nat → Nat := fun k => if k = j then x else g k
theorem RowI.set {w : World} {B N j x : Nat} {g : Nat → Nat} (h : RowI w B N g) (hj : j < N) : RowI (w.setCell ⟨B, j, none⟩ (.int .i64 x)) B N (upd g j x) := fun k hk => by
  obtain ⟨h1, h2⟩ := h k hk
  refine ⟨?_, by rw [World.frozen?_setCell]; exact h2⟩
  unfold upd
  by_cases hkj : k = j
  · subst hkj
    rw [if_pos rfl]
    exact World.cell?_setCell_same' _ _ _ (by rw [h1]; rfl)
  · rw [if_neg hkj, World.cell?_setCell_other _ _ _ _ (by simp)]
    exact h1
theorem RowI.congr {w : World} {B N : Nat} {g g' : Nat → Nat} (h : RowI w B N g) (e : ∀ k, k < N → g k = g' k) : RowI w B N g' := fun k hk => by
  rw [← e k hk]; exact h k hk
theorem RowI.made (w : World) (N : Nat) (T : TypeId) : RowI (w.alloc (.cells (madeCells #[.int .i64 0] N) T)) w.heap.size N (fun _ => 0) := fun k hk =>
  ⟨(World.rowIs_made w (.int .i64 0) N T).cell hk, (World.rowIs_made w (.int .i64 0) N T).frozen k⟩
theorem RowI.set' {w : World} {B N j x : Nat} {z : Int} {g : Nat → Nat} (h : RowI w B N g) (hj : j < N) (hz : z = (x : Int)) : RowI (w.setCell ⟨B, j, none⟩ (.int .i64 z)) B N (upd g j x) := by
  rw [hz]; exact h.set hj
theorem RowI.below {w w' : World} {B N : Nat} {g : Nat → Nat} (h : RowI w B N g) (hb : Below w.heap.size w w') : RowI w' B N g := fun k hk => by
  obtain ⟨h1, h2⟩ := h k hk
  refine ⟨cell_below hb h1, ?_⟩
  rw [hb.frozen (World.block_lt_of_cell? w _ h1)]; exact h2
theorem upd_upd (g : Nat → Nat) (j x y k : Nat) : upd (upd g j x) j y k = upd g j y k := by
  unfold upd; by_cases h : k = j <;> simp [h]
theorem Try.infoInt : (Try.prog.info? 3).map (fun i => (i.zero, i.size, i.bytes)) = some (some (.int .i64 0), 1, 8) := by kernel_rfl

theorem bits_has' (s v : Nat) (hs : s < 18446744073709551616) (hv : v ≤ 64) : (bits .and .u64 ((s : Int) / 2 ^ v) 1 == 1) = s.testBit v := by
  have h := bits_has s v hs
  rwa [Nat.min_eq_left hv] at h
theorem bits_hasnt' (s v : Nat) (hs : s < 18446744073709551616) (hv : v ≤ 64) : (bits .and .u64 ((s : Int) / 2 ^ v) 1 == 0) = !s.testBit v := by
  have h := bits_hasnt s v hs
  rwa [Nat.min_eq_left hv] at h
theorem wrap_pow {k N : Nat} (hN : N = 2 ^ k) (hk : k ≤ 4) : IntKind.i64.wrap ((2 : Int) ^ k) = (N : Int) := by
  have h : k = 0 ∨ k = 1 ∨ k = 2 ∨ k = 3 ∨ k = 4 := by omega
  rw [hN]
  rcases h with rfl | rfl | rfl | rfl | rfl <;> rfl
theorem shl_one {u P : Nat} (hP : P = 2 ^ u) (hu : u < 64) : IntKind.u64.wrap ((2 : Int) ^ u) = (P : Int) := by
  have e : ((2 : Int) ^ u) = ((2 ^ u : Nat) : Int) := by rw [Int.natCast_pow]; rfl
  have h := pow_lt64 hu
  rw [e, hP, IntKind.wrap_u64]; omega
theorem or_mkSet {u P : Nat} {p : Nat → Bool} (hP : P = 2 ^ u) (hu : u < 64) (h : p u = true) : bits .or .u64 (mkSet u p : Int) (P : Int) = ((mkSet (u + 1) p : Nat) : Int) := by
  have h1 := Nat.lt_trans (mkSet_lt u p) (pow_lt64 hu)
  rw [u64_or_nat _ _ h1 (by rw [hP]; exact pow_lt64 hu), mkSet_succ_yes h, hP]
/-- A slice of ints, read. -/
def I64s (w : World) (A : Option Addr) (n : Nat) (f : Nat → Int) : Prop :=
  ∀ k, k < n → ∃ b off, A = some ⟨b, off, none⟩ ∧ w.cell? ⟨b, off + k, none⟩ = some (.int .i64 (f k)) ∧ -9223372036854775808 ≤ f k ∧ f k ≤ 9223372036854775807
theorem I64s.below {w w' : World} {A : Option Addr} {n : Nat} {f : Nat → Int} (h : I64s w A n f) (hb : Below w.heap.size w w') : I64s w' A n f := fun k hk =>
  let ⟨b, off, e, hc, hf⟩ := h k hk; ⟨b, off, e, cell_below hb hc, hf⟩
theorem RowI.i64s {w : World} {B N : Nat} {g : Nat → Nat} (h : RowI w B N g) (hg : ∀ k, g k ≤ 9223372036854775807) : I64s w (some ⟨B, 0, none⟩) N (fun k => (g k : Int)) := fun k hk => by
  have := hg k
  exact ⟨B, 0, rfl, by rw [Nat.zero_add]; exact (h k hk).1, by dsimp only; omega, by dsimp only; omega⟩
theorem i64s_nil (w : World) (f : Nat → Int) (A : Option Addr) : I64s w A 0 f := fun _ hk => absurd hk (Nat.not_lt_zero _)
theorem u64s_nil (w : World) (f : Nat → Nat) (A : Option Addr) : U64s w A 0 f := fun _ hk => absurd hk (Nat.not_lt_zero _)
end Go.Proofs.Ytgnkeecjaffnaaa
