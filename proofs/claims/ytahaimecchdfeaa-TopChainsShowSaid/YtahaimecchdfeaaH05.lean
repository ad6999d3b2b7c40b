/-
  Texts of this claim, one after the other: what each proves is said at its head. No condition beyond those that its theorems name.
-/
import Derived.ProofKit
import Derived.OpenShut
import Derived.Deep.Slices
import Derived.Lib.SmallJoins
import Derived.Test.YtahaimecchdfeaaH01

/-
  Plain lemmas: arguments that are slices of uint64 numbers, and slices of these, opened.
-/
namespace Go.Proofs.Ytahaimecchdfeaa
open Go.ChangeShapes Go.WideShapes Go.ChangeAt Go.RowKit Go.Deep Go.Joins

section
variable {H : Type} {enc : TypeId × Value → H} {P : Program} {w : World} {base : Nat} {spare : Nat → Bool} {held : Bool}
theorem add_at (b off i : Nat) : (⟨b, off, none⟩ : Addr).add i = ⟨b, off + i, none⟩ := by
  unfold Addr.add; by_cases h : i = 0 <;> simp [h]
theorem maxLen_val {n : Nat} (h : n ≤ maxLen) : n ≤ 9223372036854775807 := by unfold maxLen at h; omega
theorem u64_of_wf {z : Int} (h : (Lit.int .u64 z).wf = true) : ∃ n : Nat, z = n ∧ n < 18446744073709551616 := by
  have hmin : IntKind.u64.min = 0 := rfl
  have hmax : IntKind.u64.max = 18446744073709551615 := rfl
  simp only [Lit.wf, Bool.and_eq_true, decide_eq_true_eq] at h
  exact ⟨z.toNat, by omega, by omega⟩
theorem u8_of_wf {z : Int} (h : (Lit.int .u8 z).wf = true) : ∃ n : Nat, z = n ∧ n < 256 := by
  have hmin : IntKind.u8.min = 0 := rfl
  have hmax : IntKind.u8.max = 255 := rfl
  simp only [Lit.wf, Bool.and_eq_true, decide_eq_true_eq] at h
  exact ⟨z.toNat, by omega, by omega⟩
theorem i64_of_wf {z : Int} (h : (Lit.int .i64 z).wf = true) : -9223372036854775808 ≤ z ∧ z ≤ 9223372036854775807 := by
  have hmin : IntKind.i64.min = -9223372036854775808 := rfl
  have hmax : IntKind.i64.max = 9223372036854775807 := rfl
  simp only [Lit.wf, Bool.and_eq_true, decide_eq_true_eq] at h
  exact ⟨by omega, by omega⟩
theorem okWide_array {r : Reach} {b0 n : Nat} {t e : TypeId} {v : Value} (ht : P.underlying t = some (.array n e)) (h : Value.okWide P w r b0 t v) : ∃ cs, v = .agg cs ∧ cs.size = P.cellsOf t := by
  simp only [Value.okWide, ht] at h
  obtain ⟨cs, h1, h2, _⟩ := h
  exact ⟨cs, h1, h2⟩
/-- A [2]uint64 by value. -/
theorem open_arr2 {r : Reach} {b0 : Nat} {t e : TypeId} {v : Value} {d : DataW H} {p : List MemPlace} (ht : P.underlying t = some (.array 2 e)) (he : P.underlying e = some (.int .u64)) (hC : P.cellsOf t = 2) (hc : P.cellsOf e = 1)
    (hv : Value.okWide P w r b0 t v) (h : DataW.Trod enc P w base spare held t v d p) : ∃ x y : Nat, v = .agg #[.int .u64 x, .int .u64 y] ∧ x < 18446744073709551616 ∧ y < 18446744073709551616 := by
  obtain ⟨cs, rfl, hsz⟩ := okWide_array ht hv
  obtain ⟨c0, c1, rfl⟩ := array2 (hsz.trans hC)
  obtain ⟨fuel, hf⟩ := h
  obtain ⟨xs, m, _, _, _, hlen, hx⟩ := DataW.trod_array ht hf
  have h0 := hx 0 (by omega)
  have h1 := hx 1 (by omega)
  rw [hc] at h0 h1
  rw [List.getElem?_eq_getElem (by omega)] at h0 h1
  obtain ⟨n0, e0, _, w0⟩ := DataW.trod_int he h0
  obtain ⟨n1, e1, _, w1⟩ := DataW.trod_int he h1
  simp [Value.cells] at e0 e1
  obtain ⟨a, rfl, ha⟩ := u64_of_wf w0
  obtain ⟨b, rfl, hb⟩ := u64_of_wf w1
  subst e0 e1
  exact ⟨a, b, rfl, ha, hb⟩
theorem open_u64s {t e : TypeId} {fuel : Nat} {cs : List Value} {x : DataW H × List MemPlace} (ht : P.underlying t = some (.slice e)) (he : P.underlying e = some (.int .u64)) (hc : P.cellsOf e = 1)
    (h : DataW.trod enc P w base spare held fuel t cs = some x) : ∃ A n c f, cs = [.slice A n c] ∧ n ≤ 9223372036854775807 ∧ U64s w A n f := by
  rcases open_ints ht he hc h with ⟨rfl, _⟩ | ⟨a, len, cap, zs, rfl, _, hl, hm, hz, _, hcell, hwf⟩
  · exact ⟨none, 0, 0, fun _ => 0, rfl, by omega, fun k hk => absurd hk (Nat.not_lt_zero _)⟩
  · have hlz : len ≤ zs.length := by rw [hz]; split <;> omega
    refine ⟨some a, len, cap, fun i => (zs.getD i 0).toNat, rfl, Nat.le_trans hl (maxLen_val hm), fun k hk => ?_⟩
    have h1 := hcell k (by omega)
    have hsp := World.cell?_spot (hcell 0 (by omega))
    obtain ⟨b, off, sp⟩ := a
    have hsp' : sp = none := by simpa [Addr.add] using hsp
    subst hsp'
    rw [add_at] at h1
    have hmem : zs.getD k 0 ∈ zs := by
      rw [List.getD_eq_getElem?_getD, List.getElem?_eq_getElem (by omega)]; exact List.getElem_mem _
    obtain ⟨n, hn, hlt⟩ := u64_of_wf (hwf _ hmem)
    refine ⟨b, off, rfl, ?_, ?_⟩
    · dsimp only; rw [h1, hn]; rfl
    · dsimp only; rw [hn]; exact hlt
theorem open_mat {t e u : TypeId} {fuel : Nat} {cs : List Value} {x : DataW H × List MemPlace} (ht : P.underlying t = some (.slice e)) (he : P.underlying e = some (.slice u)) (hu : P.underlying u = some (.int .u64)) (hc : P.cellsOf e = 1) (hcu : P.cellsOf u = 1)
    (h : DataW.trod enc P w base spare held fuel t cs = some x) : ∃ A n c R m cc F, cs = [.slice A n c] ∧ n ≤ 9223372036854775807 ∧ Mat w A n R m cc F := by
  rcases open_slice1 ht hc h with ⟨rfl, _⟩ | ⟨a, len, cap, mm, n, V, D, Pl, rfl, _, hl, hm, hmm, _, hi⟩
  · exact ⟨none, 0, 0, fun _ => none, fun _ => 0, fun _ => 0, fun _ _ => 0, rfl, by omega, fun k hk => absurd hk (Nat.not_lt_zero _)⟩
  · have hlm : len ≤ mm := by rw [hmm]; split <;> omega
    have hch : ∀ i, ∃ p : (Option Addr × Nat) × (Nat × (Nat → Nat)), i < len → V i = .slice p.1.1 p.1.2 p.2.1 ∧ p.1.2 ≤ 9223372036854775807 ∧ U64s w p.1.1 p.1.2 p.2.2 := fun i => by
      by_cases hil : i < len
      · obtain ⟨A, n', c, f, hv, hn, hr⟩ := open_u64s he hu hcu (hi i (by omega)).2
        injection hv with hv _
        exact ⟨((A, n'), (c, f)), fun _ => ⟨hv, hn, hr⟩⟩
      · exact ⟨((none, 0), (0, fun _ => 0)), fun h => absurd h hil⟩
    obtain ⟨p, hp⟩ := Classical.axiomOfChoice hch
    refine ⟨some a, len, cap, fun i => (p i).1.1, fun i => (p i).1.2, fun i => (p i).2.1, fun i => (p i).2.2, rfl, Nat.le_trans hl (maxLen_val hm), fun i hil => ?_⟩
    obtain ⟨hv, hn, hr⟩ := hp i hil
    have h1 := (hi i (by omega)).1
    have hsp := World.cell?_spot (hi 0 (by omega)).1
    obtain ⟨b, off, sp⟩ := a
    have hsp' : sp = none := by simpa [Addr.add] using hsp
    subst hsp'
    rw [add_at, hv] at h1
    exact ⟨b, off, rfl, h1, hn, hr⟩
end
end Go.Proofs.Ytahaimecchdfeaa
