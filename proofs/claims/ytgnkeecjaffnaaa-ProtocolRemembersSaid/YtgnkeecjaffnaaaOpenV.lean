/-
  Plain lemmas: parameters that are slices of numbers, and slices of these, opened.
-/
import Derived.Test.YtgnkeecjaffnaaaBase
import Derived.Test.YtgnkeecjaffnaaaRow
import Derived.Test.YtgnkeecjaffnaaaOpen
namespace Go.Proofs.Ytgnkeecjaffnaaa
open Go.ChangeShapes Go.WideShapes Go.ChangeAt Go.RowKit Go.Deep Go.Joins

section
variable {H : Type} {enc : TypeId × Value → H} {P : Program} {w : World} {base : Nat} {spare : Nat → Bool} {held : Bool}
theorem open_i64s {t e : TypeId} {fuel : Nat} {cs : List Value} {x : DataW H × List MemPlace} (ht : P.underlying t = some (.slice e)) (he : P.underlying e = some (.int .i64)) (hc : P.cellsOf e = 1)
    (h : DataW.trod enc P w base spare held fuel t cs = some x) : ∃ A n c f, cs = [.slice A n c] ∧ n ≤ 9223372036854775807 ∧ I64s w A n f := by
  rcases open_ints ht he hc h with ⟨rfl, _⟩ | ⟨a, len, cap, zs, rfl, _, hl, hm, hz, _, hcell, hwf⟩
  · exact ⟨none, 0, 0, fun _ => 0, rfl, by omega, fun k hk => absurd hk (Nat.not_lt_zero _)⟩
  · have hlz : len ≤ zs.length := by rw [hz]; split <;> omega
    refine ⟨some a, len, cap, fun i => zs.getD i 0, rfl, Nat.le_trans hl (maxLen_val hm), fun k hk => ?_⟩
    have h1 := hcell k (by omega)
    have hsp := World.cell?_spot (hcell 0 (by omega))
    obtain ⟨b, off, sp⟩ := a
    have hsp' : sp = none := by simpa [Addr.add] using hsp
    subst hsp'
    rw [add_at] at h1
    have hmem : zs.getD k 0 ∈ zs := by
      rw [List.getD_eq_getElem?_getD, List.getElem?_eq_getElem (by omega)]; exact List.getElem_mem _
    obtain ⟨h2, h3⟩ := i64_of_wf (hwf _ hmem)
    exact ⟨b, off, rfl, h1, h2, h3⟩
theorem open_u64sV {r : Reach} {b0 : Nat} {t e : TypeId} {v : Value} {d : DataW H} {p : List MemPlace} (ht : P.underlying t = some (.slice e)) (he : P.underlying e = some (.int .u64)) (hc : P.cellsOf e = 1)
    (hv : Value.okWide P w r b0 t v) (h : DataW.Trod enc P w base spare held t v d p) : ∃ A n c f, v = .slice A n c ∧ n ≤ 9223372036854775807 ∧ U64s w A n f := by
  obtain ⟨a, len, cap, rfl⟩ := okWide_slice ht hv
  obtain ⟨fuel, hf⟩ := h
  obtain ⟨A, n, c, f, hcs, hn, hr⟩ := open_u64s ht he hc hf
  simp [Value.cells] at hcs
  obtain ⟨rfl, rfl, rfl⟩ := hcs
  exact ⟨_, _, _, f, rfl, hn, hr⟩
theorem open_i64sV {r : Reach} {b0 : Nat} {t e : TypeId} {v : Value} {d : DataW H} {p : List MemPlace} (ht : P.underlying t = some (.slice e)) (he : P.underlying e = some (.int .i64)) (hc : P.cellsOf e = 1)
    (hv : Value.okWide P w r b0 t v) (h : DataW.Trod enc P w base spare held t v d p) : ∃ A n c f, v = .slice A n c ∧ n ≤ 9223372036854775807 ∧ I64s w A n f := by
  obtain ⟨a, len, cap, rfl⟩ := okWide_slice ht hv
  obtain ⟨fuel, hf⟩ := h
  obtain ⟨A, n, c, f, hcs, hn, hr⟩ := open_i64s ht he hc hf
  simp [Value.cells] at hcs
  obtain ⟨rfl, rfl, rfl⟩ := hcs
  exact ⟨_, _, _, f, rfl, hn, hr⟩
theorem open_matV {r : Reach} {b0 : Nat} {t e u : TypeId} {v : Value} {d : DataW H} {p : List MemPlace} (ht : P.underlying t = some (.slice e)) (he : P.underlying e = some (.slice u)) (hu : P.underlying u = some (.int .u64)) (hc : P.cellsOf e = 1) (hcu : P.cellsOf u = 1)
    (hv : Value.okWide P w r b0 t v) (h : DataW.Trod enc P w base spare held t v d p) : ∃ A n c R m cc F, v = .slice A n c ∧ n ≤ 9223372036854775807 ∧ Mat w A n R m cc F := by
  obtain ⟨a, len, cap, rfl⟩ := okWide_slice ht hv
  obtain ⟨fuel, hf⟩ := h
  obtain ⟨A, n, c, R, m, cc, F, hcs, hn, hr⟩ := open_mat ht he hu hc hcu hf
  simp [Value.cells] at hcs
  obtain ⟨rfl, rfl, rfl⟩ := hcs
  exact ⟨_, _, _, R, m, cc, F, rfl, hn, hr⟩
end
end Go.Proofs.Ytgnkeecjaffnaaa
