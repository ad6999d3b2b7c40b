/-
  Texts of this claim, one after the other: what each proves is said at its head. No condition beyond those that its theorems name.
-/
import Derived.Test.YtahaimecchdfeaaProg
import Derived.ChangeSame
import Derived.Deep.Slices
import Derived.Deep.Strs
import Derived.Test.YtahaimecchdfeaaH05
import Derived.Test.YtahaimecchdfeaaH06
import Derived.Test.YtahaimecchdfeaaH09

/-
  Plain facts: how arguments read: arrays of ints, slices of structs of ints.
-/
namespace Go.Proofs.Ytahaimecchdfeaa
open Go.ChangeShapes Go.WideShapes Go.ChangeAt Go.RowKit Go.Deep Go.Joins

section
variable {H : Type} {enc : TypeId × Value → H} {P : Program} {w : World} {base : Nat} {spare : Nat → Bool} {held : Bool}
/-- A [2]int by value. -/
theorem open_arr2i {r : Reach} {b0 : Nat} {t e : TypeId} {v : Value} {d : DataW H} {p : List MemPlace} (ht : P.underlying t = some (.array 2 e)) (he : P.underlying e = some (.int .i64)) (hC : P.cellsOf t = 2) (hc : P.cellsOf e = 1)
    (hv : Value.okWide P w r b0 t v) (h : DataW.Trod enc P w base spare held t v d p) : ∃ x y : Int, v = .agg #[.int .i64 x, .int .i64 y] ∧ (-9223372036854775808 ≤ x ∧ x ≤ 9223372036854775807) ∧ (-9223372036854775808 ≤ y ∧ y ≤ 9223372036854775807) := by
  obtain ⟨cs, rfl, hsz⟩ := okWide_array ht hv
  obtain ⟨c0, c1, rfl⟩ := array2 (hsz.trans hC)
  obtain ⟨fuel, hf⟩ := h
  obtain ⟨xs, m, _, _, _, hlen, hx⟩ := DataW.trod_array ht hf
  have h0 := hx 0 (by omega)
  have h1 := hx 1 (by omega)
  rw [hc] at h0 h1
  rw [List.getElem?_eq_getElem (by omega)] at h0 h1
  obtain ⟨n0, e0, _, w0⟩ := DataW.trod_int he h0
  obtain ⟨n1, e1, _, w1⟩ := DataW.trod_int he h1
  simp [Value.cells] at e0 e1
  subst e0 e1
  exact ⟨n0, n1, rfl, i64_of_wf w0, i64_of_wf w1⟩
/-- A [3]int by value. -/
theorem open_arr3i {r : Reach} {b0 : Nat} {t e : TypeId} {v : Value} {d : DataW H} {p : List MemPlace} (ht : P.underlying t = some (.array 3 e)) (he : P.underlying e = some (.int .i64)) (hC : P.cellsOf t = 3) (hc : P.cellsOf e = 1)
    (hv : Value.okWide P w r b0 t v) (h : DataW.Trod enc P w base spare held t v d p) : ∃ x y z : Int, v = .agg #[.int .i64 x, .int .i64 y, .int .i64 z] ∧ (-9223372036854775808 ≤ x ∧ x ≤ 9223372036854775807) ∧ (-9223372036854775808 ≤ y ∧ y ≤ 9223372036854775807) ∧ (-9223372036854775808 ≤ z ∧ z ≤ 9223372036854775807) := by
  obtain ⟨cs, rfl, hsz⟩ := okWide_array ht hv
  obtain ⟨c0, c1, c2, rfl⟩ := array3 (hsz.trans hC)
  obtain ⟨fuel, hf⟩ := h
  obtain ⟨xs, m, _, _, _, hlen, hx⟩ := DataW.trod_array ht hf
  have h0 := hx 0 (by omega)
  have h1 := hx 1 (by omega)
  have h2 := hx 2 (by omega)
  rw [hc] at h0 h1 h2
  rw [List.getElem?_eq_getElem (by omega)] at h0 h1 h2
  obtain ⟨n0, e0, _, w0⟩ := DataW.trod_int he h0
  obtain ⟨n1, e1, _, w1⟩ := DataW.trod_int he h1
  obtain ⟨n2, e2, _, w2⟩ := DataW.trod_int he h2
  simp [Value.cells] at e0 e1 e2
  subst e0 e1 e2
  exact ⟨n0, n1, n2, rfl, i64_of_wf w0, i64_of_wf w1, i64_of_wf w2⟩
/-- A slice of structs of two ints. -/
theorem open_crs {t e : TypeId} {f0 f1 : Field} {fuel : Nat} {cs : List Value} {x : DataW H × List MemPlace} (ht : P.underlying t = some (.slice e)) (he : P.underlying e = some (.struct #[f0, f1])) (hC : P.cellsOf e = 2) (o0 : f0.offset = 0) (o1 : f1.offset = 1)
    (c0 : P.cellsOf f0.type = 1) (c1 : P.cellsOf f1.type = 1) (i0 : P.underlying f0.type = some (.int .i64)) (i1 : P.underlying f1.type = some (.int .i64)) (h : DataW.trod enc P w base spare held fuel t cs = some x) :
    ∃ A n c rd tv, cs = [.slice A n c] ∧ n ≤ 9223372036854775807 ∧ CrS w A n rd tv := by
  rcases open_slice ht h with ⟨rfl, _⟩ | ⟨a, len, cap, m, n, D, Pl, rfl, _, hl, hcm, hm, _, hi⟩
  · exact ⟨none, 0, 0, fun _ => 0, fun _ => 0, rfl, by omega, fun k hk => absurd hk (Nat.not_lt_zero _)⟩
  · have hlm : len ≤ m := by rw [hm]; split <;> omega
    have hspot : 0 < len → a.spot = none := fun h0 => by
      obtain ⟨cs', hcells, _⟩ := hi 0 (by omega)
      rw [hC] at hcells
      obtain ⟨_, hcl, hat⟩ := World.cells?_some hcells
      have := World.cell?_spot ((hat 0 (by omega)).trans (List.getElem?_eq_getElem (by omega)))
      simpa [Addr.add] using this
    have hel : ∀ i, ∃ p : Int × Int, i < len → ∃ b off, a = ⟨b, off, none⟩ ∧ w.cell? ⟨b, off + i * 2, none⟩ = some (.int .i64 p.1) ∧ w.cell? ⟨b, off + i * 2 + 1, none⟩ = some (.int .i64 p.2) ∧ (-9223372036854775808 ≤ p.1 ∧ p.1 ≤ 9223372036854775807) ∧ (-9223372036854775808 ≤ p.2 ∧ p.2 ≤ 9223372036854775807) := fun i => by
      by_cases hil : i < len
      · obtain ⟨cs', hcells, htr⟩ := hi i (by omega)
        rw [hC] at hcells
        obtain ⟨y0, y1, n', hy, hlen, h0, h1⟩ := trod_struct2 he htr
        obtain ⟨_, hcl, hat⟩ := World.cells?_some hcells
        match cs', hcl with
        | [v0, v1], _ =>
          rw [o0, c0] at h0
          rw [o1, c1] at h1
          obtain ⟨z0, e0, _, w0⟩ := DataW.trod_int i0 h0
          obtain ⟨z1, e1, _, w1⟩ := DataW.trod_int i1 h1
          simp at e0 e1
          subst e0 e1
          have a0 := hat 0 (by omega)
          have a1 := hat 1 (by omega)
          have hsp := hspot (by omega)
          obtain ⟨b, off, sp⟩ := a
          have hsp' : sp = none := hsp
          subst hsp'
          rw [add_at, add_at] at a0 a1
          exact ⟨(z0, z1), fun _ => ⟨b, off, rfl, a0, a1, i64_of_wf w0, i64_of_wf w1⟩⟩
      · exact ⟨(0, 0), fun h => absurd h hil⟩
    obtain ⟨p, hp⟩ := Classical.axiomOfChoice hel
    refine ⟨some a, len, cap, fun i => (p i).1, fun i => (p i).2, rfl, Nat.le_trans hl (maxLen_val hcm), fun k hk => ?_⟩
    obtain ⟨b, off, e, h1⟩ := hp k hk
    exact ⟨b, off, by rw [e], h1⟩
theorem open_crsV {r : Reach} {b0 : Nat} {t e : TypeId} {f0 f1 : Field} {v : Value} {d : DataW H} {p : List MemPlace} (ht : P.underlying t = some (.slice e)) (he : P.underlying e = some (.struct #[f0, f1])) (hC : P.cellsOf e = 2) (o0 : f0.offset = 0) (o1 : f1.offset = 1)
    (c0 : P.cellsOf f0.type = 1) (c1 : P.cellsOf f1.type = 1) (i0 : P.underlying f0.type = some (.int .i64)) (i1 : P.underlying f1.type = some (.int .i64)) (hv : Value.okWide P w r b0 t v) (h : DataW.Trod enc P w base spare held t v d p) :
    ∃ A n c rd tv, v = .slice A n c ∧ n ≤ 9223372036854775807 ∧ CrS w A n rd tv := by
  obtain ⟨a, len, cap, rfl⟩ := okWide_slice ht hv
  obtain ⟨fuel, hf⟩ := h
  obtain ⟨A, n, c, rd, tv, hcs, hn, hr⟩ := open_crs ht he hC o0 o1 c0 c1 i0 i1 hf
  simp [Value.cells] at hcs
  obtain ⟨rfl, rfl, rfl⟩ := hcs
  exact ⟨_, _, _, rd, tv, rfl, hn, hr⟩
/-- A slice of structs of three ints. -/
theorem open_rules {t e : TypeId} {f0 f1 f2 : Field} {fuel : Nat} {cs : List Value} {x : DataW H × List MemPlace} (ht : P.underlying t = some (.slice e)) (he : P.underlying e = some (.struct #[f0, f1, f2])) (hC : P.cellsOf e = 3) (o0 : f0.offset = 0) (o1 : f1.offset = 1) (o2 : f2.offset = 2)
    (c0 : P.cellsOf f0.type = 1) (c1 : P.cellsOf f1.type = 1) (c2 : P.cellsOf f2.type = 1) (i0 : P.underlying f0.type = some (.int .i64)) (i1 : P.underlying f1.type = some (.int .i64)) (i2 : P.underlying f2.type = some (.int .i64)) (h : DataW.trod enc P w base spare held fuel t cs = some x) :
    ∃ A n c fa fh fm, cs = [.slice A n c] ∧ n ≤ 9223372036854775807 ∧ RuleS w A n fa fh fm := by
  rcases open_slice ht h with ⟨rfl, _⟩ | ⟨a, len, cap, m, n, D, Pl, rfl, _, hl, hcm, hm, _, hi⟩
  · exact ⟨none, 0, 0, fun _ => 0, fun _ => 0, fun _ => 0, rfl, by omega, fun k hk => absurd hk (Nat.not_lt_zero _)⟩
  · have hlm : len ≤ m := by rw [hm]; split <;> omega
    have hspot : 0 < len → a.spot = none := fun h0 => by
      obtain ⟨cs', hcells, _⟩ := hi 0 (by omega)
      rw [hC] at hcells
      obtain ⟨_, hcl, hat⟩ := World.cells?_some hcells
      have := World.cell?_spot ((hat 0 (by omega)).trans (List.getElem?_eq_getElem (by omega)))
      simpa [Addr.add] using this
    have hel : ∀ i, ∃ p : Int × Int × Int, i < len → ∃ b off, a = ⟨b, off, none⟩ ∧ w.cell? ⟨b, off + i * 3, none⟩ = some (.int .i64 p.1) ∧ w.cell? ⟨b, off + i * 3 + 1, none⟩ = some (.int .i64 p.2.1) ∧ w.cell? ⟨b, off + i * 3 + 2, none⟩ = some (.int .i64 p.2.2) ∧ (-9223372036854775808 ≤ p.1 ∧ p.1 ≤ 9223372036854775807) ∧ (-9223372036854775808 ≤ p.2.1 ∧ p.2.1 ≤ 9223372036854775807) ∧ (-9223372036854775808 ≤ p.2.2 ∧ p.2.2 ≤ 9223372036854775807) := fun i => by
      by_cases hil : i < len
      · obtain ⟨cs', hcells, htr⟩ := hi i (by omega)
        rw [hC] at hcells
        obtain ⟨y0, y1, y2, n', hy, hlen, h0, h1, h2⟩ := trod_struct3 he htr
        obtain ⟨_, hcl, hat⟩ := World.cells?_some hcells
        match cs', hcl with
        | [v0, v1, v2], _ =>
          rw [o0, c0] at h0
          rw [o1, c1] at h1
          rw [o2, c2] at h2
          obtain ⟨z0, e0, _, w0⟩ := DataW.trod_int i0 h0
          obtain ⟨z1, e1, _, w1⟩ := DataW.trod_int i1 h1
          obtain ⟨z2, e2, _, w2⟩ := DataW.trod_int i2 h2
          simp at e0 e1 e2
          subst e0 e1 e2
          have a0 := hat 0 (by omega)
          have a1 := hat 1 (by omega)
          have a2 := hat 2 (by omega)
          have hsp := hspot (by omega)
          obtain ⟨b, off, sp⟩ := a
          have hsp' : sp = none := hsp
          subst hsp'
          rw [add_at, add_at] at a0 a1 a2
          exact ⟨(z0, z1, z2), fun _ => ⟨b, off, rfl, a0, a1, a2, i64_of_wf w0, i64_of_wf w1, i64_of_wf w2⟩⟩
      · exact ⟨(0, 0, 0), fun h => absurd h hil⟩
    obtain ⟨p, hp⟩ := Classical.axiomOfChoice hel
    refine ⟨some a, len, cap, fun i => (p i).1, fun i => (p i).2.1, fun i => (p i).2.2, rfl, Nat.le_trans hl (maxLen_val hcm), fun k hk => ?_⟩
    obtain ⟨b, off, e, h1⟩ := hp k hk
    exact ⟨b, off, by rw [e], h1⟩
end
end Go.Proofs.Ytahaimecchdfeaa
