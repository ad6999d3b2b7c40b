/-
  What the listed tables of the postulates hold, as the walks ask it.
-/
import Derived.Test.YtlcojpopngdigaaDoorRows
import Derived.Test.YtlcojpopngdigaaDoorPoC
import Derived.ProofKit
import Derived.LaidMore
import Derived.Stop.Joined
import Derived.Deep.Slices
import Derived.Deep.Fields
import Derived.ChangeSame
namespace Go.Proofs.YtlcojpopngdigaaDoor
open Go.ChangeShapes Go.WideShapes Go.ChangeAt Go.RowKit Go.Deep

abbrev laidAll : List (String × DataW Unit) := [("witting/postulates.revision", Rows.laid_witting_postulates_revision)]
theorem gRev : Tryd.prog.globalNamed "witting/postulates.revision" = some 0 := by kernel_rfl
theorem tRev : (Tryd.prog.globals[0]?).map (·.type) = some 49 := by kernel_rfl
theorem cellsSt : Tryd.prog.cellsOf 59 = 2 := by kernel_rfl
theorem undSt : ∃ f0 f1 : Field, Tryd.prog.underlying 59 = some (.struct #[f0, f1]) ∧ f0.offset = 0 ∧ f1.offset = 1 ∧ f0.type = 4 ∧ f1.type = 58 := ⟨_, _, Tryd.underlying59, rfl, rfl, rfl, rfl⟩
theorem cells4 : Tryd.prog.cellsOf 4 = 1 := by kernel_rfl
theorem cellsF : Tryd.prog.cellsOf 58 = 1 := by kernel_rfl

section
variable {H : Type} {enc : TypeId × Value → H} {P : Program} {w : World} {base : Nat} {spare : Nat → Bool} {held : Bool}
/-- A slice of structs of two one-cell fields, whose data are known. -/
theorem open_pairs {t e : TypeId} {f0 f1 : Field} {fuel : Nat} {cs : List Value} {ds : List (DataW H)} {p : List MemPlace} (ht : P.underlying t = some (.slice e)) (he : P.underlying e = some (.struct #[f0, f1])) (hC : P.cellsOf e = 2)
    (o0 : f0.offset = 0) (o1 : f1.offset = 1) (c0 : P.cellsOf f0.type = 1) (c1 : P.cellsOf f1.type = 1) (_hne : ds ≠ [])
    (h : DataW.trod enc P w base spare held fuel t cs = some (.slice ds [], p)) :
    ∃ a cap, cs = [.slice (some a) ds.length cap] ∧ ∀ i d, ds[i]? = some d → ∃ v0 v1 y0 y1 n, d = .agg [y0.1, y1.1] ∧ w.cell? (a.add (i * 2)) = some v0 ∧ w.cell? ((a.add (i * 2)).add 1) = some v1 ∧
      DataW.trod enc P w base spare held n f0.type [v0] = some y0 ∧ DataW.trod enc P w base spare held n f1.type [v1] = some y1 := by
  rcases open_slice ht h with ⟨_, hx⟩ | ⟨a, len, cap, m, n, D, Pl, hcs, _, hl, _, hm, hx, hi⟩
  · simp at hx
  · simp only [Prod.mk.injEq, DataW.slice.injEq] at hx
    obtain ⟨⟨hds, _⟩, _⟩ := hx
    have el : ds.length = len := by rw [hds]; simp
    have hlm : len ≤ m := by rw [hm]; split <;> omega
    refine ⟨a, cap, by rw [el]; exact hcs, fun i d hd => ?_⟩
    have hil : i < len := by
      have := (List.getElem?_eq_some_iff.1 hd).1
      omega
    obtain ⟨cs', hcells, htr⟩ := hi i (by omega)
    rw [hC] at hcells
    obtain ⟨y0, y1, n', hy, hlen, h0, h1⟩ := trod_struct2 he htr
    obtain ⟨_, hcl, hat⟩ := World.cells?_some hcells
    match cs', hcl with
    | [v0, v1], _ =>
      rw [o0, c0] at h0
      rw [o1, c1] at h1
      have hdi : d = D i := by
        rw [hds, List.getElem?_map, List.getElem?_range hil] at hd
        injection hd with hd
        exact hd.symm
      simp only [Prod.mk.injEq] at hy
      refine ⟨v0, v1, y0, y1, n', by rw [hdi]; exact hy.1, ?_, hat 1 (by omega), h0, h1⟩
      have := hat 0 (by omega)
      simpa [Addr.add] using this
end

theorem laid_revision {W : World} (h : laidMetH Tryd.prog laidAll W) : LaidR W := by
  obtain ⟨g, t, cs, fuel, p, hg, ht, hv, hd⟩ := h.funcs (n := "witting/postulates.revision") (List.mem_cons.2 (.inl rfl))
  obtain rfl := Option.some.inj (gRev.symm.trans hg)
  obtain rfl := Option.some.inj (tRev.symm.trans ht)
  have hd' : DataW.trod (funcToken Tryd.prog) Tryd.prog W 0 (fun _ => true) true fuel 49 cs.toList = some (.slice [.agg [.lit (.bool false), .held [119, 105, 116, 116, 105, 110, 103, 47, 112, 111, 115, 116, 117, 108, 97, 116, 101, 115, 46, 114, 101, 118, 105, 115, 105, 111, 110, 36, 49]], .agg [.lit (.bool false), .held [119, 105, 116, 116, 105, 110, 103, 47, 112, 111, 115, 116, 117, 108, 97, 116, 101, 115, 46, 114, 101, 118, 105, 115, 105, 111, 110, 36, 50]], .agg [.lit (.bool false), .held [119, 105, 116, 116, 105, 110, 103, 47, 112, 111, 115, 116, 117, 108, 97, 116, 101, 115, 46, 114, 101, 118, 105, 115, 105, 111, 110, 36, 51]], .agg [.lit (.bool false), .held [119, 105, 116, 116, 105, 110, 103, 47, 112, 111, 115, 116, 117, 108, 97, 116, 101, 115, 46, 114, 101, 118, 105, 115, 105, 111, 110, 36, 52]], .agg [.lit (.bool true), .held [119, 105, 116, 116, 105, 110, 103, 47, 112, 111, 115, 116, 117, 108, 97, 116, 101, 115, 46, 114, 101, 118, 105, 115, 105, 111, 110, 36, 53]], .agg [.lit (.bool true), .held [119, 105, 116, 116, 105, 110, 103, 47, 112, 111, 115, 116, 117, 108, 97, 116, 101, 115, 46, 114, 101, 118, 105, 115, 105, 111, 110, 36, 54]]] [], p) := hd
  obtain ⟨f0, f1, hst, o0, o1, t0, t1⟩ := undSt
  obtain ⟨a, cap, hcs, hel⟩ := open_pairs Tryd.underlying49 hst cellsSt o0 o1 (by rw [t0]; exact cells4) (by rw [t1]; exact cellsF) (by simp) hd'
  obtain ⟨v0, u0, y0, z0, n0, e0, c0, k0, r0, s0⟩ := hel 0 _ rfl
  obtain ⟨v1, u1, y1, z1, n1, e1, c1, k1, r1, s1⟩ := hel 1 _ rfl
  obtain ⟨v2, u2, y2, z2, n2, e2, c2, k2, r2, s2⟩ := hel 2 _ rfl
  obtain ⟨v3, u3, y3, z3, n3, e3, c3, k3, r3, s3⟩ := hel 3 _ rfl
  obtain ⟨v4, u4, y4, z4, n4, e4, c4, k4, r4, s4⟩ := hel 4 _ rfl
  obtain ⟨v5, u5, y5, z5, n5, e5, c5, k5, r5, s5⟩ := hel 5 _ rfl
  rw [t0] at r0
  rw [t1] at s0
  injection e0 with e0
  injection e0 with x0 e0
  injection e0 with e0 _
  obtain ⟨y0a, y0b⟩ := y0
  obtain ⟨z0a, z0b⟩ := z0
  simp only at x0 e0
  subst x0 e0
  obtain ⟨b0, q0, hq0⟩ := DataW.trod_bool Tryd.underlying4 r0
  simp only [List.cons.injEq, and_true] at q0
  simp only [Prod.mk.injEq, DataW.lit.injEq, Lit.bool.injEq] at hq0
  obtain ⟨hq0, -⟩ := hq0
  subst q0 hq0
  obtain rfl := func_of_trod (f0 := 67) Tryd.underlying58 (by kernel_rfl) s0
  rw [t0] at r1
  rw [t1] at s1
  injection e1 with e1
  injection e1 with x1 e1
  injection e1 with e1 _
  obtain ⟨y1a, y1b⟩ := y1
  obtain ⟨z1a, z1b⟩ := z1
  simp only at x1 e1
  subst x1 e1
  obtain ⟨b1, q1, hq1⟩ := DataW.trod_bool Tryd.underlying4 r1
  simp only [List.cons.injEq, and_true] at q1
  simp only [Prod.mk.injEq, DataW.lit.injEq, Lit.bool.injEq] at hq1
  obtain ⟨hq1, -⟩ := hq1
  subst q1 hq1
  obtain rfl := func_of_trod (f0 := 68) Tryd.underlying58 (by kernel_rfl) s1
  rw [t0] at r2
  rw [t1] at s2
  injection e2 with e2
  injection e2 with x2 e2
  injection e2 with e2 _
  obtain ⟨y2a, y2b⟩ := y2
  obtain ⟨z2a, z2b⟩ := z2
  simp only at x2 e2
  subst x2 e2
  obtain ⟨b2, q2, hq2⟩ := DataW.trod_bool Tryd.underlying4 r2
  simp only [List.cons.injEq, and_true] at q2
  simp only [Prod.mk.injEq, DataW.lit.injEq, Lit.bool.injEq] at hq2
  obtain ⟨hq2, -⟩ := hq2
  subst q2 hq2
  obtain rfl := func_of_trod (f0 := 69) Tryd.underlying58 (by kernel_rfl) s2
  rw [t0] at r3
  rw [t1] at s3
  injection e3 with e3
  injection e3 with x3 e3
  injection e3 with e3 _
  obtain ⟨y3a, y3b⟩ := y3
  obtain ⟨z3a, z3b⟩ := z3
  simp only at x3 e3
  subst x3 e3
  obtain ⟨b3, q3, hq3⟩ := DataW.trod_bool Tryd.underlying4 r3
  simp only [List.cons.injEq, and_true] at q3
  simp only [Prod.mk.injEq, DataW.lit.injEq, Lit.bool.injEq] at hq3
  obtain ⟨hq3, -⟩ := hq3
  subst q3 hq3
  obtain rfl := func_of_trod (f0 := 70) Tryd.underlying58 (by kernel_rfl) s3
  rw [t0] at r4
  rw [t1] at s4
  injection e4 with e4
  injection e4 with x4 e4
  injection e4 with e4 _
  obtain ⟨y4a, y4b⟩ := y4
  obtain ⟨z4a, z4b⟩ := z4
  simp only at x4 e4
  subst x4 e4
  obtain ⟨b4, q4, hq4⟩ := DataW.trod_bool Tryd.underlying4 r4
  simp only [List.cons.injEq, and_true] at q4
  simp only [Prod.mk.injEq, DataW.lit.injEq, Lit.bool.injEq] at hq4
  obtain ⟨hq4, -⟩ := hq4
  subst q4 hq4
  obtain rfl := func_of_trod (f0 := 71) Tryd.underlying58 (by kernel_rfl) s4
  rw [t0] at r5
  rw [t1] at s5
  injection e5 with e5
  injection e5 with x5 e5
  injection e5 with e5 _
  obtain ⟨y5a, y5b⟩ := y5
  obtain ⟨z5a, z5b⟩ := z5
  simp only at x5 e5
  subst x5 e5
  obtain ⟨b5, q5, hq5⟩ := DataW.trod_bool Tryd.underlying4 r5
  simp only [List.cons.injEq, and_true] at q5
  simp only [Prod.mk.injEq, DataW.lit.injEq, Lit.bool.injEq] at hq5
  obtain ⟨hq5, -⟩ := hq5
  subst q5 hq5
  obtain rfl := func_of_trod (f0 := 72) Tryd.underlying58 (by kernel_rfl) s5
  obtain ⟨b, off, spot⟩ := a
  have hspot : spot = none := by simpa [Addr.add] using World.cell?_spot c0
  subst hspot
  have hz := World.var?_cell hg hv 0
  rw [Array.eq_one_of_toList hcs] at hz
  refine ⟨b, off, cap, by simpa using hz, ?_⟩
  exact ⟨by simpa [Addr.add] using c0, by simpa [Addr.add] using k0, by simpa [Addr.add] using c1, by simpa [Addr.add] using k1, by simpa [Addr.add] using c2, by simpa [Addr.add] using k2, by simpa [Addr.add] using c3, by simpa [Addr.add] using k3, by simpa [Addr.add] using c4, by simpa [Addr.add] using k4, by simpa [Addr.add] using c5, by simpa [Addr.add] using k5⟩
end Go.Proofs.YtlcojpopngdigaaDoor
