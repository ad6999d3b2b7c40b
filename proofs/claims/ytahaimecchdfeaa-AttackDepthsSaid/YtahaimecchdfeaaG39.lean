/-
  Texts of this claim, one after the other: what each proves is said at its head. No condition beyond those that its theorems name.
-/
import Derived.Test.YtahaimecchdfeaaProg
import Derived.ChangeSame
import Derived.Deep.Slices
import Derived.Deep.Strs
import Derived.Lib.SmallJoins
import Derived.Test.YtahaimecchdfeaaG01
import Derived.Test.YtahaimecchdfeaaG06
import Derived.Test.YtahaimecchdfeaaG30
import Derived.Test.YtahaimecchdfeaaG31

/-
  Plain facts: how a system of runs reads that is handed in.
-/
namespace Go.Proofs.Ytahaimecchdfeaa
open Go.ChangeShapes Go.WideShapes Go.ChangeAt Go.RowKit Go.Deep Go.Joins

/-- Runs, read, however many times they have. -/
def RunsW (w : World) (A : Option Addr) (n : Nat) (T : Nat → Nat) (m : Nat → Nat → Nat) (L : Nat → Nat → Nat → Int) (K : Nat → Nat) (F : Nat → Nat → Nat) : Prop :=
  ∀ i, i < n → ∃ b off u v, A = some ⟨b, off, none⟩ ∧ w.cell? ⟨b, off + i * 2, none⟩ = some u ∧ w.cell? ⟨b, off + i * 2 + 1, none⟩ = some v ∧ T i ≤ 9223372036854775807 ∧ K i ≤ 9223372036854775807 ∧ RunR w (.agg #[u, v]) (T i) (m i) (L i) (K i) (F i)
theorem RunsW.below {w w' : World} {A : Option Addr} {n : Nat} {T : Nat → Nat} {m : Nat → Nat → Nat} {L : Nat → Nat → Nat → Int} {K : Nat → Nat} {F : Nat → Nat → Nat} (h : RunsW w A n T m L K F) (hb : Below w.heap.size w w') : RunsW w' A n T m L K F := fun i hi =>
  let ⟨b, off, u, v, e, h1, h2, h3, h4, h5⟩ := h i hi; ⟨b, off, u, v, e, cell_below hb h1, cell_below hb h2, h3, h4, h5.below hb⟩
theorem RunsW.small {w : World} {A : Option Addr} {n : Nat} {T : Nat → Nat} {m : Nat → Nat → Nat} {L : Nat → Nat → Nat → Int} {K : Nat → Nat} {F : Nat → Nat → Nat} (h : RunsW w A n T m L K F) (hs : ∀ i, i < n → T i ≤ 65536 ∧ K i ≤ 65536) : RunsR w A n T m L K F := fun i hi =>
  let ⟨b, off, u, v, e, h1, h2, _, _, h5⟩ := h i hi; ⟨b, off, u, v, e, h1, h2, (hs i hi).1, (hs i hi).2, h5⟩
section
variable {H : Type} {enc : TypeId × Value → H} {P : Program} {w : World} {base : Nat} {spare : Nat → Bool} {held : Bool}
theorem open_matI {t e u : TypeId} {fuel : Nat} {cs : List Value} {x : DataW H × List MemPlace} (ht : P.underlying t = some (.slice e)) (he : P.underlying e = some (.slice u)) (hu : P.underlying u = some (.int .i64)) (hc : P.cellsOf e = 1) (hcu : P.cellsOf u = 1)
    (h : DataW.trod enc P w base spare held fuel t cs = some x) : ∃ A n c R m cc F, cs = [.slice A n c] ∧ n ≤ 9223372036854775807 ∧ MatI w A n R m cc F := by
  rcases open_slice1 ht hc h with ⟨rfl, _⟩ | ⟨a, len, cap, mm, n, V, D, Pl, rfl, _, hl, hm, hmm, _, hi⟩
  · exact ⟨none, 0, 0, fun _ => none, fun _ => 0, fun _ => 0, fun _ _ => 0, rfl, by omega, fun k hk => absurd hk (Nat.not_lt_zero _)⟩
  · have hlm : len ≤ mm := by rw [hmm]; split <;> omega
    have hch : ∀ i, ∃ p : (Option Addr × Nat) × (Nat × (Nat → Int)), i < len → V i = .slice p.1.1 p.1.2 p.2.1 ∧ p.1.2 ≤ 9223372036854775807 ∧ I64s w p.1.1 p.1.2 p.2.2 := fun i => by
      by_cases hil : i < len
      · obtain ⟨A, n', c, f, hv, hn, hr⟩ := open_i64s he hu hcu (hi i (by omega)).2
        injection hv with hv _
        exact ⟨((A, n'), (c, f)), fun _ => ⟨hv, hn, hr⟩⟩
      · exact ⟨((none, 0), (0, fun _ => 0)), fun h => absurd h hil⟩
    obtain ⟨p, hp⟩ := Classical.axiomOfChoice hch
    refine ⟨some a, len, cap, fun i => (p i).1.1, fun i => (p i).1.2, fun i => (p i).2.1, fun i => (p i).2.2, rfl, Nat.le_trans hl (maxLen_val hm), fun i hil => ?_⟩
    obtain ⟨hv, hn, hr⟩ := hp i hil
    have h1 := (hi i (by omega)).1
    have hsp := World.cell?_spot (hi 0 (by omega)).1
    obtain ⟨b, off, sp⟩ := a
    have hsp' : sp = none := by simpa [Addr.add] using hsp
    subst hsp'
    rw [add_at] at h1
    exact ⟨b, off, rfl, by rw [h1, hv], hn, hr⟩
/-- A slice of runs. -/
theorem open_runs {t e tl tli tlu tf tfu : TypeId} {f0 f1 : Field} {fuel : Nat} {cs : List Value} {x : DataW H × List MemPlace} (ht : P.underlying t = some (.slice e)) (he : P.underlying e = some (.struct #[f0, f1])) (hC : P.cellsOf e = 2) (o0 : f0.offset = 0) (o1 : f1.offset = 1)
    (c0 : P.cellsOf f0.type = 1) (c1 : P.cellsOf f1.type = 1) (e0 : f0.type = tl) (e1 : f1.type = tf) (i0 : P.underlying tl = some (.slice tli)) (i1 : P.underlying tli = some (.slice tlu)) (i2 : P.underlying tlu = some (.int .i64)) (k1 : P.cellsOf tli = 1) (k2 : P.cellsOf tlu = 1)
    (j0 : P.underlying tf = some (.slice tfu)) (j1 : P.underlying tfu = some (.int .u64)) (k3 : P.cellsOf tfu = 1) (h : DataW.trod enc P w base spare held fuel t cs = some x) :
    ∃ A n c T m L K F, cs = [.slice A n c] ∧ n ≤ 9223372036854775807 ∧ RunsW w A n T m L K F := by
  rcases open_slice ht h with ⟨rfl, _⟩ | ⟨a, len, cap, m, n, D, Pl, rfl, _, hl, hcm, hm, _, hi⟩
  · exact ⟨none, 0, 0, fun _ => 0, fun _ _ => 0, fun _ _ _ => 0, fun _ => 0, fun _ _ => 0, rfl, by omega, fun k hk => absurd hk (Nat.not_lt_zero _)⟩
  · have hlm : len ≤ m := by rw [hm]; split <;> omega
    have hspot : 0 < len → a.spot = none := fun h0 => by
      obtain ⟨cs', hcells, _⟩ := hi 0 (by omega)
      rw [hC] at hcells
      obtain ⟨_, hcl, hat⟩ := World.cells?_some hcells
      have := World.cell?_spot ((hat 0 (by omega)).trans (List.getElem?_eq_getElem (by omega)))
      simpa [Addr.add] using this
    have hel : ∀ i, ∃ p : (Nat × (Nat → Nat) × (Nat → Nat → Int)) × Nat × (Nat → Nat), i < len → ∃ b off u v, a = ⟨b, off, none⟩ ∧ w.cell? ⟨b, off + i * 2, none⟩ = some u ∧ w.cell? ⟨b, off + i * 2 + 1, none⟩ = some v ∧ p.1.1 ≤ 9223372036854775807 ∧ p.2.1 ≤ 9223372036854775807 ∧ RunR w (.agg #[u, v]) p.1.1 p.1.2.1 p.1.2.2 p.2.1 p.2.2 := fun i => by
      by_cases hil : i < len
      · obtain ⟨cs', hcells, htr⟩ := hi i (by omega)
        rw [hC] at hcells
        obtain ⟨y0, y1, n', hy, hlen, h0, h1⟩ := trod_struct2 he htr
        obtain ⟨_, hcl, hat⟩ := World.cells?_some hcells
        match cs', hcl with
        | [v0, v1], _ =>
          rw [o0, c0, e0] at h0
          rw [o1, c1, e1] at h1
          obtain ⟨A0, n0, q0, R0, m0, cc0, F0, z0, b0, g0⟩ := open_matI i0 i1 i2 k1 k2 h0
          obtain ⟨A1, n1, q1, F1, z1, b1, g1⟩ := open_u64s j0 j1 k3 h1
          simp at z0 z1
          subst z0 z1
          have a0 := hat 0 (by omega)
          have a1 := hat 1 (by omega)
          have hsp := hspot (by omega)
          obtain ⟨b, off, sp⟩ := a
          have hsp' : sp = none := hsp
          subst hsp'
          rw [add_at, add_at] at a0 a1
          exact ⟨((n0, m0, F0), n1, F1), fun _ => ⟨b, off, _, _, rfl, a0, a1, b0, b1, A0, q0, A1, q1, R0, cc0, rfl, g0, g1⟩⟩
      · exact ⟨((0, fun _ => 0, fun _ _ => 0), 0, fun _ => 0), fun h => absurd h hil⟩
    obtain ⟨p, hp⟩ := Classical.axiomOfChoice hel
    refine ⟨some a, len, cap, fun i => (p i).1.1, fun i => (p i).1.2.1, fun i => (p i).1.2.2, fun i => (p i).2.1, fun i => (p i).2.2, rfl, Nat.le_trans hl (maxLen_val hcm), fun k hk => ?_⟩
    obtain ⟨b, off, u, v, e, h1⟩ := hp k hk
    exact ⟨b, off, u, v, by rw [e], h1⟩
end
end Go.Proofs.Ytahaimecchdfeaa
