/-
  Systems that are owned, read, and held against each other by the reference's Same.
-/
import Derived.Test.YtgnkeecjaffnaaaProg
import Derived.Test.YtgnkeecjaffnaaaBase
import Derived.Test.YtgnkeecjaffnaaaRow
import Derived.Test.YtgnkeecjaffnaaaRowsOf
import Derived.Test.YtgnkeecjaffnaaaPc
import Derived.Test.YtgnkeecjaffnaaaPd
import Derived.Test.YtgnkeecjaffnaaaPrI
import Derived.Test.YtgnkeecjaffnaaaPrN
import Derived.Test.YtgnkeecjaffnaaaPfC
namespace Go.Proofs.Ytgnkeecjaffnaaa
open Go.RowKit

/-! ### systems that are owned, read and held against each other -/
def RunD.small (d : RunD) : Prop := d.n ≤ 65536 ∧ d.k ≤ 65536 ∧ (∀ i, i < d.n → d.m i ≤ 9223372036854775807) ∧ (∀ i j, i < d.n → j < d.m i → -9223372036854775808 ≤ d.L i j ∧ d.L i j ≤ 9223372036854775807) ∧ ∀ u, u < d.k → d.F u < 18446744073709551616
def pgD (ps : List RunD) (i : Nat) : RunD := ps.getD i RunD.none
theorem runs_read {w : World} {base : Nat} {vR : Value} {ps : List RunD} (h : RunsO w base vR ps) (hl : ∀ d, d ∈ ps → d.small) :
    ∃ A c, vR = .slice A ps.length c ∧ RunsR w A ps.length (fun i => (pgD ps i).n) (fun i => (pgD ps i).m) (fun i => (pgD ps i).L) (fun i => (pgD ps i).k) (fun i => (pgD ps i).F) := by
  obtain ⟨rows, ho, hr⟩ := h
  obtain ⟨A, c, rfl, hc⟩ := own_form' ho
  refine ⟨A, c, rfl, fun i hi => ?_⟩
  have hg : ps[i]? = some (pgD ps i) := by unfold pgD; rw [List.getD_eq_getElem?_getD, List.getElem?_eq_getElem hi]; rfl
  have hp := hl _ (List.mem_of_getElem? hg)
  obtain ⟨u, v, e1, e2, hd⟩ := hr i (pgD ps i) hg
  obtain ⟨b, rfl, -, -, h1⟩ := hc (i * 2) (by omega)
  obtain ⟨b', hb, -, -, h2⟩ := hc (i * 2 + 1) (by omega)
  injection hb with hb
  injection hb with hb _ _
  subst hb
  exact ⟨b, 0, u, v, rfl, by rw [Nat.zero_add]; exact h1.trans e1, by rw [Nat.zero_add]; exact h2.trans e2, hp.1, hp.2.1, RunO.read hd hp.2.2.1 hp.2.2.2.1 hp.2.2.2.2⟩
theorem runsO_shape {w : World} {base : Nat} {v : Value} {ps : List RunD} (h : RunsO w base v ps) : ∃ A c, v = .slice A ps.length c := by
  obtain ⟨rows, ho, _⟩ := h
  obtain ⟨A, c, rfl, _⟩ := own_form' ho
  exact ⟨A, c, rfl⟩
def SysD.small (D : SysD) : Prop := D.ps.length ≤ 65536 ∧ ∀ d, d ∈ D.ps → d.small
theorem same_sys {w : World} {base base' : Nat} {v v' : Value} (D : SysD) (h : RunsO w base v D.ps) (h' : RunsO w base' v' D.ps) (hs : D.small) :
    Calls Try.prog 28 #[.agg #[.int .i64 D.a, .int .i64 D.f, .int .i64 D.l, v], .agg #[.int .i64 D.a, .int .i64 D.f, .int .i64 D.l, v']] w fun e w' => e = .returned (.bool true) ∧ Below w.heap.size w w' := by
  obtain ⟨A, c, rfl, hR⟩ := runs_read h hs.2
  obtain ⟨A', c', rfl, hR'⟩ := runs_read h' hs.2
  exact Same_any _ _ D.a D.f D.l D.a D.f D.l D.ps.length D.ps.length _ _ _ _ _ _ _ _ _ _ w ⟨A, c, rfl, hR⟩ ⟨A', c', rfl, hR'⟩ hs.1 true ⟨fun _ => ⟨rfl, rfl, rfl, rfl, fun i _ => ⟨rfl, rfl, fun t _ => ⟨rfl, fun _ _ => rfl⟩, fun _ _ => rfl⟩⟩, fun _ => rfl⟩
theorem SysD.none_small : SysD.none.small := ⟨by decide, fun _ h => by cases h⟩
end Go.Proofs.Ytgnkeecjaffnaaa
