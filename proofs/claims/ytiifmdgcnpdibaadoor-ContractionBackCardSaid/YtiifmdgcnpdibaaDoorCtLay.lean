/-
  What the listed map of the postulates holds, as the walks ask it.
-/
import Derived.Test.YtiifmdgcnpdibaaDoorRows
import Derived.Test.YtiifmdgcnpdibaaDoorCtE
import Derived.ProofKit
import Derived.LaidMore
import Derived.Stop.Joined
import Derived.Deep.Slices
import Derived.Deep.Fields
import Derived.ChangeSame
import Derived.Maps.Keyed
namespace Go.Proofs.YtiifmdgcnpdibaaDoor
open Go.ChangeShapes Go.WideShapes Go.ChangeAt Go.RowKit Go.Deep Go.WideElems Go.Maps

abbrev laidAll : List (String × DataW Unit) := [("witting/contraction.postulates", Rows.laid_witting_contraction_postulates)]
theorem gPost : Tryd.prog.globalNamed "witting/contraction.postulates" = some 0 := by kernel_rfl
theorem tPost : (Tryd.prog.globals[0]?).map (·.type) = some 70 := by kernel_rfl
theorem undPo : ∃ f0 f1 : Field, Tryd.prog.underlying 68 = some (.struct #[f0, f1]) ∧ f0.offset = 0 ∧ f1.offset = 1 ∧ f0.type = 66 ∧ f1.type = 4 := ⟨_, _, Tryd.underlying68, rfl, rfl, rfl, rfl⟩
theorem cellsPo : Tryd.prog.cellsOf 68 = 2 := by kernel_rfl
theorem cells66 : Tryd.prog.cellsOf 66 = 1 := by kernel_rfl
theorem cells4 : Tryd.prog.cellsOf 4 = 1 := by kernel_rfl
theorem keyPo : Keyed Tryd.prog 3 := int_keyed Tryd.underlying3
theorem zeroPo (w : World) : (zeroValue 68).run Tryd.prog w = .ok (.agg #[.nilFunc, .bool false]) w := by kernel_rfl

/-- An element of the map, by what it reads as. -/
theorem elem_pair {w : World} {base n : Nat} {sp : Nat → Bool} {v : Value} {y : DataW (List UInt8) × List MemPlace} {b : Bool} {c : UInt8} {r : List UInt8} {f0 : FuncId}
    (hone : ((List.range Tryd.prog.funcs.size).filter fun f => (Tryd.prog.funcs[f]?).any (·.name.toUTF8.data.toList == c :: r)) = [f0])
    (h : elemAt (funcToken Tryd.prog) Tryd.prog w base sp true n 68 v = some y) (hy : y.1 = .agg [.held (c :: r), .lit (.bool b)]) : v = .agg #[.func (.func f0) #[] #[], .bool b] := by
  unfold elemAt at h
  split at h
  · rename_i hf
    obtain ⟨g0, g1, hst, o0, o1, t0, t1⟩ := undPo
    obtain ⟨y0, y1, m, rfl, hlen, h0, h1⟩ := trod_struct2 hst h
    rw [o0, t0, cells66] at h0
    rw [o1, t1, cells4] at h1
    rw [cellsPo] at hlen
    obtain ⟨y0a, y0b⟩ := y0
    obtain ⟨y1a, y1b⟩ := y1
    simp only [DataW.agg.injEq, List.cons.injEq, and_true] at hy
    obtain ⟨e0, e1⟩ := hy
    subst e0 e1
    cases v <;> simp [Value.formed, hst, Value.cells] at hf hlen h0 h1
    rename_i cs
    match hcs : cs.toList, (show cs.toList.length = 2 by rw [Array.length_toList]; exact hlen) with
    | [x0, x1], _ =>
      have hc : cs = #[x0, x1] := by rw [← Array.toList_inj]; exact hcs
      subst hc
      simp at h0 h1
      obtain rfl := func_of_trod (f0 := f0) Tryd.underlying66 hone h0
      obtain ⟨b', q, hq⟩ := DataW.trod_bool Tryd.underlying4 h1
      simp only [List.cons.injEq, and_true] at q
      simp only [Prod.mk.injEq, DataW.lit.injEq, Lit.bool.injEq] at hq
      obtain ⟨hq, -⟩ := hq
      subst q hq
      rfl
  · cases h

theorem laid_ct {W : World} (h : laidMetH Tryd.prog laidAll W) : LaidC W := by
  obtain ⟨g, t, cs, fuel, p, hg, ht, hv, hd⟩ := h.funcs (n := "witting/contraction.postulates") (List.mem_cons.2 (.inl rfl))
  obtain rfl := Option.some.inj (gPost.symm.trans hg)
  obtain rfl := Option.some.inj (tPost.symm.trans ht)
  have hd' : DataW.trod (funcToken Tryd.prog) Tryd.prog W 0 (fun _ => true) true fuel 70 cs.toList = some (.map [(.int .i64 1, .agg [.held [119, 105, 116, 116, 105, 110, 103, 47, 99, 111, 110, 116, 114, 97, 99, 116, 105, 111, 110, 46, 112, 111, 115, 116, 117, 108, 97, 116, 101, 115, 36, 49], .lit (.bool false)]), (.int .i64 2, .agg [.held [119, 105, 116, 116, 105, 110, 103, 47, 99, 111, 110, 116, 114, 97, 99, 116, 105, 111, 110, 46, 112, 111, 115, 116, 117, 108, 97, 116, 101, 115, 36, 50], .lit (.bool false)]), (.int .i64 3, .agg [.held [119, 105, 116, 116, 105, 110, 103, 47, 99, 111, 110, 116, 114, 97, 99, 116, 105, 111, 110, 46, 112, 111, 115, 116, 117, 108, 97, 116, 101, 115, 36, 51], .lit (.bool false)]), (.int .i64 4, .agg [.held [119, 105, 116, 116, 105, 110, 103, 47, 99, 111, 110, 116, 114, 97, 99, 116, 105, 111, 110, 46, 112, 111, 115, 116, 117, 108, 97, 116, 101, 115, 36, 52], .lit (.bool false)]), (.int .i64 5, .agg [.held [119, 105, 116, 116, 105, 110, 103, 47, 99, 111, 110, 116, 114, 97, 99, 116, 105, 111, 110, 46, 112, 111, 115, 116, 117, 108, 97, 116, 101, 115, 36, 53], .lit (.bool true)]), (.int .i64 6, .agg [.held [119, 105, 116, 116, 105, 110, 103, 47, 99, 111, 110, 116, 114, 97, 99, 116, 105, 111, 110, 46, 112, 111, 115, 116, 117, 108, 97, 116, 101, 115, 36, 54], .lit (.bool true)])], p) := hd
  rcases open_map Tryd.underlying70 hd' with ⟨_, hx⟩ | ⟨bm, es, clock, m, hfu, hcs, hb, _, F, hx⟩
  · simp at hx
  simp only [Prod.mk.injEq] at hx
  obtain ⟨hdd, _⟩ := hx
  have hz := World.var?_cell hg hv 0
  rw [Array.eq_one_of_toList hcs] at hz
  have hbm : bm < W.heap.size := (Array.getElem?_eq_some_iff.1 hb).1
  refine ⟨bm, by simpa using hz, fun w' hB => ?_⟩
  have hb' : w'.heap[bm]? = some (.map es clock) := (hB.block bm hbm).trans hb
  have hL := fun (p : Int) (hp : -9223372036854775808 ≤ p ∧ p ≤ 9223372036854775807) => fit_look (w := w') true keyPo Tryd.underlying70 (zeroPo w') hb' F (keyOf_int_mk Tryd.underlying3 (WalkArith.wf_i64 (n := p) hp))
  rw [← hdd] at hL
  refine ⟨?_, ?_⟩
  · intro p h1 h6
    have hp : p = 1 ∨ p = 2 ∨ p = 3 ∨ p = 4 ∨ p = 5 ∨ p = 6 := by omega
    rcases hp with rfl | rfl | rfl | rfl | rfl | rfl
    · rcases hL 1 (by decide) with ⟨_, _, hat⟩ | ⟨e0, y, _, _, hrun, hy, hat, _⟩
      · have := hat (.lit (.bool true))
        exact absurd this (by intro e; cases e)
      · have e1 := hat .nil
        have ev := elem_pair (f0 := 114) (by kernel_rfl) hy e1.symm
        rw [ev] at hrun
        exact hrun
    · rcases hL 2 (by decide) with ⟨_, _, hat⟩ | ⟨e0, y, _, _, hrun, hy, hat, _⟩
      · have := hat (.lit (.bool true))
        exact absurd this (by intro e; cases e)
      · have e1 := hat .nil
        have ev := elem_pair (f0 := 115) (by kernel_rfl) hy e1.symm
        rw [ev] at hrun
        exact hrun
    · rcases hL 3 (by decide) with ⟨_, _, hat⟩ | ⟨e0, y, _, _, hrun, hy, hat, _⟩
      · have := hat (.lit (.bool true))
        exact absurd this (by intro e; cases e)
      · have e1 := hat .nil
        have ev := elem_pair (f0 := 116) (by kernel_rfl) hy e1.symm
        rw [ev] at hrun
        exact hrun
    · rcases hL 4 (by decide) with ⟨_, _, hat⟩ | ⟨e0, y, _, _, hrun, hy, hat, _⟩
      · have := hat (.lit (.bool true))
        exact absurd this (by intro e; cases e)
      · have e1 := hat .nil
        have ev := elem_pair (f0 := 117) (by kernel_rfl) hy e1.symm
        rw [ev] at hrun
        exact hrun
    · rcases hL 5 (by decide) with ⟨_, _, hat⟩ | ⟨e0, y, _, _, hrun, hy, hat, _⟩
      · have := hat (.lit (.bool true))
        exact absurd this (by intro e; cases e)
      · have e1 := hat .nil
        have ev := elem_pair (f0 := 118) (by kernel_rfl) hy e1.symm
        rw [ev] at hrun
        exact hrun
    · rcases hL 6 (by decide) with ⟨_, _, hat⟩ | ⟨e0, y, _, _, hrun, hy, hat, _⟩
      · have := hat (.lit (.bool true))
        exact absurd this (by intro e; cases e)
      · have e1 := hat .nil
        have ev := elem_pair (f0 := 119) (by kernel_rfl) hy e1.symm
        rw [ev] at hrun
        exact hrun
  · intro p hp hn
    rcases hL p hp with ⟨hrun, _, _⟩ | ⟨e0, y, _, _, _, _, hat, _⟩
    · exact hrun
    · exfalso
      have e1 := hat .nil
      have e2 := hat (.lit (.bool true))
      have n1 : ¬ (1 : Int) = p := by omega
      have n2 : ¬ (2 : Int) = p := by omega
      have n3 : ¬ (3 : Int) = p := by omega
      have n4 : ¬ (4 : Int) = p := by omega
      have n5 : ¬ (5 : Int) = p := by omega
      have n6 : ¬ (6 : Int) = p := by omega
      simp [DataW.atKey, Lit.sameKey, n1, n2, n3, n4, n5, n6] at e1 e2
      rw [← e1] at e2
      cases e2
end Go.Proofs.YtiifmdgcnpdibaaDoor
