/-
  For every family and every number of facts, over whatever memory: the law UpdateChecks returns true and its arguments read afterwards as they read before. No condition.
-/
import Derived.Test.YtgnmelmmcpmhoaaRows
import Derived.Test.YtgnmelmmcpmhoaaRowOf
import Derived.Test.YtgnmelmmcpmhoaaOpen
import Derived.Test.YtgnmelmmcpmhoaaLawH
namespace Go.Proofs.Ytgnmelmmcpmhoaa.lawChecks
open Go.ChangeShapes Go.WideShapes Go.ChangeAt Go.RowKit Go.Deep Go.Joins

theorem own : ownKnob Try.prog.godebug = none := by kernel_rfl
theorem laidOut : laidOutB Try.prog = true := by kernel_rfl
theorem cellsFam : Try.prog.cellsOf 24 = 2 := by kernel_rfl
theorem cellsU64s : Try.prog.cellsOf 53 = 1 := by kernel_rfl
theorem cellsU64 : Try.prog.cellsOf 32 = 1 := by kernel_rfl
theorem readable : ∀ t ∈ [24, 3], Try.prog.readableRec t = true ∧ t < Try.prog.types.size := by
  intro t ht
  simp only [List.mem_cons, List.not_mem_nil, or_false] at ht
  rcases ht with rfl | rfl
  all_goals exact ⟨by kernel_rfl, of_decide_eq_true (by kernel_rfl)⟩

theorem contract (H : Type) (enc : TypeId × Value → H) (W : World) (base : Nat) (args : Array Value) (ds gs : List (DataW H)) (before : List MemPlace)
    (hval : ∀ (j : Nat) t v, Try.f3.params[j]? = some t → args[j]? = some v → Value.okWide Try.prog W .any base t v)
    (hW : DataW.Whole enc Try.prog Try.f3.params.toList Rows.updateChecksSpec.vars false W args.toList ds gs before) :
    Calls Try.prog 3 args W fun e W' => ∃ v, e = .returned v ∧ Rows.updateChecksSpec.post enc Try.prog Try.f3 false true false false W args v W' := by
  have hW' := hW
  obtain ⟨p, q, hA0, hV, rfl, hfz, hnd⟩ := hW
  have hA : DataW.TrodAll enc Try.prog W 0 (fun _ => true) true Try.f3.params.toList args.toList ds p := hA0
  rw [Try.params3] at hA hval
  obtain ⟨v0, vs0, d0, ds0, p0, q0, hargs, rfl, rfl, r0, s0⟩ := trodAll_cons hA
  obtain ⟨v1, vs1, d1, ds1, p1, q1, rfl, rfl, rfl, r1, s1⟩ := trodAll_cons s0
  obtain ⟨rfl, rfl, rfl⟩ := trodAll_nil s1
  obtain rfl : args = #[v0, v1] := by cases args; simp_all
  obtain ⟨rfl, rfl⟩ := trodVars_none hV
  obtain ⟨fx, fy, fz0, fz1, ffuel, hv0, hd0, hp0, hfx, hfy⟩ := open_agg2 Try.underlying24 (by kernel_rfl) cellsFam (hval 0 24 v0 rfl rfl) r0
  obtain ⟨k, hk, _, _⟩ := DataW.trod_int Try.underlying3 hfx
  obtain ⟨A, n, c, R, m, cc, F, hm, hn, hM⟩ := open_mat Try.underlying22 Try.underlying53 Try.underlying32 cellsU64s cellsU64 hfy
  injection hk with hk _
  injection hm with hm _
  subst hk hm hv0
  obtain ⟨x1, hv1, _, _, wf1⟩ := open_int Try.underlying3 (hval 1 3 v1 rfl rfl) r1
  have h1 := i64_of_wf wf1
  subst hv1
  simp only [List.append_nil] at hW' hA
  refine (checks_core k x1 A n c R m cc F W hM).mono fun e W' ⟨he, hg⟩ => ?_
  subst he
  refine ⟨_, rfl, post_true laidOut rfl (by rw [Try.params3]; exact hA) hW' (by rw [Try.params3]; exact readable) (by kernel_rfl) Try.underlying4 rfl rfl rfl hg⟩

set_option maxRecDepth 100000 in
theorem lifted (os : Os) (started : os.Started) (H : Type) (enc : TypeId × Value → H) :
    ReturnsInHanded {} Try.checked os 3 .any (Rows.updateChecksSpec.pre6 enc Try.prog Try.f3 Rows.updateChecksRow.domain false) (Rows.updateChecksSpec.post enc Try.prog Try.f3 false true false false) := by
  refine returnsInHanded_of_change (C := Try.checked) own started (by kernel_rfl) Try.func3
    (ChangeSpec.witness6 (enc := enc) (C := Try.checked) false ⟨#[], #[.agg #[.int .i64 0, .slice none 0 0], .int .i64 0], []⟩ 8 (by kernel_rfl) (by kernel_rfl) (by kernel_rfl) (by kernel_rfl)) ?_
  intro W base args ds gs before hval hW _ _
  exact contract H enc W base args ds gs before hval hW

theorem proved : Rows.UpdateChecksSaid :=
  OpenClaim.holds_of_wide 3 Try.f3 rfl rfl rfl rfl rfl rfl rfl ⟨rfl, rfl, rfl, rfl, rfl⟩ rfl rfl rfl rfl rfl (by kernel_rfl) Try.func3 (by kernel_rfl)
    (of_decide_eq_true (by kernel_rfl)) (by unfold Func.isWrapper; first | (rw [if_pos (by decide +kernel)]; kernel_rfl) | (rw [if_neg (by decide +kernel)]; exact ⟨rfl, rfl⟩))
    (fun os started H enc _ => lifted os started H enc)
#print axioms proved
end Go.Proofs.Ytgnmelmmcpmhoaa.lawChecks
