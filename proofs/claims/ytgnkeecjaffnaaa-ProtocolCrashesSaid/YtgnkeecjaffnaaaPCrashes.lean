/-
  For all sizes, limits and initial values, over whatever memory: the law ProtocolCrashes returns true and its arguments read afterwards as they read before. No condition.
-/
import Derived.Test.YtgnkeecjaffnaaaRows
import Derived.Test.YtgnkeecjaffnaaaRowOf
import Derived.Test.YtgnkeecjaffnaaaOpen
import Derived.Test.YtgnkeecjaffnaaaOpenV
import Derived.Test.YtgnkeecjaffnaaaOpenX
import Derived.Test.YtgnkeecjaffnaaaPlG
namespace Go.Proofs.Ytgnkeecjaffnaaa.lawPCrashes
open Go.ChangeShapes Go.WideShapes Go.ChangeAt Go.RowKit Go.Deep Go.Joins

theorem own : ownKnob Try.prog.godebug = none := by kernel_rfl
theorem laidOut : laidOutB Try.prog = true := by kernel_rfl
theorem cellsArr2i : Try.prog.cellsOf 25 = 2 := by kernel_rfl
theorem cellsInt : Try.prog.cellsOf 3 = 1 := by kernel_rfl
theorem readable : ∀ t ∈ [3, 25, 38], Try.prog.readableRec t = true ∧ t < Try.prog.types.size := by
  intro t ht
  simp only [List.mem_cons, List.not_mem_nil, or_false] at ht
  rcases ht with rfl | rfl | rfl
  all_goals exact ⟨by kernel_rfl, of_decide_eq_true (by kernel_rfl)⟩

set_option maxRecDepth 100000 in
theorem contract (H : Type) (enc : TypeId × Value → H) (W : World) (base : Nat) (args : Array Value) (ds gs : List (DataW H)) (before : List MemPlace)
    (hval : ∀ (j : Nat) t v, Try.f9.params[j]? = some t → args[j]? = some v → Value.okWide Try.prog W .any base t v)
    (hW : DataW.Whole enc Try.prog Try.f9.params.toList Rows.protocolCrashesSpec.vars false W args.toList ds gs before) :
    Calls Try.prog 9 args W fun e W' => ∃ v, e = .returned v ∧ Rows.protocolCrashesSpec.post enc Try.prog Try.f9 false true false false W args v W' := by
  have hW' := hW
  obtain ⟨p, q, hA0, hV, rfl, hfz, hnd⟩ := hW
  have hA : DataW.TrodAll enc Try.prog W 0 (fun _ => true) true Try.f9.params.toList args.toList ds p := hA0
  rw [Try.params9] at hA hval
  obtain ⟨v0, vs0, d0, ds0, p0, q0, hargs, rfl, rfl, r0, s0⟩ := trodAll_cons hA
  obtain ⟨v1, vs1, d1, ds1, p1, q1, rfl, rfl, rfl, r1, s1⟩ := trodAll_cons s0
  obtain ⟨v2, vs2, d2, ds2, p2, q2, rfl, rfl, rfl, r2, s2⟩ := trodAll_cons s1
  obtain ⟨rfl, rfl, rfl⟩ := trodAll_nil s2
  obtain rfl : args = #[v0, v1, v2] := by cases args; simp_all
  obtain ⟨rfl, rfl⟩ := trodVars_none hV
  obtain ⟨x0, hv0, _, _, wf0⟩ := open_int Try.underlying3 (hval 0 3 v0 rfl rfl) r0
  have h0 := i64_of_wf wf0
  subst hv0
  obtain ⟨x1a, x1b, hv1, h1a, h1b⟩ := open_arr2i Try.underlying25 Try.underlying3 cellsArr2i cellsInt (hval 1 25 v1 rfl rfl) r1
  subst hv1
  obtain ⟨A2, n2, c2, f2, hv2, hn2, hR2⟩ := open_i64sV Try.underlying38 Try.underlying3 cellsInt (hval 2 38 v2 rfl rfl) r2
  subst hv2
  simp only [List.append_nil] at hW' hA
  refine (crashes_core x0 x1a x1b A2 n2 c2 f2 W hR2 hn2).mono fun e W' ⟨he, hg⟩ => ?_
  subst he
  refine ⟨_, rfl, post_true laidOut rfl (by rw [Try.params9]; exact hA) hW' (by rw [Try.params9]; exact readable) (by kernel_rfl) Try.underlying4 rfl rfl rfl hg⟩

set_option maxRecDepth 100000 in
theorem lifted (os : Os) (started : os.Started) (H : Type) (enc : TypeId × Value → H) :
    ReturnsInHanded {} Try.checked os 9 .any (Rows.protocolCrashesSpec.pre6 enc Try.prog Try.f9 Rows.protocolCrashesRow.domain false) (Rows.protocolCrashesSpec.post enc Try.prog Try.f9 false true false false) := by
  refine returnsInHanded_of_change (C := Try.checked) own started (by kernel_rfl) Try.func9
    (ChangeSpec.witness6 (enc := enc) (C := Try.checked) false ⟨#[], #[.int .i64 0, .agg #[.int .i64 0, .int .i64 0], .slice none 0 0], []⟩ 8 (by kernel_rfl) (by kernel_rfl) (by kernel_rfl) (by kernel_rfl)) ?_
  intro W base args ds gs before hval hW _ _
  exact contract H enc W base args ds gs before hval hW

theorem proved : Rows.ProtocolCrashesSaid :=
  OpenClaim.holds_of_wide 9 Try.f9 rfl rfl rfl rfl rfl rfl rfl ⟨rfl, rfl, rfl, rfl, rfl⟩ rfl rfl rfl rfl rfl (by kernel_rfl) Try.func9 (by kernel_rfl)
    (of_decide_eq_true (by kernel_rfl)) (by unfold Func.isWrapper; first | (rw [if_pos (by decide +kernel)]; kernel_rfl) | (rw [if_neg (by decide +kernel)]; exact ⟨rfl, rfl⟩))
    (fun os started H enc _ => lifted os started H enc)
#print axioms proved
end Go.Proofs.Ytgnkeecjaffnaaa.lawPCrashes
