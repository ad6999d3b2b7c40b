/-
  For all ranks and all two inputs, over whatever memory: the law TopIterated returns true and its arguments read afterwards as they read before. No condition.
-/
import Derived.Test.YtnilfpcipclagaaRows
import Derived.Test.YtnilfpcipclagaaRowOf
import Derived.Test.YtnilfpcipclagaaOpen
import Derived.Test.YtnilfpcipclagaaOpenW
import Derived.Test.YtnilfpcipclagaaRkW
namespace Go.Proofs.Ytnilfpcipclagaa.lawTIterated
open Go.ChangeShapes Go.WideShapes Go.ChangeAt Go.RowKit Go.Deep Go.Joins

theorem own : ownKnob Try.prog.godebug = none := by kernel_rfl
theorem laidOut : laidOutB Try.prog = true := by kernel_rfl
theorem cellsU8 : Try.prog.cellsOf 5 = 1 := by kernel_rfl
theorem readable : ∀ t ∈ [42, 5, 5], Try.prog.readableRec t = true ∧ t < Try.prog.types.size := by
  intro t ht
  simp only [List.mem_cons, List.not_mem_nil, or_false] at ht
  rcases ht with rfl | rfl | rfl
  all_goals exact ⟨by kernel_rfl, of_decide_eq_true (by kernel_rfl)⟩

theorem contract (H : Type) (enc : TypeId × Value → H) (W : World) (base : Nat) (args : Array Value) (ds gs : List (DataW H)) (before : List MemPlace)
    (hval : ∀ (j : Nat) t v, Try.f12.params[j]? = some t → args[j]? = some v → Value.okWide Try.prog W .any base t v)
    (hW : DataW.Whole enc Try.prog Try.f12.params.toList Rows.topIteratedSpec.vars false W args.toList ds gs before) :
    Calls Try.prog 12 args W fun e W' => ∃ v, e = .returned v ∧ Rows.topIteratedSpec.post enc Try.prog Try.f12 false true false false W args v W' := by
  have hW' := hW
  obtain ⟨p, q, hA0, hV, rfl, hfz, hnd⟩ := hW
  have hA : DataW.TrodAll enc Try.prog W 0 (fun _ => true) true Try.f12.params.toList args.toList ds p := hA0
  rw [Try.params12] at hA hval
  obtain ⟨v0, vs0, d0, ds0, p0, q0, hargs, rfl, rfl, r0, s0⟩ := trodAll_cons hA
  obtain ⟨v1, vs1, d1, ds1, p1, q1, rfl, rfl, rfl, r1, s1⟩ := trodAll_cons s0
  obtain ⟨v2, vs2, d2, ds2, p2, q2, rfl, rfl, rfl, r2, s2⟩ := trodAll_cons s1
  obtain ⟨rfl, rfl, rfl⟩ := trodAll_nil s2
  obtain rfl : args = #[v0, v1, v2] := by cases args; simp_all
  obtain ⟨rfl, rfl⟩ := trodVars_none hV
  obtain ⟨A0, n0, c0, f0, hv0, hn0, hR0⟩ := open_u8sV Try.underlying42 Try.underlying5 cellsU8 (hval 0 42 v0 rfl rfl) r0
  subst hv0
  obtain ⟨z1, hv1, _, _, wf1⟩ := open_int Try.underlying5 (hval 1 5 v1 rfl rfl) r1
  obtain ⟨x1, rfl, h1⟩ := u8_of_wf wf1
  subst hv1
  obtain ⟨z2, hv2, _, _, wf2⟩ := open_int Try.underlying5 (hval 2 5 v2 rfl rfl) r2
  obtain ⟨x2, rfl, h2⟩ := u8_of_wf wf2
  subst hv2
  simp only [List.append_nil] at hW' hA
  refine (iterated_core n0 c0 x1 x2 A0 f0 W hR0 hn0 h1 h2).mono fun e W' ⟨he, hg⟩ => ?_
  subst he
  refine ⟨_, rfl, post_true laidOut rfl (by rw [Try.params12]; exact hA) hW' (by rw [Try.params12]; exact readable) (by kernel_rfl) Try.underlying4 rfl rfl rfl hg⟩

set_option maxRecDepth 100000 in
theorem lifted (os : Os) (started : os.Started) (H : Type) (enc : TypeId × Value → H) :
    ReturnsInHanded {} Try.checked os 12 .any (Rows.topIteratedSpec.pre6 enc Try.prog Try.f12 Rows.topIteratedRow.domain false) (Rows.topIteratedSpec.post enc Try.prog Try.f12 false true false false) := by
  refine returnsInHanded_of_change (C := Try.checked) own started (by kernel_rfl) Try.func12
    (ChangeSpec.witness6 (enc := enc) (C := Try.checked) false ⟨#[], #[.slice none 0 0, .int .u8 0, .int .u8 0], []⟩ 8 (by kernel_rfl) (by kernel_rfl) (by kernel_rfl) (by kernel_rfl)) ?_
  intro W base args ds gs before hval hW _ _
  exact contract H enc W base args ds gs before hval hW

theorem proved : Rows.TopIteratedSaid :=
  OpenClaim.holds_of_wide 12 Try.f12 rfl rfl rfl rfl rfl rfl rfl ⟨rfl, rfl, rfl, rfl, rfl⟩ rfl rfl rfl rfl rfl (by kernel_rfl) Try.func12 (by kernel_rfl)
    (of_decide_eq_true (by kernel_rfl)) (by unfold Func.isWrapper; first | (rw [if_pos (by decide +kernel)]; kernel_rfl) | (rw [if_neg (by decide +kernel)]; exact ⟨rfl, rfl⟩))
    (fun os started H enc _ => lifted os started H enc)
#print axioms proved
end Go.Proofs.Ytnilfpcipclagaa.lawTIterated
