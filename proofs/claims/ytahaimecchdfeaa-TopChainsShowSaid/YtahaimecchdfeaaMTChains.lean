/-
  For every protocol and every list of points, over whatever memory: the law TopChainsShow returns true and its arguments read afterwards as they read before. No condition.
-/
import Derived.Test.YtahaimecchdfeaaRows
import Derived.Test.YtahaimecchdfeaaH04
import Derived.Test.YtahaimecchdfeaaH05
import Derived.Test.YtahaimecchdfeaaH10
import Derived.Test.YtahaimecchdfeaaH39
namespace Go.Proofs.Ytahaimecchdfeaa.lawTChains
open Go.ChangeShapes Go.WideShapes Go.ChangeAt Go.RowKit Go.Deep Go.Joins

theorem own : ownKnob Try.prog.godebug = none := by kernel_rfl
theorem laidOut : laidOutB Try.prog = true := by kernel_rfl
theorem cellsExch : Try.prog.cellsOf 43 = 2 := by kernel_rfl
theorem cellsRule : Try.prog.cellsOf 71 = 3 := by kernel_rfl
theorem cellsPoint : Try.prog.cellsOf 26 = 2 := by kernel_rfl
theorem cellsInt : Try.prog.cellsOf 3 = 1 := by kernel_rfl
theorem readable : ∀ t ∈ [43, 29], Try.prog.readableRec t = true ∧ t < Try.prog.types.size := by
  intro t ht
  simp only [List.mem_cons, List.not_mem_nil, or_false] at ht
  rcases ht with rfl | rfl
  all_goals exact ⟨by kernel_rfl, of_decide_eq_true (by kernel_rfl)⟩

set_option maxRecDepth 100000 in
theorem contract (H : Type) (enc : TypeId × Value → H) (W : World) (base : Nat) (args : Array Value) (ds gs : List (DataW H)) (before : List MemPlace)
    (hval : ∀ (j : Nat) t v, Try.f11.params[j]? = some t → args[j]? = some v → Value.okWide Try.prog W .any base t v)
    (hW : DataW.Whole enc Try.prog Try.f11.params.toList Rows.topChainsShowSpec.vars false W args.toList ds gs before) :
    Calls Try.prog 11 args W fun e W' => ∃ v, e = .returned v ∧ Rows.topChainsShowSpec.post enc Try.prog Try.f11 false true false false W args v W' := by
  have hW' := hW
  obtain ⟨p, q, hA0, hV, rfl, hfz, hnd⟩ := hW
  have hA : DataW.TrodAll enc Try.prog W 0 (fun _ => true) true Try.f11.params.toList args.toList ds p := hA0
  rw [Try.params11] at hA hval
  obtain ⟨v0, vs0, d0, ds0, p0, q0, hargs, rfl, rfl, r0, s0⟩ := trodAll_cons hA
  obtain ⟨v1, vs1, d1, ds1, p1, q1, rfl, rfl, rfl, r1, s1⟩ := trodAll_cons s0
  obtain ⟨rfl, rfl, rfl⟩ := trodAll_nil s1
  obtain rfl : args = #[v0, v1] := by cases args; simp_all
  obtain ⟨rfl, rfl⟩ := trodVars_none hV
  obtain ⟨fx, fy, fz0, fz1, ffuel, hv0, hd0, hp0, hfx, hfy⟩ := open_agg2 Try.underlying43 (by kernel_rfl) cellsExch (hval 0 43 v0 rfl rfl) r0
  obtain ⟨R, hk, _, wfR⟩ := DataW.trod_int Try.underlying3 hfx
  have hR := i64_of_wf wfR
  obtain ⟨A, n, c, fa, fh, fm, hm, hn, hX⟩ := open_rules Try.underlying41 Try.underlying71 cellsRule rfl rfl rfl cellsInt cellsInt cellsInt Try.underlying3 Try.underlying3 Try.underlying3 hfy
  injection hk with hk _
  injection hm with hm _
  subst hk hm hv0
  obtain ⟨A1, n1, c1, rd, tv, hv1, hn1, hX1⟩ := open_crsV Try.underlying29 Try.underlying26 cellsPoint rfl rfl cellsInt cellsInt Try.underlying3 Try.underlying3 (hval 1 29 v1 rfl rfl) r1
  subst hv1
  simp only [List.append_nil] at hW' hA
  refine (show_core R A n c fa fh fm A1 n1 c1 rd tv W hX hn hX1 hn1).mono fun e W' ⟨he, hg⟩ => ?_
  subst he
  refine ⟨_, rfl, post_true laidOut rfl (by rw [Try.params11]; exact hA) hW' (by rw [Try.params11]; exact readable) (by kernel_rfl) Try.underlying4 rfl rfl rfl hg⟩

set_option maxRecDepth 100000 in
theorem lifted (os : Os) (started : os.Started) (H : Type) (enc : TypeId × Value → H) :
    ReturnsInHanded {} Try.checked os 11 .any (Rows.topChainsShowSpec.pre6 enc Try.prog Try.f11 Rows.topChainsShowRow.domain false) (Rows.topChainsShowSpec.post enc Try.prog Try.f11 false true false false) := by
  refine returnsInHanded_of_change (C := Try.checked) own started (by kernel_rfl) Try.func11
    (ChangeSpec.witness6 (enc := enc) (C := Try.checked) false ⟨#[], #[.agg #[.int .i64 0, .slice none 0 0], .slice none 0 0], []⟩ 8 (by kernel_rfl) (by kernel_rfl) (by kernel_rfl) (by kernel_rfl)) ?_
  intro W base args ds gs before hval hW _ _
  exact contract H enc W base args ds gs before hval hW

theorem proved : Rows.TopChainsShowSaid :=
  OpenClaim.holds_of_wide 11 Try.f11 rfl rfl rfl rfl rfl rfl rfl ⟨rfl, rfl, rfl, rfl, rfl⟩ rfl rfl rfl rfl rfl (by kernel_rfl) Try.func11 (by kernel_rfl)
    (of_decide_eq_true (by kernel_rfl)) (by unfold Func.isWrapper; first | (rw [if_pos (by decide +kernel)]; kernel_rfl) | (rw [if_neg (by decide +kernel)]; exact ⟨rfl, rfl⟩))
    (fun os started H enc _ => lifted os started H enc)
#print axioms proved
end Go.Proofs.Ytahaimecchdfeaa.lawTChains
