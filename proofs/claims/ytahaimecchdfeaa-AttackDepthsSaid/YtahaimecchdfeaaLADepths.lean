/-
  For every system, point and pair of numbers, over whatever memory: the law AttackDepths returns true and its arguments read afterwards as they read before. No condition.
-/
import Derived.Test.YtahaimecchdfeaaRows
import Derived.Test.YtahaimecchdfeaaG01
import Derived.Test.YtahaimecchdfeaaG31
import Derived.Test.YtahaimecchdfeaaG39
import Derived.Test.YtahaimecchdfeaaG43
namespace Go.Proofs.Ytahaimecchdfeaa.lawADepths
open Go.ChangeShapes Go.WideShapes Go.ChangeAt Go.RowKit Go.Deep Go.Joins

theorem own : ownKnob Try.prog.godebug = none := by kernel_rfl
theorem laidOut : laidOutB Try.prog = true := by kernel_rfl
theorem cellsSys : Try.prog.cellsOf 24 = 4 := by kernel_rfl
theorem cellsRun : Try.prog.cellsOf 69 = 2 := by kernel_rfl
theorem cellsIntss : Try.prog.cellsOf 66 = 1 := by kernel_rfl
theorem cellsInts : Try.prog.cellsOf 75 = 1 := by kernel_rfl
theorem cellsU64s : Try.prog.cellsOf 67 = 1 := by kernel_rfl
theorem cellsU64 : Try.prog.cellsOf 121 = 1 := by kernel_rfl
theorem cellsPoint : Try.prog.cellsOf 26 = 2 := by kernel_rfl
theorem cellsArr2i : Try.prog.cellsOf 38 = 2 := by kernel_rfl
theorem cellsInt : Try.prog.cellsOf 3 = 1 := by kernel_rfl
theorem readable : ∀ t ∈ [24, 26, 38], Try.prog.readableRec t = true ∧ t < Try.prog.types.size := by
  intro t ht
  simp only [List.mem_cons, List.not_mem_nil, or_false] at ht
  rcases ht with rfl | rfl | rfl
  all_goals exact ⟨by kernel_rfl, of_decide_eq_true (by kernel_rfl)⟩

set_option maxRecDepth 100000 in
theorem contract (H : Type) (enc : TypeId × Value → H) (W : World) (base : Nat) (args : Array Value) (ds gs : List (DataW H)) (before : List MemPlace)
    (hval : ∀ (j : Nat) t v, Try.f4.params[j]? = some t → args[j]? = some v → Value.okWide Try.prog W .any base t v)
    (hW : DataW.Whole enc Try.prog Try.f4.params.toList Rows.attackDepthsSpec.vars false W args.toList ds gs before) :
    Calls Try.prog 4 args W fun e W' => ∃ v, e = .returned v ∧ Rows.attackDepthsSpec.post enc Try.prog Try.f4 false true false false W args v W' := by
  have hW' := hW
  obtain ⟨p, q, hA0, hV, rfl, hfz, hnd⟩ := hW
  have hA : DataW.TrodAll enc Try.prog W 0 (fun _ => true) true Try.f4.params.toList args.toList ds p := hA0
  rw [Try.params4] at hA hval
  obtain ⟨v0, vs0, d0, ds0, p0, q0, hargs, rfl, rfl, r0, s0⟩ := trodAll_cons hA
  obtain ⟨v1, vs1, d1, ds1, p1, q1, rfl, rfl, rfl, r1, s1⟩ := trodAll_cons s0
  obtain ⟨v2, vs2, d2, ds2, p2, q2, rfl, rfl, rfl, r2, s2⟩ := trodAll_cons s1
  obtain ⟨rfl, rfl, rfl⟩ := trodAll_nil s2
  obtain rfl : args = #[v0, v1, v2] := by cases args; simp_all
  obtain ⟨rfl, rfl⟩ := trodVars_none hV
  obtain ⟨s0, s1, s2, s3, sy0, sy1, sy2, sy3, sfuel, hv0, hsd, hsp, hs0, hs1, hs2, hs3⟩ := open_agg4 Try.underlying24 (by kernel_rfl) cellsSys (hval 0 24 v0 rfl rfl) r0
  obtain ⟨sa, ha, _, wfa⟩ := DataW.trod_int Try.underlying3 hs0
  obtain ⟨sf, hf, _, wff⟩ := DataW.trod_int Try.underlying3 hs1
  obtain ⟨sl, hl, _, wfl⟩ := DataW.trod_int Try.underlying3 hs2
  obtain ⟨A, n, c, sT, sm, sL, sK, sF, hm, hn, hR⟩ := open_runs Try.underlying22 Try.underlying69 cellsRun rfl rfl cellsIntss cellsU64s rfl rfl Try.underlying66 Try.underlying75 Try.underlying3 cellsInts cellsInt Try.underlying67 Try.underlying121 cellsU64 hs3
  injection ha with ha _
  injection hf with hf _
  injection hl with hl _
  injection hm with hm _
  subst ha hf hl hm hv0
  obtain ⟨gx1, gy1, gz1, gw1, gfuel1, hv1, hgd1, hgp1, hgx1, hgy1⟩ := open_agg2 Try.underlying26 (by kernel_rfl) cellsPoint (hval 1 26 v1 rfl rfl) r1
  obtain ⟨x1, hx1, _, wfx1⟩ := DataW.trod_int Try.underlying3 hgx1
  obtain ⟨y1, hy1, _, wfy1⟩ := DataW.trod_int Try.underlying3 hgy1
  have hbx1 := i64_of_wf wfx1
  have hby1 := i64_of_wf wfy1
  injection hx1 with hx1 _
  injection hy1 with hy1 _
  subst hx1 hy1 hv1
  obtain ⟨x2a, x2b, hv2, h2a, h2b⟩ := open_arr2i Try.underlying38 Try.underlying3 cellsArr2i cellsInt (hval 2 38 v2 rfl rfl) r2
  subst hv2
  simp only [List.append_nil] at hW' hA
  refine (depths_core sa sf sl A n c sT sm sL sK sF x1 y1 x2a x2b W hR hn).mono fun e W' ⟨he, hg⟩ => ?_
  subst he
  refine ⟨_, rfl, post_true laidOut rfl (by rw [Try.params4]; exact hA) hW' (by rw [Try.params4]; exact readable) (by kernel_rfl) Try.underlying4 rfl rfl rfl hg⟩

set_option maxRecDepth 100000 in
theorem lifted (os : Os) (started : os.Started) (H : Type) (enc : TypeId × Value → H) :
    ReturnsInHanded {} Try.checked os 4 .any (Rows.attackDepthsSpec.pre6 enc Try.prog Try.f4 Rows.attackDepthsRow.domain false) (Rows.attackDepthsSpec.post enc Try.prog Try.f4 false true false false) := by
  refine returnsInHanded_of_change (C := Try.checked) own started (by kernel_rfl) Try.func4
    (ChangeSpec.witness6 (enc := enc) (C := Try.checked) false ⟨#[], #[.agg #[.int .i64 0, .int .i64 0, .int .i64 0, .slice none 0 0], .agg #[.int .i64 0, .int .i64 0], .agg #[.int .i64 0, .int .i64 0]], []⟩ 8 (by kernel_rfl) (by kernel_rfl) (by kernel_rfl) (by kernel_rfl)) ?_
  intro W base args ds gs before hval hW _ _
  exact contract H enc W base args ds gs before hval hW

theorem proved : Rows.AttackDepthsSaid :=
  OpenClaim.holds_of_wide 4 Try.f4 rfl rfl rfl rfl rfl rfl rfl ⟨rfl, rfl, rfl, rfl, rfl⟩ rfl rfl rfl rfl rfl (by kernel_rfl) Try.func4 (by kernel_rfl)
    (of_decide_eq_true (by kernel_rfl)) (by unfold Func.isWrapper; first | (rw [if_pos (by decide +kernel)]; kernel_rfl) | (rw [if_neg (by decide +kernel)]; exact ⟨rfl, rfl⟩))
    (fun os started H enc _ => lifted os started H enc)
#print axioms proved
end Go.Proofs.Ytahaimecchdfeaa.lawADepths
