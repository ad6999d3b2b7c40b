/-
  For every number and every family of tables, over whatever memory in which the two tables of postulates read as the program's text lays them (tied): the law PostulatesUpdate returns true and its arguments read afterwards as they read before.
-/
import Derived.Test.YtflhngmfcpeamaaDoorRows
import Derived.Test.YtflhngmfcpeamaaDoorCards
import Derived.Test.YtflhngmfcpeamaaDoorTie
import Derived.Test.YtflhngmfcpeamaaDoorRowOf
import Derived.Test.YtflhngmfcpeamaaDoorOpen
import Derived.Test.YtflhngmfcpeamaaDoorOpenV
import Derived.Test.YtflhngmfcpeamaaDoorPoLay
import Derived.Test.YtflhngmfcpeamaaDoorPoUpd
import Derived.LaidMore
import Derived.Stop.Joined
import Derived.SevenTiedAt
namespace Go.Proofs.YtflhngmfcpeamaaDoor.lawPUpdate
open Go.ChangeShapes Go.WideShapes Go.ChangeAt Go.RowKit Go.Deep Go.Joins

theorem own : ownKnob Tryd.prog.godebug = none := by kernel_rfl
theorem laidOut : laidOutB Tryd.prog = true := by kernel_rfl
theorem cellsU64s : Tryd.prog.cellsOf 23 = 1 := by kernel_rfl
theorem cellsU64 : Tryd.prog.cellsOf 22 = 1 := by kernel_rfl
theorem readable : ∀ t ∈ [3, 34], Tryd.prog.readableRec t = true ∧ t < Tryd.prog.types.size := by
  intro t ht
  simp only [List.mem_cons, List.not_mem_nil, or_false] at ht
  rcases ht with rfl | rfl
  all_goals exact ⟨by kernel_rfl, of_decide_eq_true (by kernel_rfl)⟩

theorem contract (H : Type) (enc : TypeId × Value → H) (W : World) (base : Nat) (args : Array Value) (ds gs : List (DataW H)) (before : List MemPlace)
    (hval : ∀ (j : Nat) t v, Tryd.f5.params[j]? = some t → args[j]? = some v → Value.okWide Tryd.prog W .any base t v)
    (hL : laidMetH Tryd.prog laidAll W)
    (hW : DataW.Whole enc Tryd.prog Tryd.f5.params.toList Rows.postulatesUpdateSpec.vars false W args.toList ds gs before) :
    Calls Tryd.prog 5 args W fun e W' => ∃ v, e = .returned v ∧ Rows.postulatesUpdateSpec.post enc Tryd.prog Tryd.f5 false true false false W args v W' := by
  have hW' := hW
  obtain ⟨p, q, hA0, hV, rfl, hfz, hnd⟩ := hW
  have hA : DataW.TrodAll enc Tryd.prog W 0 (fun _ => true) true Tryd.f5.params.toList args.toList ds p := hA0
  rw [Tryd.params5] at hA hval
  obtain ⟨v0, vs0, d0, ds0, p0, q0, hargs, rfl, rfl, r0, s0⟩ := trodAll_cons hA
  obtain ⟨v1, vs1, d1, ds1, p1, q1, rfl, rfl, rfl, r1, s1⟩ := trodAll_cons s0
  obtain ⟨rfl, rfl, rfl⟩ := trodAll_nil s1
  obtain rfl : args = #[v0, v1] := by cases args; simp_all
  obtain ⟨rfl, rfl⟩ := trodVars_none hV
  obtain ⟨x0, hv0, _, _, wf0⟩ := open_int Tryd.underlying3 (hval 0 3 v0 rfl rfl) r0
  have h0 := i64_of_wf wf0
  subst hv0
  obtain ⟨A1, n1, c1, R1, m1, cc1, F1, hv1, hn1, hM1⟩ := open_matV Tryd.underlying34 Tryd.underlying23 Tryd.underlying22 cellsU64s cellsU64 (hval 1 34 v1 rfl rfl) r1
  subst hv1
  simp only [List.append_nil] at hW' hA
  refine (update_core x0 n1 c1 A1 R1 m1 cc1 F1 W (laid_revision hL) (laid_update hL) hM1 hn1).mono fun e W' ⟨he, hg⟩ => ?_
  subst he
  refine ⟨_, rfl, post_true laidOut rfl (by rw [Tryd.params5]; exact hA) hW' (by rw [Tryd.params5]; exact readable) (by kernel_rfl) Tryd.underlying4 rfl rfl rfl hg⟩

/-- The door's own heap meets the condition. -/
theorem door_met (os : Os) (args : Array Value) : laidMetH Tryd.prog laidAll ((World.doorLaid Tryd.prog 25 os).forCall (fun _ _ => 0) ⟨#[], args, []⟩).memory :=
  laidMetH_of_parts3 (fuel := 8) (laidMet_of_run' 8 (by kernel_rfl) (by kernel_rfl)) (by kernel_rfl) (by kernel_rfl)
set_option maxRecDepth 100000 in
theorem lifted (os : Os) (started : os.Started) (H : Type) (enc : TypeId × Value → H) :
    ReturnsInHanded {} Tryd.checked os 5 .any (fun w args => (Rows.postulatesUpdateSpec.pre enc Tryd.prog Tryd.f5 [] false w args ∧ laidMetH Tryd.prog laidAll w) ∧ sizedMet enc Tryd.prog Tryd.f5 (OpenSpec.ofChange Rows.postulatesUpdateSpec) false w args)
      (Rows.postulatesUpdateSpec.post enc Tryd.prog Tryd.f5 false true false false) := by
  refine returnsInHanded_of_change_and (C := Tryd.checked) (X := fun w _ => laidMetH Tryd.prog laidAll w) (fun _ _ _ hh h => h.of_heap hh) own started (by kernel_rfl) Tryd.func5
    (ChangeSpec.witness_shaped (enc := enc) (C := Tryd.checked) (os := os) (X := fun w _ => laidMetH Tryd.prog laidAll w) false (World.doorLaid Tryd.prog 25 os) #[.int .i64 0, .slice none 0 0] 8 rfl (World.shaped_of_RefB (by kernel_rfl) (by kernel_rfl)) (by kernel_rfl) (by kernel_rfl) (by kernel_rfl) (door_met os _)) ?_
  intro W base args ds gs before hval hW _ _ hL _
  exact contract H enc W base args ds gs before hval hL hW

theorem row_holds : Rows.PostulatesUpdateSaid :=
  OpenClaim.holds_of_wide 5 Tryd.f5 rfl rfl rfl rfl rfl rfl rfl ⟨rfl, rfl, rfl, rfl, rfl⟩ rfl rfl rfl rfl rfl (by kernel_rfl) Tryd.func5 (by kernel_rfl)
    (of_decide_eq_true (by kernel_rfl)) (by unfold Func.isWrapper; first | (rw [if_pos (by decide +kernel)]; kernel_rfl) | (rw [if_neg (by decide +kernel)]; exact ⟨rfl, rfl⟩))
    (fun os started H enc _ => lifted os started H enc)
theorem proved : Rows.PostulatesUpdateCardSaid :=
  Claim7.holds_tied_plain_at .later [] [.funcs, .funcs] true (true, "a41bb4055ace0b3dcb5d30719a40186cf6bc3ad5ddce9184c196f4728a194713") false
    row_holds (fun _ h => by cases h) (by kernel_rfl) (fun _ h => by cases h) postulatesUpdate_row_tie rfl ⟨rfl, rfl⟩ (by kernel_rfl) rfl
    (fun f fn hf hfn => by
      obtain rfl : f = 5 := Option.some.inj ((show Tryd.prog.funcNamed "witting/wittinglaw43.PostulatesUpdate" = some 5 by kernel_rfl).symm.trans hf) |>.symm
      obtain rfl : fn = Tryd.f5 := (Option.some.inj (Tryd.func5.symm.trans hfn)).symm
      exact ⟨by kernel_rfl, fun j t ht => by
        rw [Tryd.params5] at ht
        have hm : t ∈ [3, 34] := by simpa using Array.mem_of_getElem? ht
        have hall : ([3, 34].all fun u => !Tryd.prog.wantsStandIn u) = true := by kernel_rfl
        exact (show Tryd.prog.wantsStandIn t = false by simpa using List.all_eq_true.1 hall t hm)⟩)
    (by kernel_rfl)
#print axioms proved
end Go.Proofs.YtflhngmfcpeamaaDoor.lawPUpdate
