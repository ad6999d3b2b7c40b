/-
  No cell of these rows narrows 'for every input' (looked for: loops, veiled, ifaces, maps, wideKeys, modest, calm, conditions, laid).
  DERIVED. THE GIVEN ROWS OF THIS SEAT. 11 by the template 'for every input the law returns true; each argument reads behind the call as it read before'; 0 by the template 'total and deterministic' (their statements: YtgnmelmmcpmhoaaTotals.lean).
  GIVEN WITH THE SEED: the statements are not yours to turn. If you find one false, say at which input.
  Laid BY PROGRAM, IN A SANDBOX (cutbox-rows.mjs): the forced cells as the released guide's own fill.sh prints them over the translation b327fd1a6b8ea46f… (all of the seat's roots in one cut). By AI agents, Wed Nov 11 2026. No macro, syntax, notation, axiom, sorry.
-/
import Derived.Test.YtgnmelmmcpmhoaaChecked
import GoSem.Claim
import GoSem.ClaimJoined
import GoSem.ClaimMapViews
import Derived.JoinedTies
import Derived.KernelRfl
namespace Go.Proofs.Ytgnmelmmcpmhoaa
/- THE CELL 'sum', in the pinned program and in every row, IS THE sha256 OF THE DUMP (.gsa) THAT YtgnmelmmcpmhoaaProg.lean LOADS. Nothing in Lean hashes anything: it is a label: what it is worth is what the hold of that sum in a sandbox is worth. -/
noncomputable def Try.pinned : Pinned := { name := "ytgnmelmmcpmhoaa", sum := "b327fd1a6b8ea46ff0bb0b53bc759b99df507db5646a704dde2b67a2c711fea0", checked := Try.checked }
namespace Rows
def none {H : Type} : Left H := { results := [], args := [] }

/-- 'wittinglaw41.UpdateChecks': WHATEVER THE INPUT: true; the input reads as it did. -/
def updateChecksSpec : ChangeSpec := { name := "updateChecks", fn := fun _ => fun
  | [d1, d2] => { results := [.lit (.bool true)], args := [d1, d2] }
  | _ => none }
def updateChecksRow : OpenClaim := { program := "ytgnmelmmcpmhoaa", sum := "b327fd1a6b8ea46ff0bb0b53bc759b99df507db5646a704dde2b67a2c711fea0", func := "witting/wittinglaw41.UpdateChecks", spec := "updateChecks", unfollowed := true, recurses := true, apart := false }
def UpdateChecksSaid : Prop := updateChecksRow.holds Try.pinned (OpenSpec.ofChange updateChecksSpec)

/-- ITS FALSE NEIGHBOUR: 'it returns false'. Refute it at one input. -/
def updateChecksWrong : ChangeSpec := { name := "updateChecks", fn := fun _ => fun
  | [d1, d2] => { results := [.lit (.bool false)], args := [d1, d2] }
  | _ => none }
def UpdateChecksWrongFalsely : Prop := updateChecksRow.holds Try.pinned (OpenSpec.ofChange updateChecksWrong)

/-- 'wittinglaw41.UpdateResults': WHATEVER THE INPUT: true; the input reads as it did. -/
def updateResultsSpec : ChangeSpec := { name := "updateResults", fn := fun _ => fun
  | [d1, d2, d3] => { results := [.lit (.bool true)], args := [d1, d2, d3] }
  | _ => none }
def updateResultsRow : OpenClaim := { program := "ytgnmelmmcpmhoaa", sum := "b327fd1a6b8ea46ff0bb0b53bc759b99df507db5646a704dde2b67a2c711fea0", func := "witting/wittinglaw41.UpdateResults", spec := "updateResults", unfollowed := true, recurses := true, apart := false }
def UpdateResultsSaid : Prop := updateResultsRow.holds Try.pinned (OpenSpec.ofChange updateResultsSpec)

/-- ITS FALSE NEIGHBOUR: 'it returns false'. Refute it at one input. -/
def updateResultsWrong : ChangeSpec := { name := "updateResults", fn := fun _ => fun
  | [d1, d2, d3] => { results := [.lit (.bool false)], args := [d1, d2, d3] }
  | _ => none }
def UpdateResultsWrongFalsely : Prop := updateResultsRow.holds Try.pinned (OpenSpec.ofChange updateResultsWrong)

/-- 'wittinglaw41.UpdatePostulates': WHATEVER THE INPUT: true; the input reads as it did. -/
def updatePostulatesSpec : ChangeSpec := { name := "updatePostulates", fn := fun _ => fun
  | [d1, d2, d3] => { results := [.lit (.bool true)], args := [d1, d2, d3] }
  | _ => none }
def updatePostulatesRow : OpenClaim := { program := "ytgnmelmmcpmhoaa", sum := "b327fd1a6b8ea46ff0bb0b53bc759b99df507db5646a704dde2b67a2c711fea0", func := "witting/wittinglaw41.UpdatePostulates", spec := "updatePostulates", unfollowed := true, recurses := true, apart := false }
def UpdatePostulatesSaid : Prop := updatePostulatesRow.holds Try.pinned (OpenSpec.ofChange updatePostulatesSpec)

/-- ITS FALSE NEIGHBOUR: 'it returns false'. Refute it at one input. -/
def updatePostulatesWrong : ChangeSpec := { name := "updatePostulates", fn := fun _ => fun
  | [d1, d2, d3] => { results := [.lit (.bool false)], args := [d1, d2, d3] }
  | _ => none }
def UpdatePostulatesWrongFalsely : Prop := updatePostulatesRow.holds Try.pinned (OpenSpec.ofChange updatePostulatesWrong)

/-- 'wittinglaw41.UpdatePoints': WHATEVER THE INPUT: true; the input reads as it did. -/
def updatePointsSpec : ChangeSpec := { name := "updatePoints", fn := fun _ => fun
  | [d1, d2, d3] => { results := [.lit (.bool true)], args := [d1, d2, d3] }
  | _ => none }
def updatePointsRow : OpenClaim := { program := "ytgnmelmmcpmhoaa", sum := "b327fd1a6b8ea46ff0bb0b53bc759b99df507db5646a704dde2b67a2c711fea0", func := "witting/wittinglaw41.UpdatePoints", spec := "updatePoints", unfollowed := true, recurses := true, apart := false }
def UpdatePointsSaid : Prop := updatePointsRow.holds Try.pinned (OpenSpec.ofChange updatePointsSpec)

/-- ITS FALSE NEIGHBOUR: 'it returns false'. Refute it at one input. -/
def updatePointsWrong : ChangeSpec := { name := "updatePoints", fn := fun _ => fun
  | [d1, d2, d3] => { results := [.lit (.bool false)], args := [d1, d2, d3] }
  | _ => none }
def UpdatePointsWrongFalsely : Prop := updatePointsRow.holds Try.pinned (OpenSpec.ofChange updatePointsWrong)

/-- 'wittinglaw41.UpdateUnions': WHATEVER THE INPUT: true; the input reads as it did. -/
def updateUnionsSpec : ChangeSpec := { name := "updateUnions", fn := fun _ => fun
  | [d1, d2, d3] => { results := [.lit (.bool true)], args := [d1, d2, d3] }
  | _ => none }
def updateUnionsRow : OpenClaim := { program := "ytgnmelmmcpmhoaa", sum := "b327fd1a6b8ea46ff0bb0b53bc759b99df507db5646a704dde2b67a2c711fea0", func := "witting/wittinglaw41.UpdateUnions", spec := "updateUnions", unfollowed := true, recurses := true, apart := false }
def UpdateUnionsSaid : Prop := updateUnionsRow.holds Try.pinned (OpenSpec.ofChange updateUnionsSpec)

/-- ITS FALSE NEIGHBOUR: 'it returns false'. Refute it at one input. -/
def updateUnionsWrong : ChangeSpec := { name := "updateUnions", fn := fun _ => fun
  | [d1, d2, d3] => { results := [.lit (.bool false)], args := [d1, d2, d3] }
  | _ => none }
def UpdateUnionsWrongFalsely : Prop := updateUnionsRow.holds Try.pinned (OpenSpec.ofChange updateUnionsWrong)

/-- 'wittinglaw41.UpdateErases': WHATEVER THE INPUT: true; the input reads as it did. -/
def updateErasesSpec : ChangeSpec := { name := "updateErases", fn := fun _ => fun
  | [d1, d2, d3] => { results := [.lit (.bool true)], args := [d1, d2, d3] }
  | _ => none }
def updateErasesRow : OpenClaim := { program := "ytgnmelmmcpmhoaa", sum := "b327fd1a6b8ea46ff0bb0b53bc759b99df507db5646a704dde2b67a2c711fea0", func := "witting/wittinglaw41.UpdateErases", spec := "updateErases", unfollowed := true, recurses := true, apart := false }
def UpdateErasesSaid : Prop := updateErasesRow.holds Try.pinned (OpenSpec.ofChange updateErasesSpec)

/-- ITS FALSE NEIGHBOUR: 'it returns false'. Refute it at one input. -/
def updateErasesWrong : ChangeSpec := { name := "updateErases", fn := fun _ => fun
  | [d1, d2, d3] => { results := [.lit (.bool false)], args := [d1, d2, d3] }
  | _ => none }
def UpdateErasesWrongFalsely : Prop := updateErasesRow.holds Try.pinned (OpenSpec.ofChange updateErasesWrong)

/-- 'wittinglaw41.UpdateWitness': WHATEVER THE INPUT: true; the input reads as it did. -/
def updateWitnessSpec : ChangeSpec := { name := "updateWitness", fn := fun _ => fun
  | [d] => { results := [.lit (.bool true)], args := [d] }
  | _ => none }
def updateWitnessRow : OpenClaim := { program := "ytgnmelmmcpmhoaa", sum := "b327fd1a6b8ea46ff0bb0b53bc759b99df507db5646a704dde2b67a2c711fea0", func := "witting/wittinglaw41.UpdateWitness", spec := "updateWitness", unfollowed := true, recurses := true, apart := false }
def UpdateWitnessSaid : Prop := updateWitnessRow.holds Try.pinned (OpenSpec.ofChange updateWitnessSpec)

/-- ITS FALSE NEIGHBOUR: 'it returns false'. Refute it at one input. -/
def updateWitnessWrong : ChangeSpec := { name := "updateWitness", fn := fun _ => fun
  | [d] => { results := [.lit (.bool false)], args := [d] }
  | _ => none }
def UpdateWitnessWrongFalsely : Prop := updateWitnessRow.holds Try.pinned (OpenSpec.ofChange updateWitnessWrong)

/-- 'wittinglaw41.UpdateFamilies': WHATEVER THE INPUT: true; the input reads as it did. -/
def updateFamiliesSpec : ChangeSpec := { name := "updateFamilies", fn := fun _ => fun
  | [d1, d2, d3] => { results := [.lit (.bool true)], args := [d1, d2, d3] }
  | _ => none }
def updateFamiliesRow : OpenClaim := { program := "ytgnmelmmcpmhoaa", sum := "b327fd1a6b8ea46ff0bb0b53bc759b99df507db5646a704dde2b67a2c711fea0", func := "witting/wittinglaw41.UpdateFamilies", spec := "updateFamilies", unfollowed := true, recurses := true, apart := false }
def UpdateFamiliesSaid : Prop := updateFamiliesRow.holds Try.pinned (OpenSpec.ofChange updateFamiliesSpec)

/-- ITS FALSE NEIGHBOUR: 'it returns false'. Refute it at one input. -/
def updateFamiliesWrong : ChangeSpec := { name := "updateFamilies", fn := fun _ => fun
  | [d1, d2, d3] => { results := [.lit (.bool false)], args := [d1, d2, d3] }
  | _ => none }
def UpdateFamiliesWrongFalsely : Prop := updateFamiliesRow.holds Try.pinned (OpenSpec.ofChange updateFamiliesWrong)

/-- 'wittingtop.TopPointwise': WHATEVER THE INPUT: true; the input reads as it did. -/
def topPointwiseSpec : ChangeSpec := { name := "topPointwise", fn := fun _ => fun
  | [d1, d2, d3] => { results := [.lit (.bool true)], args := [d1, d2, d3] }
  | _ => none }
def topPointwiseRow : OpenClaim := { program := "ytgnmelmmcpmhoaa", sum := "b327fd1a6b8ea46ff0bb0b53bc759b99df507db5646a704dde2b67a2c711fea0", func := "witting/wittingtop.TopPointwise", spec := "topPointwise", unfollowed := true, recurses := true, apart := false }
def TopPointwiseSaid : Prop := topPointwiseRow.holds Try.pinned (OpenSpec.ofChange topPointwiseSpec)

/-- ITS FALSE NEIGHBOUR: 'it returns false'. Refute it at one input. -/
def topPointwiseWrong : ChangeSpec := { name := "topPointwise", fn := fun _ => fun
  | [d1, d2, d3] => { results := [.lit (.bool false)], args := [d1, d2, d3] }
  | _ => none }
def TopPointwiseWrongFalsely : Prop := topPointwiseRow.holds Try.pinned (OpenSpec.ofChange topPointwiseWrong)

/-- 'wittingtop.TopDifferent': WHATEVER THE INPUT: true; the input reads as it did. -/
def topDifferentSpec : ChangeSpec := { name := "topDifferent", fn := fun _ => fun
  | [d] => { results := [.lit (.bool true)], args := [d] }
  | _ => none }
def topDifferentRow : OpenClaim := { program := "ytgnmelmmcpmhoaa", sum := "b327fd1a6b8ea46ff0bb0b53bc759b99df507db5646a704dde2b67a2c711fea0", func := "witting/wittingtop.TopDifferent", spec := "topDifferent", unfollowed := true, recurses := true, apart := false }
def TopDifferentSaid : Prop := topDifferentRow.holds Try.pinned (OpenSpec.ofChange topDifferentSpec)

/-- ITS FALSE NEIGHBOUR: 'it returns false'. Refute it at one input. -/
def topDifferentWrong : ChangeSpec := { name := "topDifferent", fn := fun _ => fun
  | [d] => { results := [.lit (.bool false)], args := [d] }
  | _ => none }
def TopDifferentWrongFalsely : Prop := topDifferentRow.holds Try.pinned (OpenSpec.ofChange topDifferentWrong)

/-- 'wittingtop.TopRevisionInside': WHATEVER THE INPUT: true; the input reads as it did. -/
def topRevisionInsideSpec : ChangeSpec := { name := "topRevisionInside", fn := fun _ => fun
  | [d1, d2, d3] => { results := [.lit (.bool true)], args := [d1, d2, d3] }
  | _ => none }
def topRevisionInsideRow : OpenClaim := { program := "ytgnmelmmcpmhoaa", sum := "b327fd1a6b8ea46ff0bb0b53bc759b99df507db5646a704dde2b67a2c711fea0", func := "witting/wittingtop.TopRevisionInside", spec := "topRevisionInside", unfollowed := true, recurses := true, apart := false }
def TopRevisionInsideSaid : Prop := topRevisionInsideRow.holds Try.pinned (OpenSpec.ofChange topRevisionInsideSpec)

/-- ITS FALSE NEIGHBOUR: 'it returns false'. Refute it at one input. -/
def topRevisionInsideWrong : ChangeSpec := { name := "topRevisionInside", fn := fun _ => fun
  | [d1, d2, d3] => { results := [.lit (.bool false)], args := [d1, d2, d3] }
  | _ => none }
def TopRevisionInsideWrongFalsely : Prop := topRevisionInsideRow.holds Try.pinned (OpenSpec.ofChange topRevisionInsideWrong)

/- THE SECOND FORM. 'bulk': how many values and letters a reading holds, each counted each time it is reached (what is shared counts as often as it is met; a slice's spare places count too). A statement '..UptoSaid' is the law's where the arguments, and the package variables that the reading takes, are together of bulk at most 1048576: NARROWER than '..Said'. Prove '..Said' where nothing that the law and all that it calls make is longer than what came in: it says more and counts as full. Else prove '..UptoSaid'. A law counts once. -/
mutual
def uptoBulk {H : Type} : DataW H → Nat
  | .lit (.string bytes) => bytes.length + 1
  | .lit _ => 1
  | .nil => 1
  | .ptr d => uptoBulk d + 1
  | .slice elems spare => uptoBulkAll elems + uptoBulkAll spare + 1
  | .agg parts => uptoBulkAll parts + 1
  | .iface _ d => uptoBulk d + 1
  | .map entries => uptoBulkEntries entries + 1
  | .held _ => 1
def uptoBulkAll {H : Type} : List (DataW H) → Nat
  | [] => 0
  | d :: r => uptoBulk d + uptoBulkAll r
def uptoBulkEntries {H : Type} : List (Lit × DataW H) → Nat
  | [] => 0
  | x :: r => uptoBulkEntry x + uptoBulkEntries r
def uptoBulkEntry {H : Type} : Lit × DataW H → Nat
  | (.string bytes, d) => bytes.length + uptoBulk d + 1
  | (_, d) => uptoBulk d + 1
 end
def uptoSmall : (H : Type) → List (DataW H) → Bool := fun _ ds => decide (uptoBulkAll ds ≤ 1048576)
def OpenSpec.upto (s : _root_.Go.ChangeSpec) : _root_.Go.OpenSpec := { _root_.Go.OpenSpec.ofChange s with cond := some uptoSmall }

/-- 'wittinglaw41.UpdateChecks', WHERE WHAT IT READS IS OF BULK AT MOST 1048576: true; the input reads as it did. -/
def updateChecksUptoRow : OpenClaim := { program := "ytgnmelmmcpmhoaa", sum := "b327fd1a6b8ea46ff0bb0b53bc759b99df507db5646a704dde2b67a2c711fea0", func := "witting/wittinglaw41.UpdateChecks", spec := "updateChecks", unfollowed := true, recurses := true, apart := false, narrowed := true }
def UpdateChecksUptoSaid : Prop := updateChecksUptoRow.holds Try.pinned (OpenSpec.upto updateChecksSpec)

/-- 'wittinglaw41.UpdateResults', WHERE WHAT IT READS IS OF BULK AT MOST 1048576: true; the input reads as it did. -/
def updateResultsUptoRow : OpenClaim := { program := "ytgnmelmmcpmhoaa", sum := "b327fd1a6b8ea46ff0bb0b53bc759b99df507db5646a704dde2b67a2c711fea0", func := "witting/wittinglaw41.UpdateResults", spec := "updateResults", unfollowed := true, recurses := true, apart := false, narrowed := true }
def UpdateResultsUptoSaid : Prop := updateResultsUptoRow.holds Try.pinned (OpenSpec.upto updateResultsSpec)

/-- 'wittinglaw41.UpdatePostulates', WHERE WHAT IT READS IS OF BULK AT MOST 1048576: true; the input reads as it did. -/
def updatePostulatesUptoRow : OpenClaim := { program := "ytgnmelmmcpmhoaa", sum := "b327fd1a6b8ea46ff0bb0b53bc759b99df507db5646a704dde2b67a2c711fea0", func := "witting/wittinglaw41.UpdatePostulates", spec := "updatePostulates", unfollowed := true, recurses := true, apart := false, narrowed := true }
def UpdatePostulatesUptoSaid : Prop := updatePostulatesUptoRow.holds Try.pinned (OpenSpec.upto updatePostulatesSpec)

/-- 'wittinglaw41.UpdatePoints', WHERE WHAT IT READS IS OF BULK AT MOST 1048576: true; the input reads as it did. -/
def updatePointsUptoRow : OpenClaim := { program := "ytgnmelmmcpmhoaa", sum := "b327fd1a6b8ea46ff0bb0b53bc759b99df507db5646a704dde2b67a2c711fea0", func := "witting/wittinglaw41.UpdatePoints", spec := "updatePoints", unfollowed := true, recurses := true, apart := false, narrowed := true }
def UpdatePointsUptoSaid : Prop := updatePointsUptoRow.holds Try.pinned (OpenSpec.upto updatePointsSpec)

/-- 'wittinglaw41.UpdateUnions', WHERE WHAT IT READS IS OF BULK AT MOST 1048576: true; the input reads as it did. -/
def updateUnionsUptoRow : OpenClaim := { program := "ytgnmelmmcpmhoaa", sum := "b327fd1a6b8ea46ff0bb0b53bc759b99df507db5646a704dde2b67a2c711fea0", func := "witting/wittinglaw41.UpdateUnions", spec := "updateUnions", unfollowed := true, recurses := true, apart := false, narrowed := true }
def UpdateUnionsUptoSaid : Prop := updateUnionsUptoRow.holds Try.pinned (OpenSpec.upto updateUnionsSpec)

/-- 'wittinglaw41.UpdateErases', WHERE WHAT IT READS IS OF BULK AT MOST 1048576: true; the input reads as it did. -/
def updateErasesUptoRow : OpenClaim := { program := "ytgnmelmmcpmhoaa", sum := "b327fd1a6b8ea46ff0bb0b53bc759b99df507db5646a704dde2b67a2c711fea0", func := "witting/wittinglaw41.UpdateErases", spec := "updateErases", unfollowed := true, recurses := true, apart := false, narrowed := true }
def UpdateErasesUptoSaid : Prop := updateErasesUptoRow.holds Try.pinned (OpenSpec.upto updateErasesSpec)

/-- 'wittinglaw41.UpdateWitness', WHERE WHAT IT READS IS OF BULK AT MOST 1048576: true; the input reads as it did. -/
def updateWitnessUptoRow : OpenClaim := { program := "ytgnmelmmcpmhoaa", sum := "b327fd1a6b8ea46ff0bb0b53bc759b99df507db5646a704dde2b67a2c711fea0", func := "witting/wittinglaw41.UpdateWitness", spec := "updateWitness", unfollowed := true, recurses := true, apart := false, narrowed := true }
def UpdateWitnessUptoSaid : Prop := updateWitnessUptoRow.holds Try.pinned (OpenSpec.upto updateWitnessSpec)

/-- 'wittinglaw41.UpdateFamilies', WHERE WHAT IT READS IS OF BULK AT MOST 1048576: true; the input reads as it did. -/
def updateFamiliesUptoRow : OpenClaim := { program := "ytgnmelmmcpmhoaa", sum := "b327fd1a6b8ea46ff0bb0b53bc759b99df507db5646a704dde2b67a2c711fea0", func := "witting/wittinglaw41.UpdateFamilies", spec := "updateFamilies", unfollowed := true, recurses := true, apart := false, narrowed := true }
def UpdateFamiliesUptoSaid : Prop := updateFamiliesUptoRow.holds Try.pinned (OpenSpec.upto updateFamiliesSpec)

/-- 'wittingtop.TopPointwise', WHERE WHAT IT READS IS OF BULK AT MOST 1048576: true; the input reads as it did. -/
def topPointwiseUptoRow : OpenClaim := { program := "ytgnmelmmcpmhoaa", sum := "b327fd1a6b8ea46ff0bb0b53bc759b99df507db5646a704dde2b67a2c711fea0", func := "witting/wittingtop.TopPointwise", spec := "topPointwise", unfollowed := true, recurses := true, apart := false, narrowed := true }
def TopPointwiseUptoSaid : Prop := topPointwiseUptoRow.holds Try.pinned (OpenSpec.upto topPointwiseSpec)

/-- 'wittingtop.TopDifferent', WHERE WHAT IT READS IS OF BULK AT MOST 1048576: true; the input reads as it did. -/
def topDifferentUptoRow : OpenClaim := { program := "ytgnmelmmcpmhoaa", sum := "b327fd1a6b8ea46ff0bb0b53bc759b99df507db5646a704dde2b67a2c711fea0", func := "witting/wittingtop.TopDifferent", spec := "topDifferent", unfollowed := true, recurses := true, apart := false, narrowed := true }
def TopDifferentUptoSaid : Prop := topDifferentUptoRow.holds Try.pinned (OpenSpec.upto topDifferentSpec)

/-- 'wittingtop.TopRevisionInside', WHERE WHAT IT READS IS OF BULK AT MOST 1048576: true; the input reads as it did. -/
def topRevisionInsideUptoRow : OpenClaim := { program := "ytgnmelmmcpmhoaa", sum := "b327fd1a6b8ea46ff0bb0b53bc759b99df507db5646a704dde2b67a2c711fea0", func := "witting/wittingtop.TopRevisionInside", spec := "topRevisionInside", unfollowed := true, recurses := true, apart := false, narrowed := true }
def TopRevisionInsideUptoSaid : Prop := topRevisionInsideUptoRow.holds Try.pinned (OpenSpec.upto topRevisionInsideSpec)

end Rows
end Go.Proofs.Ytgnmelmmcpmhoaa
