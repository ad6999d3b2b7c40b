/-
  No cell of these rows narrows 'for every input' (looked for: loops, veiled, ifaces, maps, wideKeys, modest, calm, conditions, laid).
  DERIVED. THE GIVEN ROWS OF THIS SEAT. 12 by the template 'for every input the law returns true; each argument reads behind the call as it read before'; 0 by the template 'total and deterministic' (their statements: YtnilfpcipclagaaTotals.lean).
  GIVEN WITH THE SEED: the statements are not yours to turn. If you find one false, say at which input.
  Laid BY PROGRAM, IN A SANDBOX (cutbox-rows.mjs): the forced cells as the released guide's own fill.sh prints them over the translation 1a78eadb82adc52d… (all of the seat's roots in one cut). By AI agents, Wed Nov 11 2026. No macro, syntax, notation, axiom, sorry.
-/
import Derived.Test.YtnilfpcipclagaaChecked
import GoSem.Claim
import GoSem.ClaimJoined
import GoSem.ClaimMapViews
import Derived.JoinedTies
import Derived.KernelRfl
namespace Go.Proofs.Ytnilfpcipclagaa
/- THE CELL 'sum', in the pinned program and in every row, IS THE sha256 OF THE DUMP (.gsa) THAT YtnilfpcipclagaaProg.lean LOADS. Nothing in Lean hashes anything: it is a label: what it is worth is what the hold of that sum in a sandbox is worth. -/
noncomputable def Try.pinned : Pinned := { name := "ytnilfpcipclagaa", sum := "1a78eadb82adc52d704366ddccca92b9956e76e443dc18be683ced14ee947198", checked := Try.checked }
namespace Rows
def none {H : Type} : Left H := { results := [], args := [] }

/-- 'wittinglaw39.RevisionChecks': WHATEVER THE INPUT: true; the input reads as it did. -/
def revisionChecksSpec : ChangeSpec := { name := "revisionChecks", fn := fun _ => fun
  | [d1, d2] => { results := [.lit (.bool true)], args := [d1, d2] }
  | _ => none }
def revisionChecksRow : OpenClaim := { program := "ytnilfpcipclagaa", sum := "1a78eadb82adc52d704366ddccca92b9956e76e443dc18be683ced14ee947198", func := "witting/wittinglaw39.RevisionChecks", spec := "revisionChecks", unfollowed := true, recurses := true, apart := false }
def RevisionChecksSaid : Prop := revisionChecksRow.holds Try.pinned (OpenSpec.ofChange revisionChecksSpec)

/-- ITS FALSE NEIGHBOUR: 'it returns false'. Refute it at one input. -/
def revisionChecksWrong : ChangeSpec := { name := "revisionChecks", fn := fun _ => fun
  | [d1, d2] => { results := [.lit (.bool false)], args := [d1, d2] }
  | _ => none }
def RevisionChecksWrongFalsely : Prop := revisionChecksRow.holds Try.pinned (OpenSpec.ofChange revisionChecksWrong)

/-- 'wittinglaw39.RevisionRevises': WHATEVER THE INPUT: true; the input reads as it did. -/
def revisionRevisesSpec : ChangeSpec := { name := "revisionRevises", fn := fun _ => fun
  | [d1, d2, d3] => { results := [.lit (.bool true)], args := [d1, d2, d3] }
  | _ => none }
def revisionRevisesRow : OpenClaim := { program := "ytnilfpcipclagaa", sum := "1a78eadb82adc52d704366ddccca92b9956e76e443dc18be683ced14ee947198", func := "witting/wittinglaw39.RevisionRevises", spec := "revisionRevises", unfollowed := true, recurses := true, apart := false }
def RevisionRevisesSaid : Prop := revisionRevisesRow.holds Try.pinned (OpenSpec.ofChange revisionRevisesSpec)

/-- ITS FALSE NEIGHBOUR: 'it returns false'. Refute it at one input. -/
def revisionRevisesWrong : ChangeSpec := { name := "revisionRevises", fn := fun _ => fun
  | [d1, d2, d3] => { results := [.lit (.bool false)], args := [d1, d2, d3] }
  | _ => none }
def RevisionRevisesWrongFalsely : Prop := revisionRevisesRow.holds Try.pinned (OpenSpec.ofChange revisionRevisesWrong)

/-- 'wittinglaw39.RevisionTables': WHATEVER THE INPUT: true; the input reads as it did. -/
def revisionTablesSpec : ChangeSpec := { name := "revisionTables", fn := fun _ => fun
  | [d1, d2] => { results := [.lit (.bool true)], args := [d1, d2] }
  | _ => none }
def revisionTablesRow : OpenClaim := { program := "ytnilfpcipclagaa", sum := "1a78eadb82adc52d704366ddccca92b9956e76e443dc18be683ced14ee947198", func := "witting/wittinglaw39.RevisionTables", spec := "revisionTables", unfollowed := true, recurses := true, apart := false }
def RevisionTablesSaid : Prop := revisionTablesRow.holds Try.pinned (OpenSpec.ofChange revisionTablesSpec)

/-- ITS FALSE NEIGHBOUR: 'it returns false'. Refute it at one input. -/
def revisionTablesWrong : ChangeSpec := { name := "revisionTables", fn := fun _ => fun
  | [d1, d2] => { results := [.lit (.bool false)], args := [d1, d2] }
  | _ => none }
def RevisionTablesWrongFalsely : Prop := revisionTablesRow.holds Try.pinned (OpenSpec.ofChange revisionTablesWrong)

/-- 'wittinglaw39.RevisionDalal': WHATEVER THE INPUT: true; the input reads as it did. -/
def revisionDalalSpec : ChangeSpec := { name := "revisionDalal", fn := fun _ => fun
  | [d1, d2, d3] => { results := [.lit (.bool true)], args := [d1, d2, d3] }
  | _ => none }
def revisionDalalRow : OpenClaim := { program := "ytnilfpcipclagaa", sum := "1a78eadb82adc52d704366ddccca92b9956e76e443dc18be683ced14ee947198", func := "witting/wittinglaw39.RevisionDalal", spec := "revisionDalal", unfollowed := true, recurses := true, apart := false }
def RevisionDalalSaid : Prop := revisionDalalRow.holds Try.pinned (OpenSpec.ofChange revisionDalalSpec)

/-- ITS FALSE NEIGHBOUR: 'it returns false'. Refute it at one input. -/
def revisionDalalWrong : ChangeSpec := { name := "revisionDalal", fn := fun _ => fun
  | [d1, d2, d3] => { results := [.lit (.bool false)], args := [d1, d2, d3] }
  | _ => none }
def RevisionDalalWrongFalsely : Prop := revisionDalalRow.holds Try.pinned (OpenSpec.ofChange revisionDalalWrong)

/-- 'wittinglaw39.RevisionPostulates': WHATEVER THE INPUT: true; the input reads as it did. -/
def revisionPostulatesSpec : ChangeSpec := { name := "revisionPostulates", fn := fun _ => fun
  | [d1, d2, d3] => { results := [.lit (.bool true)], args := [d1, d2, d3] }
  | _ => none }
def revisionPostulatesRow : OpenClaim := { program := "ytnilfpcipclagaa", sum := "1a78eadb82adc52d704366ddccca92b9956e76e443dc18be683ced14ee947198", func := "witting/wittinglaw39.RevisionPostulates", spec := "revisionPostulates", unfollowed := true, recurses := true, apart := false }
def RevisionPostulatesSaid : Prop := revisionPostulatesRow.holds Try.pinned (OpenSpec.ofChange revisionPostulatesSpec)

/-- ITS FALSE NEIGHBOUR: 'it returns false'. Refute it at one input. -/
def revisionPostulatesWrong : ChangeSpec := { name := "revisionPostulates", fn := fun _ => fun
  | [d1, d2, d3] => { results := [.lit (.bool false)], args := [d1, d2, d3] }
  | _ => none }
def RevisionPostulatesWrongFalsely : Prop := revisionPostulatesRow.holds Try.pinned (OpenSpec.ofChange revisionPostulatesWrong)

/-- 'wittinglaw39.RevisionOrdered': WHATEVER THE INPUT: true; the input reads as it did. -/
def revisionOrderedSpec : ChangeSpec := { name := "revisionOrdered", fn := fun _ => fun
  | [d1, d2, d3] => { results := [.lit (.bool true)], args := [d1, d2, d3] }
  | _ => none }
def revisionOrderedRow : OpenClaim := { program := "ytnilfpcipclagaa", sum := "1a78eadb82adc52d704366ddccca92b9956e76e443dc18be683ced14ee947198", func := "witting/wittinglaw39.RevisionOrdered", spec := "revisionOrdered", unfollowed := true, recurses := true, apart := false }
def RevisionOrderedSaid : Prop := revisionOrderedRow.holds Try.pinned (OpenSpec.ofChange revisionOrderedSpec)

/-- ITS FALSE NEIGHBOUR: 'it returns false'. Refute it at one input. -/
def revisionOrderedWrong : ChangeSpec := { name := "revisionOrdered", fn := fun _ => fun
  | [d1, d2, d3] => { results := [.lit (.bool false)], args := [d1, d2, d3] }
  | _ => none }
def RevisionOrderedWrongFalsely : Prop := revisionOrderedRow.holds Try.pinned (OpenSpec.ofChange revisionOrderedWrong)

/-- 'wittinglaw39.RevisionSame': WHATEVER THE INPUT: true; the input reads as it did. -/
def revisionSameSpec : ChangeSpec := { name := "revisionSame", fn := fun _ => fun
  | [d1, d2] => { results := [.lit (.bool true)], args := [d1, d2] }
  | _ => none }
def revisionSameRow : OpenClaim := { program := "ytnilfpcipclagaa", sum := "1a78eadb82adc52d704366ddccca92b9956e76e443dc18be683ced14ee947198", func := "witting/wittinglaw39.RevisionSame", spec := "revisionSame", unfollowed := true, recurses := true, apart := false }
def RevisionSameSaid : Prop := revisionSameRow.holds Try.pinned (OpenSpec.ofChange revisionSameSpec)

/-- ITS FALSE NEIGHBOUR: 'it returns false'. Refute it at one input. -/
def revisionSameWrong : ChangeSpec := { name := "revisionSame", fn := fun _ => fun
  | [d1, d2] => { results := [.lit (.bool false)], args := [d1, d2] }
  | _ => none }
def RevisionSameWrongFalsely : Prop := revisionSameRow.holds Try.pinned (OpenSpec.ofChange revisionSameWrong)

/-- 'wittinglaw39.RevisionIterates': WHATEVER THE INPUT: true; the input reads as it did. -/
def revisionIteratesSpec : ChangeSpec := { name := "revisionIterates", fn := fun _ => fun
  | [d1, d2] => { results := [.lit (.bool true)], args := [d1, d2] }
  | _ => none }
def revisionIteratesRow : OpenClaim := { program := "ytnilfpcipclagaa", sum := "1a78eadb82adc52d704366ddccca92b9956e76e443dc18be683ced14ee947198", func := "witting/wittinglaw39.RevisionIterates", spec := "revisionIterates", unfollowed := true, recurses := true, apart := false }
def RevisionIteratesSaid : Prop := revisionIteratesRow.holds Try.pinned (OpenSpec.ofChange revisionIteratesSpec)

/-- ITS FALSE NEIGHBOUR: 'it returns false'. Refute it at one input. -/
def revisionIteratesWrong : ChangeSpec := { name := "revisionIterates", fn := fun _ => fun
  | [d1, d2] => { results := [.lit (.bool false)], args := [d1, d2] }
  | _ => none }
def RevisionIteratesWrongFalsely : Prop := revisionIteratesRow.holds Try.pinned (OpenSpec.ofChange revisionIteratesWrong)

/-- 'wittinglaw39.RevisionNear': WHATEVER THE INPUT: true; the input reads as it did. -/
def revisionNearSpec : ChangeSpec := { name := "revisionNear", fn := fun _ => fun
  | [d1, d2] => { results := [.lit (.bool true)], args := [d1, d2] }
  | _ => none }
def revisionNearRow : OpenClaim := { program := "ytnilfpcipclagaa", sum := "1a78eadb82adc52d704366ddccca92b9956e76e443dc18be683ced14ee947198", func := "witting/wittinglaw39.RevisionNear", spec := "revisionNear", unfollowed := true, recurses := true, apart := false }
def RevisionNearSaid : Prop := revisionNearRow.holds Try.pinned (OpenSpec.ofChange revisionNearSpec)

/-- ITS FALSE NEIGHBOUR: 'it returns false'. Refute it at one input. -/
def revisionNearWrong : ChangeSpec := { name := "revisionNear", fn := fun _ => fun
  | [d1, d2] => { results := [.lit (.bool false)], args := [d1, d2] }
  | _ => none }
def RevisionNearWrongFalsely : Prop := revisionNearRow.holds Try.pinned (OpenSpec.ofChange revisionNearWrong)

/-- 'wittingtop.TopIterated': WHATEVER THE INPUT: true; the input reads as it did. -/
def topIteratedSpec : ChangeSpec := { name := "topIterated", fn := fun _ => fun
  | [d1, d2, d3] => { results := [.lit (.bool true)], args := [d1, d2, d3] }
  | _ => none }
def topIteratedRow : OpenClaim := { program := "ytnilfpcipclagaa", sum := "1a78eadb82adc52d704366ddccca92b9956e76e443dc18be683ced14ee947198", func := "witting/wittingtop.TopIterated", spec := "topIterated", unfollowed := true, recurses := true, apart := false }
def TopIteratedSaid : Prop := topIteratedRow.holds Try.pinned (OpenSpec.ofChange topIteratedSpec)

/-- ITS FALSE NEIGHBOUR: 'it returns false'. Refute it at one input. -/
def topIteratedWrong : ChangeSpec := { name := "topIterated", fn := fun _ => fun
  | [d1, d2, d3] => { results := [.lit (.bool false)], args := [d1, d2, d3] }
  | _ => none }
def TopIteratedWrongFalsely : Prop := topIteratedRow.holds Try.pinned (OpenSpec.ofChange topIteratedWrong)

/-- 'wittingtop.TopRecalcitrant': WHATEVER THE INPUT: true; the input reads as it did. -/
def topRecalcitrantSpec : ChangeSpec := { name := "topRecalcitrant", fn := fun _ => fun
  | [d1, d2, d3] => { results := [.lit (.bool true)], args := [d1, d2, d3] }
  | _ => none }
def topRecalcitrantRow : OpenClaim := { program := "ytnilfpcipclagaa", sum := "1a78eadb82adc52d704366ddccca92b9956e76e443dc18be683ced14ee947198", func := "witting/wittingtop.TopRecalcitrant", spec := "topRecalcitrant", unfollowed := true, recurses := true, apart := false }
def TopRecalcitrantSaid : Prop := topRecalcitrantRow.holds Try.pinned (OpenSpec.ofChange topRecalcitrantSpec)

/-- ITS FALSE NEIGHBOUR: 'it returns false'. Refute it at one input. -/
def topRecalcitrantWrong : ChangeSpec := { name := "topRecalcitrant", fn := fun _ => fun
  | [d1, d2, d3] => { results := [.lit (.bool false)], args := [d1, d2, d3] }
  | _ => none }
def TopRecalcitrantWrongFalsely : Prop := topRecalcitrantRow.holds Try.pinned (OpenSpec.ofChange topRecalcitrantWrong)

/-- 'wittingtop.TopNearest': WHATEVER THE INPUT: true; the input reads as it did. -/
def topNearestSpec : ChangeSpec := { name := "topNearest", fn := fun _ => fun
  | [d1, d2] => { results := [.lit (.bool true)], args := [d1, d2] }
  | _ => none }
def topNearestRow : OpenClaim := { program := "ytnilfpcipclagaa", sum := "1a78eadb82adc52d704366ddccca92b9956e76e443dc18be683ced14ee947198", func := "witting/wittingtop.TopNearest", spec := "topNearest", unfollowed := true, recurses := true, apart := false }
def TopNearestSaid : Prop := topNearestRow.holds Try.pinned (OpenSpec.ofChange topNearestSpec)

/-- ITS FALSE NEIGHBOUR: 'it returns false'. Refute it at one input. -/
def topNearestWrong : ChangeSpec := { name := "topNearest", fn := fun _ => fun
  | [d1, d2] => { results := [.lit (.bool false)], args := [d1, d2] }
  | _ => none }
def TopNearestWrongFalsely : Prop := topNearestRow.holds Try.pinned (OpenSpec.ofChange topNearestWrong)

/- THE SECOND FORM. 'bulk': how many values and letters a reading holds, each counted each time it is reached (what is shared counts as often as it is met; a slice's spare places count too). A statement '..UptoSaid' is the law's where the arguments, and the package variables that the reading takes, are together of bulk at most 1048576: NARROWER than '..Said'. Prove '..Said' where nothing that the law and all that it calls make is longer than what came in: it says more and counts as full. Else prove '..UptoSaid'. A law counts once. -/
mutual
def uptoBulk {H : Type} : DataW H → Nat
  | .lit (.string bytes) => bytes.length + 1
  | .lit _ => 1
  | .nil => 1
  | .ptr d => uptoBulk d + 1
  | .slice elems spare => uptoBulkAll elems + uptoBulkAll spare + 1
  | .agg parts => uptoBulkAll parts + 1
  | .iface _ d => uptoBulk d + 1
  | .map entries => uptoBulkEntries entries + 1
  | .held _ => 1
def uptoBulkAll {H : Type} : List (DataW H) → Nat
  | [] => 0
  | d :: r => uptoBulk d + uptoBulkAll r
def uptoBulkEntries {H : Type} : List (Lit × DataW H) → Nat
  | [] => 0
  | x :: r => uptoBulkEntry x + uptoBulkEntries r
def uptoBulkEntry {H : Type} : Lit × DataW H → Nat
  | (.string bytes, d) => bytes.length + uptoBulk d + 1
  | (_, d) => uptoBulk d + 1
 end
def uptoSmall : (H : Type) → List (DataW H) → Bool := fun _ ds => decide (uptoBulkAll ds ≤ 1048576)
def OpenSpec.upto (s : _root_.Go.ChangeSpec) : _root_.Go.OpenSpec := { _root_.Go.OpenSpec.ofChange s with cond := some uptoSmall }

/-- 'wittinglaw39.RevisionChecks', WHERE WHAT IT READS IS OF BULK AT MOST 1048576: true; the input reads as it did. -/
def revisionChecksUptoRow : OpenClaim := { program := "ytnilfpcipclagaa", sum := "1a78eadb82adc52d704366ddccca92b9956e76e443dc18be683ced14ee947198", func := "witting/wittinglaw39.RevisionChecks", spec := "revisionChecks", unfollowed := true, recurses := true, apart := false, narrowed := true }
def RevisionChecksUptoSaid : Prop := revisionChecksUptoRow.holds Try.pinned (OpenSpec.upto revisionChecksSpec)

/-- 'wittinglaw39.RevisionRevises', WHERE WHAT IT READS IS OF BULK AT MOST 1048576: true; the input reads as it did. -/
def revisionRevisesUptoRow : OpenClaim := { program := "ytnilfpcipclagaa", sum := "1a78eadb82adc52d704366ddccca92b9956e76e443dc18be683ced14ee947198", func := "witting/wittinglaw39.RevisionRevises", spec := "revisionRevises", unfollowed := true, recurses := true, apart := false, narrowed := true }
def RevisionRevisesUptoSaid : Prop := revisionRevisesUptoRow.holds Try.pinned (OpenSpec.upto revisionRevisesSpec)

/-- 'wittinglaw39.RevisionTables', WHERE WHAT IT READS IS OF BULK AT MOST 1048576: true; the input reads as it did. -/
def revisionTablesUptoRow : OpenClaim := { program := "ytnilfpcipclagaa", sum := "1a78eadb82adc52d704366ddccca92b9956e76e443dc18be683ced14ee947198", func := "witting/wittinglaw39.RevisionTables", spec := "revisionTables", unfollowed := true, recurses := true, apart := false, narrowed := true }
def RevisionTablesUptoSaid : Prop := revisionTablesUptoRow.holds Try.pinned (OpenSpec.upto revisionTablesSpec)

/-- 'wittinglaw39.RevisionDalal', WHERE WHAT IT READS IS OF BULK AT MOST 1048576: true; the input reads as it did. -/
def revisionDalalUptoRow : OpenClaim := { program := "ytnilfpcipclagaa", sum := "1a78eadb82adc52d704366ddccca92b9956e76e443dc18be683ced14ee947198", func := "witting/wittinglaw39.RevisionDalal", spec := "revisionDalal", unfollowed := true, recurses := true, apart := false, narrowed := true }
def RevisionDalalUptoSaid : Prop := revisionDalalUptoRow.holds Try.pinned (OpenSpec.upto revisionDalalSpec)

/-- 'wittinglaw39.RevisionPostulates', WHERE WHAT IT READS IS OF BULK AT MOST 1048576: true; the input reads as it did. -/
def revisionPostulatesUptoRow : OpenClaim := { program := "ytnilfpcipclagaa", sum := "1a78eadb82adc52d704366ddccca92b9956e76e443dc18be683ced14ee947198", func := "witting/wittinglaw39.RevisionPostulates", spec := "revisionPostulates", unfollowed := true, recurses := true, apart := false, narrowed := true }
def RevisionPostulatesUptoSaid : Prop := revisionPostulatesUptoRow.holds Try.pinned (OpenSpec.upto revisionPostulatesSpec)

/-- 'wittinglaw39.RevisionOrdered', WHERE WHAT IT READS IS OF BULK AT MOST 1048576: true; the input reads as it did. -/
def revisionOrderedUptoRow : OpenClaim := { program := "ytnilfpcipclagaa", sum := "1a78eadb82adc52d704366ddccca92b9956e76e443dc18be683ced14ee947198", func := "witting/wittinglaw39.RevisionOrdered", spec := "revisionOrdered", unfollowed := true, recurses := true, apart := false, narrowed := true }
def RevisionOrderedUptoSaid : Prop := revisionOrderedUptoRow.holds Try.pinned (OpenSpec.upto revisionOrderedSpec)

/-- 'wittinglaw39.RevisionSame', WHERE WHAT IT READS IS OF BULK AT MOST 1048576: true; the input reads as it did. -/
def revisionSameUptoRow : OpenClaim := { program := "ytnilfpcipclagaa", sum := "1a78eadb82adc52d704366ddccca92b9956e76e443dc18be683ced14ee947198", func := "witting/wittinglaw39.RevisionSame", spec := "revisionSame", unfollowed := true, recurses := true, apart := false, narrowed := true }
def RevisionSameUptoSaid : Prop := revisionSameUptoRow.holds Try.pinned (OpenSpec.upto revisionSameSpec)

/-- 'wittinglaw39.RevisionIterates', WHERE WHAT IT READS IS OF BULK AT MOST 1048576: true; the input reads as it did. -/
def revisionIteratesUptoRow : OpenClaim := { program := "ytnilfpcipclagaa", sum := "1a78eadb82adc52d704366ddccca92b9956e76e443dc18be683ced14ee947198", func := "witting/wittinglaw39.RevisionIterates", spec := "revisionIterates", unfollowed := true, recurses := true, apart := false, narrowed := true }
def RevisionIteratesUptoSaid : Prop := revisionIteratesUptoRow.holds Try.pinned (OpenSpec.upto revisionIteratesSpec)

/-- 'wittinglaw39.RevisionNear', WHERE WHAT IT READS IS OF BULK AT MOST 1048576: true; the input reads as it did. -/
def revisionNearUptoRow : OpenClaim := { program := "ytnilfpcipclagaa", sum := "1a78eadb82adc52d704366ddccca92b9956e76e443dc18be683ced14ee947198", func := "witting/wittinglaw39.RevisionNear", spec := "revisionNear", unfollowed := true, recurses := true, apart := false, narrowed := true }
def RevisionNearUptoSaid : Prop := revisionNearUptoRow.holds Try.pinned (OpenSpec.upto revisionNearSpec)

/-- 'wittingtop.TopIterated', WHERE WHAT IT READS IS OF BULK AT MOST 1048576: true; the input reads as it did. -/
def topIteratedUptoRow : OpenClaim := { program := "ytnilfpcipclagaa", sum := "1a78eadb82adc52d704366ddccca92b9956e76e443dc18be683ced14ee947198", func := "witting/wittingtop.TopIterated", spec := "topIterated", unfollowed := true, recurses := true, apart := false, narrowed := true }
def TopIteratedUptoSaid : Prop := topIteratedUptoRow.holds Try.pinned (OpenSpec.upto topIteratedSpec)

/-- 'wittingtop.TopRecalcitrant', WHERE WHAT IT READS IS OF BULK AT MOST 1048576: true; the input reads as it did. -/
def topRecalcitrantUptoRow : OpenClaim := { program := "ytnilfpcipclagaa", sum := "1a78eadb82adc52d704366ddccca92b9956e76e443dc18be683ced14ee947198", func := "witting/wittingtop.TopRecalcitrant", spec := "topRecalcitrant", unfollowed := true, recurses := true, apart := false, narrowed := true }
def TopRecalcitrantUptoSaid : Prop := topRecalcitrantUptoRow.holds Try.pinned (OpenSpec.upto topRecalcitrantSpec)

/-- 'wittingtop.TopNearest', WHERE WHAT IT READS IS OF BULK AT MOST 1048576: true; the input reads as it did. -/
def topNearestUptoRow : OpenClaim := { program := "ytnilfpcipclagaa", sum := "1a78eadb82adc52d704366ddccca92b9956e76e443dc18be683ced14ee947198", func := "witting/wittingtop.TopNearest", spec := "topNearest", unfollowed := true, recurses := true, apart := false, narrowed := true }
def TopNearestUptoSaid : Prop := topNearestUptoRow.holds Try.pinned (OpenSpec.upto topNearestSpec)

end Rows
end Go.Proofs.Ytnilfpcipclagaa
