/-
  NARROWER THAN 'FOR EVERY INPUT', by the rows' own cells (each row's printed sentence says how): PostulatesRevision: laid · PostulatesWitness: laid · PostulatesUpdate: laid · PostulatesMinima: laid · PostulatesTables: laid · PostulatesRanks: laid · PostulatesRecover: laid.
  DERIVED. THE GIVEN ROWS OF THIS SEAT. 7 by the template 'for every input the law returns true; each argument reads behind the call as it read before'; 0 by the template 'total and deterministic' (their statements: YtflhngmfcpeamaaDoorTotals.lean).
  GIVEN WITH THE SEED: the statements are not yours to turn. If you find one false, say at which input.
  Laid BY PROGRAM, IN A SANDBOX (cutbox-rows.mjs): the forced cells as the released guide's own fill.sh prints them over the translation 299abc94bca62caa… (all of the seat's roots in one cut). By AI agents, Wed Nov 11 2026. No macro, syntax, notation, axiom, sorry.
-/
import Derived.Test.YtflhngmfcpeamaaDoorChecked
import GoSem.Claim
import GoSem.ClaimJoined
import GoSem.ClaimMapViews
import Derived.JoinedTies
import Derived.KernelRfl
namespace Go.Proofs.YtflhngmfcpeamaaDoor
/- THE CELL 'sum', in the pinned program and in every row, IS THE sha256 OF THE DUMP (.gsa) THAT YtflhngmfcpeamaaDoorProg.lean LOADS. Nothing in Lean hashes anything: it is a label: what it is worth is what the hold of that sum in a sandbox is worth. -/
noncomputable def Tryd.pinned : Pinned := { name := "ytflhngmfcpeamaadoor", sum := "299abc94bca62caa85279319b88f833e35b8025fecc3ebcbfd2c936f2b454dcd", checked := Tryd.checked }
namespace Rows
def none {H : Type} : Left H := { results := [], args := [] }

/- WHAT THE LISTED PACKAGE-LEVEL VARIABLES READ AS WHEN THE CALL BEGINS. Each datum BY PROGRAM (the guide's laid-datum.mjs) off the statement by which the dump's own 'gosem.cut.vars' lays the variable. In a bare row this is a premise. The card (YtflhngmfcpeamaaDoorCards.lean) ties it to the program's text. -/
def laid_witting_postulates_revision {H : Type} : DataW H := .iface "func table" (.slice [.agg [.lit (.bool false), .iface "func" (.lit (.string [119, 105, 116, 116, 105, 110, 103, 47, 112, 111, 115, 116, 117, 108, 97, 116, 101, 115, 46, 114, 101, 118, 105, 115, 105, 111, 110, 36, 49]))], .agg [.lit (.bool false), .iface "func" (.lit (.string [119, 105, 116, 116, 105, 110, 103, 47, 112, 111, 115, 116, 117, 108, 97, 116, 101, 115, 46, 114, 101, 118, 105, 115, 105, 111, 110, 36, 50]))], .agg [.lit (.bool false), .iface "func" (.lit (.string [119, 105, 116, 116, 105, 110, 103, 47, 112, 111, 115, 116, 117, 108, 97, 116, 101, 115, 46, 114, 101, 118, 105, 115, 105, 111, 110, 36, 51]))], .agg [.lit (.bool false), .iface "func" (.lit (.string [119, 105, 116, 116, 105, 110, 103, 47, 112, 111, 115, 116, 117, 108, 97, 116, 101, 115, 46, 114, 101, 118, 105, 115, 105, 111, 110, 36, 52]))], .agg [.lit (.bool true), .iface "func" (.lit (.string [119, 105, 116, 116, 105, 110, 103, 47, 112, 111, 115, 116, 117, 108, 97, 116, 101, 115, 46, 114, 101, 118, 105, 115, 105, 111, 110, 36, 53]))], .agg [.lit (.bool true), .iface "func" (.lit (.string [119, 105, 116, 116, 105, 110, 103, 47, 112, 111, 115, 116, 117, 108, 97, 116, 101, 115, 46, 114, 101, 118, 105, 115, 105, 111, 110, 36, 54]))]] [])
def laid_witting_postulates_update {H : Type} : DataW H := .iface "func table" (.slice [.iface "func" (.lit (.string [119, 105, 116, 116, 105, 110, 103, 47, 112, 111, 115, 116, 117, 108, 97, 116, 101, 115, 46, 117, 112, 100, 97, 116, 101, 36, 49])), .iface "func" (.lit (.string [119, 105, 116, 116, 105, 110, 103, 47, 112, 111, 115, 116, 117, 108, 97, 116, 101, 115, 46, 117, 112, 100, 97, 116, 101, 36, 50])), .iface "func" (.lit (.string [119, 105, 116, 116, 105, 110, 103, 47, 112, 111, 115, 116, 117, 108, 97, 116, 101, 115, 46, 117, 112, 100, 97, 116, 101, 36, 51])), .iface "func" (.lit (.string [119, 105, 116, 116, 105, 110, 103, 47, 112, 111, 115, 116, 117, 108, 97, 116, 101, 115, 46, 117, 112, 100, 97, 116, 101, 36, 52])), .iface "func" (.lit (.string [119, 105, 116, 116, 105, 110, 103, 47, 112, 111, 115, 116, 117, 108, 97, 116, 101, 115, 46, 117, 112, 100, 97, 116, 101, 36, 53])), .iface "func" (.lit (.string [119, 105, 116, 116, 105, 110, 103, 47, 112, 111, 115, 116, 117, 108, 97, 116, 101, 115, 46, 117, 112, 100, 97, 116, 101, 36, 54])), .iface "func" (.lit (.string [119, 105, 116, 116, 105, 110, 103, 47, 112, 111, 115, 116, 117, 108, 97, 116, 101, 115, 46, 117, 112, 100, 97, 116, 101, 36, 55])), .iface "func" (.lit (.string [119, 105, 116, 116, 105, 110, 103, 47, 112, 111, 115, 116, 117, 108, 97, 116, 101, 115, 46, 117, 112, 100, 97, 116, 101, 36, 56]))] [])

/-- 'wittinglaw43.PostulatesRevision': WHATEVER THE INPUT: true; the input reads as it did. -/
def postulatesRevisionSpec : ChangeSpec := { name := "postulatesRevision", fn := fun _ => fun
  | [d1, d2, d3] => { results := [.lit (.bool true)], args := [d1, d2, d3] }
  | _ => none }
def postulatesRevisionRow : OpenClaim := { program := "ytflhngmfcpeamaadoor", sum := "299abc94bca62caa85279319b88f833e35b8025fecc3ebcbfd2c936f2b454dcd", func := "witting/wittinglaw43.PostulatesRevision", spec := "postulatesRevision", unfollowed := true, recurses := true, named := ["witting/postulates.revision", "witting/postulates.update"], apart := false, laid := [("witting/postulates.revision", laid_witting_postulates_revision), ("witting/postulates.update", laid_witting_postulates_update)] }
def PostulatesRevisionSaid : Prop := postulatesRevisionRow.holds Tryd.pinned (OpenSpec.ofChange postulatesRevisionSpec)

/-- ITS FALSE NEIGHBOUR: 'it returns false'. Refute it at one input. -/
def postulatesRevisionWrong : ChangeSpec := { name := "postulatesRevision", fn := fun _ => fun
  | [d1, d2, d3] => { results := [.lit (.bool false)], args := [d1, d2, d3] }
  | _ => none }
def PostulatesRevisionWrongFalsely : Prop := postulatesRevisionRow.holds Tryd.pinned (OpenSpec.ofChange postulatesRevisionWrong)

/-- 'wittinglaw43.PostulatesWitness': WHATEVER THE INPUT: true; the input reads as it did. -/
def postulatesWitnessSpec : ChangeSpec := { name := "postulatesWitness", fn := fun _ => fun
  | [d1, d2, d3] => { results := [.lit (.bool true)], args := [d1, d2, d3] }
  | _ => none }
def postulatesWitnessRow : OpenClaim := { program := "ytflhngmfcpeamaadoor", sum := "299abc94bca62caa85279319b88f833e35b8025fecc3ebcbfd2c936f2b454dcd", func := "witting/wittinglaw43.PostulatesWitness", spec := "postulatesWitness", unfollowed := true, recurses := true, named := ["witting/postulates.revision", "witting/postulates.update"], apart := false, laid := [("witting/postulates.revision", laid_witting_postulates_revision), ("witting/postulates.update", laid_witting_postulates_update)] }
def PostulatesWitnessSaid : Prop := postulatesWitnessRow.holds Tryd.pinned (OpenSpec.ofChange postulatesWitnessSpec)

/-- ITS FALSE NEIGHBOUR: 'it returns false'. Refute it at one input. -/
def postulatesWitnessWrong : ChangeSpec := { name := "postulatesWitness", fn := fun _ => fun
  | [d1, d2, d3] => { results := [.lit (.bool false)], args := [d1, d2, d3] }
  | _ => none }
def PostulatesWitnessWrongFalsely : Prop := postulatesWitnessRow.holds Tryd.pinned (OpenSpec.ofChange postulatesWitnessWrong)

/-- 'wittinglaw43.PostulatesUpdate': WHATEVER THE INPUT: true; the input reads as it did. -/
def postulatesUpdateSpec : ChangeSpec := { name := "postulatesUpdate", fn := fun _ => fun
  | [d1, d2] => { results := [.lit (.bool true)], args := [d1, d2] }
  | _ => none }
def postulatesUpdateRow : OpenClaim := { program := "ytflhngmfcpeamaadoor", sum := "299abc94bca62caa85279319b88f833e35b8025fecc3ebcbfd2c936f2b454dcd", func := "witting/wittinglaw43.PostulatesUpdate", spec := "postulatesUpdate", unfollowed := true, recurses := true, named := ["witting/postulates.revision", "witting/postulates.update"], apart := false, laid := [("witting/postulates.revision", laid_witting_postulates_revision), ("witting/postulates.update", laid_witting_postulates_update)] }
def PostulatesUpdateSaid : Prop := postulatesUpdateRow.holds Tryd.pinned (OpenSpec.ofChange postulatesUpdateSpec)

/-- ITS FALSE NEIGHBOUR: 'it returns false'. Refute it at one input. -/
def postulatesUpdateWrong : ChangeSpec := { name := "postulatesUpdate", fn := fun _ => fun
  | [d1, d2] => { results := [.lit (.bool false)], args := [d1, d2] }
  | _ => none }
def PostulatesUpdateWrongFalsely : Prop := postulatesUpdateRow.holds Tryd.pinned (OpenSpec.ofChange postulatesUpdateWrong)

/-- 'wittinglaw43.PostulatesMinima': WHATEVER THE INPUT: true; the input reads as it did. -/
def postulatesMinimaSpec : ChangeSpec := { name := "postulatesMinima", fn := fun _ => fun
  | [d] => { results := [.lit (.bool true)], args := [d] }
  | _ => none }
def postulatesMinimaRow : OpenClaim := { program := "ytflhngmfcpeamaadoor", sum := "299abc94bca62caa85279319b88f833e35b8025fecc3ebcbfd2c936f2b454dcd", func := "witting/wittinglaw43.PostulatesMinima", spec := "postulatesMinima", unfollowed := true, recurses := true, named := ["witting/postulates.revision", "witting/postulates.update"], apart := false, laid := [("witting/postulates.revision", laid_witting_postulates_revision), ("witting/postulates.update", laid_witting_postulates_update)] }
def PostulatesMinimaSaid : Prop := postulatesMinimaRow.holds Tryd.pinned (OpenSpec.ofChange postulatesMinimaSpec)

/-- ITS FALSE NEIGHBOUR: 'it returns false'. Refute it at one input. -/
def postulatesMinimaWrong : ChangeSpec := { name := "postulatesMinima", fn := fun _ => fun
  | [d] => { results := [.lit (.bool false)], args := [d] }
  | _ => none }
def PostulatesMinimaWrongFalsely : Prop := postulatesMinimaRow.holds Tryd.pinned (OpenSpec.ofChange postulatesMinimaWrong)

/-- 'wittinglaw43.PostulatesTables': WHATEVER THE INPUT: true; the input reads as it did. -/
def postulatesTablesSpec : ChangeSpec := { name := "postulatesTables", fn := fun _ => fun
  | [d1, d2, d3] => { results := [.lit (.bool true)], args := [d1, d2, d3] }
  | _ => none }
def postulatesTablesRow : OpenClaim := { program := "ytflhngmfcpeamaadoor", sum := "299abc94bca62caa85279319b88f833e35b8025fecc3ebcbfd2c936f2b454dcd", func := "witting/wittinglaw43.PostulatesTables", spec := "postulatesTables", unfollowed := true, recurses := true, named := ["witting/postulates.revision", "witting/postulates.update"], apart := false, laid := [("witting/postulates.revision", laid_witting_postulates_revision), ("witting/postulates.update", laid_witting_postulates_update)] }
def PostulatesTablesSaid : Prop := postulatesTablesRow.holds Tryd.pinned (OpenSpec.ofChange postulatesTablesSpec)

/-- ITS FALSE NEIGHBOUR: 'it returns false'. Refute it at one input. -/
def postulatesTablesWrong : ChangeSpec := { name := "postulatesTables", fn := fun _ => fun
  | [d1, d2, d3] => { results := [.lit (.bool false)], args := [d1, d2, d3] }
  | _ => none }
def PostulatesTablesWrongFalsely : Prop := postulatesTablesRow.holds Tryd.pinned (OpenSpec.ofChange postulatesTablesWrong)

/-- 'wittinglaw43.PostulatesRanks': WHATEVER THE INPUT: true; the input reads as it did. -/
def postulatesRanksSpec : ChangeSpec := { name := "postulatesRanks", fn := fun _ => fun
  | [d1, d2] => { results := [.lit (.bool true)], args := [d1, d2] }
  | _ => none }
def postulatesRanksRow : OpenClaim := { program := "ytflhngmfcpeamaadoor", sum := "299abc94bca62caa85279319b88f833e35b8025fecc3ebcbfd2c936f2b454dcd", func := "witting/wittinglaw43.PostulatesRanks", spec := "postulatesRanks", unfollowed := true, recurses := true, named := ["witting/postulates.revision", "witting/postulates.update"], apart := false, laid := [("witting/postulates.revision", laid_witting_postulates_revision), ("witting/postulates.update", laid_witting_postulates_update)] }
def PostulatesRanksSaid : Prop := postulatesRanksRow.holds Tryd.pinned (OpenSpec.ofChange postulatesRanksSpec)

/-- ITS FALSE NEIGHBOUR: 'it returns false'. Refute it at one input. -/
def postulatesRanksWrong : ChangeSpec := { name := "postulatesRanks", fn := fun _ => fun
  | [d1, d2] => { results := [.lit (.bool false)], args := [d1, d2] }
  | _ => none }
def PostulatesRanksWrongFalsely : Prop := postulatesRanksRow.holds Tryd.pinned (OpenSpec.ofChange postulatesRanksWrong)

/-- 'wittinglaw43.PostulatesRecover': WHATEVER THE INPUT: true; the input reads as it did. -/
def postulatesRecoverSpec : ChangeSpec := { name := "postulatesRecover", fn := fun _ => fun
  | [d1, d2, d3] => { results := [.lit (.bool true)], args := [d1, d2, d3] }
  | _ => none }
def postulatesRecoverRow : OpenClaim := { program := "ytflhngmfcpeamaadoor", sum := "299abc94bca62caa85279319b88f833e35b8025fecc3ebcbfd2c936f2b454dcd", func := "witting/wittinglaw43.PostulatesRecover", spec := "postulatesRecover", unfollowed := true, recurses := true, named := ["witting/postulates.revision", "witting/postulates.update"], apart := false, laid := [("witting/postulates.revision", laid_witting_postulates_revision), ("witting/postulates.update", laid_witting_postulates_update)] }
def PostulatesRecoverSaid : Prop := postulatesRecoverRow.holds Tryd.pinned (OpenSpec.ofChange postulatesRecoverSpec)

/-- ITS FALSE NEIGHBOUR: 'it returns false'. Refute it at one input. -/
def postulatesRecoverWrong : ChangeSpec := { name := "postulatesRecover", fn := fun _ => fun
  | [d1, d2, d3] => { results := [.lit (.bool false)], args := [d1, d2, d3] }
  | _ => none }
def PostulatesRecoverWrongFalsely : Prop := postulatesRecoverRow.holds Tryd.pinned (OpenSpec.ofChange postulatesRecoverWrong)

/- THE SECOND FORM. 'bulk': how many values and letters a reading holds, each counted each time it is reached (what is shared counts as often as it is met; a slice's spare places count too). A statement '..UptoSaid' is the law's where the arguments, and the package variables that the reading takes, are together of bulk at most 1048576: NARROWER than '..Said'. Prove '..Said' where nothing that the law and all that it calls make is longer than what came in: it says more and counts as full. Else prove '..UptoSaid'. A law counts once. -/
mutual
def uptoBulk {H : Type} : DataW H → Nat
  | .lit (.string bytes) => bytes.length + 1
  | .lit _ => 1
  | .nil => 1
  | .ptr d => uptoBulk d + 1
  | .slice elems spare => uptoBulkAll elems + uptoBulkAll spare + 1
  | .agg parts => uptoBulkAll parts + 1
  | .iface _ d => uptoBulk d + 1
  | .map entries => uptoBulkEntries entries + 1
  | .held _ => 1
def uptoBulkAll {H : Type} : List (DataW H) → Nat
  | [] => 0
  | d :: r => uptoBulk d + uptoBulkAll r
def uptoBulkEntries {H : Type} : List (Lit × DataW H) → Nat
  | [] => 0
  | x :: r => uptoBulkEntry x + uptoBulkEntries r
def uptoBulkEntry {H : Type} : Lit × DataW H → Nat
  | (.string bytes, d) => bytes.length + uptoBulk d + 1
  | (_, d) => uptoBulk d + 1
 end
def uptoSmall : (H : Type) → List (DataW H) → Bool := fun _ ds => decide (uptoBulkAll ds ≤ 1048576)
def OpenSpec.upto (s : _root_.Go.ChangeSpec) : _root_.Go.OpenSpec := { _root_.Go.OpenSpec.ofChange s with cond := some uptoSmall }

/-- 'wittinglaw43.PostulatesRevision', WHERE WHAT IT READS IS OF BULK AT MOST 1048576: true; the input reads as it did. -/
def postulatesRevisionUptoRow : OpenClaim := { program := "ytflhngmfcpeamaadoor", sum := "299abc94bca62caa85279319b88f833e35b8025fecc3ebcbfd2c936f2b454dcd", func := "witting/wittinglaw43.PostulatesRevision", spec := "postulatesRevision", unfollowed := true, recurses := true, named := ["witting/postulates.revision", "witting/postulates.update"], apart := false, laid := [("witting/postulates.revision", laid_witting_postulates_revision), ("witting/postulates.update", laid_witting_postulates_update)], narrowed := true }
def PostulatesRevisionUptoSaid : Prop := postulatesRevisionUptoRow.holds Tryd.pinned (OpenSpec.upto postulatesRevisionSpec)

/-- 'wittinglaw43.PostulatesWitness', WHERE WHAT IT READS IS OF BULK AT MOST 1048576: true; the input reads as it did. -/
def postulatesWitnessUptoRow : OpenClaim := { program := "ytflhngmfcpeamaadoor", sum := "299abc94bca62caa85279319b88f833e35b8025fecc3ebcbfd2c936f2b454dcd", func := "witting/wittinglaw43.PostulatesWitness", spec := "postulatesWitness", unfollowed := true, recurses := true, named := ["witting/postulates.revision", "witting/postulates.update"], apart := false, laid := [("witting/postulates.revision", laid_witting_postulates_revision), ("witting/postulates.update", laid_witting_postulates_update)], narrowed := true }
def PostulatesWitnessUptoSaid : Prop := postulatesWitnessUptoRow.holds Tryd.pinned (OpenSpec.upto postulatesWitnessSpec)

/-- 'wittinglaw43.PostulatesUpdate', WHERE WHAT IT READS IS OF BULK AT MOST 1048576: true; the input reads as it did. -/
def postulatesUpdateUptoRow : OpenClaim := { program := "ytflhngmfcpeamaadoor", sum := "299abc94bca62caa85279319b88f833e35b8025fecc3ebcbfd2c936f2b454dcd", func := "witting/wittinglaw43.PostulatesUpdate", spec := "postulatesUpdate", unfollowed := true, recurses := true, named := ["witting/postulates.revision", "witting/postulates.update"], apart := false, laid := [("witting/postulates.revision", laid_witting_postulates_revision), ("witting/postulates.update", laid_witting_postulates_update)], narrowed := true }
def PostulatesUpdateUptoSaid : Prop := postulatesUpdateUptoRow.holds Tryd.pinned (OpenSpec.upto postulatesUpdateSpec)

/-- 'wittinglaw43.PostulatesMinima', WHERE WHAT IT READS IS OF BULK AT MOST 1048576: true; the input reads as it did. -/
def postulatesMinimaUptoRow : OpenClaim := { program := "ytflhngmfcpeamaadoor", sum := "299abc94bca62caa85279319b88f833e35b8025fecc3ebcbfd2c936f2b454dcd", func := "witting/wittinglaw43.PostulatesMinima", spec := "postulatesMinima", unfollowed := true, recurses := true, named := ["witting/postulates.revision", "witting/postulates.update"], apart := false, laid := [("witting/postulates.revision", laid_witting_postulates_revision), ("witting/postulates.update", laid_witting_postulates_update)], narrowed := true }
def PostulatesMinimaUptoSaid : Prop := postulatesMinimaUptoRow.holds Tryd.pinned (OpenSpec.upto postulatesMinimaSpec)

/-- 'wittinglaw43.PostulatesTables', WHERE WHAT IT READS IS OF BULK AT MOST 1048576: true; the input reads as it did. -/
def postulatesTablesUptoRow : OpenClaim := { program := "ytflhngmfcpeamaadoor", sum := "299abc94bca62caa85279319b88f833e35b8025fecc3ebcbfd2c936f2b454dcd", func := "witting/wittinglaw43.PostulatesTables", spec := "postulatesTables", unfollowed := true, recurses := true, named := ["witting/postulates.revision", "witting/postulates.update"], apart := false, laid := [("witting/postulates.revision", laid_witting_postulates_revision), ("witting/postulates.update", laid_witting_postulates_update)], narrowed := true }
def PostulatesTablesUptoSaid : Prop := postulatesTablesUptoRow.holds Tryd.pinned (OpenSpec.upto postulatesTablesSpec)

/-- 'wittinglaw43.PostulatesRanks', WHERE WHAT IT READS IS OF BULK AT MOST 1048576: true; the input reads as it did. -/
def postulatesRanksUptoRow : OpenClaim := { program := "ytflhngmfcpeamaadoor", sum := "299abc94bca62caa85279319b88f833e35b8025fecc3ebcbfd2c936f2b454dcd", func := "witting/wittinglaw43.PostulatesRanks", spec := "postulatesRanks", unfollowed := true, recurses := true, named := ["witting/postulates.revision", "witting/postulates.update"], apart := false, laid := [("witting/postulates.revision", laid_witting_postulates_revision), ("witting/postulates.update", laid_witting_postulates_update)], narrowed := true }
def PostulatesRanksUptoSaid : Prop := postulatesRanksUptoRow.holds Tryd.pinned (OpenSpec.upto postulatesRanksSpec)

/-- 'wittinglaw43.PostulatesRecover', WHERE WHAT IT READS IS OF BULK AT MOST 1048576: true; the input reads as it did. -/
def postulatesRecoverUptoRow : OpenClaim := { program := "ytflhngmfcpeamaadoor", sum := "299abc94bca62caa85279319b88f833e35b8025fecc3ebcbfd2c936f2b454dcd", func := "witting/wittinglaw43.PostulatesRecover", spec := "postulatesRecover", unfollowed := true, recurses := true, named := ["witting/postulates.revision", "witting/postulates.update"], apart := false, laid := [("witting/postulates.revision", laid_witting_postulates_revision), ("witting/postulates.update", laid_witting_postulates_update)], narrowed := true }
def PostulatesRecoverUptoSaid : Prop := postulatesRecoverUptoRow.holds Tryd.pinned (OpenSpec.upto postulatesRecoverSpec)

end Rows
end Go.Proofs.YtflhngmfcpeamaaDoor
