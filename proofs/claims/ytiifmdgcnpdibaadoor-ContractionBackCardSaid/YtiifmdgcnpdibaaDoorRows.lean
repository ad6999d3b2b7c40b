/-
  NARROWER THAN 'FOR EVERY INPUT', by the rows' own cells (each row's printed sentence says how): ContractionResults: laid · ContractionChoices: laid · ContractionRanks: laid · ContractionPostulates: laid · ContractionSatisfies: laid · ContractionRepresents: laid · ContractionIdentities: laid · ContractionBack: laid.
  DERIVED. THE GIVEN ROWS OF THIS SEAT. 8 by the template 'for every input the law returns true; each argument reads behind the call as it read before'; 0 by the template 'total and deterministic' (their statements: YtiifmdgcnpdibaaDoorTotals.lean).
  GIVEN WITH THE SEED: the statements are not yours to turn. If you find one false, say at which input.
  Laid BY PROGRAM, IN A SANDBOX (cutbox-rows.mjs): the forced cells as the released guide's own fill.sh prints them over the translation 5505093e5697796c… (all of the seat's roots in one cut). By AI agents, Wed Nov 11 2026. No macro, syntax, notation, axiom, sorry.
-/
import Derived.Test.YtiifmdgcnpdibaaDoorChecked
import GoSem.Claim
import GoSem.ClaimJoined
import GoSem.ClaimMapViews
import Derived.JoinedTies
import Derived.KernelRfl
namespace Go.Proofs.YtiifmdgcnpdibaaDoor
/- THE CELL 'sum', in the pinned program and in every row, IS THE sha256 OF THE DUMP (.gsa) THAT YtiifmdgcnpdibaaDoorProg.lean LOADS. Nothing in Lean hashes anything: it is a label: what it is worth is what the hold of that sum in a sandbox is worth. -/
noncomputable def Tryd.pinned : Pinned := { name := "ytiifmdgcnpdibaadoor", sum := "5505093e5697796ce5ab3c9a54d8f4bc7b26cc5e0cd565c0123b8bb4d365629e", checked := Tryd.checked }
namespace Rows
def none {H : Type} : Left H := { results := [], args := [] }

/- WHAT THE LISTED PACKAGE-LEVEL VARIABLES READ AS WHEN THE CALL BEGINS. Each datum BY PROGRAM (the guide's laid-datum.mjs) off the statement by which the dump's own 'gosem.cut.vars' lays the variable. In a bare row this is a premise. The card (YtiifmdgcnpdibaaDoorCards.lean) ties it to the program's text. -/
def laid_witting_contraction_postulates {H : Type} : DataW H := .iface "func table" (.map [(.int .i64 1, .agg [.iface "func" (.lit (.string [119, 105, 116, 116, 105, 110, 103, 47, 99, 111, 110, 116, 114, 97, 99, 116, 105, 111, 110, 46, 112, 111, 115, 116, 117, 108, 97, 116, 101, 115, 36, 49])), .lit (.bool false)]), (.int .i64 2, .agg [.iface "func" (.lit (.string [119, 105, 116, 116, 105, 110, 103, 47, 99, 111, 110, 116, 114, 97, 99, 116, 105, 111, 110, 46, 112, 111, 115, 116, 117, 108, 97, 116, 101, 115, 36, 50])), .lit (.bool false)]), (.int .i64 3, .agg [.iface "func" (.lit (.string [119, 105, 116, 116, 105, 110, 103, 47, 99, 111, 110, 116, 114, 97, 99, 116, 105, 111, 110, 46, 112, 111, 115, 116, 117, 108, 97, 116, 101, 115, 36, 51])), .lit (.bool false)]), (.int .i64 4, .agg [.iface "func" (.lit (.string [119, 105, 116, 116, 105, 110, 103, 47, 99, 111, 110, 116, 114, 97, 99, 116, 105, 111, 110, 46, 112, 111, 115, 116, 117, 108, 97, 116, 101, 115, 36, 52])), .lit (.bool false)]), (.int .i64 5, .agg [.iface "func" (.lit (.string [119, 105, 116, 116, 105, 110, 103, 47, 99, 111, 110, 116, 114, 97, 99, 116, 105, 111, 110, 46, 112, 111, 115, 116, 117, 108, 97, 116, 101, 115, 36, 53])), .lit (.bool true)]), (.int .i64 6, .agg [.iface "func" (.lit (.string [119, 105, 116, 116, 105, 110, 103, 47, 99, 111, 110, 116, 114, 97, 99, 116, 105, 111, 110, 46, 112, 111, 115, 116, 117, 108, 97, 116, 101, 115, 36, 54])), .lit (.bool true)])])

/-- 'wittinglaw40.ContractionResults': WHATEVER THE INPUT: true; the input reads as it did. -/
def contractionResultsSpec : ChangeSpec := { name := "contractionResults", fn := fun _ => fun
  | [d1, d2, d3] => { results := [.lit (.bool true)], args := [d1, d2, d3] }
  | _ => none }
def contractionResultsRow : OpenClaim := { program := "ytiifmdgcnpdibaadoor", sum := "5505093e5697796ce5ab3c9a54d8f4bc7b26cc5e0cd565c0123b8bb4d365629e", func := "witting/wittinglaw40.ContractionResults", spec := "contractionResults", unfollowed := true, recurses := true, named := ["witting/contraction.postulates"], apart := false, laid := [("witting/contraction.postulates", laid_witting_contraction_postulates)] }
def ContractionResultsSaid : Prop := contractionResultsRow.holds Tryd.pinned (OpenSpec.ofChange contractionResultsSpec)

/-- ITS FALSE NEIGHBOUR: 'it returns false'. Refute it at one input. -/
def contractionResultsWrong : ChangeSpec := { name := "contractionResults", fn := fun _ => fun
  | [d1, d2, d3] => { results := [.lit (.bool false)], args := [d1, d2, d3] }
  | _ => none }
def ContractionResultsWrongFalsely : Prop := contractionResultsRow.holds Tryd.pinned (OpenSpec.ofChange contractionResultsWrong)

/-- 'wittinglaw40.ContractionChoices': WHATEVER THE INPUT: true; the input reads as it did. -/
def contractionChoicesSpec : ChangeSpec := { name := "contractionChoices", fn := fun _ => fun
  | [d1, d2, d3] => { results := [.lit (.bool true)], args := [d1, d2, d3] }
  | _ => none }
def contractionChoicesRow : OpenClaim := { program := "ytiifmdgcnpdibaadoor", sum := "5505093e5697796ce5ab3c9a54d8f4bc7b26cc5e0cd565c0123b8bb4d365629e", func := "witting/wittinglaw40.ContractionChoices", spec := "contractionChoices", unfollowed := true, recurses := true, named := ["witting/contraction.postulates"], apart := false, laid := [("witting/contraction.postulates", laid_witting_contraction_postulates)] }
def ContractionChoicesSaid : Prop := contractionChoicesRow.holds Tryd.pinned (OpenSpec.ofChange contractionChoicesSpec)

/-- ITS FALSE NEIGHBOUR: 'it returns false'. Refute it at one input. -/
def contractionChoicesWrong : ChangeSpec := { name := "contractionChoices", fn := fun _ => fun
  | [d1, d2, d3] => { results := [.lit (.bool false)], args := [d1, d2, d3] }
  | _ => none }
def ContractionChoicesWrongFalsely : Prop := contractionChoicesRow.holds Tryd.pinned (OpenSpec.ofChange contractionChoicesWrong)

/-- 'wittinglaw40.ContractionRanks': WHATEVER THE INPUT: true; the input reads as it did. -/
def contractionRanksSpec : ChangeSpec := { name := "contractionRanks", fn := fun _ => fun
  | [d1, d2, d3] => { results := [.lit (.bool true)], args := [d1, d2, d3] }
  | _ => none }
def contractionRanksRow : OpenClaim := { program := "ytiifmdgcnpdibaadoor", sum := "5505093e5697796ce5ab3c9a54d8f4bc7b26cc5e0cd565c0123b8bb4d365629e", func := "witting/wittinglaw40.ContractionRanks", spec := "contractionRanks", unfollowed := true, recurses := true, named := ["witting/contraction.postulates"], apart := false, laid := [("witting/contraction.postulates", laid_witting_contraction_postulates)] }
def ContractionRanksSaid : Prop := contractionRanksRow.holds Tryd.pinned (OpenSpec.ofChange contractionRanksSpec)

/-- ITS FALSE NEIGHBOUR: 'it returns false'. Refute it at one input. -/
def contractionRanksWrong : ChangeSpec := { name := "contractionRanks", fn := fun _ => fun
  | [d1, d2, d3] => { results := [.lit (.bool false)], args := [d1, d2, d3] }
  | _ => none }
def ContractionRanksWrongFalsely : Prop := contractionRanksRow.holds Tryd.pinned (OpenSpec.ofChange contractionRanksWrong)

/-- 'wittinglaw40.ContractionPostulates': WHATEVER THE INPUT: true; the input reads as it did. -/
def contractionPostulatesSpec : ChangeSpec := { name := "contractionPostulates", fn := fun _ => fun
  | [d1, d2, d3] => { results := [.lit (.bool true)], args := [d1, d2, d3] }
  | _ => none }
def contractionPostulatesRow : OpenClaim := { program := "ytiifmdgcnpdibaadoor", sum := "5505093e5697796ce5ab3c9a54d8f4bc7b26cc5e0cd565c0123b8bb4d365629e", func := "witting/wittinglaw40.ContractionPostulates", spec := "contractionPostulates", unfollowed := true, recurses := true, named := ["witting/contraction.postulates"], apart := false, laid := [("witting/contraction.postulates", laid_witting_contraction_postulates)] }
def ContractionPostulatesSaid : Prop := contractionPostulatesRow.holds Tryd.pinned (OpenSpec.ofChange contractionPostulatesSpec)

/-- ITS FALSE NEIGHBOUR: 'it returns false'. Refute it at one input. -/
def contractionPostulatesWrong : ChangeSpec := { name := "contractionPostulates", fn := fun _ => fun
  | [d1, d2, d3] => { results := [.lit (.bool false)], args := [d1, d2, d3] }
  | _ => none }
def ContractionPostulatesWrongFalsely : Prop := contractionPostulatesRow.holds Tryd.pinned (OpenSpec.ofChange contractionPostulatesWrong)

/-- 'wittinglaw40.ContractionSatisfies': WHATEVER THE INPUT: true; the input reads as it did. -/
def contractionSatisfiesSpec : ChangeSpec := { name := "contractionSatisfies", fn := fun _ => fun
  | [d1, d2, d3] => { results := [.lit (.bool true)], args := [d1, d2, d3] }
  | _ => none }
def contractionSatisfiesRow : OpenClaim := { program := "ytiifmdgcnpdibaadoor", sum := "5505093e5697796ce5ab3c9a54d8f4bc7b26cc5e0cd565c0123b8bb4d365629e", func := "witting/wittinglaw40.ContractionSatisfies", spec := "contractionSatisfies", unfollowed := true, recurses := true, named := ["witting/contraction.postulates"], apart := false, laid := [("witting/contraction.postulates", laid_witting_contraction_postulates)] }
def ContractionSatisfiesSaid : Prop := contractionSatisfiesRow.holds Tryd.pinned (OpenSpec.ofChange contractionSatisfiesSpec)

/-- ITS FALSE NEIGHBOUR: 'it returns false'. Refute it at one input. -/
def contractionSatisfiesWrong : ChangeSpec := { name := "contractionSatisfies", fn := fun _ => fun
  | [d1, d2, d3] => { results := [.lit (.bool false)], args := [d1, d2, d3] }
  | _ => none }
def ContractionSatisfiesWrongFalsely : Prop := contractionSatisfiesRow.holds Tryd.pinned (OpenSpec.ofChange contractionSatisfiesWrong)

/-- 'wittinglaw40.ContractionRepresents': WHATEVER THE INPUT: true; the input reads as it did. -/
def contractionRepresentsSpec : ChangeSpec := { name := "contractionRepresents", fn := fun _ => fun
  | [d1, d2, d3] => { results := [.lit (.bool true)], args := [d1, d2, d3] }
  | _ => none }
def contractionRepresentsRow : OpenClaim := { program := "ytiifmdgcnpdibaadoor", sum := "5505093e5697796ce5ab3c9a54d8f4bc7b26cc5e0cd565c0123b8bb4d365629e", func := "witting/wittinglaw40.ContractionRepresents", spec := "contractionRepresents", unfollowed := true, recurses := true, named := ["witting/contraction.postulates"], apart := false, laid := [("witting/contraction.postulates", laid_witting_contraction_postulates)] }
def ContractionRepresentsSaid : Prop := contractionRepresentsRow.holds Tryd.pinned (OpenSpec.ofChange contractionRepresentsSpec)

/-- ITS FALSE NEIGHBOUR: 'it returns false'. Refute it at one input. -/
def contractionRepresentsWrong : ChangeSpec := { name := "contractionRepresents", fn := fun _ => fun
  | [d1, d2, d3] => { results := [.lit (.bool false)], args := [d1, d2, d3] }
  | _ => none }
def ContractionRepresentsWrongFalsely : Prop := contractionRepresentsRow.holds Tryd.pinned (OpenSpec.ofChange contractionRepresentsWrong)

/-- 'wittinglaw40.ContractionIdentities': WHATEVER THE INPUT: true; the input reads as it did. -/
def contractionIdentitiesSpec : ChangeSpec := { name := "contractionIdentities", fn := fun _ => fun
  | [d1, d2, d3] => { results := [.lit (.bool true)], args := [d1, d2, d3] }
  | _ => none }
def contractionIdentitiesRow : OpenClaim := { program := "ytiifmdgcnpdibaadoor", sum := "5505093e5697796ce5ab3c9a54d8f4bc7b26cc5e0cd565c0123b8bb4d365629e", func := "witting/wittinglaw40.ContractionIdentities", spec := "contractionIdentities", unfollowed := true, recurses := true, named := ["witting/contraction.postulates"], apart := false, laid := [("witting/contraction.postulates", laid_witting_contraction_postulates)] }
def ContractionIdentitiesSaid : Prop := contractionIdentitiesRow.holds Tryd.pinned (OpenSpec.ofChange contractionIdentitiesSpec)

/-- ITS FALSE NEIGHBOUR: 'it returns false'. Refute it at one input. -/
def contractionIdentitiesWrong : ChangeSpec := { name := "contractionIdentities", fn := fun _ => fun
  | [d1, d2, d3] => { results := [.lit (.bool false)], args := [d1, d2, d3] }
  | _ => none }
def ContractionIdentitiesWrongFalsely : Prop := contractionIdentitiesRow.holds Tryd.pinned (OpenSpec.ofChange contractionIdentitiesWrong)

/-- 'wittinglaw40.ContractionBack': WHATEVER THE INPUT: true; the input reads as it did. -/
def contractionBackSpec : ChangeSpec := { name := "contractionBack", fn := fun _ => fun
  | [d1, d2, d3] => { results := [.lit (.bool true)], args := [d1, d2, d3] }
  | _ => none }
def contractionBackRow : OpenClaim := { program := "ytiifmdgcnpdibaadoor", sum := "5505093e5697796ce5ab3c9a54d8f4bc7b26cc5e0cd565c0123b8bb4d365629e", func := "witting/wittinglaw40.ContractionBack", spec := "contractionBack", unfollowed := true, recurses := true, named := ["witting/contraction.postulates"], apart := false, laid := [("witting/contraction.postulates", laid_witting_contraction_postulates)] }
def ContractionBackSaid : Prop := contractionBackRow.holds Tryd.pinned (OpenSpec.ofChange contractionBackSpec)

/-- ITS FALSE NEIGHBOUR: 'it returns false'. Refute it at one input. -/
def contractionBackWrong : ChangeSpec := { name := "contractionBack", fn := fun _ => fun
  | [d1, d2, d3] => { results := [.lit (.bool false)], args := [d1, d2, d3] }
  | _ => none }
def ContractionBackWrongFalsely : Prop := contractionBackRow.holds Tryd.pinned (OpenSpec.ofChange contractionBackWrong)

/- THE SECOND FORM. 'bulk': how many values and letters a reading holds, each counted each time it is reached (what is shared counts as often as it is met; a slice's spare places count too). A statement '..UptoSaid' is the law's where the arguments, and the package variables that the reading takes, are together of bulk at most 1048576: NARROWER than '..Said'. Prove '..Said' where nothing that the law and all that it calls make is longer than what came in: it says more and counts as full. Else prove '..UptoSaid'. A law counts once. -/
mutual
def uptoBulk {H : Type} : DataW H → Nat
  | .lit (.string bytes) => bytes.length + 1
  | .lit _ => 1
  | .nil => 1
  | .ptr d => uptoBulk d + 1
  | .slice elems spare => uptoBulkAll elems + uptoBulkAll spare + 1
  | .agg parts => uptoBulkAll parts + 1
  | .iface _ d => uptoBulk d + 1
  | .map entries => uptoBulkEntries entries + 1
  | .held _ => 1
def uptoBulkAll {H : Type} : List (DataW H) → Nat
  | [] => 0
  | d :: r => uptoBulk d + uptoBulkAll r
def uptoBulkEntries {H : Type} : List (Lit × DataW H) → Nat
  | [] => 0
  | x :: r => uptoBulkEntry x + uptoBulkEntries r
def uptoBulkEntry {H : Type} : Lit × DataW H → Nat
  | (.string bytes, d) => bytes.length + uptoBulk d + 1
  | (_, d) => uptoBulk d + 1
 end
def uptoSmall : (H : Type) → List (DataW H) → Bool := fun _ ds => decide (uptoBulkAll ds ≤ 1048576)
def OpenSpec.upto (s : _root_.Go.ChangeSpec) : _root_.Go.OpenSpec := { _root_.Go.OpenSpec.ofChange s with cond := some uptoSmall }

/-- 'wittinglaw40.ContractionResults', WHERE WHAT IT READS IS OF BULK AT MOST 1048576: true; the input reads as it did. -/
def contractionResultsUptoRow : OpenClaim := { program := "ytiifmdgcnpdibaadoor", sum := "5505093e5697796ce5ab3c9a54d8f4bc7b26cc5e0cd565c0123b8bb4d365629e", func := "witting/wittinglaw40.ContractionResults", spec := "contractionResults", unfollowed := true, recurses := true, named := ["witting/contraction.postulates"], apart := false, laid := [("witting/contraction.postulates", laid_witting_contraction_postulates)], narrowed := true }
def ContractionResultsUptoSaid : Prop := contractionResultsUptoRow.holds Tryd.pinned (OpenSpec.upto contractionResultsSpec)

/-- 'wittinglaw40.ContractionChoices', WHERE WHAT IT READS IS OF BULK AT MOST 1048576: true; the input reads as it did. -/
def contractionChoicesUptoRow : OpenClaim := { program := "ytiifmdgcnpdibaadoor", sum := "5505093e5697796ce5ab3c9a54d8f4bc7b26cc5e0cd565c0123b8bb4d365629e", func := "witting/wittinglaw40.ContractionChoices", spec := "contractionChoices", unfollowed := true, recurses := true, named := ["witting/contraction.postulates"], apart := false, laid := [("witting/contraction.postulates", laid_witting_contraction_postulates)], narrowed := true }
def ContractionChoicesUptoSaid : Prop := contractionChoicesUptoRow.holds Tryd.pinned (OpenSpec.upto contractionChoicesSpec)

/-- 'wittinglaw40.ContractionRanks', WHERE WHAT IT READS IS OF BULK AT MOST 1048576: true; the input reads as it did. -/
def contractionRanksUptoRow : OpenClaim := { program := "ytiifmdgcnpdibaadoor", sum := "5505093e5697796ce5ab3c9a54d8f4bc7b26cc5e0cd565c0123b8bb4d365629e", func := "witting/wittinglaw40.ContractionRanks", spec := "contractionRanks", unfollowed := true, recurses := true, named := ["witting/contraction.postulates"], apart := false, laid := [("witting/contraction.postulates", laid_witting_contraction_postulates)], narrowed := true }
def ContractionRanksUptoSaid : Prop := contractionRanksUptoRow.holds Tryd.pinned (OpenSpec.upto contractionRanksSpec)

/-- 'wittinglaw40.ContractionPostulates', WHERE WHAT IT READS IS OF BULK AT MOST 1048576: true; the input reads as it did. -/
def contractionPostulatesUptoRow : OpenClaim := { program := "ytiifmdgcnpdibaadoor", sum := "5505093e5697796ce5ab3c9a54d8f4bc7b26cc5e0cd565c0123b8bb4d365629e", func := "witting/wittinglaw40.ContractionPostulates", spec := "contractionPostulates", unfollowed := true, recurses := true, named := ["witting/contraction.postulates"], apart := false, laid := [("witting/contraction.postulates", laid_witting_contraction_postulates)], narrowed := true }
def ContractionPostulatesUptoSaid : Prop := contractionPostulatesUptoRow.holds Tryd.pinned (OpenSpec.upto contractionPostulatesSpec)

/-- 'wittinglaw40.ContractionSatisfies', WHERE WHAT IT READS IS OF BULK AT MOST 1048576: true; the input reads as it did. -/
def contractionSatisfiesUptoRow : OpenClaim := { program := "ytiifmdgcnpdibaadoor", sum := "5505093e5697796ce5ab3c9a54d8f4bc7b26cc5e0cd565c0123b8bb4d365629e", func := "witting/wittinglaw40.ContractionSatisfies", spec := "contractionSatisfies", unfollowed := true, recurses := true, named := ["witting/contraction.postulates"], apart := false, laid := [("witting/contraction.postulates", laid_witting_contraction_postulates)], narrowed := true }
def ContractionSatisfiesUptoSaid : Prop := contractionSatisfiesUptoRow.holds Tryd.pinned (OpenSpec.upto contractionSatisfiesSpec)

/-- 'wittinglaw40.ContractionRepresents', WHERE WHAT IT READS IS OF BULK AT MOST 1048576: true; the input reads as it did. -/
def contractionRepresentsUptoRow : OpenClaim := { program := "ytiifmdgcnpdibaadoor", sum := "5505093e5697796ce5ab3c9a54d8f4bc7b26cc5e0cd565c0123b8bb4d365629e", func := "witting/wittinglaw40.ContractionRepresents", spec := "contractionRepresents", unfollowed := true, recurses := true, named := ["witting/contraction.postulates"], apart := false, laid := [("witting/contraction.postulates", laid_witting_contraction_postulates)], narrowed := true }
def ContractionRepresentsUptoSaid : Prop := contractionRepresentsUptoRow.holds Tryd.pinned (OpenSpec.upto contractionRepresentsSpec)

/-- 'wittinglaw40.ContractionIdentities', WHERE WHAT IT READS IS OF BULK AT MOST 1048576: true; the input reads as it did. -/
def contractionIdentitiesUptoRow : OpenClaim := { program := "ytiifmdgcnpdibaadoor", sum := "5505093e5697796ce5ab3c9a54d8f4bc7b26cc5e0cd565c0123b8bb4d365629e", func := "witting/wittinglaw40.ContractionIdentities", spec := "contractionIdentities", unfollowed := true, recurses := true, named := ["witting/contraction.postulates"], apart := false, laid := [("witting/contraction.postulates", laid_witting_contraction_postulates)], narrowed := true }
def ContractionIdentitiesUptoSaid : Prop := contractionIdentitiesUptoRow.holds Tryd.pinned (OpenSpec.upto contractionIdentitiesSpec)

/-- 'wittinglaw40.ContractionBack', WHERE WHAT IT READS IS OF BULK AT MOST 1048576: true; the input reads as it did. -/
def contractionBackUptoRow : OpenClaim := { program := "ytiifmdgcnpdibaadoor", sum := "5505093e5697796ce5ab3c9a54d8f4bc7b26cc5e0cd565c0123b8bb4d365629e", func := "witting/wittinglaw40.ContractionBack", spec := "contractionBack", unfollowed := true, recurses := true, named := ["witting/contraction.postulates"], apart := false, laid := [("witting/contraction.postulates", laid_witting_contraction_postulates)], narrowed := true }
def ContractionBackUptoSaid : Prop := contractionBackUptoRow.holds Tryd.pinned (OpenSpec.upto contractionBackSpec)

end Rows
end Go.Proofs.YtiifmdgcnpdibaaDoor
