/-
  NARROWER THAN 'FOR EVERY INPUT', by the rows' own cells (each row's printed sentence says how): TopAgm: laid.
  DERIVED. THE GIVEN ROWS OF THIS SEAT. 1 by the template 'for every input the law returns true; each argument reads behind the call as it read before'; 0 by the template 'total and deterministic' (their statements: YtlcojpopngdigaaDoorTotals.lean).
  GIVEN WITH THE SEED: the statements are not yours to turn. If you find one false, say at which input.
  Laid BY PROGRAM, IN A SANDBOX (cutbox-rows.mjs): the forced cells as the released guide's own fill.sh prints them over the translation 1cc753f020dc35a1… (all of the seat's roots in one cut). By AI agents, Wed Nov 11 2026. No macro, syntax, notation, axiom, sorry.
-/
import Derived.Test.YtlcojpopngdigaaDoorChecked
import GoSem.Claim
import GoSem.ClaimJoined
import GoSem.ClaimMapViews
import Derived.JoinedTies
import Derived.KernelRfl
namespace Go.Proofs.YtlcojpopngdigaaDoor
/- THE CELL 'sum', in the pinned program and in every row, IS THE sha256 OF THE DUMP (.gsa) THAT YtlcojpopngdigaaDoorProg.lean LOADS. Nothing in Lean hashes anything: it is a label: what it is worth is what the hold of that sum in a sandbox is worth. -/
noncomputable def Tryd.pinned : Pinned := { name := "ytlcojpopngdigaadoor", sum := "1cc753f020dc35a186c870b5f7bd5d3bf68723bb025704b137adca42a6eca160", checked := Tryd.checked }
namespace Rows
def none {H : Type} : Left H := { results := [], args := [] }

/- WHAT THE LISTED PACKAGE-LEVEL VARIABLES READ AS WHEN THE CALL BEGINS. Each datum BY PROGRAM (the guide's laid-datum.mjs) off the statement by which the dump's own 'gosem.cut.vars' lays the variable. In a bare row this is a premise. The card (YtlcojpopngdigaaDoorCards.lean) ties it to the program's text. -/
def laid_witting_postulates_revision {H : Type} : DataW H := .iface "func table" (.slice [.agg [.lit (.bool false), .iface "func" (.lit (.string [119, 105, 116, 116, 105, 110, 103, 47, 112, 111, 115, 116, 117, 108, 97, 116, 101, 115, 46, 114, 101, 118, 105, 115, 105, 111, 110, 36, 49]))], .agg [.lit (.bool false), .iface "func" (.lit (.string [119, 105, 116, 116, 105, 110, 103, 47, 112, 111, 115, 116, 117, 108, 97, 116, 101, 115, 46, 114, 101, 118, 105, 115, 105, 111, 110, 36, 50]))], .agg [.lit (.bool false), .iface "func" (.lit (.string [119, 105, 116, 116, 105, 110, 103, 47, 112, 111, 115, 116, 117, 108, 97, 116, 101, 115, 46, 114, 101, 118, 105, 115, 105, 111, 110, 36, 51]))], .agg [.lit (.bool false), .iface "func" (.lit (.string [119, 105, 116, 116, 105, 110, 103, 47, 112, 111, 115, 116, 117, 108, 97, 116, 101, 115, 46, 114, 101, 118, 105, 115, 105, 111, 110, 36, 52]))], .agg [.lit (.bool true), .iface "func" (.lit (.string [119, 105, 116, 116, 105, 110, 103, 47, 112, 111, 115, 116, 117, 108, 97, 116, 101, 115, 46, 114, 101, 118, 105, 115, 105, 111, 110, 36, 53]))], .agg [.lit (.bool true), .iface "func" (.lit (.string [119, 105, 116, 116, 105, 110, 103, 47, 112, 111, 115, 116, 117, 108, 97, 116, 101, 115, 46, 114, 101, 118, 105, 115, 105, 111, 110, 36, 54]))]] [])

/-- 'wittingtop.TopAgm': WHATEVER THE INPUT: true; the input reads as it did. -/
def topAgmSpec : ChangeSpec := { name := "topAgm", fn := fun _ => fun
  | [d1, d2] => { results := [.lit (.bool true)], args := [d1, d2] }
  | _ => none }
def topAgmRow : OpenClaim := { program := "ytlcojpopngdigaadoor", sum := "1cc753f020dc35a186c870b5f7bd5d3bf68723bb025704b137adca42a6eca160", func := "witting/wittingtop.TopAgm", spec := "topAgm", unfollowed := true, recurses := true, named := ["witting/postulates.revision"], apart := false, laid := [("witting/postulates.revision", laid_witting_postulates_revision)] }
def TopAgmSaid : Prop := topAgmRow.holds Tryd.pinned (OpenSpec.ofChange topAgmSpec)

/-- ITS FALSE NEIGHBOUR: 'it returns false'. Refute it at one input. -/
def topAgmWrong : ChangeSpec := { name := "topAgm", fn := fun _ => fun
  | [d1, d2] => { results := [.lit (.bool false)], args := [d1, d2] }
  | _ => none }
def TopAgmWrongFalsely : Prop := topAgmRow.holds Tryd.pinned (OpenSpec.ofChange topAgmWrong)

/- THE SECOND FORM. 'bulk': how many values and letters a reading holds, each counted each time it is reached (what is shared counts as often as it is met; a slice's spare places count too). A statement '..UptoSaid' is the law's where the arguments, and the package variables that the reading takes, are together of bulk at most 1048576: NARROWER than '..Said'. Prove '..Said' where nothing that the law and all that it calls make is longer than what came in: it says more and counts as full. Else prove '..UptoSaid'. A law counts once. -/
mutual
def uptoBulk {H : Type} : DataW H → Nat
  | .lit (.string bytes) => bytes.length + 1
  | .lit _ => 1
  | .nil => 1
  | .ptr d => uptoBulk d + 1
  | .slice elems spare => uptoBulkAll elems + uptoBulkAll spare + 1
  | .agg parts => uptoBulkAll parts + 1
  | .iface _ d => uptoBulk d + 1
  | .map entries => uptoBulkEntries entries + 1
  | .held _ => 1
def uptoBulkAll {H : Type} : List (DataW H) → Nat
  | [] => 0
  | d :: r => uptoBulk d + uptoBulkAll r
def uptoBulkEntries {H : Type} : List (Lit × DataW H) → Nat
  | [] => 0
  | x :: r => uptoBulkEntry x + uptoBulkEntries r
def uptoBulkEntry {H : Type} : Lit × DataW H → Nat
  | (.string bytes, d) => bytes.length + uptoBulk d + 1
  | (_, d) => uptoBulk d + 1
 end
def uptoSmall : (H : Type) → List (DataW H) → Bool := fun _ ds => decide (uptoBulkAll ds ≤ 1048576)
def OpenSpec.upto (s : _root_.Go.ChangeSpec) : _root_.Go.OpenSpec := { _root_.Go.OpenSpec.ofChange s with cond := some uptoSmall }

/-- 'wittingtop.TopAgm', WHERE WHAT IT READS IS OF BULK AT MOST 1048576: true; the input reads as it did. -/
def topAgmUptoRow : OpenClaim := { program := "ytlcojpopngdigaadoor", sum := "1cc753f020dc35a186c870b5f7bd5d3bf68723bb025704b137adca42a6eca160", func := "witting/wittingtop.TopAgm", spec := "topAgm", unfollowed := true, recurses := true, named := ["witting/postulates.revision"], apart := false, laid := [("witting/postulates.revision", laid_witting_postulates_revision)], narrowed := true }
def TopAgmUptoSaid : Prop := topAgmUptoRow.holds Tryd.pinned (OpenSpec.upto topAgmSpec)

end Rows
end Go.Proofs.YtlcojpopngdigaaDoor
