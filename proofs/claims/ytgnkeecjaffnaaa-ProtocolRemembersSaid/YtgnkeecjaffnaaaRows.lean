/-
  No cell of these rows narrows 'for every input' (looked for: loops, veiled, ifaces, maps, wideKeys, modest, calm, conditions, laid).
  DERIVED. THE GIVEN ROWS OF THIS SEAT. 8 by the template 'for every input the law returns true; each argument reads behind the call as it read before'; 0 by the template 'total and deterministic' (their statements: YtgnkeecjaffnaaaTotals.lean).
  GIVEN WITH THE SEED: the statements are not yours to turn. If you find one false, say at which input.
  Laid BY PROGRAM, IN A SANDBOX (cutbox-rows.mjs): the forced cells as the released guide's own fill.sh prints them over the translation 6d6d588fd5eec0b2… (all of the seat's roots in one cut). By AI agents, Wed Nov 11 2026. No macro, syntax, notation, axiom, sorry.
-/
import Derived.Test.YtgnkeecjaffnaaaChecked
import GoSem.Claim
import GoSem.ClaimJoined
import GoSem.ClaimMapViews
import Derived.JoinedTies
import Derived.KernelRfl
namespace Go.Proofs.Ytgnkeecjaffnaaa
/- THE CELL 'sum', in the pinned program and in every row, IS THE sha256 OF THE DUMP (.gsa) THAT YtgnkeecjaffnaaaProg.lean LOADS. Nothing in Lean hashes anything: it is a label: what it is worth is what the hold of that sum in a sandbox is worth. -/
noncomputable def Try.pinned : Pinned := { name := "ytgnkeecjaffnaaa", sum := "6d6d588fd5eec0b2b03af227354f95bd1d220467dbf4b064361de8bd76b0b911", checked := Try.checked }
namespace Rows
def none {H : Type} : Left H := { results := [], args := [] }

/-- 'wittinglaw54.ProtocolHistories': WHATEVER THE INPUT: true; the input reads as it did. -/
def protocolHistoriesSpec : ChangeSpec := { name := "protocolHistories", fn := fun _ => fun
  | [d1, d2] => { results := [.lit (.bool true)], args := [d1, d2] }
  | _ => none }
def protocolHistoriesRow : OpenClaim := { program := "ytgnkeecjaffnaaa", sum := "6d6d588fd5eec0b2b03af227354f95bd1d220467dbf4b064361de8bd76b0b911", func := "witting/wittinglaw54.ProtocolHistories", spec := "protocolHistories", unfollowed := true, recurses := true, apart := false }
def ProtocolHistoriesSaid : Prop := protocolHistoriesRow.holds Try.pinned (OpenSpec.ofChange protocolHistoriesSpec)

/-- ITS FALSE NEIGHBOUR: 'it returns false'. Refute it at one input. -/
def protocolHistoriesWrong : ChangeSpec := { name := "protocolHistories", fn := fun _ => fun
  | [d1, d2] => { results := [.lit (.bool false)], args := [d1, d2] }
  | _ => none }
def ProtocolHistoriesWrongFalsely : Prop := protocolHistoriesRow.holds Try.pinned (OpenSpec.ofChange protocolHistoriesWrong)

/-- 'wittinglaw54.ProtocolFloods': WHATEVER THE INPUT: true; the input reads as it did. -/
def protocolFloodsSpec : ChangeSpec := { name := "protocolFloods", fn := fun _ => fun
  | [d1, d2, d3] => { results := [.lit (.bool true)], args := [d1, d2, d3] }
  | _ => none }
def protocolFloodsRow : OpenClaim := { program := "ytgnkeecjaffnaaa", sum := "6d6d588fd5eec0b2b03af227354f95bd1d220467dbf4b064361de8bd76b0b911", func := "witting/wittinglaw54.ProtocolFloods", spec := "protocolFloods", unfollowed := true, recurses := true, apart := false }
def ProtocolFloodsSaid : Prop := protocolFloodsRow.holds Try.pinned (OpenSpec.ofChange protocolFloodsSpec)

/-- ITS FALSE NEIGHBOUR: 'it returns false'. Refute it at one input. -/
def protocolFloodsWrong : ChangeSpec := { name := "protocolFloods", fn := fun _ => fun
  | [d1, d2, d3] => { results := [.lit (.bool false)], args := [d1, d2, d3] }
  | _ => none }
def ProtocolFloodsWrongFalsely : Prop := protocolFloodsRow.holds Try.pinned (OpenSpec.ofChange protocolFloodsWrong)

/-- 'wittinglaw54.ProtocolAgrees': WHATEVER THE INPUT: true; the input reads as it did. -/
def protocolAgreesSpec : ChangeSpec := { name := "protocolAgrees", fn := fun _ => fun
  | [d1, d2, d3] => { results := [.lit (.bool true)], args := [d1, d2, d3] }
  | _ => none }
def protocolAgreesRow : OpenClaim := { program := "ytgnkeecjaffnaaa", sum := "6d6d588fd5eec0b2b03af227354f95bd1d220467dbf4b064361de8bd76b0b911", func := "witting/wittinglaw54.ProtocolAgrees", spec := "protocolAgrees", unfollowed := true, recurses := true, apart := false }
def ProtocolAgreesSaid : Prop := protocolAgreesRow.holds Try.pinned (OpenSpec.ofChange protocolAgreesSpec)

/-- ITS FALSE NEIGHBOUR: 'it returns false'. Refute it at one input. -/
def protocolAgreesWrong : ChangeSpec := { name := "protocolAgrees", fn := fun _ => fun
  | [d1, d2, d3] => { results := [.lit (.bool false)], args := [d1, d2, d3] }
  | _ => none }
def ProtocolAgreesWrongFalsely : Prop := protocolAgreesRow.holds Try.pinned (OpenSpec.ofChange protocolAgreesWrong)

/-- 'wittinglaw54.ProtocolObeys': WHATEVER THE INPUT: true; the input reads as it did. -/
def protocolObeysSpec : ChangeSpec := { name := "protocolObeys", fn := fun _ => fun
  | [d] => { results := [.lit (.bool true)], args := [d] }
  | _ => none }
def protocolObeysRow : OpenClaim := { program := "ytgnkeecjaffnaaa", sum := "6d6d588fd5eec0b2b03af227354f95bd1d220467dbf4b064361de8bd76b0b911", func := "witting/wittinglaw54.ProtocolObeys", spec := "protocolObeys", unfollowed := true, recurses := true, apart := false }
def ProtocolObeysSaid : Prop := protocolObeysRow.holds Try.pinned (OpenSpec.ofChange protocolObeysSpec)

/-- ITS FALSE NEIGHBOUR: 'it returns false'. Refute it at one input. -/
def protocolObeysWrong : ChangeSpec := { name := "protocolObeys", fn := fun _ => fun
  | [d] => { results := [.lit (.bool false)], args := [d] }
  | _ => none }
def ProtocolObeysWrongFalsely : Prop := protocolObeysRow.holds Try.pinned (OpenSpec.ofChange protocolObeysWrong)

/-- 'wittinglaw54.ProtocolLossy': WHATEVER THE INPUT: true; the input reads as it did. -/
def protocolLossySpec : ChangeSpec := { name := "protocolLossy", fn := fun _ => fun
  | [d] => { results := [.lit (.bool true)], args := [d] }
  | _ => none }
def protocolLossyRow : OpenClaim := { program := "ytgnkeecjaffnaaa", sum := "6d6d588fd5eec0b2b03af227354f95bd1d220467dbf4b064361de8bd76b0b911", func := "witting/wittinglaw54.ProtocolLossy", spec := "protocolLossy", unfollowed := true, recurses := true, apart := false }
def ProtocolLossySaid : Prop := protocolLossyRow.holds Try.pinned (OpenSpec.ofChange protocolLossySpec)

/-- ITS FALSE NEIGHBOUR: 'it returns false'. Refute it at one input. -/
def protocolLossyWrong : ChangeSpec := { name := "protocolLossy", fn := fun _ => fun
  | [d] => { results := [.lit (.bool false)], args := [d] }
  | _ => none }
def ProtocolLossyWrongFalsely : Prop := protocolLossyRow.holds Try.pinned (OpenSpec.ofChange protocolLossyWrong)

/-- 'wittinglaw54.ProtocolRuns': WHATEVER THE INPUT: true; the input reads as it did. -/
def protocolRunsSpec : ChangeSpec := { name := "protocolRuns", fn := fun _ => fun
  | [d1, d2, d3] => { results := [.lit (.bool true)], args := [d1, d2, d3] }
  | _ => none }
def protocolRunsRow : OpenClaim := { program := "ytgnkeecjaffnaaa", sum := "6d6d588fd5eec0b2b03af227354f95bd1d220467dbf4b064361de8bd76b0b911", func := "witting/wittinglaw54.ProtocolRuns", spec := "protocolRuns", unfollowed := true, recurses := true, apart := false }
def ProtocolRunsSaid : Prop := protocolRunsRow.holds Try.pinned (OpenSpec.ofChange protocolRunsSpec)

/-- ITS FALSE NEIGHBOUR: 'it returns false'. Refute it at one input. -/
def protocolRunsWrong : ChangeSpec := { name := "protocolRuns", fn := fun _ => fun
  | [d1, d2, d3] => { results := [.lit (.bool false)], args := [d1, d2, d3] }
  | _ => none }
def ProtocolRunsWrongFalsely : Prop := protocolRunsRow.holds Try.pinned (OpenSpec.ofChange protocolRunsWrong)

/-- 'wittinglaw54.ProtocolCrashes': WHATEVER THE INPUT: true; the input reads as it did. -/
def protocolCrashesSpec : ChangeSpec := { name := "protocolCrashes", fn := fun _ => fun
  | [d1, d2, d3] => { results := [.lit (.bool true)], args := [d1, d2, d3] }
  | _ => none }
def protocolCrashesRow : OpenClaim := { program := "ytgnkeecjaffnaaa", sum := "6d6d588fd5eec0b2b03af227354f95bd1d220467dbf4b064361de8bd76b0b911", func := "witting/wittinglaw54.ProtocolCrashes", spec := "protocolCrashes", unfollowed := true, recurses := true, apart := false }
def ProtocolCrashesSaid : Prop := protocolCrashesRow.holds Try.pinned (OpenSpec.ofChange protocolCrashesSpec)

/-- ITS FALSE NEIGHBOUR: 'it returns false'. Refute it at one input. -/
def protocolCrashesWrong : ChangeSpec := { name := "protocolCrashes", fn := fun _ => fun
  | [d1, d2, d3] => { results := [.lit (.bool false)], args := [d1, d2, d3] }
  | _ => none }
def ProtocolCrashesWrongFalsely : Prop := protocolCrashesRow.holds Try.pinned (OpenSpec.ofChange protocolCrashesWrong)

/-- 'wittinglaw54.ProtocolRemembers': WHATEVER THE INPUT: true; the input reads as it did. -/
def protocolRemembersSpec : ChangeSpec := { name := "protocolRemembers", fn := fun _ => fun
  | [d] => { results := [.lit (.bool true)], args := [d] }
  | _ => none }
def protocolRemembersRow : OpenClaim := { program := "ytgnkeecjaffnaaa", sum := "6d6d588fd5eec0b2b03af227354f95bd1d220467dbf4b064361de8bd76b0b911", func := "witting/wittinglaw54.ProtocolRemembers", spec := "protocolRemembers", unfollowed := true, recurses := true, apart := false }
def ProtocolRemembersSaid : Prop := protocolRemembersRow.holds Try.pinned (OpenSpec.ofChange protocolRemembersSpec)

/-- ITS FALSE NEIGHBOUR: 'it returns false'. Refute it at one input. -/
def protocolRemembersWrong : ChangeSpec := { name := "protocolRemembers", fn := fun _ => fun
  | [d] => { results := [.lit (.bool false)], args := [d] }
  | _ => none }
def ProtocolRemembersWrongFalsely : Prop := protocolRemembersRow.holds Try.pinned (OpenSpec.ofChange protocolRemembersWrong)

/- THE SECOND FORM. 'bulk': how many values and letters a reading holds, each counted each time it is reached (what is shared counts as often as it is met; a slice's spare places count too). A statement '..UptoSaid' is the law's where the arguments, and the package variables that the reading takes, are together of bulk at most 1048576: NARROWER than '..Said'. Prove '..Said' where nothing that the law and all that it calls make is longer than what came in: it says more and counts as full. Else prove '..UptoSaid'. A law counts once. -/
mutual
def uptoBulk {H : Type} : DataW H → Nat
  | .lit (.string bytes) => bytes.length + 1
  | .lit _ => 1
  | .nil => 1
  | .ptr d => uptoBulk d + 1
  | .slice elems spare => uptoBulkAll elems + uptoBulkAll spare + 1
  | .agg parts => uptoBulkAll parts + 1
  | .iface _ d => uptoBulk d + 1
  | .map entries => uptoBulkEntries entries + 1
  | .held _ => 1
def uptoBulkAll {H : Type} : List (DataW H) → Nat
  | [] => 0
  | d :: r => uptoBulk d + uptoBulkAll r
def uptoBulkEntries {H : Type} : List (Lit × DataW H) → Nat
  | [] => 0
  | x :: r => uptoBulkEntry x + uptoBulkEntries r
def uptoBulkEntry {H : Type} : Lit × DataW H → Nat
  | (.string bytes, d) => bytes.length + uptoBulk d + 1
  | (_, d) => uptoBulk d + 1
 end
def uptoSmall : (H : Type) → List (DataW H) → Bool := fun _ ds => decide (uptoBulkAll ds ≤ 1048576)
def OpenSpec.upto (s : _root_.Go.ChangeSpec) : _root_.Go.OpenSpec := { _root_.Go.OpenSpec.ofChange s with cond := some uptoSmall }

/-- 'wittinglaw54.ProtocolHistories', WHERE WHAT IT READS IS OF BULK AT MOST 1048576: true; the input reads as it did. -/
def protocolHistoriesUptoRow : OpenClaim := { program := "ytgnkeecjaffnaaa", sum := "6d6d588fd5eec0b2b03af227354f95bd1d220467dbf4b064361de8bd76b0b911", func := "witting/wittinglaw54.ProtocolHistories", spec := "protocolHistories", unfollowed := true, recurses := true, apart := false, narrowed := true }
def ProtocolHistoriesUptoSaid : Prop := protocolHistoriesUptoRow.holds Try.pinned (OpenSpec.upto protocolHistoriesSpec)

/-- 'wittinglaw54.ProtocolFloods', WHERE WHAT IT READS IS OF BULK AT MOST 1048576: true; the input reads as it did. -/
def protocolFloodsUptoRow : OpenClaim := { program := "ytgnkeecjaffnaaa", sum := "6d6d588fd5eec0b2b03af227354f95bd1d220467dbf4b064361de8bd76b0b911", func := "witting/wittinglaw54.ProtocolFloods", spec := "protocolFloods", unfollowed := true, recurses := true, apart := false, narrowed := true }
def ProtocolFloodsUptoSaid : Prop := protocolFloodsUptoRow.holds Try.pinned (OpenSpec.upto protocolFloodsSpec)

/-- 'wittinglaw54.ProtocolAgrees', WHERE WHAT IT READS IS OF BULK AT MOST 1048576: true; the input reads as it did. -/
def protocolAgreesUptoRow : OpenClaim := { program := "ytgnkeecjaffnaaa", sum := "6d6d588fd5eec0b2b03af227354f95bd1d220467dbf4b064361de8bd76b0b911", func := "witting/wittinglaw54.ProtocolAgrees", spec := "protocolAgrees", unfollowed := true, recurses := true, apart := false, narrowed := true }
def ProtocolAgreesUptoSaid : Prop := protocolAgreesUptoRow.holds Try.pinned (OpenSpec.upto protocolAgreesSpec)

/-- 'wittinglaw54.ProtocolObeys', WHERE WHAT IT READS IS OF BULK AT MOST 1048576: true; the input reads as it did. -/
def protocolObeysUptoRow : OpenClaim := { program := "ytgnkeecjaffnaaa", sum := "6d6d588fd5eec0b2b03af227354f95bd1d220467dbf4b064361de8bd76b0b911", func := "witting/wittinglaw54.ProtocolObeys", spec := "protocolObeys", unfollowed := true, recurses := true, apart := false, narrowed := true }
def ProtocolObeysUptoSaid : Prop := protocolObeysUptoRow.holds Try.pinned (OpenSpec.upto protocolObeysSpec)

/-- 'wittinglaw54.ProtocolLossy', WHERE WHAT IT READS IS OF BULK AT MOST 1048576: true; the input reads as it did. -/
def protocolLossyUptoRow : OpenClaim := { program := "ytgnkeecjaffnaaa", sum := "6d6d588fd5eec0b2b03af227354f95bd1d220467dbf4b064361de8bd76b0b911", func := "witting/wittinglaw54.ProtocolLossy", spec := "protocolLossy", unfollowed := true, recurses := true, apart := false, narrowed := true }
def ProtocolLossyUptoSaid : Prop := protocolLossyUptoRow.holds Try.pinned (OpenSpec.upto protocolLossySpec)

/-- 'wittinglaw54.ProtocolRuns', WHERE WHAT IT READS IS OF BULK AT MOST 1048576: true; the input reads as it did. -/
def protocolRunsUptoRow : OpenClaim := { program := "ytgnkeecjaffnaaa", sum := "6d6d588fd5eec0b2b03af227354f95bd1d220467dbf4b064361de8bd76b0b911", func := "witting/wittinglaw54.ProtocolRuns", spec := "protocolRuns", unfollowed := true, recurses := true, apart := false, narrowed := true }
def ProtocolRunsUptoSaid : Prop := protocolRunsUptoRow.holds Try.pinned (OpenSpec.upto protocolRunsSpec)

/-- 'wittinglaw54.ProtocolCrashes', WHERE WHAT IT READS IS OF BULK AT MOST 1048576: true; the input reads as it did. -/
def protocolCrashesUptoRow : OpenClaim := { program := "ytgnkeecjaffnaaa", sum := "6d6d588fd5eec0b2b03af227354f95bd1d220467dbf4b064361de8bd76b0b911", func := "witting/wittinglaw54.ProtocolCrashes", spec := "protocolCrashes", unfollowed := true, recurses := true, apart := false, narrowed := true }
def ProtocolCrashesUptoSaid : Prop := protocolCrashesUptoRow.holds Try.pinned (OpenSpec.upto protocolCrashesSpec)

/-- 'wittinglaw54.ProtocolRemembers', WHERE WHAT IT READS IS OF BULK AT MOST 1048576: true; the input reads as it did. -/
def protocolRemembersUptoRow : OpenClaim := { program := "ytgnkeecjaffnaaa", sum := "6d6d588fd5eec0b2b03af227354f95bd1d220467dbf4b064361de8bd76b0b911", func := "witting/wittinglaw54.ProtocolRemembers", spec := "protocolRemembers", unfollowed := true, recurses := true, apart := false, narrowed := true }
def ProtocolRemembersUptoSaid : Prop := protocolRemembersUptoRow.holds Try.pinned (OpenSpec.upto protocolRemembersSpec)

end Rows
end Go.Proofs.Ytgnkeecjaffnaaa
