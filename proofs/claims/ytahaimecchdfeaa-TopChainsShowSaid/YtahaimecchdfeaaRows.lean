/-
  No cell of these rows narrows 'for every input' (looked for: loops, veiled, ifaces, maps, wideKeys, modest, calm, conditions, laid).
  DERIVED. THE GIVEN ROWS OF THIS SEAT. 9 by the template 'for every input the law returns true; each argument reads behind the call as it read before'; 0 by the template 'total and deterministic' (their statements: YtahaimecchdfeaaTotals.lean).
  GIVEN WITH THE SEED: the statements are not yours to turn. If you find one false, say at which input.
  Laid BY PROGRAM, IN A SANDBOX (cutbox-rows.mjs): the forced cells as the released guide's own fill.sh prints them over the translation 58106740c548e465… (all of the seat's roots in one cut). By AI agents, Wed Nov 11 2026. No macro, syntax, notation, axiom, sorry.
-/
import Derived.Test.YtahaimecchdfeaaChecked
import GoSem.Claim
import GoSem.ClaimJoined
import GoSem.ClaimMapViews
import Derived.JoinedTies
import Derived.KernelRfl
namespace Go.Proofs.Ytahaimecchdfeaa
/- THE CELL 'sum', in the pinned program and in every row, IS THE sha256 OF THE DUMP (.gsa) THAT YtahaimecchdfeaaProg.lean LOADS. Nothing in Lean hashes anything: it is a label: what it is worth is what the hold of that sum in a sandbox is worth. -/
noncomputable def Try.pinned : Pinned := { name := "ytahaimecchdfeaa", sum := "58106740c548e465439775b4112716847d6e8b4cbfdc83847df95da823af4a48", checked := Try.checked }
namespace Rows
def none {H : Type} : Left H := { results := [], args := [] }

/-- 'wittinglaw57.AttackComponents': WHATEVER THE INPUT: true; the input reads as it did. -/
def attackComponentsSpec : ChangeSpec := { name := "attackComponents", fn := fun _ => fun
  | [d1, d2, d3] => { results := [.lit (.bool true)], args := [d1, d2, d3] }
  | _ => none }
def attackComponentsRow : OpenClaim := { program := "ytahaimecchdfeaa", sum := "58106740c548e465439775b4112716847d6e8b4cbfdc83847df95da823af4a48", func := "witting/wittinglaw57.AttackComponents", spec := "attackComponents", unfollowed := true, recurses := true, plainKeys := false, apart := false }
def AttackComponentsSaid : Prop := attackComponentsRow.holds Try.pinned (OpenSpec.ofChange attackComponentsSpec)

/-- ITS FALSE NEIGHBOUR: 'it returns false'. Refute it at one input. -/
def attackComponentsWrong : ChangeSpec := { name := "attackComponents", fn := fun _ => fun
  | [d1, d2, d3] => { results := [.lit (.bool false)], args := [d1, d2, d3] }
  | _ => none }
def AttackComponentsWrongFalsely : Prop := attackComponentsRow.holds Try.pinned (OpenSpec.ofChange attackComponentsWrong)

/-- 'wittinglaw57.AttackDepths': WHATEVER THE INPUT: true; the input reads as it did. -/
def attackDepthsSpec : ChangeSpec := { name := "attackDepths", fn := fun _ => fun
  | [d1, d2, d3] => { results := [.lit (.bool true)], args := [d1, d2, d3] }
  | _ => none }
def attackDepthsRow : OpenClaim := { program := "ytahaimecchdfeaa", sum := "58106740c548e465439775b4112716847d6e8b4cbfdc83847df95da823af4a48", func := "witting/wittinglaw57.AttackDepths", spec := "attackDepths", unfollowed := true, recurses := true, plainKeys := false, apart := false }
def AttackDepthsSaid : Prop := attackDepthsRow.holds Try.pinned (OpenSpec.ofChange attackDepthsSpec)

/-- ITS FALSE NEIGHBOUR: 'it returns false'. Refute it at one input. -/
def attackDepthsWrong : ChangeSpec := { name := "attackDepths", fn := fun _ => fun
  | [d1, d2, d3] => { results := [.lit (.bool false)], args := [d1, d2, d3] }
  | _ => none }
def AttackDepthsWrongFalsely : Prop := attackDepthsRow.holds Try.pinned (OpenSpec.ofChange attackDepthsWrong)

/-- 'wittinglaw57.AttackVerifies': WHATEVER THE INPUT: true; the input reads as it did. -/
def attackVerifiesSpec : ChangeSpec := { name := "attackVerifies", fn := fun _ => fun
  | [d1, d2] => { results := [.lit (.bool true)], args := [d1, d2] }
  | _ => none }
def attackVerifiesRow : OpenClaim := { program := "ytahaimecchdfeaa", sum := "58106740c548e465439775b4112716847d6e8b4cbfdc83847df95da823af4a48", func := "witting/wittinglaw57.AttackVerifies", spec := "attackVerifies", unfollowed := true, recurses := true, plainKeys := false, apart := false }
def AttackVerifiesSaid : Prop := attackVerifiesRow.holds Try.pinned (OpenSpec.ofChange attackVerifiesSpec)

/-- ITS FALSE NEIGHBOUR: 'it returns false'. Refute it at one input. -/
def attackVerifiesWrong : ChangeSpec := { name := "attackVerifies", fn := fun _ => fun
  | [d1, d2] => { results := [.lit (.bool false)], args := [d1, d2] }
  | _ => none }
def AttackVerifiesWrongFalsely : Prop := attackVerifiesRow.holds Try.pinned (OpenSpec.ofChange attackVerifiesWrong)

/-- 'wittinglaw57.AttackChains': WHATEVER THE INPUT: true; the input reads as it did. -/
def attackChainsSpec : ChangeSpec := { name := "attackChains", fn := fun _ => fun
  | [d1, d2] => { results := [.lit (.bool true)], args := [d1, d2] }
  | _ => none }
def attackChainsRow : OpenClaim := { program := "ytahaimecchdfeaa", sum := "58106740c548e465439775b4112716847d6e8b4cbfdc83847df95da823af4a48", func := "witting/wittinglaw57.AttackChains", spec := "attackChains", unfollowed := true, recurses := true, plainKeys := false, apart := false }
def AttackChainsSaid : Prop := attackChainsRow.holds Try.pinned (OpenSpec.ofChange attackChainsSpec)

/-- ITS FALSE NEIGHBOUR: 'it returns false'. Refute it at one input. -/
def attackChainsWrong : ChangeSpec := { name := "attackChains", fn := fun _ => fun
  | [d1, d2] => { results := [.lit (.bool false)], args := [d1, d2] }
  | _ => none }
def AttackChainsWrongFalsely : Prop := attackChainsRow.holds Try.pinned (OpenSpec.ofChange attackChainsWrong)

/-- 'wittinglaw57.AttackNever': WHATEVER THE INPUT: true; the input reads as it did. -/
def attackNeverSpec : ChangeSpec := { name := "attackNever", fn := fun _ => fun
  | [d] => { results := [.lit (.bool true)], args := [d] }
  | _ => none }
def attackNeverRow : OpenClaim := { program := "ytahaimecchdfeaa", sum := "58106740c548e465439775b4112716847d6e8b4cbfdc83847df95da823af4a48", func := "witting/wittinglaw57.AttackNever", spec := "attackNever", unfollowed := true, recurses := true, plainKeys := false, apart := false }
def AttackNeverSaid : Prop := attackNeverRow.holds Try.pinned (OpenSpec.ofChange attackNeverSpec)

/-- ITS FALSE NEIGHBOUR: 'it returns false'. Refute it at one input. -/
def attackNeverWrong : ChangeSpec := { name := "attackNever", fn := fun _ => fun
  | [d] => { results := [.lit (.bool false)], args := [d] }
  | _ => none }
def AttackNeverWrongFalsely : Prop := attackNeverRow.holds Try.pinned (OpenSpec.ofChange attackNeverWrong)

/-- 'wittinglaw57.AttackExact': WHATEVER THE INPUT: true; the input reads as it did. -/
def attackExactSpec : ChangeSpec := { name := "attackExact", fn := fun _ => fun
  | [d] => { results := [.lit (.bool true)], args := [d] }
  | _ => none }
def attackExactRow : OpenClaim := { program := "ytahaimecchdfeaa", sum := "58106740c548e465439775b4112716847d6e8b4cbfdc83847df95da823af4a48", func := "witting/wittinglaw57.AttackExact", spec := "attackExact", unfollowed := true, recurses := true, plainKeys := false, apart := false }
def AttackExactSaid : Prop := attackExactRow.holds Try.pinned (OpenSpec.ofChange attackExactSpec)

/-- ITS FALSE NEIGHBOUR: 'it returns false'. Refute it at one input. -/
def attackExactWrong : ChangeSpec := { name := "attackExact", fn := fun _ => fun
  | [d] => { results := [.lit (.bool false)], args := [d] }
  | _ => none }
def AttackExactWrongFalsely : Prop := attackExactRow.holds Try.pinned (OpenSpec.ofChange attackExactWrong)

/-- 'wittinglaw57.AttackProtocols': WHATEVER THE INPUT: true; the input reads as it did. -/
def attackProtocolsSpec : ChangeSpec := { name := "attackProtocols", fn := fun _ => fun
  | [d] => { results := [.lit (.bool true)], args := [d] }
  | _ => none }
def attackProtocolsRow : OpenClaim := { program := "ytahaimecchdfeaa", sum := "58106740c548e465439775b4112716847d6e8b4cbfdc83847df95da823af4a48", func := "witting/wittinglaw57.AttackProtocols", spec := "attackProtocols", unfollowed := true, recurses := true, plainKeys := false, apart := false }
def AttackProtocolsSaid : Prop := attackProtocolsRow.holds Try.pinned (OpenSpec.ofChange attackProtocolsSpec)

/-- ITS FALSE NEIGHBOUR: 'it returns false'. Refute it at one input. -/
def attackProtocolsWrong : ChangeSpec := { name := "attackProtocols", fn := fun _ => fun
  | [d] => { results := [.lit (.bool false)], args := [d] }
  | _ => none }
def AttackProtocolsWrongFalsely : Prop := attackProtocolsRow.holds Try.pinned (OpenSpec.ofChange attackProtocolsWrong)

/-- 'wittinglaw57.AttackReliable': WHATEVER THE INPUT: true; the input reads as it did. -/
def attackReliableSpec : ChangeSpec := { name := "attackReliable", fn := fun _ => fun
  | [d] => { results := [.lit (.bool true)], args := [d] }
  | _ => none }
def attackReliableRow : OpenClaim := { program := "ytahaimecchdfeaa", sum := "58106740c548e465439775b4112716847d6e8b4cbfdc83847df95da823af4a48", func := "witting/wittinglaw57.AttackReliable", spec := "attackReliable", unfollowed := true, recurses := true, plainKeys := false, apart := false }
def AttackReliableSaid : Prop := attackReliableRow.holds Try.pinned (OpenSpec.ofChange attackReliableSpec)

/-- ITS FALSE NEIGHBOUR: 'it returns false'. Refute it at one input. -/
def attackReliableWrong : ChangeSpec := { name := "attackReliable", fn := fun _ => fun
  | [d] => { results := [.lit (.bool false)], args := [d] }
  | _ => none }
def AttackReliableWrongFalsely : Prop := attackReliableRow.holds Try.pinned (OpenSpec.ofChange attackReliableWrong)

/-- 'wittingtop.TopChainsShow': WHATEVER THE INPUT: true; the input reads as it did. -/
def topChainsShowSpec : ChangeSpec := { name := "topChainsShow", fn := fun _ => fun
  | [d1, d2] => { results := [.lit (.bool true)], args := [d1, d2] }
  | _ => none }
def topChainsShowRow : OpenClaim := { program := "ytahaimecchdfeaa", sum := "58106740c548e465439775b4112716847d6e8b4cbfdc83847df95da823af4a48", func := "witting/wittingtop.TopChainsShow", spec := "topChainsShow", unfollowed := true, recurses := true, plainKeys := false, apart := false }
def TopChainsShowSaid : Prop := topChainsShowRow.holds Try.pinned (OpenSpec.ofChange topChainsShowSpec)

/-- ITS FALSE NEIGHBOUR: 'it returns false'. Refute it at one input. -/
def topChainsShowWrong : ChangeSpec := { name := "topChainsShow", fn := fun _ => fun
  | [d1, d2] => { results := [.lit (.bool false)], args := [d1, d2] }
  | _ => none }
def TopChainsShowWrongFalsely : Prop := topChainsShowRow.holds Try.pinned (OpenSpec.ofChange topChainsShowWrong)

/- THE SECOND FORM. 'bulk': how many values and letters a reading holds, each counted each time it is reached (what is shared counts as often as it is met; a slice's spare places count too). A statement '..UptoSaid' is the law's where the arguments, and the package variables that the reading takes, are together of bulk at most 1048576: NARROWER than '..Said'. Prove '..Said' where nothing that the law and all that it calls make is longer than what came in: it says more and counts as full. Else prove '..UptoSaid'. A law counts once. -/
mutual
def uptoBulk {H : Type} : DataW H → Nat
  | .lit (.string bytes) => bytes.length + 1
  | .lit _ => 1
  | .nil => 1
  | .ptr d => uptoBulk d + 1
  | .slice elems spare => uptoBulkAll elems + uptoBulkAll spare + 1
  | .agg parts => uptoBulkAll parts + 1
  | .iface _ d => uptoBulk d + 1
  | .map entries => uptoBulkEntries entries + 1
  | .held _ => 1
def uptoBulkAll {H : Type} : List (DataW H) → Nat
  | [] => 0
  | d :: r => uptoBulk d + uptoBulkAll r
def uptoBulkEntries {H : Type} : List (Lit × DataW H) → Nat
  | [] => 0
  | x :: r => uptoBulkEntry x + uptoBulkEntries r
def uptoBulkEntry {H : Type} : Lit × DataW H → Nat
  | (.string bytes, d) => bytes.length + uptoBulk d + 1
  | (_, d) => uptoBulk d + 1
 end
def uptoSmall : (H : Type) → List (DataW H) → Bool := fun _ ds => decide (uptoBulkAll ds ≤ 1048576)
def OpenSpec.upto (s : _root_.Go.ChangeSpec) : _root_.Go.OpenSpec := { _root_.Go.OpenSpec.ofChange s with cond := some uptoSmall }

/-- 'wittinglaw57.AttackComponents', WHERE WHAT IT READS IS OF BULK AT MOST 1048576: true; the input reads as it did. -/
def attackComponentsUptoRow : OpenClaim := { program := "ytahaimecchdfeaa", sum := "58106740c548e465439775b4112716847d6e8b4cbfdc83847df95da823af4a48", func := "witting/wittinglaw57.AttackComponents", spec := "attackComponents", unfollowed := true, recurses := true, plainKeys := false, apart := false, narrowed := true }
def AttackComponentsUptoSaid : Prop := attackComponentsUptoRow.holds Try.pinned (OpenSpec.upto attackComponentsSpec)

/-- 'wittinglaw57.AttackDepths', WHERE WHAT IT READS IS OF BULK AT MOST 1048576: true; the input reads as it did. -/
def attackDepthsUptoRow : OpenClaim := { program := "ytahaimecchdfeaa", sum := "58106740c548e465439775b4112716847d6e8b4cbfdc83847df95da823af4a48", func := "witting/wittinglaw57.AttackDepths", spec := "attackDepths", unfollowed := true, recurses := true, plainKeys := false, apart := false, narrowed := true }
def AttackDepthsUptoSaid : Prop := attackDepthsUptoRow.holds Try.pinned (OpenSpec.upto attackDepthsSpec)

/-- 'wittinglaw57.AttackVerifies', WHERE WHAT IT READS IS OF BULK AT MOST 1048576: true; the input reads as it did. -/
def attackVerifiesUptoRow : OpenClaim := { program := "ytahaimecchdfeaa", sum := "58106740c548e465439775b4112716847d6e8b4cbfdc83847df95da823af4a48", func := "witting/wittinglaw57.AttackVerifies", spec := "attackVerifies", unfollowed := true, recurses := true, plainKeys := false, apart := false, narrowed := true }
def AttackVerifiesUptoSaid : Prop := attackVerifiesUptoRow.holds Try.pinned (OpenSpec.upto attackVerifiesSpec)

/-- 'wittinglaw57.AttackChains', WHERE WHAT IT READS IS OF BULK AT MOST 1048576: true; the input reads as it did. -/
def attackChainsUptoRow : OpenClaim := { program := "ytahaimecchdfeaa", sum := "58106740c548e465439775b4112716847d6e8b4cbfdc83847df95da823af4a48", func := "witting/wittinglaw57.AttackChains", spec := "attackChains", unfollowed := true, recurses := true, plainKeys := false, apart := false, narrowed := true }
def AttackChainsUptoSaid : Prop := attackChainsUptoRow.holds Try.pinned (OpenSpec.upto attackChainsSpec)

/-- 'wittinglaw57.AttackNever', WHERE WHAT IT READS IS OF BULK AT MOST 1048576: true; the input reads as it did. -/
def attackNeverUptoRow : OpenClaim := { program := "ytahaimecchdfeaa", sum := "58106740c548e465439775b4112716847d6e8b4cbfdc83847df95da823af4a48", func := "witting/wittinglaw57.AttackNever", spec := "attackNever", unfollowed := true, recurses := true, plainKeys := false, apart := false, narrowed := true }
def AttackNeverUptoSaid : Prop := attackNeverUptoRow.holds Try.pinned (OpenSpec.upto attackNeverSpec)

/-- 'wittinglaw57.AttackExact', WHERE WHAT IT READS IS OF BULK AT MOST 1048576: true; the input reads as it did. -/
def attackExactUptoRow : OpenClaim := { program := "ytahaimecchdfeaa", sum := "58106740c548e465439775b4112716847d6e8b4cbfdc83847df95da823af4a48", func := "witting/wittinglaw57.AttackExact", spec := "attackExact", unfollowed := true, recurses := true, plainKeys := false, apart := false, narrowed := true }
def AttackExactUptoSaid : Prop := attackExactUptoRow.holds Try.pinned (OpenSpec.upto attackExactSpec)

/-- 'wittinglaw57.AttackProtocols', WHERE WHAT IT READS IS OF BULK AT MOST 1048576: true; the input reads as it did. -/
def attackProtocolsUptoRow : OpenClaim := { program := "ytahaimecchdfeaa", sum := "58106740c548e465439775b4112716847d6e8b4cbfdc83847df95da823af4a48", func := "witting/wittinglaw57.AttackProtocols", spec := "attackProtocols", unfollowed := true, recurses := true, plainKeys := false, apart := false, narrowed := true }
def AttackProtocolsUptoSaid : Prop := attackProtocolsUptoRow.holds Try.pinned (OpenSpec.upto attackProtocolsSpec)

/-- 'wittinglaw57.AttackReliable', WHERE WHAT IT READS IS OF BULK AT MOST 1048576: true; the input reads as it did. -/
def attackReliableUptoRow : OpenClaim := { program := "ytahaimecchdfeaa", sum := "58106740c548e465439775b4112716847d6e8b4cbfdc83847df95da823af4a48", func := "witting/wittinglaw57.AttackReliable", spec := "attackReliable", unfollowed := true, recurses := true, plainKeys := false, apart := false, narrowed := true }
def AttackReliableUptoSaid : Prop := attackReliableUptoRow.holds Try.pinned (OpenSpec.upto attackReliableSpec)

/-- 'wittingtop.TopChainsShow', WHERE WHAT IT READS IS OF BULK AT MOST 1048576: true; the input reads as it did. -/
def topChainsShowUptoRow : OpenClaim := { program := "ytahaimecchdfeaa", sum := "58106740c548e465439775b4112716847d6e8b4cbfdc83847df95da823af4a48", func := "witting/wittingtop.TopChainsShow", spec := "topChainsShow", unfollowed := true, recurses := true, plainKeys := false, apart := false, narrowed := true }
def TopChainsShowUptoSaid : Prop := topChainsShowUptoRow.holds Try.pinned (OpenSpec.upto topChainsShowSpec)

end Rows
end Go.Proofs.Ytahaimecchdfeaa
