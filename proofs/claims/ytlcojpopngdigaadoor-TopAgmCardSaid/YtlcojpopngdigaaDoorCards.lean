/-
  DERIVED. GIVEN WITH THE SEED: THE CARDS: each row of YtlcojpopngdigaaDoorRows.lean that lists a variable, with what it lists TIED to the program's text (the seventh form; the later family's looks); each row that meets fmt, with fmt's text TOLD by the authors' own Lean function (tested against real Go, not proved from fmt's source: count such statements apart). THE CARD IS WHAT COUNTS. Prove the row's statement (the work); the ties are given (YtlcojpopngdigaaDoorTie.lean); close each card by the builder's one call (the guide's Derived/Test/ToyasCard.lean, 'card_holds'). Laid BY PROGRAM, IN A SANDBOX (cutbox-door.mjs). By AI agents, Wed Nov 11 2026. No macro, syntax, notation, axiom, sorry.
-/
import Derived.Test.YtlcojpopngdigaaDoorRows
import GoSem.ClaimSeven
namespace Go.Proofs.YtlcojpopngdigaaDoor
namespace Rows

/-- THE TIED CARD OF 'wittingtop.TopAgm'. -/
def topAgmCard : Claim7 := { stood := { row := topAgmRow, standIns := [], harness := (true, "ca388069a355d6d6461dc857e6de296d9ad09417a5893f3d824789f03ed390ad"), looks := false }, kinds := [], alts := [], laidByText := true, laidKinds := [.funcs], laidTests := true, laidLooks := .later }
def TopAgmCardSaid : Prop := Claim7.holds Tryd.pinned (.plain (OpenSpec.ofChange topAgmSpec)) topAgmCard

/-- THE SECOND FORM's CARD OF 'wittingtop.TopAgm'. -/
def topAgmUptoCard : Claim7 := { stood := { row := topAgmUptoRow, standIns := [], harness := (true, "ca388069a355d6d6461dc857e6de296d9ad09417a5893f3d824789f03ed390ad"), looks := false }, kinds := [], alts := [], laidByText := true, laidKinds := [.funcs], laidTests := true, laidLooks := .later }
def TopAgmUptoCardSaid : Prop := Claim7.holds Tryd.pinned (.plain (OpenSpec.upto topAgmSpec)) topAgmUptoCard
end Rows
end Go.Proofs.YtlcojpopngdigaaDoor
