/-
  DERIVED. GIVEN WITH THE SEED: THE CARDS: each row of YtflhngmfcpeamaaDoorRows.lean that lists a variable, with what it lists TIED to the program's text (the seventh form; the later family's looks); each row that meets fmt, with fmt's text TOLD by the authors' own Lean function (tested against real Go, not proved from fmt's source: count such statements apart). THE CARD IS WHAT COUNTS. Prove the row's statement (the work); the ties are given (YtflhngmfcpeamaaDoorTie.lean); close each card by the builder's one call (the guide's Derived/Test/ToyasCard.lean, 'card_holds'). Laid BY PROGRAM, IN A SANDBOX (cutbox-door.mjs). By AI agents, Wed Nov 11 2026. No macro, syntax, notation, axiom, sorry.
-/
import Derived.Test.YtflhngmfcpeamaaDoorRows
import GoSem.ClaimSeven
namespace Go.Proofs.YtflhngmfcpeamaaDoor
namespace Rows

/-- THE TIED CARD OF 'wittinglaw43.PostulatesRevision'. -/
def postulatesRevisionCard : Claim7 := { stood := { row := postulatesRevisionRow, standIns := [], harness := (true, "a41bb4055ace0b3dcb5d30719a40186cf6bc3ad5ddce9184c196f4728a194713"), looks := false }, kinds := [], alts := [], laidByText := true, laidKinds := [.funcs, .funcs], laidTests := true, laidLooks := .later }
def PostulatesRevisionCardSaid : Prop := Claim7.holds Tryd.pinned (.plain (OpenSpec.ofChange postulatesRevisionSpec)) postulatesRevisionCard

/-- THE TIED CARD OF 'wittinglaw43.PostulatesWitness'. -/
def postulatesWitnessCard : Claim7 := { stood := { row := postulatesWitnessRow, standIns := [], harness := (true, "a41bb4055ace0b3dcb5d30719a40186cf6bc3ad5ddce9184c196f4728a194713"), looks := false }, kinds := [], alts := [], laidByText := true, laidKinds := [.funcs, .funcs], laidTests := true, laidLooks := .later }
def PostulatesWitnessCardSaid : Prop := Claim7.holds Tryd.pinned (.plain (OpenSpec.ofChange postulatesWitnessSpec)) postulatesWitnessCard

/-- THE TIED CARD OF 'wittinglaw43.PostulatesUpdate'. -/
def postulatesUpdateCard : Claim7 := { stood := { row := postulatesUpdateRow, standIns := [], harness := (true, "a41bb4055ace0b3dcb5d30719a40186cf6bc3ad5ddce9184c196f4728a194713"), looks := false }, kinds := [], alts := [], laidByText := true, laidKinds := [.funcs, .funcs], laidTests := true, laidLooks := .later }
def PostulatesUpdateCardSaid : Prop := Claim7.holds Tryd.pinned (.plain (OpenSpec.ofChange postulatesUpdateSpec)) postulatesUpdateCard

/-- THE TIED CARD OF 'wittinglaw43.PostulatesMinima'. -/
def postulatesMinimaCard : Claim7 := { stood := { row := postulatesMinimaRow, standIns := [], harness := (true, "a41bb4055ace0b3dcb5d30719a40186cf6bc3ad5ddce9184c196f4728a194713"), looks := false }, kinds := [], alts := [], laidByText := true, laidKinds := [.funcs, .funcs], laidTests := true, laidLooks := .later }
def PostulatesMinimaCardSaid : Prop := Claim7.holds Tryd.pinned (.plain (OpenSpec.ofChange postulatesMinimaSpec)) postulatesMinimaCard

/-- THE TIED CARD OF 'wittinglaw43.PostulatesTables'. -/
def postulatesTablesCard : Claim7 := { stood := { row := postulatesTablesRow, standIns := [], harness := (true, "a41bb4055ace0b3dcb5d30719a40186cf6bc3ad5ddce9184c196f4728a194713"), looks := false }, kinds := [], alts := [], laidByText := true, laidKinds := [.funcs, .funcs], laidTests := true, laidLooks := .later }
def PostulatesTablesCardSaid : Prop := Claim7.holds Tryd.pinned (.plain (OpenSpec.ofChange postulatesTablesSpec)) postulatesTablesCard

/-- THE TIED CARD OF 'wittinglaw43.PostulatesRanks'. -/
def postulatesRanksCard : Claim7 := { stood := { row := postulatesRanksRow, standIns := [], harness := (true, "a41bb4055ace0b3dcb5d30719a40186cf6bc3ad5ddce9184c196f4728a194713"), looks := false }, kinds := [], alts := [], laidByText := true, laidKinds := [.funcs, .funcs], laidTests := true, laidLooks := .later }
def PostulatesRanksCardSaid : Prop := Claim7.holds Tryd.pinned (.plain (OpenSpec.ofChange postulatesRanksSpec)) postulatesRanksCard

/-- THE TIED CARD OF 'wittinglaw43.PostulatesRecover'. -/
def postulatesRecoverCard : Claim7 := { stood := { row := postulatesRecoverRow, standIns := [], harness := (true, "a41bb4055ace0b3dcb5d30719a40186cf6bc3ad5ddce9184c196f4728a194713"), looks := false }, kinds := [], alts := [], laidByText := true, laidKinds := [.funcs, .funcs], laidTests := true, laidLooks := .later }
def PostulatesRecoverCardSaid : Prop := Claim7.holds Tryd.pinned (.plain (OpenSpec.ofChange postulatesRecoverSpec)) postulatesRecoverCard

/-- THE SECOND FORM's CARD OF 'wittinglaw43.PostulatesRevision'. -/
def postulatesRevisionUptoCard : Claim7 := { stood := { row := postulatesRevisionUptoRow, standIns := [], harness := (true, "a41bb4055ace0b3dcb5d30719a40186cf6bc3ad5ddce9184c196f4728a194713"), looks := false }, kinds := [], alts := [], laidByText := true, laidKinds := [.funcs, .funcs], laidTests := true, laidLooks := .later }
def PostulatesRevisionUptoCardSaid : Prop := Claim7.holds Tryd.pinned (.plain (OpenSpec.upto postulatesRevisionSpec)) postulatesRevisionUptoCard

/-- THE SECOND FORM's CARD OF 'wittinglaw43.PostulatesWitness'. -/
def postulatesWitnessUptoCard : Claim7 := { stood := { row := postulatesWitnessUptoRow, standIns := [], harness := (true, "a41bb4055ace0b3dcb5d30719a40186cf6bc3ad5ddce9184c196f4728a194713"), looks := false }, kinds := [], alts := [], laidByText := true, laidKinds := [.funcs, .funcs], laidTests := true, laidLooks := .later }
def PostulatesWitnessUptoCardSaid : Prop := Claim7.holds Tryd.pinned (.plain (OpenSpec.upto postulatesWitnessSpec)) postulatesWitnessUptoCard

/-- THE SECOND FORM's CARD OF 'wittinglaw43.PostulatesUpdate'. -/
def postulatesUpdateUptoCard : Claim7 := { stood := { row := postulatesUpdateUptoRow, standIns := [], harness := (true, "a41bb4055ace0b3dcb5d30719a40186cf6bc3ad5ddce9184c196f4728a194713"), looks := false }, kinds := [], alts := [], laidByText := true, laidKinds := [.funcs, .funcs], laidTests := true, laidLooks := .later }
def PostulatesUpdateUptoCardSaid : Prop := Claim7.holds Tryd.pinned (.plain (OpenSpec.upto postulatesUpdateSpec)) postulatesUpdateUptoCard

/-- THE SECOND FORM's CARD OF 'wittinglaw43.PostulatesMinima'. -/
def postulatesMinimaUptoCard : Claim7 := { stood := { row := postulatesMinimaUptoRow, standIns := [], harness := (true, "a41bb4055ace0b3dcb5d30719a40186cf6bc3ad5ddce9184c196f4728a194713"), looks := false }, kinds := [], alts := [], laidByText := true, laidKinds := [.funcs, .funcs], laidTests := true, laidLooks := .later }
def PostulatesMinimaUptoCardSaid : Prop := Claim7.holds Tryd.pinned (.plain (OpenSpec.upto postulatesMinimaSpec)) postulatesMinimaUptoCard

/-- THE SECOND FORM's CARD OF 'wittinglaw43.PostulatesTables'. -/
def postulatesTablesUptoCard : Claim7 := { stood := { row := postulatesTablesUptoRow, standIns := [], harness := (true, "a41bb4055ace0b3dcb5d30719a40186cf6bc3ad5ddce9184c196f4728a194713"), looks := false }, kinds := [], alts := [], laidByText := true, laidKinds := [.funcs, .funcs], laidTests := true, laidLooks := .later }
def PostulatesTablesUptoCardSaid : Prop := Claim7.holds Tryd.pinned (.plain (OpenSpec.upto postulatesTablesSpec)) postulatesTablesUptoCard

/-- THE SECOND FORM's CARD OF 'wittinglaw43.PostulatesRanks'. -/
def postulatesRanksUptoCard : Claim7 := { stood := { row := postulatesRanksUptoRow, standIns := [], harness := (true, "a41bb4055ace0b3dcb5d30719a40186cf6bc3ad5ddce9184c196f4728a194713"), looks := false }, kinds := [], alts := [], laidByText := true, laidKinds := [.funcs, .funcs], laidTests := true, laidLooks := .later }
def PostulatesRanksUptoCardSaid : Prop := Claim7.holds Tryd.pinned (.plain (OpenSpec.upto postulatesRanksSpec)) postulatesRanksUptoCard

/-- THE SECOND FORM's CARD OF 'wittinglaw43.PostulatesRecover'. -/
def postulatesRecoverUptoCard : Claim7 := { stood := { row := postulatesRecoverUptoRow, standIns := [], harness := (true, "a41bb4055ace0b3dcb5d30719a40186cf6bc3ad5ddce9184c196f4728a194713"), looks := false }, kinds := [], alts := [], laidByText := true, laidKinds := [.funcs, .funcs], laidTests := true, laidLooks := .later }
def PostulatesRecoverUptoCardSaid : Prop := Claim7.holds Tryd.pinned (.plain (OpenSpec.upto postulatesRecoverSpec)) postulatesRecoverUptoCard
end Rows
end Go.Proofs.YtflhngmfcpeamaaDoor
