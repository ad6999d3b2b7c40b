/-
  DERIVED. GIVEN WITH THE SEED: THE CARDS: each row of YtiifmdgcnpdibaaDoorRows.lean that lists a variable, with what it lists TIED to the program's text (the seventh form; the later family's looks); each row that meets fmt, with fmt's text TOLD by the authors' own Lean function (tested against real Go, not proved from fmt's source: count such statements apart). THE CARD IS WHAT COUNTS. Prove the row's statement (the work); the ties are given (YtiifmdgcnpdibaaDoorTie.lean); close each card by the builder's one call (the guide's Derived/Test/ToyasCard.lean, 'card_holds'). Laid BY PROGRAM, IN A SANDBOX (cutbox-door.mjs). By AI agents, Wed Nov 11 2026. No macro, syntax, notation, axiom, sorry.
-/
import Derived.Test.YtiifmdgcnpdibaaDoorRows
import GoSem.ClaimSeven
namespace Go.Proofs.YtiifmdgcnpdibaaDoor
namespace Rows

/-- THE TIED CARD OF 'wittinglaw40.ContractionResults'. -/
def contractionResultsCard : Claim7 := { stood := { row := contractionResultsRow, standIns := [], harness := (true, "b9a6110844857ce125656062bf2d4c5db5ad579724e8690e4e494cce96a1147c"), looks := false }, kinds := [], alts := [], laidByText := true, laidKinds := [.funcs], laidTests := true, laidLooks := .later }
def ContractionResultsCardSaid : Prop := Claim7.holds Tryd.pinned (.plain (OpenSpec.ofChange contractionResultsSpec)) contractionResultsCard

/-- THE TIED CARD OF 'wittinglaw40.ContractionChoices'. -/
def contractionChoicesCard : Claim7 := { stood := { row := contractionChoicesRow, standIns := [], harness := (true, "b9a6110844857ce125656062bf2d4c5db5ad579724e8690e4e494cce96a1147c"), looks := false }, kinds := [], alts := [], laidByText := true, laidKinds := [.funcs], laidTests := true, laidLooks := .later }
def ContractionChoicesCardSaid : Prop := Claim7.holds Tryd.pinned (.plain (OpenSpec.ofChange contractionChoicesSpec)) contractionChoicesCard

/-- THE TIED CARD OF 'wittinglaw40.ContractionRanks'. -/
def contractionRanksCard : Claim7 := { stood := { row := contractionRanksRow, standIns := [], harness := (true, "b9a6110844857ce125656062bf2d4c5db5ad579724e8690e4e494cce96a1147c"), looks := false }, kinds := [], alts := [], laidByText := true, laidKinds := [.funcs], laidTests := true, laidLooks := .later }
def ContractionRanksCardSaid : Prop := Claim7.holds Tryd.pinned (.plain (OpenSpec.ofChange contractionRanksSpec)) contractionRanksCard

/-- THE TIED CARD OF 'wittinglaw40.ContractionPostulates'. -/
def contractionPostulatesCard : Claim7 := { stood := { row := contractionPostulatesRow, standIns := [], harness := (true, "b9a6110844857ce125656062bf2d4c5db5ad579724e8690e4e494cce96a1147c"), looks := false }, kinds := [], alts := [], laidByText := true, laidKinds := [.funcs], laidTests := true, laidLooks := .later }
def ContractionPostulatesCardSaid : Prop := Claim7.holds Tryd.pinned (.plain (OpenSpec.ofChange contractionPostulatesSpec)) contractionPostulatesCard

/-- THE TIED CARD OF 'wittinglaw40.ContractionSatisfies'. -/
def contractionSatisfiesCard : Claim7 := { stood := { row := contractionSatisfiesRow, standIns := [], harness := (true, "b9a6110844857ce125656062bf2d4c5db5ad579724e8690e4e494cce96a1147c"), looks := false }, kinds := [], alts := [], laidByText := true, laidKinds := [.funcs], laidTests := true, laidLooks := .later }
def ContractionSatisfiesCardSaid : Prop := Claim7.holds Tryd.pinned (.plain (OpenSpec.ofChange contractionSatisfiesSpec)) contractionSatisfiesCard

/-- THE TIED CARD OF 'wittinglaw40.ContractionRepresents'. -/
def contractionRepresentsCard : Claim7 := { stood := { row := contractionRepresentsRow, standIns := [], harness := (true, "b9a6110844857ce125656062bf2d4c5db5ad579724e8690e4e494cce96a1147c"), looks := false }, kinds := [], alts := [], laidByText := true, laidKinds := [.funcs], laidTests := true, laidLooks := .later }
def ContractionRepresentsCardSaid : Prop := Claim7.holds Tryd.pinned (.plain (OpenSpec.ofChange contractionRepresentsSpec)) contractionRepresentsCard

/-- THE TIED CARD OF 'wittinglaw40.ContractionIdentities'. -/
def contractionIdentitiesCard : Claim7 := { stood := { row := contractionIdentitiesRow, standIns := [], harness := (true, "b9a6110844857ce125656062bf2d4c5db5ad579724e8690e4e494cce96a1147c"), looks := false }, kinds := [], alts := [], laidByText := true, laidKinds := [.funcs], laidTests := true, laidLooks := .later }
def ContractionIdentitiesCardSaid : Prop := Claim7.holds Tryd.pinned (.plain (OpenSpec.ofChange contractionIdentitiesSpec)) contractionIdentitiesCard

/-- THE TIED CARD OF 'wittinglaw40.ContractionBack'. -/
def contractionBackCard : Claim7 := { stood := { row := contractionBackRow, standIns := [], harness := (true, "b9a6110844857ce125656062bf2d4c5db5ad579724e8690e4e494cce96a1147c"), looks := false }, kinds := [], alts := [], laidByText := true, laidKinds := [.funcs], laidTests := true, laidLooks := .later }
def ContractionBackCardSaid : Prop := Claim7.holds Tryd.pinned (.plain (OpenSpec.ofChange contractionBackSpec)) contractionBackCard

/-- THE SECOND FORM's CARD OF 'wittinglaw40.ContractionResults'. -/
def contractionResultsUptoCard : Claim7 := { stood := { row := contractionResultsUptoRow, standIns := [], harness := (true, "b9a6110844857ce125656062bf2d4c5db5ad579724e8690e4e494cce96a1147c"), looks := false }, kinds := [], alts := [], laidByText := true, laidKinds := [.funcs], laidTests := true, laidLooks := .later }
def ContractionResultsUptoCardSaid : Prop := Claim7.holds Tryd.pinned (.plain (OpenSpec.upto contractionResultsSpec)) contractionResultsUptoCard

/-- THE SECOND FORM's CARD OF 'wittinglaw40.ContractionChoices'. -/
def contractionChoicesUptoCard : Claim7 := { stood := { row := contractionChoicesUptoRow, standIns := [], harness := (true, "b9a6110844857ce125656062bf2d4c5db5ad579724e8690e4e494cce96a1147c"), looks := false }, kinds := [], alts := [], laidByText := true, laidKinds := [.funcs], laidTests := true, laidLooks := .later }
def ContractionChoicesUptoCardSaid : Prop := Claim7.holds Tryd.pinned (.plain (OpenSpec.upto contractionChoicesSpec)) contractionChoicesUptoCard

/-- THE SECOND FORM's CARD OF 'wittinglaw40.ContractionRanks'. -/
def contractionRanksUptoCard : Claim7 := { stood := { row := contractionRanksUptoRow, standIns := [], harness := (true, "b9a6110844857ce125656062bf2d4c5db5ad579724e8690e4e494cce96a1147c"), looks := false }, kinds := [], alts := [], laidByText := true, laidKinds := [.funcs], laidTests := true, laidLooks := .later }
def ContractionRanksUptoCardSaid : Prop := Claim7.holds Tryd.pinned (.plain (OpenSpec.upto contractionRanksSpec)) contractionRanksUptoCard

/-- THE SECOND FORM's CARD OF 'wittinglaw40.ContractionPostulates'. -/
def contractionPostulatesUptoCard : Claim7 := { stood := { row := contractionPostulatesUptoRow, standIns := [], harness := (true, "b9a6110844857ce125656062bf2d4c5db5ad579724e8690e4e494cce96a1147c"), looks := false }, kinds := [], alts := [], laidByText := true, laidKinds := [.funcs], laidTests := true, laidLooks := .later }
def ContractionPostulatesUptoCardSaid : Prop := Claim7.holds Tryd.pinned (.plain (OpenSpec.upto contractionPostulatesSpec)) contractionPostulatesUptoCard

/-- THE SECOND FORM's CARD OF 'wittinglaw40.ContractionSatisfies'. -/
def contractionSatisfiesUptoCard : Claim7 := { stood := { row := contractionSatisfiesUptoRow, standIns := [], harness := (true, "b9a6110844857ce125656062bf2d4c5db5ad579724e8690e4e494cce96a1147c"), looks := false }, kinds := [], alts := [], laidByText := true, laidKinds := [.funcs], laidTests := true, laidLooks := .later }
def ContractionSatisfiesUptoCardSaid : Prop := Claim7.holds Tryd.pinned (.plain (OpenSpec.upto contractionSatisfiesSpec)) contractionSatisfiesUptoCard

/-- THE SECOND FORM's CARD OF 'wittinglaw40.ContractionRepresents'. -/
def contractionRepresentsUptoCard : Claim7 := { stood := { row := contractionRepresentsUptoRow, standIns := [], harness := (true, "b9a6110844857ce125656062bf2d4c5db5ad579724e8690e4e494cce96a1147c"), looks := false }, kinds := [], alts := [], laidByText := true, laidKinds := [.funcs], laidTests := true, laidLooks := .later }
def ContractionRepresentsUptoCardSaid : Prop := Claim7.holds Tryd.pinned (.plain (OpenSpec.upto contractionRepresentsSpec)) contractionRepresentsUptoCard

/-- THE SECOND FORM's CARD OF 'wittinglaw40.ContractionIdentities'. -/
def contractionIdentitiesUptoCard : Claim7 := { stood := { row := contractionIdentitiesUptoRow, standIns := [], harness := (true, "b9a6110844857ce125656062bf2d4c5db5ad579724e8690e4e494cce96a1147c"), looks := false }, kinds := [], alts := [], laidByText := true, laidKinds := [.funcs], laidTests := true, laidLooks := .later }
def ContractionIdentitiesUptoCardSaid : Prop := Claim7.holds Tryd.pinned (.plain (OpenSpec.upto contractionIdentitiesSpec)) contractionIdentitiesUptoCard

/-- THE SECOND FORM's CARD OF 'wittinglaw40.ContractionBack'. -/
def contractionBackUptoCard : Claim7 := { stood := { row := contractionBackUptoRow, standIns := [], harness := (true, "b9a6110844857ce125656062bf2d4c5db5ad579724e8690e4e494cce96a1147c"), looks := false }, kinds := [], alts := [], laidByText := true, laidKinds := [.funcs], laidTests := true, laidLooks := .later }
def ContractionBackUptoCardSaid : Prop := Claim7.holds Tryd.pinned (.plain (OpenSpec.upto contractionBackSpec)) contractionBackUptoCard
end Rows
end Go.Proofs.YtiifmdgcnpdibaaDoor
