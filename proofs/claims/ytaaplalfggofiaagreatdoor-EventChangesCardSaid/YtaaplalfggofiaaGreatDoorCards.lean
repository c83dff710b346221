/-
  DERIVED. GIVEN WITH THE SEED: THE CARDS: each row of YtaaplalfggofiaaGreatDoorRows.lean that lists a variable, with what it lists TIED to the program's text (the seventh form; the later family's looks); each row that meets fmt, with fmt's text TOLD by the authors' own Lean function (tested against real Go, not proved from fmt's source: count such statements apart). THE CARD IS WHAT COUNTS. Prove the row's statement (the work); the ties are given (YtaaplalfggofiaaGreatDoorTie.lean); close each card by the builder's one call (the guide's Derived/Test/ToyasCard.lean, 'card_holds'). Laid BY PROGRAM, IN A SANDBOX (cutbox-door.mjs). By AI agents, Wed Nov 11 2026. No macro, syntax, notation, axiom, sorry.
-/
import Derived.Test.YtaaplalfggofiaaGreatDoorRows
import GoSem.ClaimSeven
namespace Go.Proofs.YtaaplalfggofiaaGreatDoor
namespace Rows

/-- THE TIED CARD OF 'wavestorelaw51.ConditionDuals'. -/
def conditionDualsCard : Claim7 := { stood := { row := conditionDualsRow, standIns := [], harness := (true, "bc7037c7e312971677d209630517f91b6411d4a354264967514d04449bfa444e"), looks := false }, kinds := [], alts := [], laidByText := true, laidKinds := [.data, .data, .data, .data, .pinned], laidTests := true, laidLooks := .later }
def ConditionDualsCardSaid : Prop := Claim7.holds Tryz.pinned (.plain (OpenSpec.ofChange conditionDualsSpec)) conditionDualsCard

/-- THE TIED CARD OF 'wavestorelaw52.TemporalLocal'. -/
def temporalLocalCard : Claim7 := { stood := { row := temporalLocalRow, standIns := [], harness := (true, "bc7037c7e312971677d209630517f91b6411d4a354264967514d04449bfa444e"), looks := false }, kinds := [], alts := [], laidByText := true, laidKinds := [.data, .data, .data, .data, .pinned], laidTests := true, laidLooks := .later }
def TemporalLocalCardSaid : Prop := Claim7.holds Tryz.pinned (.plain (OpenSpec.ofChange temporalLocalSpec)) temporalLocalCard

/-- THE TIED CARD OF 'wavestorelaw52.TemporalReads'. -/
def temporalReadsCard : Claim7 := { stood := { row := temporalReadsRow, standIns := [], harness := (true, "bc7037c7e312971677d209630517f91b6411d4a354264967514d04449bfa444e"), looks := false }, kinds := [], alts := [], laidByText := true, laidKinds := [.data, .data, .data, .data, .pinned], laidTests := true, laidLooks := .later }
def TemporalReadsCardSaid : Prop := Claim7.holds Tryz.pinned (.plain (OpenSpec.ofChange temporalReadsSpec)) temporalReadsCard

/-- THE TIED CARD OF 'wavestorelaw53.EventParts'. -/
def eventPartsCard : Claim7 := { stood := { row := eventPartsRow, standIns := [], harness := (true, "bc7037c7e312971677d209630517f91b6411d4a354264967514d04449bfa444e"), looks := false }, kinds := [], alts := [], laidByText := true, laidKinds := [.data, .data, .data, .data, .pinned], laidTests := true, laidLooks := .later }
def EventPartsCardSaid : Prop := Claim7.holds Tryz.pinned (.plain (OpenSpec.ofChange eventPartsSpec)) eventPartsCard

/-- THE TIED CARD OF 'wavestorelaw53.EventReads'. -/
def eventReadsCard : Claim7 := { stood := { row := eventReadsRow, standIns := [], harness := (true, "bc7037c7e312971677d209630517f91b6411d4a354264967514d04449bfa444e"), looks := false }, kinds := [], alts := [], laidByText := true, laidKinds := [.data, .data, .data, .data, .pinned], laidTests := true, laidLooks := .later }
def EventReadsCardSaid : Prop := Claim7.holds Tryz.pinned (.plain (OpenSpec.ofChange eventReadsSpec)) eventReadsCard

/-- THE TIED CARD OF 'wavestorelaw53.EventChanges'. -/
def eventChangesCard : Claim7 := { stood := { row := eventChangesRow, standIns := [], harness := (true, "bc7037c7e312971677d209630517f91b6411d4a354264967514d04449bfa444e"), looks := false }, kinds := [], alts := [], laidByText := true, laidKinds := [.data, .data, .data, .data, .pinned], laidTests := true, laidLooks := .later }
def EventChangesCardSaid : Prop := Claim7.holds Tryz.pinned (.plain (OpenSpec.ofChange eventChangesSpec)) eventChangesCard

/-- THE TIED CARD OF 'wavestorelaw57.TransactionsBeats'. -/
def transactionsBeatsCard : Claim7 := { stood := { row := transactionsBeatsRow, standIns := [], harness := (true, "bc7037c7e312971677d209630517f91b6411d4a354264967514d04449bfa444e"), looks := false }, kinds := [], alts := [], laidByText := true, laidKinds := [.data, .data, .data, .data, .pinned], laidTests := true, laidLooks := .later }
def TransactionsBeatsCardSaid : Prop := Claim7.holds Tryz.pinned (.plain (OpenSpec.ofChange transactionsBeatsSpec)) transactionsBeatsCard

/-- THE TIED CARD OF 'wavestorelaw57.TransactionsSamples'. -/
def transactionsSamplesCard : Claim7 := { stood := { row := transactionsSamplesRow, standIns := [], harness := (true, "bc7037c7e312971677d209630517f91b6411d4a354264967514d04449bfa444e"), looks := false }, kinds := [], alts := [], laidByText := true, laidKinds := [.data, .data, .data, .data, .pinned], laidTests := true, laidLooks := .later }
def TransactionsSamplesCardSaid : Prop := Claim7.holds Tryz.pinned (.plain (OpenSpec.ofChange transactionsSamplesSpec)) transactionsSamplesCard

/-- THE TIED CARD OF 'wavestorelaw57.TransactionsReads'. -/
def transactionsReadsCard : Claim7 := { stood := { row := transactionsReadsRow, standIns := [], harness := (true, "bc7037c7e312971677d209630517f91b6411d4a354264967514d04449bfa444e"), looks := false }, kinds := [], alts := [], laidByText := true, laidKinds := [.data, .data, .data, .data, .pinned], laidTests := true, laidLooks := .later }
def TransactionsReadsCardSaid : Prop := Claim7.holds Tryz.pinned (.plain (OpenSpec.ofChange transactionsReadsSpec)) transactionsReadsCard

/-- THE TIED CARD OF 'wavestorelaw57.TransactionsErrors'. -/
def transactionsErrorsCard : Claim7 := { stood := { row := transactionsErrorsRow, standIns := [], harness := (true, "bc7037c7e312971677d209630517f91b6411d4a354264967514d04449bfa444e"), looks := false }, kinds := [], alts := [], laidByText := true, laidKinds := [.data, .data, .data, .data, .pinned], laidTests := true, laidLooks := .later }
def TransactionsErrorsCardSaid : Prop := Claim7.holds Tryz.pinned (.plain (OpenSpec.ofChange transactionsErrorsSpec)) transactionsErrorsCard

/-- THE TIED CARD OF 'wavestorelaw57.TransactionsParts'. -/
def transactionsPartsCard : Claim7 := { stood := { row := transactionsPartsRow, standIns := [], harness := (true, "bc7037c7e312971677d209630517f91b6411d4a354264967514d04449bfa444e"), looks := false }, kinds := [], alts := [], laidByText := true, laidKinds := [.data, .data, .data, .data, .pinned], laidTests := true, laidLooks := .later }
def TransactionsPartsCardSaid : Prop := Claim7.holds Tryz.pinned (.plain (OpenSpec.ofChange transactionsPartsSpec)) transactionsPartsCard

/-- THE SECOND FORM's CARD OF 'wavestorelaw51.ConditionDuals'. -/
def conditionDualsUptoCard : Claim7 := { stood := { row := conditionDualsUptoRow, standIns := [], harness := (true, "bc7037c7e312971677d209630517f91b6411d4a354264967514d04449bfa444e"), looks := false }, kinds := [], alts := [], laidByText := true, laidKinds := [.data, .data, .data, .data, .pinned], laidTests := true, laidLooks := .later }
def ConditionDualsUptoCardSaid : Prop := Claim7.holds Tryz.pinned (.plain (OpenSpec.upto conditionDualsSpec)) conditionDualsUptoCard

/-- THE SECOND FORM's CARD OF 'wavestorelaw52.TemporalLocal'. -/
def temporalLocalUptoCard : Claim7 := { stood := { row := temporalLocalUptoRow, standIns := [], harness := (true, "bc7037c7e312971677d209630517f91b6411d4a354264967514d04449bfa444e"), looks := false }, kinds := [], alts := [], laidByText := true, laidKinds := [.data, .data, .data, .data, .pinned], laidTests := true, laidLooks := .later }
def TemporalLocalUptoCardSaid : Prop := Claim7.holds Tryz.pinned (.plain (OpenSpec.upto temporalLocalSpec)) temporalLocalUptoCard

/-- THE SECOND FORM's CARD OF 'wavestorelaw52.TemporalReads'. -/
def temporalReadsUptoCard : Claim7 := { stood := { row := temporalReadsUptoRow, standIns := [], harness := (true, "bc7037c7e312971677d209630517f91b6411d4a354264967514d04449bfa444e"), looks := false }, kinds := [], alts := [], laidByText := true, laidKinds := [.data, .data, .data, .data, .pinned], laidTests := true, laidLooks := .later }
def TemporalReadsUptoCardSaid : Prop := Claim7.holds Tryz.pinned (.plain (OpenSpec.upto temporalReadsSpec)) temporalReadsUptoCard

/-- THE SECOND FORM's CARD OF 'wavestorelaw53.EventParts'. -/
def eventPartsUptoCard : Claim7 := { stood := { row := eventPartsUptoRow, standIns := [], harness := (true, "bc7037c7e312971677d209630517f91b6411d4a354264967514d04449bfa444e"), looks := false }, kinds := [], alts := [], laidByText := true, laidKinds := [.data, .data, .data, .data, .pinned], laidTests := true, laidLooks := .later }
def EventPartsUptoCardSaid : Prop := Claim7.holds Tryz.pinned (.plain (OpenSpec.upto eventPartsSpec)) eventPartsUptoCard

/-- THE SECOND FORM's CARD OF 'wavestorelaw53.EventReads'. -/
def eventReadsUptoCard : Claim7 := { stood := { row := eventReadsUptoRow, standIns := [], harness := (true, "bc7037c7e312971677d209630517f91b6411d4a354264967514d04449bfa444e"), looks := false }, kinds := [], alts := [], laidByText := true, laidKinds := [.data, .data, .data, .data, .pinned], laidTests := true, laidLooks := .later }
def EventReadsUptoCardSaid : Prop := Claim7.holds Tryz.pinned (.plain (OpenSpec.upto eventReadsSpec)) eventReadsUptoCard

/-- THE SECOND FORM's CARD OF 'wavestorelaw53.EventChanges'. -/
def eventChangesUptoCard : Claim7 := { stood := { row := eventChangesUptoRow, standIns := [], harness := (true, "bc7037c7e312971677d209630517f91b6411d4a354264967514d04449bfa444e"), looks := false }, kinds := [], alts := [], laidByText := true, laidKinds := [.data, .data, .data, .data, .pinned], laidTests := true, laidLooks := .later }
def EventChangesUptoCardSaid : Prop := Claim7.holds Tryz.pinned (.plain (OpenSpec.upto eventChangesSpec)) eventChangesUptoCard

/-- THE SECOND FORM's CARD OF 'wavestorelaw57.TransactionsBeats'. -/
def transactionsBeatsUptoCard : Claim7 := { stood := { row := transactionsBeatsUptoRow, standIns := [], harness := (true, "bc7037c7e312971677d209630517f91b6411d4a354264967514d04449bfa444e"), looks := false }, kinds := [], alts := [], laidByText := true, laidKinds := [.data, .data, .data, .data, .pinned], laidTests := true, laidLooks := .later }
def TransactionsBeatsUptoCardSaid : Prop := Claim7.holds Tryz.pinned (.plain (OpenSpec.upto transactionsBeatsSpec)) transactionsBeatsUptoCard

/-- THE SECOND FORM's CARD OF 'wavestorelaw57.TransactionsSamples'. -/
def transactionsSamplesUptoCard : Claim7 := { stood := { row := transactionsSamplesUptoRow, standIns := [], harness := (true, "bc7037c7e312971677d209630517f91b6411d4a354264967514d04449bfa444e"), looks := false }, kinds := [], alts := [], laidByText := true, laidKinds := [.data, .data, .data, .data, .pinned], laidTests := true, laidLooks := .later }
def TransactionsSamplesUptoCardSaid : Prop := Claim7.holds Tryz.pinned (.plain (OpenSpec.upto transactionsSamplesSpec)) transactionsSamplesUptoCard

/-- THE SECOND FORM's CARD OF 'wavestorelaw57.TransactionsReads'. -/
def transactionsReadsUptoCard : Claim7 := { stood := { row := transactionsReadsUptoRow, standIns := [], harness := (true, "bc7037c7e312971677d209630517f91b6411d4a354264967514d04449bfa444e"), looks := false }, kinds := [], alts := [], laidByText := true, laidKinds := [.data, .data, .data, .data, .pinned], laidTests := true, laidLooks := .later }
def TransactionsReadsUptoCardSaid : Prop := Claim7.holds Tryz.pinned (.plain (OpenSpec.upto transactionsReadsSpec)) transactionsReadsUptoCard

/-- THE SECOND FORM's CARD OF 'wavestorelaw57.TransactionsErrors'. -/
def transactionsErrorsUptoCard : Claim7 := { stood := { row := transactionsErrorsUptoRow, standIns := [], harness := (true, "bc7037c7e312971677d209630517f91b6411d4a354264967514d04449bfa444e"), looks := false }, kinds := [], alts := [], laidByText := true, laidKinds := [.data, .data, .data, .data, .pinned], laidTests := true, laidLooks := .later }
def TransactionsErrorsUptoCardSaid : Prop := Claim7.holds Tryz.pinned (.plain (OpenSpec.upto transactionsErrorsSpec)) transactionsErrorsUptoCard

/-- THE SECOND FORM's CARD OF 'wavestorelaw57.TransactionsParts'. -/
def transactionsPartsUptoCard : Claim7 := { stood := { row := transactionsPartsUptoRow, standIns := [], harness := (true, "bc7037c7e312971677d209630517f91b6411d4a354264967514d04449bfa444e"), looks := false }, kinds := [], alts := [], laidByText := true, laidKinds := [.data, .data, .data, .data, .pinned], laidTests := true, laidLooks := .later }
def TransactionsPartsUptoCardSaid : Prop := Claim7.holds Tryz.pinned (.plain (OpenSpec.upto transactionsPartsSpec)) transactionsPartsUptoCard
end Rows
end Go.Proofs.YtaaplalfggofiaaGreatDoor
