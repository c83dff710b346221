/-
  DERIVED. GIVEN WITH THE SEED: THE CARDS: each row of YtlockjbhdibojaaGreatDoorRows.lean that lists a variable, with what it lists TIED to the program's text (the seventh form; the later family's looks); each row that meets fmt, with fmt's text TOLD by the authors' own Lean function (tested against real Go, not proved from fmt's source: count such statements apart). THE CARD IS WHAT COUNTS. Prove the row's statement (the work); the ties are given (YtlockjbhdibojaaGreatDoorTie.lean); close each card by the builder's one call (the guide's Derived/Test/ToyasCard.lean, 'card_holds'). Laid BY PROGRAM, IN A SANDBOX (cutbox-door.mjs). By AI agents, Wed Nov 11 2026. No macro, syntax, notation, axiom, sorry.
-/
import Derived.Test.YtlockjbhdibojaaGreatDoorRows
import GoSem.ClaimSeven
namespace Go.Proofs.YtlockjbhdibojaaGreatDoor
namespace Rows

/-- THE TIED CARD OF 'wavestorelaw57.TransactionsGroups'. -/
def transactionsGroupsCard : Claim7 := { stood := { row := transactionsGroupsRow, standIns := [], harness := (true, "ba67de70370ef47afec516192d4eb4422b0d53eb457b8c861bfe5f269e71a37b"), looks := false }, kinds := [], alts := [], laidByText := true, laidKinds := [.data, .data, .data, .data, .pinned], laidTests := true, laidLooks := .later }
def TransactionsGroupsCardSaid : Prop := Claim7.holds Tryz.pinned (.plain (OpenSpec.ofChange transactionsGroupsSpec)) transactionsGroupsCard

/-- THE TIED CARD OF 'wavestorelaw57.TransactionsComplete'. -/
def transactionsCompleteCard : Claim7 := { stood := { row := transactionsCompleteRow, standIns := [], harness := (true, "ba67de70370ef47afec516192d4eb4422b0d53eb457b8c861bfe5f269e71a37b"), looks := false }, kinds := [], alts := [], laidByText := true, laidKinds := [.data, .data, .data, .data, .pinned], laidTests := true, laidLooks := .later }
def TransactionsCompleteCardSaid : Prop := Claim7.holds Tryz.pinned (.plain (OpenSpec.ofChange transactionsCompleteSpec)) transactionsCompleteCard

/-- THE SECOND FORM's CARD OF 'wavestorelaw57.TransactionsGroups'. -/
def transactionsGroupsUptoCard : Claim7 := { stood := { row := transactionsGroupsUptoRow, standIns := [], harness := (true, "ba67de70370ef47afec516192d4eb4422b0d53eb457b8c861bfe5f269e71a37b"), looks := false }, kinds := [], alts := [], laidByText := true, laidKinds := [.data, .data, .data, .data, .pinned], laidTests := true, laidLooks := .later }
def TransactionsGroupsUptoCardSaid : Prop := Claim7.holds Tryz.pinned (.plain (OpenSpec.upto transactionsGroupsSpec)) transactionsGroupsUptoCard

/-- THE SECOND FORM's CARD OF 'wavestorelaw57.TransactionsComplete'. -/
def transactionsCompleteUptoCard : Claim7 := { stood := { row := transactionsCompleteUptoRow, standIns := [], harness := (true, "ba67de70370ef47afec516192d4eb4422b0d53eb457b8c861bfe5f269e71a37b"), looks := false }, kinds := [], alts := [], laidByText := true, laidKinds := [.data, .data, .data, .data, .pinned], laidTests := true, laidLooks := .later }
def TransactionsCompleteUptoCardSaid : Prop := Claim7.holds Tryz.pinned (.plain (OpenSpec.upto transactionsCompleteSpec)) transactionsCompleteUptoCard
end Rows
end Go.Proofs.YtlockjbhdibojaaGreatDoor
