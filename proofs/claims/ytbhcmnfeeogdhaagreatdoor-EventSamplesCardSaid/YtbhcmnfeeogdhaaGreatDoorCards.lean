/-
  DERIVED. GIVEN WITH THE SEED: THE CARDS: each row of YtbhcmnfeeogdhaaGreatDoorRows.lean that lists a variable, with what it lists TIED to the program's text (the seventh form; the later family's looks); each row that meets fmt, with fmt's text TOLD by the authors' own Lean function (tested against real Go, not proved from fmt's source: count such statements apart). THE CARD IS WHAT COUNTS. Prove the row's statement (the work); the ties are given (YtbhcmnfeeogdhaaGreatDoorTie.lean); close each card by the builder's one call (the guide's Derived/Test/ToyasCard.lean, 'card_holds'). Laid BY PROGRAM, IN A SANDBOX (cutbox-door.mjs). By AI agents, Wed Nov 11 2026. No macro, syntax, notation, axiom, sorry.
-/
import Derived.Test.YtbhcmnfeeogdhaaGreatDoorRows
import GoSem.ClaimSeven
namespace Go.Proofs.YtbhcmnfeeogdhaaGreatDoor
namespace Rows

/-- THE TIED CARD OF 'wavestorelaw53.EventKinds'. -/
def eventKindsCard : Claim7 := { stood := { row := eventKindsRow, standIns := [], harness := (true, "0c78b8623bf29f342574e68bcdd1a2de47b12b2b8b2a0012aa1e583508cce4d2"), looks := false }, kinds := [], alts := [], laidByText := true, laidKinds := [.data, .data, .data, .data, .pinned], laidTests := true, laidLooks := .later }
def EventKindsCardSaid : Prop := Claim7.holds Tryz.pinned (.plain (OpenSpec.ofChange eventKindsSpec)) eventKindsCard

/-- THE TIED CARD OF 'wavestorelaw53.EventParts'. -/
def eventPartsCard : Claim7 := { stood := { row := eventPartsRow, standIns := [], harness := (true, "0c78b8623bf29f342574e68bcdd1a2de47b12b2b8b2a0012aa1e583508cce4d2"), looks := false }, kinds := [], alts := [], laidByText := true, laidKinds := [.data, .data, .data, .data, .pinned], laidTests := true, laidLooks := .later }
def EventPartsCardSaid : Prop := Claim7.holds Tryz.pinned (.plain (OpenSpec.ofChange eventPartsSpec)) eventPartsCard

/-- THE TIED CARD OF 'wavestorelaw53.EventReads'. -/
def eventReadsCard : Claim7 := { stood := { row := eventReadsRow, standIns := [], harness := (true, "0c78b8623bf29f342574e68bcdd1a2de47b12b2b8b2a0012aa1e583508cce4d2"), looks := false }, kinds := [], alts := [], laidByText := true, laidKinds := [.data, .data, .data, .data, .pinned], laidTests := true, laidLooks := .later }
def EventReadsCardSaid : Prop := Claim7.holds Tryz.pinned (.plain (OpenSpec.ofChange eventReadsSpec)) eventReadsCard

/-- THE TIED CARD OF 'wavestorelaw53.EventSamples'. -/
def eventSamplesCard : Claim7 := { stood := { row := eventSamplesRow, standIns := [], harness := (true, "0c78b8623bf29f342574e68bcdd1a2de47b12b2b8b2a0012aa1e583508cce4d2"), looks := false }, kinds := [], alts := [], laidByText := true, laidKinds := [.data, .data, .data, .data, .pinned], laidTests := true, laidLooks := .later }
def EventSamplesCardSaid : Prop := Claim7.holds Tryz.pinned (.plain (OpenSpec.ofChange eventSamplesSpec)) eventSamplesCard

/-- THE TIED CARD OF 'wavestorelaw53.EventChanges'. -/
def eventChangesCard : Claim7 := { stood := { row := eventChangesRow, standIns := [], harness := (true, "0c78b8623bf29f342574e68bcdd1a2de47b12b2b8b2a0012aa1e583508cce4d2"), looks := false }, kinds := [], alts := [], laidByText := true, laidKinds := [.data, .data, .data, .data, .pinned], laidTests := true, laidLooks := .later }
def EventChangesCardSaid : Prop := Claim7.holds Tryz.pinned (.plain (OpenSpec.ofChange eventChangesSpec)) eventChangesCard

/-- THE SECOND FORM's CARD OF 'wavestorelaw53.EventKinds'. -/
def eventKindsUptoCard : Claim7 := { stood := { row := eventKindsUptoRow, standIns := [], harness := (true, "0c78b8623bf29f342574e68bcdd1a2de47b12b2b8b2a0012aa1e583508cce4d2"), looks := false }, kinds := [], alts := [], laidByText := true, laidKinds := [.data, .data, .data, .data, .pinned], laidTests := true, laidLooks := .later }
def EventKindsUptoCardSaid : Prop := Claim7.holds Tryz.pinned (.plain (OpenSpec.upto eventKindsSpec)) eventKindsUptoCard

/-- THE SECOND FORM's CARD OF 'wavestorelaw53.EventParts'. -/
def eventPartsUptoCard : Claim7 := { stood := { row := eventPartsUptoRow, standIns := [], harness := (true, "0c78b8623bf29f342574e68bcdd1a2de47b12b2b8b2a0012aa1e583508cce4d2"), looks := false }, kinds := [], alts := [], laidByText := true, laidKinds := [.data, .data, .data, .data, .pinned], laidTests := true, laidLooks := .later }
def EventPartsUptoCardSaid : Prop := Claim7.holds Tryz.pinned (.plain (OpenSpec.upto eventPartsSpec)) eventPartsUptoCard

/-- THE SECOND FORM's CARD OF 'wavestorelaw53.EventReads'. -/
def eventReadsUptoCard : Claim7 := { stood := { row := eventReadsUptoRow, standIns := [], harness := (true, "0c78b8623bf29f342574e68bcdd1a2de47b12b2b8b2a0012aa1e583508cce4d2"), looks := false }, kinds := [], alts := [], laidByText := true, laidKinds := [.data, .data, .data, .data, .pinned], laidTests := true, laidLooks := .later }
def EventReadsUptoCardSaid : Prop := Claim7.holds Tryz.pinned (.plain (OpenSpec.upto eventReadsSpec)) eventReadsUptoCard

/-- THE SECOND FORM's CARD OF 'wavestorelaw53.EventSamples'. -/
def eventSamplesUptoCard : Claim7 := { stood := { row := eventSamplesUptoRow, standIns := [], harness := (true, "0c78b8623bf29f342574e68bcdd1a2de47b12b2b8b2a0012aa1e583508cce4d2"), looks := false }, kinds := [], alts := [], laidByText := true, laidKinds := [.data, .data, .data, .data, .pinned], laidTests := true, laidLooks := .later }
def EventSamplesUptoCardSaid : Prop := Claim7.holds Tryz.pinned (.plain (OpenSpec.upto eventSamplesSpec)) eventSamplesUptoCard

/-- THE SECOND FORM's CARD OF 'wavestorelaw53.EventChanges'. -/
def eventChangesUptoCard : Claim7 := { stood := { row := eventChangesUptoRow, standIns := [], harness := (true, "0c78b8623bf29f342574e68bcdd1a2de47b12b2b8b2a0012aa1e583508cce4d2"), looks := false }, kinds := [], alts := [], laidByText := true, laidKinds := [.data, .data, .data, .data, .pinned], laidTests := true, laidLooks := .later }
def EventChangesUptoCardSaid : Prop := Claim7.holds Tryz.pinned (.plain (OpenSpec.upto eventChangesSpec)) eventChangesUptoCard
end Rows
end Go.Proofs.YtbhcmnfeeogdhaaGreatDoor
