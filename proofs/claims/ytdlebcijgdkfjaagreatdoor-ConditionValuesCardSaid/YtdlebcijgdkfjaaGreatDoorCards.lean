/-
  DERIVED. GIVEN WITH THE SEED: THE CARDS: each row of YtdlebcijgdkfjaaGreatDoorRows.lean that lists a variable, with what it lists TIED to the program's text (the seventh form; the later family's looks); each row that meets fmt, with fmt's text TOLD by the authors' own Lean function (tested against real Go, not proved from fmt's source: count such statements apart). THE CARD IS WHAT COUNTS. Prove the row's statement (the work); the ties are given (YtdlebcijgdkfjaaGreatDoorTie.lean); close each card by the builder's one call (the guide's Derived/Test/ToyasCard.lean, 'card_holds'). Laid BY PROGRAM, IN A SANDBOX (cutbox-door.mjs). By AI agents, Wed Nov 11 2026. No macro, syntax, notation, axiom, sorry.
-/
import Derived.Test.YtdlebcijgdkfjaaGreatDoorRows
import GoSem.ClaimSeven
namespace Go.Proofs.YtdlebcijgdkfjaaGreatDoor
namespace Rows

/-- THE TIED CARD OF 'wavestorelaw51.ConditionCompares'. -/
def conditionComparesCard : Claim7 := { stood := { row := conditionComparesRow, standIns := [], harness := (true, "19bd4fe88e51c0e303fd338060ad9ae4096b0d49635328c04bb8152c223c26e7"), looks := false }, kinds := [], alts := [], laidByText := true, laidKinds := [.data, .data, .data, .data, .pinned], laidTests := true, laidLooks := .later }
def ConditionComparesCardSaid : Prop := Claim7.holds Tryz.pinned (.plain (OpenSpec.ofChange conditionComparesSpec)) conditionComparesCard

/-- THE TIED CARD OF 'wavestorelaw51.ConditionValues'. -/
def conditionValuesCard : Claim7 := { stood := { row := conditionValuesRow, standIns := [], harness := (true, "19bd4fe88e51c0e303fd338060ad9ae4096b0d49635328c04bb8152c223c26e7"), looks := false }, kinds := [], alts := [], laidByText := true, laidKinds := [.data, .data, .data, .data, .pinned], laidTests := true, laidLooks := .later }
def ConditionValuesCardSaid : Prop := Claim7.holds Tryz.pinned (.plain (OpenSpec.ofChange conditionValuesSpec)) conditionValuesCard

/-- THE TIED CARD OF 'wavestorelaw51.ConditionReads'. -/
def conditionReadsCard : Claim7 := { stood := { row := conditionReadsRow, standIns := [], harness := (true, "19bd4fe88e51c0e303fd338060ad9ae4096b0d49635328c04bb8152c223c26e7"), looks := false }, kinds := [], alts := [], laidByText := true, laidKinds := [.data, .data, .data, .data, .pinned], laidTests := true, laidLooks := .later }
def ConditionReadsCardSaid : Prop := Claim7.holds Tryz.pinned (.plain (OpenSpec.ofChange conditionReadsSpec)) conditionReadsCard

/-- THE TIED CARD OF 'wavestorelaw51.ConditionParts'. -/
def conditionPartsCard : Claim7 := { stood := { row := conditionPartsRow, standIns := [], harness := (true, "19bd4fe88e51c0e303fd338060ad9ae4096b0d49635328c04bb8152c223c26e7"), looks := false }, kinds := [], alts := [], laidByText := true, laidKinds := [.data, .data, .data, .data, .pinned], laidTests := true, laidLooks := .later }
def ConditionPartsCardSaid : Prop := Claim7.holds Tryz.pinned (.plain (OpenSpec.ofChange conditionPartsSpec)) conditionPartsCard

/-- THE TIED CARD OF 'wavestorelaw51.ConditionMonotone'. -/
def conditionMonotoneCard : Claim7 := { stood := { row := conditionMonotoneRow, standIns := [], harness := (true, "19bd4fe88e51c0e303fd338060ad9ae4096b0d49635328c04bb8152c223c26e7"), looks := false }, kinds := [], alts := [], laidByText := true, laidKinds := [.data, .data, .data, .data, .pinned], laidTests := true, laidLooks := .later }
def ConditionMonotoneCardSaid : Prop := Claim7.holds Tryz.pinned (.plain (OpenSpec.ofChange conditionMonotoneSpec)) conditionMonotoneCard

/-- THE TIED CARD OF 'wavestorelaw51.ConditionDuals'. -/
def conditionDualsCard : Claim7 := { stood := { row := conditionDualsRow, standIns := [], harness := (true, "19bd4fe88e51c0e303fd338060ad9ae4096b0d49635328c04bb8152c223c26e7"), looks := false }, kinds := [], alts := [], laidByText := true, laidKinds := [.data, .data, .data, .data, .pinned], laidTests := true, laidLooks := .later }
def ConditionDualsCardSaid : Prop := Claim7.holds Tryz.pinned (.plain (OpenSpec.ofChange conditionDualsSpec)) conditionDualsCard

/-- THE SECOND FORM's CARD OF 'wavestorelaw51.ConditionCompares'. -/
def conditionComparesUptoCard : Claim7 := { stood := { row := conditionComparesUptoRow, standIns := [], harness := (true, "19bd4fe88e51c0e303fd338060ad9ae4096b0d49635328c04bb8152c223c26e7"), looks := false }, kinds := [], alts := [], laidByText := true, laidKinds := [.data, .data, .data, .data, .pinned], laidTests := true, laidLooks := .later }
def ConditionComparesUptoCardSaid : Prop := Claim7.holds Tryz.pinned (.plain (OpenSpec.upto conditionComparesSpec)) conditionComparesUptoCard

/-- THE SECOND FORM's CARD OF 'wavestorelaw51.ConditionValues'. -/
def conditionValuesUptoCard : Claim7 := { stood := { row := conditionValuesUptoRow, standIns := [], harness := (true, "19bd4fe88e51c0e303fd338060ad9ae4096b0d49635328c04bb8152c223c26e7"), looks := false }, kinds := [], alts := [], laidByText := true, laidKinds := [.data, .data, .data, .data, .pinned], laidTests := true, laidLooks := .later }
def ConditionValuesUptoCardSaid : Prop := Claim7.holds Tryz.pinned (.plain (OpenSpec.upto conditionValuesSpec)) conditionValuesUptoCard

/-- THE SECOND FORM's CARD OF 'wavestorelaw51.ConditionReads'. -/
def conditionReadsUptoCard : Claim7 := { stood := { row := conditionReadsUptoRow, standIns := [], harness := (true, "19bd4fe88e51c0e303fd338060ad9ae4096b0d49635328c04bb8152c223c26e7"), looks := false }, kinds := [], alts := [], laidByText := true, laidKinds := [.data, .data, .data, .data, .pinned], laidTests := true, laidLooks := .later }
def ConditionReadsUptoCardSaid : Prop := Claim7.holds Tryz.pinned (.plain (OpenSpec.upto conditionReadsSpec)) conditionReadsUptoCard

/-- THE SECOND FORM's CARD OF 'wavestorelaw51.ConditionParts'. -/
def conditionPartsUptoCard : Claim7 := { stood := { row := conditionPartsUptoRow, standIns := [], harness := (true, "19bd4fe88e51c0e303fd338060ad9ae4096b0d49635328c04bb8152c223c26e7"), looks := false }, kinds := [], alts := [], laidByText := true, laidKinds := [.data, .data, .data, .data, .pinned], laidTests := true, laidLooks := .later }
def ConditionPartsUptoCardSaid : Prop := Claim7.holds Tryz.pinned (.plain (OpenSpec.upto conditionPartsSpec)) conditionPartsUptoCard

/-- THE SECOND FORM's CARD OF 'wavestorelaw51.ConditionMonotone'. -/
def conditionMonotoneUptoCard : Claim7 := { stood := { row := conditionMonotoneUptoRow, standIns := [], harness := (true, "19bd4fe88e51c0e303fd338060ad9ae4096b0d49635328c04bb8152c223c26e7"), looks := false }, kinds := [], alts := [], laidByText := true, laidKinds := [.data, .data, .data, .data, .pinned], laidTests := true, laidLooks := .later }
def ConditionMonotoneUptoCardSaid : Prop := Claim7.holds Tryz.pinned (.plain (OpenSpec.upto conditionMonotoneSpec)) conditionMonotoneUptoCard

/-- THE SECOND FORM's CARD OF 'wavestorelaw51.ConditionDuals'. -/
def conditionDualsUptoCard : Claim7 := { stood := { row := conditionDualsUptoRow, standIns := [], harness := (true, "19bd4fe88e51c0e303fd338060ad9ae4096b0d49635328c04bb8152c223c26e7"), looks := false }, kinds := [], alts := [], laidByText := true, laidKinds := [.data, .data, .data, .data, .pinned], laidTests := true, laidLooks := .later }
def ConditionDualsUptoCardSaid : Prop := Claim7.holds Tryz.pinned (.plain (OpenSpec.upto conditionDualsSpec)) conditionDualsUptoCard
end Rows
end Go.Proofs.YtdlebcijgdkfjaaGreatDoor
