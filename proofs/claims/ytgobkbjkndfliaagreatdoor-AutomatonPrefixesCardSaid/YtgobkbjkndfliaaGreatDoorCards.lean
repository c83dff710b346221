/-
  DERIVED. GIVEN WITH THE SEED: THE CARDS: each row of YtgobkbjkndfliaaGreatDoorRows.lean that lists a variable, with what it lists TIED to the program's text (the seventh form; the later family's looks); each row that meets fmt, with fmt's text TOLD by the authors' own Lean function (tested against real Go, not proved from fmt's source: count such statements apart). THE CARD IS WHAT COUNTS. Prove the row's statement (the work); the ties are given (YtgobkbjkndfliaaGreatDoorTie.lean); close each card by the builder's one call (the guide's Derived/Test/ToyasCard.lean, 'card_holds'). Laid BY PROGRAM, IN A SANDBOX (cutbox-door.mjs). By AI agents, Wed Nov 11 2026. No macro, syntax, notation, axiom, sorry.
-/
import Derived.Test.YtgobkbjkndfliaaGreatDoorRows
import GoSem.ClaimSeven
namespace Go.Proofs.YtgobkbjkndfliaaGreatDoor
namespace Rows

/-- THE TIED CARD OF 'wavestorelaw54.AutomatonCompiles'. -/
def automatonCompilesCard : Claim7 := { stood := { row := automatonCompilesRow, standIns := [], harness := (true, "bac599962bc64d300b6ac00a0b1003ffa7e06634865f841fdcb06b46a2eaa71c"), looks := false }, kinds := [], alts := [], laidByText := true, laidKinds := [.data, .data, .data, .data, .pinned], laidTests := true, laidLooks := .later }
def AutomatonCompilesCardSaid : Prop := Claim7.holds Tryz.pinned (.plain (OpenSpec.ofChange automatonCompilesSpec)) automatonCompilesCard

/-- THE TIED CARD OF 'wavestorelaw54.AutomatonShape'. -/
def automatonShapeCard : Claim7 := { stood := { row := automatonShapeRow, standIns := [], harness := (true, "bac599962bc64d300b6ac00a0b1003ffa7e06634865f841fdcb06b46a2eaa71c"), looks := false }, kinds := [], alts := [], laidByText := true, laidKinds := [.data, .data, .data, .data, .pinned], laidTests := true, laidLooks := .later }
def AutomatonShapeCardSaid : Prop := Claim7.holds Tryz.pinned (.plain (OpenSpec.ofChange automatonShapeSpec)) automatonShapeCard

/-- THE TIED CARD OF 'wavestorelaw54.AutomatonValid'. -/
def automatonValidCard : Claim7 := { stood := { row := automatonValidRow, standIns := [], harness := (true, "bac599962bc64d300b6ac00a0b1003ffa7e06634865f841fdcb06b46a2eaa71c"), looks := false }, kinds := [], alts := [], laidByText := true, laidKinds := [.data, .data, .data, .data, .pinned], laidTests := true, laidLooks := .later }
def AutomatonValidCardSaid : Prop := Claim7.holds Tryz.pinned (.plain (OpenSpec.ofChange automatonValidSpec)) automatonValidCard

/-- THE TIED CARD OF 'wavestorelaw54.AutomatonPaths'. -/
def automatonPathsCard : Claim7 := { stood := { row := automatonPathsRow, standIns := [], harness := (true, "bac599962bc64d300b6ac00a0b1003ffa7e06634865f841fdcb06b46a2eaa71c"), looks := false }, kinds := [], alts := [], laidByText := true, laidKinds := [.data, .data, .data, .data, .pinned], laidTests := true, laidLooks := .later }
def AutomatonPathsCardSaid : Prop := Claim7.holds Tryz.pinned (.plain (OpenSpec.ofChange automatonPathsSpec)) automatonPathsCard

/-- THE TIED CARD OF 'wavestorelaw54.AutomatonWords'. -/
def automatonWordsCard : Claim7 := { stood := { row := automatonWordsRow, standIns := [], harness := (true, "bac599962bc64d300b6ac00a0b1003ffa7e06634865f841fdcb06b46a2eaa71c"), looks := false }, kinds := [], alts := [], laidByText := true, laidKinds := [.data, .data, .data, .data, .pinned], laidTests := true, laidLooks := .later }
def AutomatonWordsCardSaid : Prop := Claim7.holds Tryz.pinned (.plain (OpenSpec.ofChange automatonWordsSpec)) automatonWordsCard

/-- THE TIED CARD OF 'wavestorelaw54.AutomatonPrefixes'. -/
def automatonPrefixesCard : Claim7 := { stood := { row := automatonPrefixesRow, standIns := [], harness := (true, "bac599962bc64d300b6ac00a0b1003ffa7e06634865f841fdcb06b46a2eaa71c"), looks := false }, kinds := [], alts := [], laidByText := true, laidKinds := [.data, .data, .data, .data, .pinned], laidTests := true, laidLooks := .later }
def AutomatonPrefixesCardSaid : Prop := Claim7.holds Tryz.pinned (.plain (OpenSpec.ofChange automatonPrefixesSpec)) automatonPrefixesCard

/-- THE SECOND FORM's CARD OF 'wavestorelaw54.AutomatonCompiles'. -/
def automatonCompilesUptoCard : Claim7 := { stood := { row := automatonCompilesUptoRow, standIns := [], harness := (true, "bac599962bc64d300b6ac00a0b1003ffa7e06634865f841fdcb06b46a2eaa71c"), looks := false }, kinds := [], alts := [], laidByText := true, laidKinds := [.data, .data, .data, .data, .pinned], laidTests := true, laidLooks := .later }
def AutomatonCompilesUptoCardSaid : Prop := Claim7.holds Tryz.pinned (.plain (OpenSpec.upto automatonCompilesSpec)) automatonCompilesUptoCard

/-- THE SECOND FORM's CARD OF 'wavestorelaw54.AutomatonShape'. -/
def automatonShapeUptoCard : Claim7 := { stood := { row := automatonShapeUptoRow, standIns := [], harness := (true, "bac599962bc64d300b6ac00a0b1003ffa7e06634865f841fdcb06b46a2eaa71c"), looks := false }, kinds := [], alts := [], laidByText := true, laidKinds := [.data, .data, .data, .data, .pinned], laidTests := true, laidLooks := .later }
def AutomatonShapeUptoCardSaid : Prop := Claim7.holds Tryz.pinned (.plain (OpenSpec.upto automatonShapeSpec)) automatonShapeUptoCard

/-- THE SECOND FORM's CARD OF 'wavestorelaw54.AutomatonValid'. -/
def automatonValidUptoCard : Claim7 := { stood := { row := automatonValidUptoRow, standIns := [], harness := (true, "bac599962bc64d300b6ac00a0b1003ffa7e06634865f841fdcb06b46a2eaa71c"), looks := false }, kinds := [], alts := [], laidByText := true, laidKinds := [.data, .data, .data, .data, .pinned], laidTests := true, laidLooks := .later }
def AutomatonValidUptoCardSaid : Prop := Claim7.holds Tryz.pinned (.plain (OpenSpec.upto automatonValidSpec)) automatonValidUptoCard

/-- THE SECOND FORM's CARD OF 'wavestorelaw54.AutomatonPaths'. -/
def automatonPathsUptoCard : Claim7 := { stood := { row := automatonPathsUptoRow, standIns := [], harness := (true, "bac599962bc64d300b6ac00a0b1003ffa7e06634865f841fdcb06b46a2eaa71c"), looks := false }, kinds := [], alts := [], laidByText := true, laidKinds := [.data, .data, .data, .data, .pinned], laidTests := true, laidLooks := .later }
def AutomatonPathsUptoCardSaid : Prop := Claim7.holds Tryz.pinned (.plain (OpenSpec.upto automatonPathsSpec)) automatonPathsUptoCard

/-- THE SECOND FORM's CARD OF 'wavestorelaw54.AutomatonWords'. -/
def automatonWordsUptoCard : Claim7 := { stood := { row := automatonWordsUptoRow, standIns := [], harness := (true, "bac599962bc64d300b6ac00a0b1003ffa7e06634865f841fdcb06b46a2eaa71c"), looks := false }, kinds := [], alts := [], laidByText := true, laidKinds := [.data, .data, .data, .data, .pinned], laidTests := true, laidLooks := .later }
def AutomatonWordsUptoCardSaid : Prop := Claim7.holds Tryz.pinned (.plain (OpenSpec.upto automatonWordsSpec)) automatonWordsUptoCard

/-- THE SECOND FORM's CARD OF 'wavestorelaw54.AutomatonPrefixes'. -/
def automatonPrefixesUptoCard : Claim7 := { stood := { row := automatonPrefixesUptoRow, standIns := [], harness := (true, "bac599962bc64d300b6ac00a0b1003ffa7e06634865f841fdcb06b46a2eaa71c"), looks := false }, kinds := [], alts := [], laidByText := true, laidKinds := [.data, .data, .data, .data, .pinned], laidTests := true, laidLooks := .later }
def AutomatonPrefixesUptoCardSaid : Prop := Claim7.holds Tryz.pinned (.plain (OpenSpec.upto automatonPrefixesSpec)) automatonPrefixesUptoCard
end Rows
end Go.Proofs.YtgobkbjkndfliaaGreatDoor
