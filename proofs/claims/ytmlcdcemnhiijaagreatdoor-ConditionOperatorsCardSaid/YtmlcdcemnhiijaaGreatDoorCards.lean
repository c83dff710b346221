/-
  DERIVED. GIVEN WITH THE SEED: THE CARDS: each row of YtmlcdcemnhiijaaGreatDoorRows.lean that lists a variable, with what it lists TIED to the program's text (the seventh form; the later family's looks); each row that meets fmt, with fmt's text TOLD by the authors' own Lean function (tested against real Go, not proved from fmt's source: count such statements apart). THE CARD IS WHAT COUNTS. Prove the row's statement (the work); the ties are given (YtmlcdcemnhiijaaGreatDoorTie.lean); close each card by the builder's one call (the guide's Derived/Test/ToyasCard.lean, 'card_holds'). Laid BY PROGRAM, IN A SANDBOX (cutbox-door.mjs). By AI agents, Wed Nov 11 2026. No macro, syntax, notation, axiom, sorry.
-/
import Derived.Test.YtmlcdcemnhiijaaGreatDoorRows
import GoSem.ClaimSeven
namespace Go.Proofs.YtmlcdcemnhiijaaGreatDoor
namespace Rows

/-- THE TIED CARD OF 'wavestorelaw51.ConditionOperators'. -/
def conditionOperatorsCard : Claim7 := { stood := { row := conditionOperatorsRow, standIns := [], harness := (true, "4e97c0cf38f95851d90e6b8cb36de771f10ee4f77f10f4862540a009505e7a26"), looks := false }, kinds := [], alts := [], laidByText := true, laidKinds := [.data, .data, .data, .data, .pinned], laidTests := true, laidLooks := .later }
def ConditionOperatorsCardSaid : Prop := Claim7.holds Tryz.pinned (.plain (OpenSpec.ofChange conditionOperatorsSpec)) conditionOperatorsCard

/-- THE TIED CARD OF 'wavestorelaw51.ConditionCompares'. -/
def conditionComparesCard : Claim7 := { stood := { row := conditionComparesRow, standIns := [], harness := (true, "4e97c0cf38f95851d90e6b8cb36de771f10ee4f77f10f4862540a009505e7a26"), looks := false }, kinds := [], alts := [], laidByText := true, laidKinds := [.data, .data, .data, .data, .pinned], laidTests := true, laidLooks := .later }
def ConditionComparesCardSaid : Prop := Claim7.holds Tryz.pinned (.plain (OpenSpec.ofChange conditionComparesSpec)) conditionComparesCard

/-- THE SECOND FORM's CARD OF 'wavestorelaw51.ConditionOperators'. -/
def conditionOperatorsUptoCard : Claim7 := { stood := { row := conditionOperatorsUptoRow, standIns := [], harness := (true, "4e97c0cf38f95851d90e6b8cb36de771f10ee4f77f10f4862540a009505e7a26"), looks := false }, kinds := [], alts := [], laidByText := true, laidKinds := [.data, .data, .data, .data, .pinned], laidTests := true, laidLooks := .later }
def ConditionOperatorsUptoCardSaid : Prop := Claim7.holds Tryz.pinned (.plain (OpenSpec.upto conditionOperatorsSpec)) conditionOperatorsUptoCard

/-- THE SECOND FORM's CARD OF 'wavestorelaw51.ConditionCompares'. -/
def conditionComparesUptoCard : Claim7 := { stood := { row := conditionComparesUptoRow, standIns := [], harness := (true, "4e97c0cf38f95851d90e6b8cb36de771f10ee4f77f10f4862540a009505e7a26"), looks := false }, kinds := [], alts := [], laidByText := true, laidKinds := [.data, .data, .data, .data, .pinned], laidTests := true, laidLooks := .later }
def ConditionComparesUptoCardSaid : Prop := Claim7.holds Tryz.pinned (.plain (OpenSpec.upto conditionComparesSpec)) conditionComparesUptoCard
end Rows
end Go.Proofs.YtmlcdcemnhiijaaGreatDoor
