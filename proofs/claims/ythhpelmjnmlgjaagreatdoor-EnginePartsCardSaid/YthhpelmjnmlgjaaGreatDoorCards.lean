/-
  DERIVED. GIVEN WITH THE SEED: THE CARDS: each row of YthhpelmjnmlgjaaGreatDoorRows.lean that lists a variable, with what it lists TIED to the program's text (the seventh form; the later family's looks); each row that meets fmt, with fmt's text TOLD by the authors' own Lean function (tested against real Go, not proved from fmt's source: count such statements apart). THE CARD IS WHAT COUNTS. Prove the row's statement (the work); the ties are given (YthhpelmjnmlgjaaGreatDoorTie.lean); close each card by the builder's one call (the guide's Derived/Test/ToyasCard.lean, 'card_holds'). Laid BY PROGRAM, IN A SANDBOX (cutbox-door.mjs). By AI agents, Wed Nov 11 2026. No macro, syntax, notation, axiom, sorry.
-/
import Derived.Test.YthhpelmjnmlgjaaGreatDoorRows
import GoSem.ClaimSeven
namespace Go.Proofs.YthhpelmjnmlgjaaGreatDoor
namespace Rows

/-- THE TIED CARD OF 'stratigraphlaw11.EngineDoes'. -/
def engineDoesCard : Claim7 := { stood := { row := engineDoesRow, standIns := [], harness := (true, "a5f38efe01d2f11ccaaeb0180c827dc94fc79ce6d84c59bfb0c07c85524946a8"), looks := false }, kinds := [], alts := [], laidByText := true, laidKinds := [.data, .pinned], laidTests := true, laidLooks := .later }
def EngineDoesCardSaid : Prop := Claim7.holds Tryz.pinned (.plain (OpenSpec.ofChange engineDoesSpec)) engineDoesCard

/-- THE TIED CARD OF 'stratigraphlaw11.EngineRights'. -/
def engineRightsCard : Claim7 := { stood := { row := engineRightsRow, standIns := [], harness := (true, "a5f38efe01d2f11ccaaeb0180c827dc94fc79ce6d84c59bfb0c07c85524946a8"), looks := false }, kinds := [], alts := [], laidByText := true, laidKinds := [.data, .pinned], laidTests := true, laidLooks := .later }
def EngineRightsCardSaid : Prop := Claim7.holds Tryz.pinned (.plain (OpenSpec.ofChange engineRightsSpec)) engineRightsCard

/-- THE TIED CARD OF 'stratigraphlaw11.EngineInstalls'. -/
def engineInstallsCard : Claim7 := { stood := { row := engineInstallsRow, standIns := [], harness := (true, "a5f38efe01d2f11ccaaeb0180c827dc94fc79ce6d84c59bfb0c07c85524946a8"), looks := false }, kinds := [], alts := [], laidByText := true, laidKinds := [.data, .pinned], laidTests := true, laidLooks := .later }
def EngineInstallsCardSaid : Prop := Claim7.holds Tryz.pinned (.plain (OpenSpec.ofChange engineInstallsSpec)) engineInstallsCard

/-- THE TIED CARD OF 'stratigraphlaw11.EngineHolds'. -/
def engineHoldsCard : Claim7 := { stood := { row := engineHoldsRow, standIns := [], harness := (true, "a5f38efe01d2f11ccaaeb0180c827dc94fc79ce6d84c59bfb0c07c85524946a8"), looks := false }, kinds := [], alts := [], laidByText := true, laidKinds := [.data, .pinned], laidTests := true, laidLooks := .later }
def EngineHoldsCardSaid : Prop := Claim7.holds Tryz.pinned (.plain (OpenSpec.ofChange engineHoldsSpec)) engineHoldsCard

/-- THE TIED CARD OF 'stratigraphlaw11.EngineMarks'. -/
def engineMarksCard : Claim7 := { stood := { row := engineMarksRow, standIns := [], harness := (true, "a5f38efe01d2f11ccaaeb0180c827dc94fc79ce6d84c59bfb0c07c85524946a8"), looks := false }, kinds := [], alts := [], laidByText := true, laidKinds := [.data, .pinned], laidTests := true, laidLooks := .later }
def EngineMarksCardSaid : Prop := Claim7.holds Tryz.pinned (.plain (OpenSpec.ofChange engineMarksSpec)) engineMarksCard

/-- THE TIED CARD OF 'stratigraphlaw11.EngineGoes'. -/
def engineGoesCard : Claim7 := { stood := { row := engineGoesRow, standIns := [], harness := (true, "a5f38efe01d2f11ccaaeb0180c827dc94fc79ce6d84c59bfb0c07c85524946a8"), looks := false }, kinds := [], alts := [], laidByText := true, laidKinds := [.data, .pinned], laidTests := true, laidLooks := .later }
def EngineGoesCardSaid : Prop := Claim7.holds Tryz.pinned (.plain (OpenSpec.ofChange engineGoesSpec)) engineGoesCard

/-- THE TIED CARD OF 'stratigraphlaw11.EngineMoves'. -/
def engineMovesCard : Claim7 := { stood := { row := engineMovesRow, standIns := [], harness := (true, "a5f38efe01d2f11ccaaeb0180c827dc94fc79ce6d84c59bfb0c07c85524946a8"), looks := false }, kinds := [], alts := [], laidByText := true, laidKinds := [.data, .pinned], laidTests := true, laidLooks := .later }
def EngineMovesCardSaid : Prop := Claim7.holds Tryz.pinned (.plain (OpenSpec.ofChange engineMovesSpec)) engineMovesCard

/-- THE TIED CARD OF 'stratigraphlaw11.EngineParts'. -/
def enginePartsCard : Claim7 := { stood := { row := enginePartsRow, standIns := [], harness := (true, "a5f38efe01d2f11ccaaeb0180c827dc94fc79ce6d84c59bfb0c07c85524946a8"), looks := false }, kinds := [], alts := [], laidByText := true, laidKinds := [.data, .pinned], laidTests := true, laidLooks := .later }
def EnginePartsCardSaid : Prop := Claim7.holds Tryz.pinned (.plain (OpenSpec.ofChange enginePartsSpec)) enginePartsCard

/-- THE TIED CARD OF 'stratigraphlaw11.EngineStays'. -/
def engineStaysCard : Claim7 := { stood := { row := engineStaysRow, standIns := [], harness := (true, "a5f38efe01d2f11ccaaeb0180c827dc94fc79ce6d84c59bfb0c07c85524946a8"), looks := false }, kinds := [], alts := [], laidByText := true, laidKinds := [.data, .pinned], laidTests := true, laidLooks := .later }
def EngineStaysCardSaid : Prop := Claim7.holds Tryz.pinned (.plain (OpenSpec.ofChange engineStaysSpec)) engineStaysCard

/-- THE TIED CARD OF 'stratigraphlaw11.EnginePast'. -/
def enginePastCard : Claim7 := { stood := { row := enginePastRow, standIns := [], harness := (true, "a5f38efe01d2f11ccaaeb0180c827dc94fc79ce6d84c59bfb0c07c85524946a8"), looks := false }, kinds := [], alts := [], laidByText := true, laidKinds := [.data, .pinned], laidTests := true, laidLooks := .later }
def EnginePastCardSaid : Prop := Claim7.holds Tryz.pinned (.plain (OpenSpec.ofChange enginePastSpec)) enginePastCard

/-- THE TIED CARD OF 'stratigraphlaw11.EngineAgain'. -/
def engineAgainCard : Claim7 := { stood := { row := engineAgainRow, standIns := [], harness := (true, "a5f38efe01d2f11ccaaeb0180c827dc94fc79ce6d84c59bfb0c07c85524946a8"), looks := false }, kinds := [], alts := [], laidByText := true, laidKinds := [.data, .pinned], laidTests := true, laidLooks := .later }
def EngineAgainCardSaid : Prop := Claim7.holds Tryz.pinned (.plain (OpenSpec.ofChange engineAgainSpec)) engineAgainCard

/-- THE SECOND FORM's CARD OF 'stratigraphlaw11.EngineDoes'. -/
def engineDoesUptoCard : Claim7 := { stood := { row := engineDoesUptoRow, standIns := [], harness := (true, "a5f38efe01d2f11ccaaeb0180c827dc94fc79ce6d84c59bfb0c07c85524946a8"), looks := false }, kinds := [], alts := [], laidByText := true, laidKinds := [.data, .pinned], laidTests := true, laidLooks := .later }
def EngineDoesUptoCardSaid : Prop := Claim7.holds Tryz.pinned (.plain (OpenSpec.upto engineDoesSpec)) engineDoesUptoCard

/-- THE SECOND FORM's CARD OF 'stratigraphlaw11.EngineRights'. -/
def engineRightsUptoCard : Claim7 := { stood := { row := engineRightsUptoRow, standIns := [], harness := (true, "a5f38efe01d2f11ccaaeb0180c827dc94fc79ce6d84c59bfb0c07c85524946a8"), looks := false }, kinds := [], alts := [], laidByText := true, laidKinds := [.data, .pinned], laidTests := true, laidLooks := .later }
def EngineRightsUptoCardSaid : Prop := Claim7.holds Tryz.pinned (.plain (OpenSpec.upto engineRightsSpec)) engineRightsUptoCard

/-- THE SECOND FORM's CARD OF 'stratigraphlaw11.EngineInstalls'. -/
def engineInstallsUptoCard : Claim7 := { stood := { row := engineInstallsUptoRow, standIns := [], harness := (true, "a5f38efe01d2f11ccaaeb0180c827dc94fc79ce6d84c59bfb0c07c85524946a8"), looks := false }, kinds := [], alts := [], laidByText := true, laidKinds := [.data, .pinned], laidTests := true, laidLooks := .later }
def EngineInstallsUptoCardSaid : Prop := Claim7.holds Tryz.pinned (.plain (OpenSpec.upto engineInstallsSpec)) engineInstallsUptoCard

/-- THE SECOND FORM's CARD OF 'stratigraphlaw11.EngineHolds'. -/
def engineHoldsUptoCard : Claim7 := { stood := { row := engineHoldsUptoRow, standIns := [], harness := (true, "a5f38efe01d2f11ccaaeb0180c827dc94fc79ce6d84c59bfb0c07c85524946a8"), looks := false }, kinds := [], alts := [], laidByText := true, laidKinds := [.data, .pinned], laidTests := true, laidLooks := .later }
def EngineHoldsUptoCardSaid : Prop := Claim7.holds Tryz.pinned (.plain (OpenSpec.upto engineHoldsSpec)) engineHoldsUptoCard

/-- THE SECOND FORM's CARD OF 'stratigraphlaw11.EngineMarks'. -/
def engineMarksUptoCard : Claim7 := { stood := { row := engineMarksUptoRow, standIns := [], harness := (true, "a5f38efe01d2f11ccaaeb0180c827dc94fc79ce6d84c59bfb0c07c85524946a8"), looks := false }, kinds := [], alts := [], laidByText := true, laidKinds := [.data, .pinned], laidTests := true, laidLooks := .later }
def EngineMarksUptoCardSaid : Prop := Claim7.holds Tryz.pinned (.plain (OpenSpec.upto engineMarksSpec)) engineMarksUptoCard

/-- THE SECOND FORM's CARD OF 'stratigraphlaw11.EngineGoes'. -/
def engineGoesUptoCard : Claim7 := { stood := { row := engineGoesUptoRow, standIns := [], harness := (true, "a5f38efe01d2f11ccaaeb0180c827dc94fc79ce6d84c59bfb0c07c85524946a8"), looks := false }, kinds := [], alts := [], laidByText := true, laidKinds := [.data, .pinned], laidTests := true, laidLooks := .later }
def EngineGoesUptoCardSaid : Prop := Claim7.holds Tryz.pinned (.plain (OpenSpec.upto engineGoesSpec)) engineGoesUptoCard

/-- THE SECOND FORM's CARD OF 'stratigraphlaw11.EngineMoves'. -/
def engineMovesUptoCard : Claim7 := { stood := { row := engineMovesUptoRow, standIns := [], harness := (true, "a5f38efe01d2f11ccaaeb0180c827dc94fc79ce6d84c59bfb0c07c85524946a8"), looks := false }, kinds := [], alts := [], laidByText := true, laidKinds := [.data, .pinned], laidTests := true, laidLooks := .later }
def EngineMovesUptoCardSaid : Prop := Claim7.holds Tryz.pinned (.plain (OpenSpec.upto engineMovesSpec)) engineMovesUptoCard

/-- THE SECOND FORM's CARD OF 'stratigraphlaw11.EngineParts'. -/
def enginePartsUptoCard : Claim7 := { stood := { row := enginePartsUptoRow, standIns := [], harness := (true, "a5f38efe01d2f11ccaaeb0180c827dc94fc79ce6d84c59bfb0c07c85524946a8"), looks := false }, kinds := [], alts := [], laidByText := true, laidKinds := [.data, .pinned], laidTests := true, laidLooks := .later }
def EnginePartsUptoCardSaid : Prop := Claim7.holds Tryz.pinned (.plain (OpenSpec.upto enginePartsSpec)) enginePartsUptoCard

/-- THE SECOND FORM's CARD OF 'stratigraphlaw11.EngineStays'. -/
def engineStaysUptoCard : Claim7 := { stood := { row := engineStaysUptoRow, standIns := [], harness := (true, "a5f38efe01d2f11ccaaeb0180c827dc94fc79ce6d84c59bfb0c07c85524946a8"), looks := false }, kinds := [], alts := [], laidByText := true, laidKinds := [.data, .pinned], laidTests := true, laidLooks := .later }
def EngineStaysUptoCardSaid : Prop := Claim7.holds Tryz.pinned (.plain (OpenSpec.upto engineStaysSpec)) engineStaysUptoCard

/-- THE SECOND FORM's CARD OF 'stratigraphlaw11.EnginePast'. -/
def enginePastUptoCard : Claim7 := { stood := { row := enginePastUptoRow, standIns := [], harness := (true, "a5f38efe01d2f11ccaaeb0180c827dc94fc79ce6d84c59bfb0c07c85524946a8"), looks := false }, kinds := [], alts := [], laidByText := true, laidKinds := [.data, .pinned], laidTests := true, laidLooks := .later }
def EnginePastUptoCardSaid : Prop := Claim7.holds Tryz.pinned (.plain (OpenSpec.upto enginePastSpec)) enginePastUptoCard

/-- THE SECOND FORM's CARD OF 'stratigraphlaw11.EngineAgain'. -/
def engineAgainUptoCard : Claim7 := { stood := { row := engineAgainUptoRow, standIns := [], harness := (true, "a5f38efe01d2f11ccaaeb0180c827dc94fc79ce6d84c59bfb0c07c85524946a8"), looks := false }, kinds := [], alts := [], laidByText := true, laidKinds := [.data, .pinned], laidTests := true, laidLooks := .later }
def EngineAgainUptoCardSaid : Prop := Claim7.holds Tryz.pinned (.plain (OpenSpec.upto engineAgainSpec)) engineAgainUptoCard
end Rows
end Go.Proofs.YthhpelmjnmlgjaaGreatDoor
