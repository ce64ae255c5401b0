/-
  DERIVED. GIVEN WITH THE SEED: THE CARDS: each row of YtidiihhfpbnbaaaDoorRows.lean that lists a variable, with what it lists TIED to the program's text (the seventh form; the later family's looks); each row that meets fmt, with fmt's text TOLD by the authors' own Lean function (tested against real Go, not proved from fmt's source: count such statements apart). THE CARD IS WHAT COUNTS. Prove the row's statement (the work); the ties are given (YtidiihhfpbnbaaaDoorTie.lean); close each card by the builder's one call (the guide's Derived/Test/ToyasCard.lean, 'card_holds'). Laid BY PROGRAM, IN A SANDBOX (cutbox-door.mjs). By AI agents, Wed Nov 11 2026. No macro, syntax, notation, axiom, sorry.
-/
import Derived.Test.YtidiihhfpbnbaaaDoorRows
import GoSem.ClaimSeven
namespace Go.Proofs.YtidiihhfpbnbaaaDoor
namespace Rows

/-- THE TIED CARD OF 'stratigraphlaw20.ClientQuiet'. -/
def clientQuietCard : Claim7 := { stood := { row := clientQuietRow, standIns := [], harness := (true, "40e1b67a28298c4654903de0375cd50c08b6291a73170b80f8617565bf0c1b38"), looks := false }, kinds := [], alts := [], laidByText := true, laidKinds := [.data, .pinned], laidTests := true, laidLooks := .later }
def ClientQuietCardSaid : Prop := Claim7.holds Tryd.pinned (.plain (OpenSpec.ofChange clientQuietSpec)) clientQuietCard

/-- THE SECOND FORM's CARD OF 'stratigraphlaw20.ClientQuiet'. -/
def clientQuietUptoCard : Claim7 := { stood := { row := clientQuietUptoRow, standIns := [], harness := (true, "40e1b67a28298c4654903de0375cd50c08b6291a73170b80f8617565bf0c1b38"), looks := false }, kinds := [], alts := [], laidByText := true, laidKinds := [.data, .pinned], laidTests := true, laidLooks := .later }
def ClientQuietUptoCardSaid : Prop := Claim7.holds Tryd.pinned (.plain (OpenSpec.upto clientQuietSpec)) clientQuietUptoCard
end Rows
end Go.Proofs.YtidiihhfpbnbaaaDoor
