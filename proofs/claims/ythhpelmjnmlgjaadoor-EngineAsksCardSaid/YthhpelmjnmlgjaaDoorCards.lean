/-
  DERIVED. GIVEN WITH THE SEED: THE CARDS: each row of YthhpelmjnmlgjaaDoorRows.lean that lists a variable, with what it lists TIED to the program's text (the seventh form; the later family's looks); each row that meets fmt, with fmt's text TOLD by the authors' own Lean function (tested against real Go, not proved from fmt's source: count such statements apart). THE CARD IS WHAT COUNTS. Prove the row's statement (the work); the ties are given (YthhpelmjnmlgjaaDoorTie.lean); close each card by the builder's one call (the guide's Derived/Test/ToyasCard.lean, 'card_holds'). Laid BY PROGRAM, IN A SANDBOX (cutbox-door.mjs). By AI agents, Wed Nov 11 2026. No macro, syntax, notation, axiom, sorry.
-/
import Derived.Test.YthhpelmjnmlgjaaDoorRows
import GoSem.ClaimSeven
namespace Go.Proofs.YthhpelmjnmlgjaaDoor
namespace Rows

/-- THE TIED CARD OF 'stratigraphlaw11.EngineRequests'. -/
def engineRequestsCard : Claim7 := { stood := { row := engineRequestsRow, standIns := [], harness := (true, "415ac84a41452f4d3bed8c788fb92310a26d924f7ffcae0550521b4d3f95c792"), looks := false }, kinds := [], alts := [], laidByText := true, laidKinds := [.data, .pinned], laidTests := true, laidLooks := .later }
def EngineRequestsCardSaid : Prop := Claim7.holds Tryd.pinned (.plain (OpenSpec.ofChange engineRequestsSpec)) engineRequestsCard

/-- THE TIED CARD OF 'stratigraphlaw11.EngineAsks'. -/
def engineAsksCard : Claim7 := { stood := { row := engineAsksRow, standIns := [], harness := (true, "415ac84a41452f4d3bed8c788fb92310a26d924f7ffcae0550521b4d3f95c792"), looks := false }, kinds := [], alts := [], laidByText := true, laidKinds := [.data, .pinned], laidTests := true, laidLooks := .later }
def EngineAsksCardSaid : Prop := Claim7.holds Tryd.pinned (.plain (OpenSpec.ofChange engineAsksSpec)) engineAsksCard

/-- THE SECOND FORM's CARD OF 'stratigraphlaw11.EngineRequests'. -/
def engineRequestsUptoCard : Claim7 := { stood := { row := engineRequestsUptoRow, standIns := [], harness := (true, "415ac84a41452f4d3bed8c788fb92310a26d924f7ffcae0550521b4d3f95c792"), looks := false }, kinds := [], alts := [], laidByText := true, laidKinds := [.data, .pinned], laidTests := true, laidLooks := .later }
def EngineRequestsUptoCardSaid : Prop := Claim7.holds Tryd.pinned (.plain (OpenSpec.upto engineRequestsSpec)) engineRequestsUptoCard

/-- THE SECOND FORM's CARD OF 'stratigraphlaw11.EngineAsks'. -/
def engineAsksUptoCard : Claim7 := { stood := { row := engineAsksUptoRow, standIns := [], harness := (true, "415ac84a41452f4d3bed8c788fb92310a26d924f7ffcae0550521b4d3f95c792"), looks := false }, kinds := [], alts := [], laidByText := true, laidKinds := [.data, .pinned], laidTests := true, laidLooks := .later }
def EngineAsksUptoCardSaid : Prop := Claim7.holds Tryd.pinned (.plain (OpenSpec.upto engineAsksSpec)) engineAsksUptoCard
end Rows
end Go.Proofs.YthhpelmjnmlgjaaDoor
