/-
  DERIVED. GIVEN WITH THE SEED: THE CARDS: each row of YtjgabhagebomiaaGreatDoorRows.lean that lists a variable, with what it lists TIED to the program's text (the seventh form; the later family's looks); each row that meets fmt, with fmt's text TOLD by the authors' own Lean function (tested against real Go, not proved from fmt's source: count such statements apart). THE CARD IS WHAT COUNTS. Prove the row's statement (the work); the ties are given (YtjgabhagebomiaaGreatDoorTie.lean); close each card by the builder's one call (the guide's Derived/Test/ToyasCard.lean, 'card_holds'). Laid BY PROGRAM, IN A SANDBOX (cutbox-door.mjs). By AI agents, Wed Nov 11 2026. No macro, syntax, notation, axiom, sorry.
-/
import Derived.Test.YtjgabhagebomiaaGreatDoorRows
import GoSem.ClaimSeven
namespace Go.Proofs.YtjgabhagebomiaaGreatDoor
namespace Rows

/-- THE TIED CARD OF 'tidewatertop.TopPaced'. -/
def topPacedCard : Claim7 := { stood := { row := topPacedRow, standIns := [], harness := (true, "d6985d57d6555a5ee6975a8f036a340315f9c724f5ec272a8e1209616a6bd089"), looks := true }, kinds := [], alts := [], laidByText := true, laidKinds := [.data, .data, .data, .data, .pinned], laidTests := true, laidLooks := .later }
def TopPacedCardSaid : Prop := Claim7.holds Tryz.pinned (.plain (OpenSpec.ofChange topPacedSpec)) topPacedCard

/-- THE SECOND FORM's CARD OF 'tidewatertop.TopPaced'. -/
def topPacedUptoCard : Claim7 := { stood := { row := topPacedUptoRow, standIns := [], harness := (true, "d6985d57d6555a5ee6975a8f036a340315f9c724f5ec272a8e1209616a6bd089"), looks := true }, kinds := [], alts := [], laidByText := true, laidKinds := [.data, .data, .data, .data, .pinned], laidTests := true, laidLooks := .later }
def TopPacedUptoCardSaid : Prop := Claim7.holds Tryz.pinned (.plain (OpenSpec.upto topPacedSpec)) topPacedUptoCard
end Rows
end Go.Proofs.YtjgabhagebomiaaGreatDoor
