/-
  DERIVED. GIVEN WITH THE SEED: THE CARDS: each row of YtghpjjompmlooaaGreatDoorRows.lean that lists a variable, with what it lists TIED to the program's text (the seventh form; the later family's looks); each row that meets fmt, with fmt's text TOLD by the authors' own Lean function (tested against real Go, not proved from fmt's source: count such statements apart). THE CARD IS WHAT COUNTS. Prove the row's statement (the work); the ties are given (YtghpjjompmlooaaGreatDoorTie.lean); close each card by the builder's one call (the guide's Derived/Test/ToyasCard.lean, 'card_holds'). Laid BY PROGRAM, IN A SANDBOX (cutbox-door.mjs). By AI agents, Wed Nov 11 2026. No macro, syntax, notation, axiom, sorry.
-/
import Derived.Test.YtghpjjompmlooaaGreatDoorRows
import GoSem.ClaimSeven
namespace Go.Proofs.YtghpjjompmlooaaGreatDoor
namespace Rows

/-- THE TIED CARD OF 'routescopetop.TopReplicates'. -/
def topReplicatesCard : Claim7 := { stood := { row := topReplicatesRow, standIns := [], harness := (true, "9ce8b4a6d32822b6d1337ffe90ca49e6dadd34fa27a4fedd387fd8f81c589993"), looks := false }, kinds := [], alts := [], laidByText := true, laidKinds := [.data, .data, .data], laidTests := true, laidLooks := .later }
def TopReplicatesCardSaid : Prop := Claim7.holds Tryz.pinned (.plain (OpenSpec.ofChange topReplicatesSpec)) topReplicatesCard

/-- THE SECOND FORM's CARD OF 'routescopetop.TopReplicates'. -/
def topReplicatesUptoCard : Claim7 := { stood := { row := topReplicatesUptoRow, standIns := [], harness := (true, "9ce8b4a6d32822b6d1337ffe90ca49e6dadd34fa27a4fedd387fd8f81c589993"), looks := false }, kinds := [], alts := [], laidByText := true, laidKinds := [.data, .data, .data], laidTests := true, laidLooks := .later }
def TopReplicatesUptoCardSaid : Prop := Claim7.holds Tryz.pinned (.plain (OpenSpec.upto topReplicatesSpec)) topReplicatesUptoCard
end Rows
end Go.Proofs.YtghpjjompmlooaaGreatDoor
