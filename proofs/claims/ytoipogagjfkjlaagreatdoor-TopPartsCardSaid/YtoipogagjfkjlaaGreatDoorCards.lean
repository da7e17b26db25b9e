/-
  DERIVED. GIVEN WITH THE SEED: THE CARDS: each row of YtoipogagjfkjlaaGreatDoorRows.lean that lists a variable, with what it lists TIED to the program's text (the seventh form; the later family's looks); each row that meets fmt, with fmt's text TOLD by the authors' own Lean function (tested against real Go, not proved from fmt's source: count such statements apart). THE CARD IS WHAT COUNTS. Prove the row's statement (the work); the ties are given (YtoipogagjfkjlaaGreatDoorTie.lean); close each card by the builder's one call (the guide's Derived/Test/ToyasCard.lean, 'card_holds'). Laid BY PROGRAM, IN A SANDBOX (cutbox-door.mjs). By AI agents, Wed Nov 11 2026. No macro, syntax, notation, axiom, sorry.
-/
import Derived.Test.YtoipogagjfkjlaaGreatDoorRows
import GoSem.ClaimSeven
namespace Go.Proofs.YtoipogagjfkjlaaGreatDoor
namespace Rows

/-- THE TIED CARD OF 'routescopetop.TopParts'. -/
def topPartsCard : Claim7 := { stood := { row := topPartsRow, standIns := [], harness := (true, "1e805561c8d93d8f20382accf6d39e6ece776b42cb89de96024b8fa9d5973f27"), looks := false }, kinds := [], alts := [], laidByText := true, laidKinds := [.data, .data, .data], laidTests := true, laidLooks := .later }
def TopPartsCardSaid : Prop := Claim7.holds Tryz.pinned (.plain (OpenSpec.ofChange topPartsSpec)) topPartsCard

/-- THE SECOND FORM's CARD OF 'routescopetop.TopParts'. -/
def topPartsUptoCard : Claim7 := { stood := { row := topPartsUptoRow, standIns := [], harness := (true, "1e805561c8d93d8f20382accf6d39e6ece776b42cb89de96024b8fa9d5973f27"), looks := false }, kinds := [], alts := [], laidByText := true, laidKinds := [.data, .data, .data], laidTests := true, laidLooks := .later }
def TopPartsUptoCardSaid : Prop := Claim7.holds Tryz.pinned (.plain (OpenSpec.upto topPartsSpec)) topPartsUptoCard
end Rows
end Go.Proofs.YtoipogagjfkjlaaGreatDoor
