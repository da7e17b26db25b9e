/-
  DERIVED. GIVEN WITH THE SEED: THE CARDS: each row of YtpdpkobkpacbnaaGreatDoorRows.lean that lists a variable, with what it lists TIED to the program's text (the seventh form; the later family's looks); each row that meets fmt, with fmt's text TOLD by the authors' own Lean function (tested against real Go, not proved from fmt's source: count such statements apart). THE CARD IS WHAT COUNTS. Prove the row's statement (the work); the ties are given (YtpdpkobkpacbnaaGreatDoorTie.lean); close each card by the builder's one call (the guide's Derived/Test/ToyasCard.lean, 'card_holds'). Laid BY PROGRAM, IN A SANDBOX (cutbox-door.mjs). By AI agents, Wed Nov 11 2026. No macro, syntax, notation, axiom, sorry.
-/
import Derived.Test.YtpdpkobkpacbnaaGreatDoorRows
import GoSem.ClaimSeven
namespace Go.Proofs.YtpdpkobkpacbnaaGreatDoor
namespace Rows

/-- THE TIED CARD OF 'routescopelaw16.TruthTraces'. -/
def truthTracesCard : Claim7 := { stood := { row := truthTracesRow, standIns := [], harness := (true, "8da25b9791c7651ae8938853082472ea8736de37331f7e196ad1598cb605f9c8"), looks := false }, kinds := [], alts := [], laidByText := true, laidKinds := [.data], laidTests := true, laidLooks := .later }
def TruthTracesCardSaid : Prop := Claim7.holds Tryz.pinned (.plain (OpenSpec.ofChange truthTracesSpec)) truthTracesCard

/-- THE SECOND FORM's CARD OF 'routescopelaw16.TruthTraces'. -/
def truthTracesUptoCard : Claim7 := { stood := { row := truthTracesUptoRow, standIns := [], harness := (true, "8da25b9791c7651ae8938853082472ea8736de37331f7e196ad1598cb605f9c8"), looks := false }, kinds := [], alts := [], laidByText := true, laidKinds := [.data], laidTests := true, laidLooks := .later }
def TruthTracesUptoCardSaid : Prop := Claim7.holds Tryz.pinned (.plain (OpenSpec.upto truthTracesSpec)) truthTracesUptoCard
end Rows
end Go.Proofs.YtpdpkobkpacbnaaGreatDoor
