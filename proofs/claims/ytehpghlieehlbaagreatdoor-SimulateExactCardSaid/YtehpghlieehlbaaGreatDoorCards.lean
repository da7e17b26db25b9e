/-
  DERIVED. GIVEN WITH THE SEED: THE CARDS: each row of YtehpghlieehlbaaGreatDoorRows.lean that lists a variable, with what it lists TIED to the program's text (the seventh form; the later family's looks); each row that meets fmt, with fmt's text TOLD by the authors' own Lean function (tested against real Go, not proved from fmt's source: count such statements apart). THE CARD IS WHAT COUNTS. Prove the row's statement (the work); the ties are given (YtehpghlieehlbaaGreatDoorTie.lean); close each card by the builder's one call (the guide's Derived/Test/ToyasCard.lean, 'card_holds'). Laid BY PROGRAM, IN A SANDBOX (cutbox-door.mjs). By AI agents, Wed Nov 11 2026. No macro, syntax, notation, axiom, sorry.
-/
import Derived.Test.YtehpghlieehlbaaGreatDoorRows
import GoSem.ClaimSeven
namespace Go.Proofs.YtehpghlieehlbaaGreatDoor
namespace Rows

/-- THE TIED CARD OF 'routescopelaw15.SimulateExact'. -/
def simulateExactCard : Claim7 := { stood := { row := simulateExactRow, standIns := [], harness := (true, "82b916201d02b700251fb8ebc2d46e40e5ed1db22e5fc547801bdf14f243c619"), looks := false }, kinds := [], alts := [], laidByText := true, laidKinds := [.data], laidTests := true, laidLooks := .later }
def SimulateExactCardSaid : Prop := Claim7.holds Tryz.pinned (.plain (OpenSpec.ofChange simulateExactSpec)) simulateExactCard

/-- THE TIED CARD OF 'routescopelaw16.TruthTraces'. -/
def truthTracesCard : Claim7 := { stood := { row := truthTracesRow, standIns := [], harness := (true, "82b916201d02b700251fb8ebc2d46e40e5ed1db22e5fc547801bdf14f243c619"), looks := false }, kinds := [], alts := [], laidByText := true, laidKinds := [.data], laidTests := true, laidLooks := .later }
def TruthTracesCardSaid : Prop := Claim7.holds Tryz.pinned (.plain (OpenSpec.ofChange truthTracesSpec)) truthTracesCard

/-- THE SECOND FORM's CARD OF 'routescopelaw15.SimulateExact'. -/
def simulateExactUptoCard : Claim7 := { stood := { row := simulateExactUptoRow, standIns := [], harness := (true, "82b916201d02b700251fb8ebc2d46e40e5ed1db22e5fc547801bdf14f243c619"), looks := false }, kinds := [], alts := [], laidByText := true, laidKinds := [.data], laidTests := true, laidLooks := .later }
def SimulateExactUptoCardSaid : Prop := Claim7.holds Tryz.pinned (.plain (OpenSpec.upto simulateExactSpec)) simulateExactUptoCard

/-- THE SECOND FORM's CARD OF 'routescopelaw16.TruthTraces'. -/
def truthTracesUptoCard : Claim7 := { stood := { row := truthTracesUptoRow, standIns := [], harness := (true, "82b916201d02b700251fb8ebc2d46e40e5ed1db22e5fc547801bdf14f243c619"), looks := false }, kinds := [], alts := [], laidByText := true, laidKinds := [.data], laidTests := true, laidLooks := .later }
def TruthTracesUptoCardSaid : Prop := Claim7.holds Tryz.pinned (.plain (OpenSpec.upto truthTracesSpec)) truthTracesUptoCard
end Rows
end Go.Proofs.YtehpghlieehlbaaGreatDoor
