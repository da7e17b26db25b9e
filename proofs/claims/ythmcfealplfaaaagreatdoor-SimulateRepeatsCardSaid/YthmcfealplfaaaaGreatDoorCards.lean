/-
  DERIVED. GIVEN WITH THE SEED: THE CARDS: each row of YthmcfealplfaaaaGreatDoorRows.lean that lists a variable, with what it lists TIED to the program's text (the seventh form; the later family's looks); each row that meets fmt, with fmt's text TOLD by the authors' own Lean function (tested against real Go, not proved from fmt's source: count such statements apart). THE CARD IS WHAT COUNTS. Prove the row's statement (the work); the ties are given (YthmcfealplfaaaaGreatDoorTie.lean); close each card by the builder's one call (the guide's Derived/Test/ToyasCard.lean, 'card_holds'). Laid BY PROGRAM, IN A SANDBOX (cutbox-door.mjs). By AI agents, Wed Nov 11 2026. No macro, syntax, notation, axiom, sorry.
-/
import Derived.Test.YthmcfealplfaaaaGreatDoorRows
import GoSem.ClaimSeven
namespace Go.Proofs.YthmcfealplfaaaaGreatDoor
namespace Rows

/-- THE TIED CARD OF 'routescopelaw15.SimulateRepeats'. -/
def simulateRepeatsCard : Claim7 := { stood := { row := simulateRepeatsRow, standIns := [], harness := (true, "fadbb55016e33122cb5bfda68af11a67ff9c07997bbd624cc6bd96c685f06fda"), looks := false }, kinds := [], alts := [], laidByText := true, laidKinds := [.data], laidTests := true, laidLooks := .later }
def SimulateRepeatsCardSaid : Prop := Claim7.holds Tryz.pinned (.plain (OpenSpec.ofChange simulateRepeatsSpec)) simulateRepeatsCard

/-- THE TIED CARD OF 'routescopelaw15.SimulateExact'. -/
def simulateExactCard : Claim7 := { stood := { row := simulateExactRow, standIns := [], harness := (true, "fadbb55016e33122cb5bfda68af11a67ff9c07997bbd624cc6bd96c685f06fda"), looks := false }, kinds := [], alts := [], laidByText := true, laidKinds := [.data], laidTests := true, laidLooks := .later }
def SimulateExactCardSaid : Prop := Claim7.holds Tryz.pinned (.plain (OpenSpec.ofChange simulateExactSpec)) simulateExactCard

/-- THE TIED CARD OF 'routescopelaw15.SimulateParts'. -/
def simulatePartsCard : Claim7 := { stood := { row := simulatePartsRow, standIns := [], harness := (true, "fadbb55016e33122cb5bfda68af11a67ff9c07997bbd624cc6bd96c685f06fda"), looks := false }, kinds := [], alts := [], laidByText := true, laidKinds := [.data], laidTests := true, laidLooks := .later }
def SimulatePartsCardSaid : Prop := Claim7.holds Tryz.pinned (.plain (OpenSpec.ofChange simulatePartsSpec)) simulatePartsCard

/-- THE TIED CARD OF 'routescopelaw15.SimulateEnds'. -/
def simulateEndsCard : Claim7 := { stood := { row := simulateEndsRow, standIns := [], harness := (true, "fadbb55016e33122cb5bfda68af11a67ff9c07997bbd624cc6bd96c685f06fda"), looks := false }, kinds := [], alts := [], laidByText := true, laidKinds := [.data], laidTests := true, laidLooks := .later }
def SimulateEndsCardSaid : Prop := Claim7.holds Tryz.pinned (.plain (OpenSpec.ofChange simulateEndsSpec)) simulateEndsCard

/-- THE TIED CARD OF 'routescopelaw16.TruthTraces'. -/
def truthTracesCard : Claim7 := { stood := { row := truthTracesRow, standIns := [], harness := (true, "fadbb55016e33122cb5bfda68af11a67ff9c07997bbd624cc6bd96c685f06fda"), looks := false }, kinds := [], alts := [], laidByText := true, laidKinds := [.data], laidTests := true, laidLooks := .later }
def TruthTracesCardSaid : Prop := Claim7.holds Tryz.pinned (.plain (OpenSpec.ofChange truthTracesSpec)) truthTracesCard

/-- THE SECOND FORM's CARD OF 'routescopelaw15.SimulateRepeats'. -/
def simulateRepeatsUptoCard : Claim7 := { stood := { row := simulateRepeatsUptoRow, standIns := [], harness := (true, "fadbb55016e33122cb5bfda68af11a67ff9c07997bbd624cc6bd96c685f06fda"), looks := false }, kinds := [], alts := [], laidByText := true, laidKinds := [.data], laidTests := true, laidLooks := .later }
def SimulateRepeatsUptoCardSaid : Prop := Claim7.holds Tryz.pinned (.plain (OpenSpec.upto simulateRepeatsSpec)) simulateRepeatsUptoCard

/-- THE SECOND FORM's CARD OF 'routescopelaw15.SimulateExact'. -/
def simulateExactUptoCard : Claim7 := { stood := { row := simulateExactUptoRow, standIns := [], harness := (true, "fadbb55016e33122cb5bfda68af11a67ff9c07997bbd624cc6bd96c685f06fda"), looks := false }, kinds := [], alts := [], laidByText := true, laidKinds := [.data], laidTests := true, laidLooks := .later }
def SimulateExactUptoCardSaid : Prop := Claim7.holds Tryz.pinned (.plain (OpenSpec.upto simulateExactSpec)) simulateExactUptoCard

/-- THE SECOND FORM's CARD OF 'routescopelaw15.SimulateParts'. -/
def simulatePartsUptoCard : Claim7 := { stood := { row := simulatePartsUptoRow, standIns := [], harness := (true, "fadbb55016e33122cb5bfda68af11a67ff9c07997bbd624cc6bd96c685f06fda"), looks := false }, kinds := [], alts := [], laidByText := true, laidKinds := [.data], laidTests := true, laidLooks := .later }
def SimulatePartsUptoCardSaid : Prop := Claim7.holds Tryz.pinned (.plain (OpenSpec.upto simulatePartsSpec)) simulatePartsUptoCard

/-- THE SECOND FORM's CARD OF 'routescopelaw15.SimulateEnds'. -/
def simulateEndsUptoCard : Claim7 := { stood := { row := simulateEndsUptoRow, standIns := [], harness := (true, "fadbb55016e33122cb5bfda68af11a67ff9c07997bbd624cc6bd96c685f06fda"), looks := false }, kinds := [], alts := [], laidByText := true, laidKinds := [.data], laidTests := true, laidLooks := .later }
def SimulateEndsUptoCardSaid : Prop := Claim7.holds Tryz.pinned (.plain (OpenSpec.upto simulateEndsSpec)) simulateEndsUptoCard

/-- THE SECOND FORM's CARD OF 'routescopelaw16.TruthTraces'. -/
def truthTracesUptoCard : Claim7 := { stood := { row := truthTracesUptoRow, standIns := [], harness := (true, "fadbb55016e33122cb5bfda68af11a67ff9c07997bbd624cc6bd96c685f06fda"), looks := false }, kinds := [], alts := [], laidByText := true, laidKinds := [.data], laidTests := true, laidLooks := .later }
def TruthTracesUptoCardSaid : Prop := Claim7.holds Tryz.pinned (.plain (OpenSpec.upto truthTracesSpec)) truthTracesUptoCard
end Rows
end Go.Proofs.YthmcfealplfaaaaGreatDoor
