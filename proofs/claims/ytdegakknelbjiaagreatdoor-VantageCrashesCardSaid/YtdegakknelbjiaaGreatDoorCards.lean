/-
  DERIVED. GIVEN WITH THE SEED: THE CARDS: each row of YtdegakknelbjiaaGreatDoorRows.lean that lists a variable, with what it lists TIED to the program's text (the seventh form; the later family's looks); each row that meets fmt, with fmt's text TOLD by the authors' own Lean function (tested against real Go, not proved from fmt's source: count such statements apart). THE CARD IS WHAT COUNTS. Prove the row's statement (the work); the ties are given (YtdegakknelbjiaaGreatDoorTie.lean); close each card by the builder's one call (the guide's Derived/Test/ToyasCard.lean, 'card_holds'). Laid BY PROGRAM, IN A SANDBOX (cutbox-door.mjs). By AI agents, Wed Nov 11 2026. No macro, syntax, notation, axiom, sorry.
-/
import Derived.Test.YtdegakknelbjiaaGreatDoorRows
import GoSem.ClaimSeven
namespace Go.Proofs.YtdegakknelbjiaaGreatDoor
namespace Rows

/-- THE TIED CARD OF 'routescopelaw18.VantageExact'. -/
def vantageExactCard : Claim7 := { stood := { row := vantageExactRow, standIns := [], harness := (true, "cea8b6dcbd0990af3053167d8769e4ad04ea8eb44b23d22696bea95b4cfbc3f5"), looks := false }, kinds := [], alts := [], laidByText := true, laidKinds := [.data], laidTests := true, laidLooks := .later }
def VantageExactCardSaid : Prop := Claim7.holds Tryz.pinned (.plain (OpenSpec.ofChange vantageExactSpec)) vantageExactCard

/-- THE TIED CARD OF 'routescopelaw18.VantageNumbers'. -/
def vantageNumbersCard : Claim7 := { stood := { row := vantageNumbersRow, standIns := [], harness := (true, "cea8b6dcbd0990af3053167d8769e4ad04ea8eb44b23d22696bea95b4cfbc3f5"), looks := false }, kinds := [], alts := [], laidByText := true, laidKinds := [.data], laidTests := true, laidLooks := .later }
def VantageNumbersCardSaid : Prop := Claim7.holds Tryz.pinned (.plain (OpenSpec.ofChange vantageNumbersSpec)) vantageNumbersCard

/-- THE TIED CARD OF 'routescopelaw18.VantageAnswers'. -/
def vantageAnswersCard : Claim7 := { stood := { row := vantageAnswersRow, standIns := [], harness := (true, "cea8b6dcbd0990af3053167d8769e4ad04ea8eb44b23d22696bea95b4cfbc3f5"), looks := false }, kinds := [], alts := [], laidByText := true, laidKinds := [.data], laidTests := true, laidLooks := .later }
def VantageAnswersCardSaid : Prop := Claim7.holds Tryz.pinned (.plain (OpenSpec.ofChange vantageAnswersSpec)) vantageAnswersCard

/-- THE TIED CARD OF 'routescopelaw18.VantageCrashes'. -/
def vantageCrashesCard : Claim7 := { stood := { row := vantageCrashesRow, standIns := [], harness := (true, "cea8b6dcbd0990af3053167d8769e4ad04ea8eb44b23d22696bea95b4cfbc3f5"), looks := false }, kinds := [], alts := [], laidByText := true, laidKinds := [.data], laidTests := true, laidLooks := .later }
def VantageCrashesCardSaid : Prop := Claim7.holds Tryz.pinned (.plain (OpenSpec.ofChange vantageCrashesSpec)) vantageCrashesCard

/-- THE SECOND FORM's CARD OF 'routescopelaw18.VantageExact'. -/
def vantageExactUptoCard : Claim7 := { stood := { row := vantageExactUptoRow, standIns := [], harness := (true, "cea8b6dcbd0990af3053167d8769e4ad04ea8eb44b23d22696bea95b4cfbc3f5"), looks := false }, kinds := [], alts := [], laidByText := true, laidKinds := [.data], laidTests := true, laidLooks := .later }
def VantageExactUptoCardSaid : Prop := Claim7.holds Tryz.pinned (.plain (OpenSpec.upto vantageExactSpec)) vantageExactUptoCard

/-- THE SECOND FORM's CARD OF 'routescopelaw18.VantageNumbers'. -/
def vantageNumbersUptoCard : Claim7 := { stood := { row := vantageNumbersUptoRow, standIns := [], harness := (true, "cea8b6dcbd0990af3053167d8769e4ad04ea8eb44b23d22696bea95b4cfbc3f5"), looks := false }, kinds := [], alts := [], laidByText := true, laidKinds := [.data], laidTests := true, laidLooks := .later }
def VantageNumbersUptoCardSaid : Prop := Claim7.holds Tryz.pinned (.plain (OpenSpec.upto vantageNumbersSpec)) vantageNumbersUptoCard

/-- THE SECOND FORM's CARD OF 'routescopelaw18.VantageAnswers'. -/
def vantageAnswersUptoCard : Claim7 := { stood := { row := vantageAnswersUptoRow, standIns := [], harness := (true, "cea8b6dcbd0990af3053167d8769e4ad04ea8eb44b23d22696bea95b4cfbc3f5"), looks := false }, kinds := [], alts := [], laidByText := true, laidKinds := [.data], laidTests := true, laidLooks := .later }
def VantageAnswersUptoCardSaid : Prop := Claim7.holds Tryz.pinned (.plain (OpenSpec.upto vantageAnswersSpec)) vantageAnswersUptoCard

/-- THE SECOND FORM's CARD OF 'routescopelaw18.VantageCrashes'. -/
def vantageCrashesUptoCard : Claim7 := { stood := { row := vantageCrashesUptoRow, standIns := [], harness := (true, "cea8b6dcbd0990af3053167d8769e4ad04ea8eb44b23d22696bea95b4cfbc3f5"), looks := false }, kinds := [], alts := [], laidByText := true, laidKinds := [.data], laidTests := true, laidLooks := .later }
def VantageCrashesUptoCardSaid : Prop := Claim7.holds Tryz.pinned (.plain (OpenSpec.upto vantageCrashesSpec)) vantageCrashesUptoCard
end Rows
end Go.Proofs.YtdegakknelbjiaaGreatDoor
