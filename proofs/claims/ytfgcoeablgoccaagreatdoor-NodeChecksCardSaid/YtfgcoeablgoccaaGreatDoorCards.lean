/-
  DERIVED. GIVEN WITH THE SEED: THE CARDS: each row of YtfgcoeablgoccaaGreatDoorRows.lean that lists a variable, with what it lists TIED to the program's text (the seventh form; the later family's looks); each row that meets fmt, with fmt's text TOLD by the authors' own Lean function (tested against real Go, not proved from fmt's source: count such statements apart). THE CARD IS WHAT COUNTS. Prove the row's statement (the work); the ties are given (YtfgcoeablgoccaaGreatDoorTie.lean); close each card by the builder's one call (the guide's Derived/Test/ToyasCard.lean, 'card_holds'). Laid BY PROGRAM, IN A SANDBOX (cutbox-door.mjs). By AI agents, Wed Nov 11 2026. No macro, syntax, notation, axiom, sorry.
-/
import Derived.Test.YtfgcoeablgoccaaGreatDoorRows
import GoSem.ClaimSeven
namespace Go.Proofs.YtfgcoeablgoccaaGreatDoor
namespace Rows

/-- THE TIED CARD OF 'routescopelaw13.NodeChecks'. -/
def nodeChecksCard : Claim7 := { stood := { row := nodeChecksRow, standIns := [], harness := (true, "41a0c05f651eabbba1b8b4b1ad4039192aff84162eed1cf29bcdf24782694b4c"), looks := false }, kinds := [], alts := [], laidByText := true, laidKinds := [.data], laidTests := true, laidLooks := .later }
def NodeChecksCardSaid : Prop := Claim7.holds Tryz.pinned (.plain (OpenSpec.ofChange nodeChecksSpec)) nodeChecksCard

/-- THE TIED CARD OF 'routescopelaw13.NodeHandles'. -/
def nodeHandlesCard : Claim7 := { stood := { row := nodeHandlesRow, standIns := [], harness := (true, "41a0c05f651eabbba1b8b4b1ad4039192aff84162eed1cf29bcdf24782694b4c"), looks := false }, kinds := [], alts := [], laidByText := true, laidKinds := [.data], laidTests := true, laidLooks := .later }
def NodeHandlesCardSaid : Prop := Claim7.holds Tryz.pinned (.plain (OpenSpec.ofChange nodeHandlesSpec)) nodeHandlesCard

/-- THE TIED CARD OF 'routescopelaw13.NodeLimits'. -/
def nodeLimitsCard : Claim7 := { stood := { row := nodeLimitsRow, standIns := [], harness := (true, "41a0c05f651eabbba1b8b4b1ad4039192aff84162eed1cf29bcdf24782694b4c"), looks := false }, kinds := [], alts := [], laidByText := true, laidKinds := [.data], laidTests := true, laidLooks := .later }
def NodeLimitsCardSaid : Prop := Claim7.holds Tryz.pinned (.plain (OpenSpec.ofChange nodeLimitsSpec)) nodeLimitsCard

/-- THE TIED CARD OF 'routescopelaw13.NodeQuiet'. -/
def nodeQuietCard : Claim7 := { stood := { row := nodeQuietRow, standIns := [], harness := (true, "41a0c05f651eabbba1b8b4b1ad4039192aff84162eed1cf29bcdf24782694b4c"), looks := false }, kinds := [], alts := [], laidByText := true, laidKinds := [.data], laidTests := true, laidLooks := .later }
def NodeQuietCardSaid : Prop := Claim7.holds Tryz.pinned (.plain (OpenSpec.ofChange nodeQuietSpec)) nodeQuietCard

/-- THE TIED CARD OF 'routescopelaw13.NodeForwards'. -/
def nodeForwardsCard : Claim7 := { stood := { row := nodeForwardsRow, standIns := [], harness := (true, "41a0c05f651eabbba1b8b4b1ad4039192aff84162eed1cf29bcdf24782694b4c"), looks := false }, kinds := [], alts := [], laidByText := true, laidKinds := [.data], laidTests := true, laidLooks := .later }
def NodeForwardsCardSaid : Prop := Claim7.holds Tryz.pinned (.plain (OpenSpec.ofChange nodeForwardsSpec)) nodeForwardsCard

/-- THE TIED CARD OF 'routescopelaw13.NodeAnswers'. -/
def nodeAnswersCard : Claim7 := { stood := { row := nodeAnswersRow, standIns := [], harness := (true, "41a0c05f651eabbba1b8b4b1ad4039192aff84162eed1cf29bcdf24782694b4c"), looks := false }, kinds := [], alts := [], laidByText := true, laidKinds := [.data], laidTests := true, laidLooks := .later }
def NodeAnswersCardSaid : Prop := Claim7.holds Tryz.pinned (.plain (OpenSpec.ofChange nodeAnswersSpec)) nodeAnswersCard

/-- THE SECOND FORM's CARD OF 'routescopelaw13.NodeChecks'. -/
def nodeChecksUptoCard : Claim7 := { stood := { row := nodeChecksUptoRow, standIns := [], harness := (true, "41a0c05f651eabbba1b8b4b1ad4039192aff84162eed1cf29bcdf24782694b4c"), looks := false }, kinds := [], alts := [], laidByText := true, laidKinds := [.data], laidTests := true, laidLooks := .later }
def NodeChecksUptoCardSaid : Prop := Claim7.holds Tryz.pinned (.plain (OpenSpec.upto nodeChecksSpec)) nodeChecksUptoCard

/-- THE SECOND FORM's CARD OF 'routescopelaw13.NodeHandles'. -/
def nodeHandlesUptoCard : Claim7 := { stood := { row := nodeHandlesUptoRow, standIns := [], harness := (true, "41a0c05f651eabbba1b8b4b1ad4039192aff84162eed1cf29bcdf24782694b4c"), looks := false }, kinds := [], alts := [], laidByText := true, laidKinds := [.data], laidTests := true, laidLooks := .later }
def NodeHandlesUptoCardSaid : Prop := Claim7.holds Tryz.pinned (.plain (OpenSpec.upto nodeHandlesSpec)) nodeHandlesUptoCard

/-- THE SECOND FORM's CARD OF 'routescopelaw13.NodeLimits'. -/
def nodeLimitsUptoCard : Claim7 := { stood := { row := nodeLimitsUptoRow, standIns := [], harness := (true, "41a0c05f651eabbba1b8b4b1ad4039192aff84162eed1cf29bcdf24782694b4c"), looks := false }, kinds := [], alts := [], laidByText := true, laidKinds := [.data], laidTests := true, laidLooks := .later }
def NodeLimitsUptoCardSaid : Prop := Claim7.holds Tryz.pinned (.plain (OpenSpec.upto nodeLimitsSpec)) nodeLimitsUptoCard

/-- THE SECOND FORM's CARD OF 'routescopelaw13.NodeQuiet'. -/
def nodeQuietUptoCard : Claim7 := { stood := { row := nodeQuietUptoRow, standIns := [], harness := (true, "41a0c05f651eabbba1b8b4b1ad4039192aff84162eed1cf29bcdf24782694b4c"), looks := false }, kinds := [], alts := [], laidByText := true, laidKinds := [.data], laidTests := true, laidLooks := .later }
def NodeQuietUptoCardSaid : Prop := Claim7.holds Tryz.pinned (.plain (OpenSpec.upto nodeQuietSpec)) nodeQuietUptoCard

/-- THE SECOND FORM's CARD OF 'routescopelaw13.NodeForwards'. -/
def nodeForwardsUptoCard : Claim7 := { stood := { row := nodeForwardsUptoRow, standIns := [], harness := (true, "41a0c05f651eabbba1b8b4b1ad4039192aff84162eed1cf29bcdf24782694b4c"), looks := false }, kinds := [], alts := [], laidByText := true, laidKinds := [.data], laidTests := true, laidLooks := .later }
def NodeForwardsUptoCardSaid : Prop := Claim7.holds Tryz.pinned (.plain (OpenSpec.upto nodeForwardsSpec)) nodeForwardsUptoCard

/-- THE SECOND FORM's CARD OF 'routescopelaw13.NodeAnswers'. -/
def nodeAnswersUptoCard : Claim7 := { stood := { row := nodeAnswersUptoRow, standIns := [], harness := (true, "41a0c05f651eabbba1b8b4b1ad4039192aff84162eed1cf29bcdf24782694b4c"), looks := false }, kinds := [], alts := [], laidByText := true, laidKinds := [.data], laidTests := true, laidLooks := .later }
def NodeAnswersUptoCardSaid : Prop := Claim7.holds Tryz.pinned (.plain (OpenSpec.upto nodeAnswersSpec)) nodeAnswersUptoCard
end Rows
end Go.Proofs.YtfgcoeablgoccaaGreatDoor
