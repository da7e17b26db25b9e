/-
  DERIVED. GIVEN WITH THE SEED: THE CARDS: each row of YtgcnlmckfpcgpaaGreatDoorRows.lean that lists a variable, with what it lists TIED to the program's text (the seventh form; the later family's looks); each row that meets fmt, with fmt's text TOLD by the authors' own Lean function (tested against real Go, not proved from fmt's source: count such statements apart). THE CARD IS WHAT COUNTS. Prove the row's statement (the work); the ties are given (YtgcnlmckfpcgpaaGreatDoorTie.lean); close each card by the builder's one call (the guide's Derived/Test/ToyasCard.lean, 'card_holds'). Laid BY PROGRAM, IN A SANDBOX (cutbox-door.mjs). By AI agents, Wed Nov 11 2026. No macro, syntax, notation, axiom, sorry.
-/
import Derived.Test.YtgcnlmckfpcgpaaGreatDoorRows
import GoSem.ClaimSeven
namespace Go.Proofs.YtgcnlmckfpcgpaaGreatDoor
namespace Rows

/-- THE TIED CARD OF 'routescopetop.TopJournalsMerge'. -/
def topJournalsMergeCard : Claim7 := { stood := { row := topJournalsMergeRow, standIns := [], harness := (true, "34bc71e6fb8f3e3dbff6e285c2ce142e391a7cb8249aca94f59e302d3436dc52"), looks := false }, kinds := [], alts := [], laidByText := true, laidKinds := [.data, .data, .data], laidTests := true, laidLooks := .later }
def TopJournalsMergeCardSaid : Prop := Claim7.holds Tryz.pinned (.plain (OpenSpec.ofChange topJournalsMergeSpec)) topJournalsMergeCard

/-- THE SECOND FORM's CARD OF 'routescopetop.TopJournalsMerge'. -/
def topJournalsMergeUptoCard : Claim7 := { stood := { row := topJournalsMergeUptoRow, standIns := [], harness := (true, "34bc71e6fb8f3e3dbff6e285c2ce142e391a7cb8249aca94f59e302d3436dc52"), looks := false }, kinds := [], alts := [], laidByText := true, laidKinds := [.data, .data, .data], laidTests := true, laidLooks := .later }
def TopJournalsMergeUptoCardSaid : Prop := Claim7.holds Tryz.pinned (.plain (OpenSpec.upto topJournalsMergeSpec)) topJournalsMergeUptoCard
end Rows
end Go.Proofs.YtgcnlmckfpcgpaaGreatDoor
