/-
  DERIVED. GIVEN WITH THE SEED: THE CARDS: each row of YtakbfcoablcboaaDoorRows.lean that lists a variable, with what it lists TIED to the program's text (the seventh form; the later family's looks); each row that meets fmt, with fmt's text TOLD by the authors' own Lean function (tested against real Go, not proved from fmt's source: count such statements apart). THE CARD IS WHAT COUNTS. Prove the row's statement (the work); the ties are given (YtakbfcoablcboaaDoorTie.lean); close each card by the builder's one call (the guide's Derived/Test/ToyasCard.lean, 'card_holds'). Laid BY PROGRAM, IN A SANDBOX (cutbox-door.mjs). By AI agents, Wed Nov 11 2026. No macro, syntax, notation, axiom, sorry.
-/
import Derived.Test.YtakbfcoablcboaaDoorRows
import GoSem.ClaimSeven
namespace Go.Proofs.YtakbfcoablcboaaDoor
namespace Rows

/-- THE TIED CARD OF 'routescopelaw08.ReplyDiffers'. -/
def replyDiffersCard : Claim7 := { stood := { row := replyDiffersRow, standIns := [], harness := (true, "29a7c9e9887f4d02a0d0a20cddb68ee7b27a1062a83f61a248e181d3994efb30"), looks := false }, kinds := [], alts := [], laidByText := true, laidKinds := [.data], laidTests := true, laidLooks := .later }
def ReplyDiffersCardSaid : Prop := Claim7.holds Tryd.pinned (.plain (OpenSpec.ofChange replyDiffersSpec)) replyDiffersCard

/-- THE TIED CARD OF 'routescopelaw08.ReplyEnds'. -/
def replyEndsCard : Claim7 := { stood := { row := replyEndsRow, standIns := [], harness := (true, "29a7c9e9887f4d02a0d0a20cddb68ee7b27a1062a83f61a248e181d3994efb30"), looks := false }, kinds := [], alts := [], laidByText := true, laidKinds := [.data], laidTests := true, laidLooks := .later }
def ReplyEndsCardSaid : Prop := Claim7.holds Tryd.pinned (.plain (OpenSpec.ofChange replyEndsSpec)) replyEndsCard

/-- THE TIED CARD OF 'routescopelaw08.ReplyReadsErrors'. -/
def replyReadsErrorsCard : Claim7 := { stood := { row := replyReadsErrorsRow, standIns := [], harness := (true, "29a7c9e9887f4d02a0d0a20cddb68ee7b27a1062a83f61a248e181d3994efb30"), looks := false }, kinds := [], alts := [], laidByText := true, laidKinds := [.data], laidTests := true, laidLooks := .later }
def ReplyReadsErrorsCardSaid : Prop := Claim7.holds Tryd.pinned (.plain (OpenSpec.ofChange replyReadsErrorsSpec)) replyReadsErrorsCard

/-- THE TIED CARD OF 'routescopelaw08.ReplyReadsHosts'. -/
def replyReadsHostsCard : Claim7 := { stood := { row := replyReadsHostsRow, standIns := [], harness := (true, "29a7c9e9887f4d02a0d0a20cddb68ee7b27a1062a83f61a248e181d3994efb30"), looks := false }, kinds := [], alts := [], laidByText := true, laidKinds := [.data], laidTests := true, laidLooks := .later }
def ReplyReadsHostsCardSaid : Prop := Claim7.holds Tryd.pinned (.plain (OpenSpec.ofChange replyReadsHostsSpec)) replyReadsHostsCard

/-- THE SECOND FORM's CARD OF 'routescopelaw08.ReplyDiffers'. -/
def replyDiffersUptoCard : Claim7 := { stood := { row := replyDiffersUptoRow, standIns := [], harness := (true, "29a7c9e9887f4d02a0d0a20cddb68ee7b27a1062a83f61a248e181d3994efb30"), looks := false }, kinds := [], alts := [], laidByText := true, laidKinds := [.data], laidTests := true, laidLooks := .later }
def ReplyDiffersUptoCardSaid : Prop := Claim7.holds Tryd.pinned (.plain (OpenSpec.upto replyDiffersSpec)) replyDiffersUptoCard

/-- THE SECOND FORM's CARD OF 'routescopelaw08.ReplyEnds'. -/
def replyEndsUptoCard : Claim7 := { stood := { row := replyEndsUptoRow, standIns := [], harness := (true, "29a7c9e9887f4d02a0d0a20cddb68ee7b27a1062a83f61a248e181d3994efb30"), looks := false }, kinds := [], alts := [], laidByText := true, laidKinds := [.data], laidTests := true, laidLooks := .later }
def ReplyEndsUptoCardSaid : Prop := Claim7.holds Tryd.pinned (.plain (OpenSpec.upto replyEndsSpec)) replyEndsUptoCard

/-- THE SECOND FORM's CARD OF 'routescopelaw08.ReplyReadsErrors'. -/
def replyReadsErrorsUptoCard : Claim7 := { stood := { row := replyReadsErrorsUptoRow, standIns := [], harness := (true, "29a7c9e9887f4d02a0d0a20cddb68ee7b27a1062a83f61a248e181d3994efb30"), looks := false }, kinds := [], alts := [], laidByText := true, laidKinds := [.data], laidTests := true, laidLooks := .later }
def ReplyReadsErrorsUptoCardSaid : Prop := Claim7.holds Tryd.pinned (.plain (OpenSpec.upto replyReadsErrorsSpec)) replyReadsErrorsUptoCard

/-- THE SECOND FORM's CARD OF 'routescopelaw08.ReplyReadsHosts'. -/
def replyReadsHostsUptoCard : Claim7 := { stood := { row := replyReadsHostsUptoRow, standIns := [], harness := (true, "29a7c9e9887f4d02a0d0a20cddb68ee7b27a1062a83f61a248e181d3994efb30"), looks := false }, kinds := [], alts := [], laidByText := true, laidKinds := [.data], laidTests := true, laidLooks := .later }
def ReplyReadsHostsUptoCardSaid : Prop := Claim7.holds Tryd.pinned (.plain (OpenSpec.upto replyReadsHostsSpec)) replyReadsHostsUptoCard
end Rows
end Go.Proofs.YtakbfcoablcboaaDoor
