/-
  DERIVED. GIVEN WITH THE SEED: THE PROGRAM's TIES (one call each: nine closed facts by the kernel) AND EACH ROW's TIE, after the 31st guide's Derived/Test/Toyas{Tie, Card}.lean. No idea stands in it: it is a product of the set-up. Laid BY PROGRAM, IN A SANDBOX (cutbox-door.mjs). By AI agents, Wed Nov 11 2026. No macro, syntax, notation, axiom, sorry.
-/
import Derived.Test.YtghpjjompmlooaaGreatDoorRows
import Derived.LaidByTextLater
import Derived.SevenTiedAt
import Derived.LaidSub
import Derived.LaidOnce
namespace Go.Proofs.YtghpjjompmlooaaGreatDoor
open Go
set_option maxRecDepth 100000
theorem seatTie1 : Tryz.prog.laidByTextLater [("routescope/address.blocks", Rows.laid_routescope_address_blocks), ("routescope/digest.start", Rows.laid_routescope_digest_start), ("routescope/digest.keys", Rows.laid_routescope_digest_keys)] [.data, .data, .data] true :=
  Program.laidByTextLater_by_one 40 8 65 (by kernel_rfl) (by kernel_rfl) (by kernel_rfl) (by kernel_rfl) (by kernel_rfl) (by kernel_rfl) (fun _ _ => by kernel_rfl)
theorem noOwnUnsafe : Tryz.pinned.checked.prog.headLifts.contains "ownunsafe" = false := by kernel_rfl
theorem tie : Tryz.prog.laidByTextLater [("routescope/address.blocks", Rows.laid_routescope_address_blocks), ("routescope/digest.start", Rows.laid_routescope_digest_start), ("routescope/digest.keys", Rows.laid_routescope_digest_keys)] [.data, .data, .data] true :=
  Program.laidByTextLater.sub seatTie1 ["routescope/address.blocks", "routescope/digest.start", "routescope/digest.keys"] (by kernel_rfl) (by kernel_rfl)
theorem topReplicates_row_tie : Rows.topReplicatesRow.laidByTextAt .later Tryz.pinned [.data, .data, .data] true :=
  OpenClaim.laidByTextAt_later rfl rfl tie noOwnUnsafe
theorem topReplicatesUpto_row_tie : Rows.topReplicatesUptoRow.laidByTextAt .later Tryz.pinned [.data, .data, .data] true :=
  OpenClaim.laidByTextAt_later rfl rfl tie noOwnUnsafe
end Go.Proofs.YtghpjjompmlooaaGreatDoor
