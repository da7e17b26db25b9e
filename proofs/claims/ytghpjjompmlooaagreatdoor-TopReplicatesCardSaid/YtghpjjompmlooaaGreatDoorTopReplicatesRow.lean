/- TopReplicates: for every input the law returns true, and its arguments read afterwards as before; the variable 'address.blocks' as the program's text lays it. -/
import Derived.Test.YtghpjjompmlooaaGreatDoorRows
import Derived.Test.YtghpjjompmlooaaGreatDoorCards
import Derived.Test.YtghpjjompmlooaaGreatDoorTie
import Derived.Test.YtghpjjompmlooaaGreatDoorTopr
import Derived.Test.YtghpjjompmlooaaGreatDoorSx25
import Derived.WalkKit
import Derived.ProofKit
import Derived.OpenShut
import Derived.ChangeOld
import Derived.Below
import Derived.LaidMore
import Derived.Stop.Joined
import Derived.SevenTiedAt
import Derived.Test.YtghpjjompmlooaaGreatDoorTopReplicatesFacts
namespace Go.Proofs.YtghpjjompmlooaaGreatDoor.topReplicatesDone
open Go.ChangeShapes Go.WideShapes Go.ChangeAt Go.RowKit Go.WideMaps Go.WideElems
set_option linter.unusedVariables false

theorem own : ownKnob Tryz.prog.godebug = none := by kernel_rfl
abbrev laid1 : List (String × DataW Unit) := [("routescope/address.blocks", Rows.laid_routescope_address_blocks), ("routescope/digest.start", Rows.laid_routescope_digest_start), ("routescope/digest.keys", Rows.laid_routescope_digest_keys)]
theorem door_met (os : Os) (args : Array Value) : laidMetH Tryz.prog laid1 ((World.doorLaid Tryz.prog 400 os).forCall (fun _ _ => 0) ⟨#[], args, []⟩).memory :=
  laidMetH_of_parts3 (fuel := 8) (laidMet_of_run' 8 (by kernel_rfl) (by kernel_rfl)) (by kernel_rfl) (by kernel_rfl)
theorem gN0 : Tryz.prog.globalNamed "routescope/address.blocks" = some 1 := by kernel_rfl
theorem gT0 : (Tryz.prog.globals[1]?).map (·.type) = some 317 := by kernel_rfl
theorem gN1 : Tryz.prog.globalNamed "routescope/digest.start" = some 0 := by kernel_rfl
theorem gT1 : (Tryz.prog.globals[0]?).map (·.type) = some 273 := by kernel_rfl
theorem gN2 : Tryz.prog.globalNamed "routescope/digest.keys" = some 2 := by kernel_rfl
theorem gT2 : (Tryz.prog.globals[2]?).map (·.type) = some 341 := by kernel_rfl
theorem globs {W : World} (h : laidMetH Tryz.prog laid1 W) : Go.SX.GlobsOK W Go.RS.GL := by
  have hh : (laid1.all fun x => x.2.handleName?.isNone) = true := by kernel_rfl
  have h0 := Go.SX.globs_at (n := 9) (t := Go.RS.cBlocks) (v := Go.RS.blocksV) h hh (.head _) gN0 gT0 (by kernel_rfl) (by kernel_rfl) (by kernel_rfl)
  have h1 := Go.SX.globs_at (n := 9) (t := Go.RS.cSt8) (v := Go.RS.startV8) h hh (.tail _ (.head _)) gN1 gT1 (by kernel_rfl) (by kernel_rfl) (by kernel_rfl)
  have h2 := Go.SX.globs_at (n := 9) (t := Go.RS.cKeys) (v := Go.RS.keysV) h hh (.tail _ (.tail _ (.head _))) gN2 gT2 (by kernel_rfl) (by kernel_rfl) (by kernel_rfl)
  intro g x hx
  unfold Go.RS.GL at hx
  split at hx
  · cases hx; exact h0
  · cases hx; exact h1
  · cases hx; exact h2
  · cases hx

set_option maxRecDepth 100000 in
theorem lifted (os : Os) (started : os.Started) (H : Type) (enc : TypeId × Value → H) :
    ReturnsInHanded {} Tryz.checked os 3 .any (fun w args => (Rows.topReplicatesSpec.pre enc Tryz.prog Tryz.f3 [] false w args ∧ laidMetH Tryz.prog laid1 w) ∧ sizedMet enc Tryz.prog Tryz.f3 (OpenSpec.ofChange Rows.topReplicatesSpec) false w args)
      (Rows.topReplicatesSpec.post enc Tryz.prog Tryz.f3 false true false false) := by
  refine returnsInHanded_of_change_and (C := Tryz.checked) (X := fun w _ => laidMetH Tryz.prog laid1 w) (fun _ _ _ hh h => h.of_heap hh) own started (by kernel_rfl) Tryz.func3
    (ChangeSpec.witness_shaped (enc := enc) (C := Tryz.checked) (os := os) (X := fun w _ => laidMetH Tryz.prog laid1 w) false (World.doorLaid Tryz.prog 400 os) #[.slice none 0 0] 8 rfl (World.shaped_of_RefB (by kernel_rfl) (by kernel_rfl)) (by kernel_rfl) (by kernel_rfl) (by kernel_rfl) (door_met os _)) ?_
  intro W base args ds gs before hval0 hW hcnd _ hL _
  have hval : ∀ (j : Nat) t v, Tryz.f3.params[j]? = some t → args[j]? = some v → Value.okWide Tryz.prog W .any base t v := hval0
  have hW' := hW
  obtain ⟨p, q, hA0, hV, rfl, hfz, hnd⟩ := hW
  have hA : DataW.TrodAll enc Tryz.prog W 0 (fun _ => true) true Tryz.f3.params.toList args.toList ds p := hA0
  rw [Tryz.params3] at hA hval
  obtain ⟨rfl, rfl⟩ := trodVars_none hV
  have walk := Go.SX.law_walkG (globs hL) Go.RS.ok_top_TopReplicates (τs := [22]) (args := args) (by kernel_rfl) hA hval
  have hA1 := hA
  obtain ⟨v0, vs0, d0, ds0, p0, q0, hargs, rfl, rfl, h0, r0⟩ := trodAll_cons hA1
  obtain ⟨rfl, rfl, rfl⟩ := trodAll_nil r0
  clear hA0 hval0
  refine walk.mono fun e W' ⟨he, bel⟩ => ?_
  subst he
  have again := Go.SX.trodAll_below laidOut (τs := [22]) (by kernel_rfl) hA bel
  exact ⟨_, rfl, _, _, _, [], _, [], hW', trodAll_mk1 (shut_bool Tryz.underlying4 _), again, rfl, bel.frame _, fun h => by cases h⟩

theorem closed : joinedFacts Tryz.prog 3 Tryz.f3 Rows.topReplicatesSpec Rows.topReplicatesRow = true := by
  unfold joinedFacts
  rw [laidOut, factPlace, factUnfollowed, factRecurses, factNamed]
  kernel_rfl

theorem over : Rows.topReplicatesRow.holds Tryz.pinned (OpenSpec.ofChange Rows.topReplicatesSpec) :=
  OpenClaim.holds_of_wide 3 Tryz.f3 rfl rfl rfl rfl rfl rfl rfl ⟨rfl, rfl, rfl, rfl, rfl⟩ rfl rfl rfl rfl rfl (by kernel_rfl) Tryz.func3 closed
    (of_decide_eq_true (by kernel_rfl)) (by unfold Func.isWrapper; first | (rw [if_pos (by decide +kernel)]; kernel_rfl) | (rw [if_neg (by decide +kernel)]; exact ⟨rfl, rfl⟩))
    (fun os started H enc _ => lifted os started H enc)

theorem proved : Rows.TopReplicatesCardSaid :=
  Claim7.holds_tied_plain_at .later [] [.data, .data, .data] true (true, "9ce8b4a6d32822b6d1337ffe90ca49e6dadd34fa27a4fedd387fd8f81c589993") false
    over (fun _ h => by cases h) (by kernel_rfl) (fun _ h => by cases h) topReplicates_row_tie rfl ⟨rfl, rfl⟩ factMain rfl
    (fun f fn hf hfn => by
      obtain rfl : f = 3 := Option.some.inj ((show Tryz.prog.funcNamed "routescope/routescopetop.TopReplicates" = some 3 by kernel_rfl).symm.trans hf) |>.symm
      obtain rfl : fn = Tryz.f3 := (Option.some.inj (Tryz.func3.symm.trans hfn)).symm
      exact ⟨factLooks, fun j t ht => by
        rw [Tryz.params3] at ht
        have hm : t ∈ [22] := by simpa using Array.mem_of_getElem? ht
        have hall : ([22].all fun u => !Tryz.prog.wantsStandIn u) = true := by kernel_rfl
        exact (show Tryz.prog.wantsStandIn t = false by simpa using List.all_eq_true.1 hall t hm)⟩)
    factGoes
#print axioms proved
end Go.Proofs.YtghpjjompmlooaaGreatDoor.topReplicatesDone
