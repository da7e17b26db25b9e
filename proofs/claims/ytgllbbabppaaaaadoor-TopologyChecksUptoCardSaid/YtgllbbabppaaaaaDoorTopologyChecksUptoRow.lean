/- TopologyChecks, for inputs of bulk at most 1048576: the law returns true, and its arguments read afterwards as before; the variable 'address.blocks' as the program's text lays it. -/
import Derived.Test.YtgllbbabppaaaaaDoorRows
import Derived.Test.YtgllbbabppaaaaaDoorCards
import Derived.Test.YtgllbbabppaaaaaDoorTie
import Derived.Test.YtgllbbabppaaaaaDoorLaw14c
import Derived.Test.YtgllbbabppaaaaaDoorSx25
import Derived.Test.YtgllbbabppaaaaaDoorSx27
import Derived.Deep.DeepHandedRow
import Derived.Deep.DeepWitnessRowRef
import Derived.WalkKit
import Derived.ProofKit
import Derived.OpenShut
import Derived.ChangeOld
import Derived.Below
import Derived.LaidMore
import Derived.Stop.Joined
import Derived.SevenTiedAt
namespace Go.Proofs.YtgllbbabppaaaaaDoor.topologyChecksUptoDone
open Go.ChangeShapes Go.WideShapes Go.ChangeAt Go.RowKit Go.WideMaps Go.WideElems
set_option linter.unusedVariables false

theorem own : ownKnob Tryd.prog.godebug = none := by kernel_rfl
theorem laidOut : laidOutB Tryd.prog = true := by kernel_rfl
abbrev laid1 : List (String × DataW Unit) := [("routescope/address.blocks", Rows.laid_routescope_address_blocks)]
theorem door_met (os : Os) (args : Array Value) : laidMetH Tryd.prog laid1 ((World.doorLaid Tryd.prog 400 os).forCall (fun _ _ => 0) ⟨#[], args, []⟩).memory :=
  laidMetH_of_parts3 (fuel := 8) (laidMet_of_run' 8 (by kernel_rfl) (by kernel_rfl)) (by kernel_rfl) (by kernel_rfl)
theorem gBlocks : Tryd.prog.globalNamed "routescope/address.blocks" = some 0 := by kernel_rfl
theorem tBlocks : (Tryd.prog.globals[0]?).map (·.type) = some 117 := by kernel_rfl
theorem globs {W : World} (h : laidMetH Tryd.prog laid1 W) : Go.SX.GlobsOK W Go.RS.GL := by
  have h1 := Go.SX.globs_one (n := 9) (t := Go.RS.cBlocks) (v := Go.RS.blocksV) h (by kernel_rfl) gBlocks tBlocks (by kernel_rfl) (by kernel_rfl) (by kernel_rfl)
  intro g x hx
  unfold Go.RS.GL at hx
  split at hx
  · cases hx; exact h1
  · cases hx

theorem one_le {H : Type} (d : DataW H) : 1 ≤ Rows.uptoBulk d := by
  cases d with
  | lit l => cases l <;> simp [Rows.uptoBulk]
  | nil => simp [Rows.uptoBulk]
  | ptr d => simp [Rows.uptoBulk]
  | slice elems spare => simp [Rows.uptoBulk]
  | agg parts => simp [Rows.uptoBulk]
  | iface t d => simp [Rows.uptoBulk]
  | map entries => simp [Rows.uptoBulk]
  | held h => simp [Rows.uptoBulk]
theorem part_le {H : Type} {d : DataW H} {l : List (DataW H)} (h : d ∈ l) : Rows.uptoBulk d ≤ Rows.uptoBulkAll l := by
  induction l with
  | nil => cases h
  | cons x r ih =>
    simp only [Rows.uptoBulkAll]
    cases List.mem_cons.1 h with
    | inl e => subst e; omega
    | inr e => have := ih e; omega
theorem length_le {H : Type} (l : List (DataW H)) : l.length ≤ Rows.uptoBulkAll l := by
  induction l with
  | nil => simp [Rows.uptoBulkAll]
  | cons x r ih => have := one_le x; simp only [Rows.uptoBulkAll, List.length_cons]; omega
theorem meas {H : Type} : Go.SX.Meas (Rows.uptoBulk (H := H)) :=
  ⟨fun elems spare => ⟨by have := length_le elems; simp only [Rows.uptoBulk]; omega, fun e he => by have := part_le he; simp only [Rows.uptoBulk]; omega⟩,
    fun parts e he => by have := part_le he; simp only [Rows.uptoBulk]; omega⟩
theorem reads (os : Os) {H : Type} (enc : TypeId × Value → H) : ∃ places, DataW.whole enc Tryd.prog ((World.doorLaid Tryd.prog 400 os).forCall (fun _ _ => 0) ⟨#[], #[.slice none 0 0, .agg #[.slice none 0 0, .slice none 0 0, .slice none 0 0]], []⟩).memory Tryd.f3.params.toList Rows.topologyChecksSpec.vars false #[.slice none 0 0, .agg #[.slice none 0 0, .slice none 0 0, .slice none 0 0]].toList 8 = some ([.nil, .agg [.nil, .nil, .nil]], [], places) :=
  ⟨[], by kernel_rfl⟩

set_option maxRecDepth 100000 in
theorem lifted (os : Os) (started : os.Started) (H : Type) (enc : TypeId × Value → H) (F : Stop.Interp) :
    ReturnsInHanded {} Tryd.checked os 3 .any ((Rows.OpenSpec.upto Rows.topologyChecksSpec).preRow enc Tryd.prog Tryd.f3 Rows.topologyChecksUptoRow.domain false Rows.topologyChecksUptoRow.laid)
      (((Rows.OpenSpec.upto Rows.topologyChecksSpec).at F).post enc Tryd.prog Tryd.f3 false true false false) := by
  obtain ⟨places, hx⟩ := reads os enc
  refine returnsInHanded_of_row (C := Tryd.checked) (s := Rows.OpenSpec.upto Rows.topologyChecksSpec) own started (by kernel_rfl) Tryd.func3
    (witness_row_atRef (enc := enc) (C := Tryd.checked) false (World.doorLaid Tryd.prog 400 os) #[.slice none 0 0, .agg #[.slice none 0 0, .slice none 0 0, .slice none 0 0]] rfl (by kernel_rfl) (by kernel_rfl) (by kernel_rfl)
      (OpenSpec.preRow_of_cond 8 hx (by kernel_rfl) (fun k hk => by cases hk; kernel_rfl) (by kernel_rfl) (door_met os _))) ?_
  intro W base args ds gs before hval0 hW _ hcond _ hL _ _
  have hval : ∀ (j : Nat) t v, Tryd.f3.params[j]? = some t → args[j]? = some v → Value.okWide Tryd.prog W .any base t v := hval0
  have hW' := hW
  obtain ⟨p, q, hA0, hV, rfl, hfz, hnd⟩ := hW
  have hA : DataW.TrodAll enc Tryd.prog W 0 (fun _ => true) true Tryd.f3.params.toList args.toList ds p := hA0
  rw [Tryd.params3] at hA hval
  obtain ⟨rfl, rfl⟩ := trodVars_none hV
  have hbulk : Rows.uptoBulkAll ds ≤ 1048576 := by
    have := of_decide_eq_true (hcond _ rfl)
    rwa [List.append_nil] at this
  have walk := Go.SX.law_walkM meas (M := 1048576) (globs hL) Go.RS.pre14K Go.RS.ok_law14_TopologyChecks (τs := [22, 27]) (args := args) (by kernel_rfl) hA (fun x hx => Nat.le_trans (part_le hx) hbulk) hval
  have hA1 := hA
  obtain ⟨v0, vs0, d0, ds0, p0, q0, hargs, rfl, rfl, h0, r0⟩ := trodAll_cons hA1
  obtain ⟨v1, vs1, d1, ds1, p1, q1, rfl, rfl, rfl, h1, r1⟩ := trodAll_cons r0
  obtain ⟨rfl, rfl, rfl⟩ := trodAll_nil r1
  clear hA0 hval0
  refine walk.mono fun e W' ⟨he, bel⟩ => ?_
  subst he
  have again := Go.SX.trodAll_below laidOut (τs := [22, 27]) (by kernel_rfl) hA bel
  exact ⟨_, rfl, _, _, _, [], _, [], hW', trodAll_mk1 (shut_bool Tryd.underlying4 _), again, rfl, bel.frame _, fun h => by cases h⟩

theorem over : Rows.topologyChecksUptoRow.holds Tryd.pinned (Rows.OpenSpec.upto Rows.topologyChecksSpec) :=
  OpenClaim.holds_of_cond 3 Tryd.f3 rfl rfl rfl rfl rfl rfl rfl ⟨rfl, rfl, rfl, rfl, rfl⟩ rfl rfl rfl rfl rfl (by kernel_rfl) Tryd.func3 (by kernel_rfl)
    (of_decide_eq_true (by kernel_rfl)) (by unfold Func.isWrapper; first | (rw [if_pos (by decide +kernel)]; kernel_rfl) | (rw [if_neg (by decide +kernel)]; exact ⟨rfl, rfl⟩))
    (fun os started H enc _ F => by rw [OpenClaim.pre_eq_preRow]; exact lifted os started H enc F)

theorem proved : Rows.TopologyChecksUptoCardSaid :=
  Claim7.holds_tied_plain_at .later [] [.data] true (true, "db7eae6ec8894ecb0e4a1c91587c81ab034db3fed410bbf8e9ddb709e87ccc03") false
    over (fun _ h => by cases h) (by kernel_rfl) (fun _ h => by cases h) topologyChecksUpto_row_tie rfl ⟨rfl, rfl⟩ (by kernel_rfl) rfl
    (fun f fn hf hfn => by
      obtain rfl : f = 3 := Option.some.inj ((show Tryd.prog.funcNamed "routescope/routescopelaw14.TopologyChecks" = some 3 by kernel_rfl).symm.trans hf) |>.symm
      obtain rfl : fn = Tryd.f3 := (Option.some.inj (Tryd.func3.symm.trans hfn)).symm
      exact ⟨by kernel_rfl, fun j t ht => by
        rw [Tryd.params3] at ht
        have hm : t ∈ [22, 27] := by simpa using Array.mem_of_getElem? ht
        have hall : ([22, 27].all fun u => !Tryd.prog.wantsStandIn u) = true := by kernel_rfl
        exact (show Tryd.prog.wantsStandIn t = false by simpa using List.all_eq_true.1 hall t hm)⟩)
    (by kernel_rfl)
#print axioms proved
end Go.Proofs.YtgllbbabppaaaaaDoor.topologyChecksUptoDone
