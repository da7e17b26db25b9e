/- Topo2: networks: the program's check of all, finding, and routes at a time. -/
import Derived.Test.YtchnhaeknbgieaaTopod
import Derived.Test.YtchnhaeknbgieaaReply
namespace Go.RS
open Go.SX Go.Proofs
set_option maxRecDepth 100000
set_option linter.unusedVariables false

def idxI {α : Type} (q : α → Bool) (l : List α) : Int := if l.findIdx q < l.length then (l.findIdx q : Int) else -1
theorem idxI_any {α : Type} {q : α → Bool} {l : List α} : decide (0 ≤ idxI q l) = l.any q := by
  unfold idxI
  cases h : l.any q with
  | true =>
    rw [if_pos (List.findIdx_lt_length_of_exists (by simpa using h))]
    exact decide_eq_true (by omega)
  | false =>
    have : l.findIdx q = l.length := List.findIdx_eq_length_of_false (by simpa using h)
    rw [if_neg (by omega)]; rfl
def ct_topology_changed : Ct := ⟨[.val (.sl cRt), .agg cChange], [.own 128 cRt], fun d => [sortedR d.1, okL d.1, ((hRoute d.2.1).2.1.length : Int) ≤ 1099511627776], fun d => ((chV d.1 d.2.1, ()), ())⟩
def an_topology_changed : PDs ct_topology_changed.ps → Anns := (fun _ => {})
theorem vc_topology_changed :
    ∀ (x : List ((Int × Int) × List Int × Int)) (d : Int × Int × Bool × (Int × Int) × List Int × Int), (List.length x ≤ maxLen ∧ ∀ (x_1 : (Int × Int) × List Int × Int), x_1 ∈ x → (((0 : Int) ≤ x_1.1.1 ∧
     x_1.1.1 ≤ (4294967295 : Int)) ∧ (-9223372036854775808 : Int) ≤ x_1.1.2 ∧ x_1.1.2 ≤ (9223372036854775807 : Int)) ∧ (List.length x_1.2.1 ≤ maxLen ∧ ∀ (x : Int), x ∈ x_1.2.1 → (-9223372036854775808 :
     Int) ≤ x ∧ x ≤ (9223372036854775807 : Int)) ∧ (-9223372036854775808 : Int) ≤ x_1.2.2 ∧ x_1.2.2 ≤ (9223372036854775807 : Int)) ∧ CT.wf cChange d ∧ True → sortedR x ∧ okL x ∧ (↑(List.length (hRoute
     d).2.1) : Int) ≤ (1099511627776 : Int) → ifP d.2.2.1 (sortedR x ∧ okL x ∧ removeL x d.2.2.2.1 = chV x d) (sortedR x ∧ okL x ∧ (↑(List.length d.2.2.2.2.1) : Int) ≤ (1099511627776 : Int) ∧ putL x
     d.2.2.2 = chV x d) := by
  rintro l c - ⟨hs, hl, hx⟩
  unfold chV
  rw [show c.2.2.1 = hRem c from rfl]
  refine ifP_split (fun h => ⟨hs, hl, ?_⟩) (fun h => ⟨hs, hl, hx, ?_⟩)
  · rw [if_pos h]; rfl
  · rw [if_neg (by rw [h]; decide)]; rfl
theorem ok_topology_changed : SpecOK Try.prog GL 131 ct_topology_changed.spec := Ct.okH _ Try.func131 (by kernel_rfl) (withSpec_ok (withSpec_ok noSpecs_ok ok_fib_Put) ok_fib_Remove) hmix an_topology_changed (hideMp (by kernel_rfl) vc_topology_changed)
def ct_topology_Find : Ct := ⟨[.agg cNet, .val cU32], [.val cI, .val .bool], fun d => [], fun d => ((findV d.1 d.2.1, findB d.1 d.2.1, ()), ())⟩
def an_topology_Find : PDs ct_topology_Find.ps → Anns := (fun d => { loops := (fun n => match n with | 2 => some (fun S => { ι := Int, μ := fun i => (d.1.1.length - i).toNat, inv := fun i => 0 ≤ i ∧ i ≤ d.1.1.length ∧ ∀ x ∈ d.1.1.take i.toNat, ownsA x d.2.1 = false, keep := [1, 3, 9, 10], slots := fun i => [(11, .int .i64 i)], keepN := [48], names := fun i => [] }) | _ => none) })
theorem vc_topology_Find :
    ∀ (x : List (List (Int × Int) × Int × Int × Bool × List ((Int × Int) × List Int × Int) × Int × Int × Int × Int × Int × (Int × Int) × Bool × Bool × Int × Int)) (x_1 : List (Int × Int × Int × Int × Int
     × Int)) (x_2 : List (Int × Int × Bool × (Int × Int) × List Int × Int)) (x_3 : Int), ((List.length x ≤ maxLen ∧ ∀ (x_4 : List (Int × Int) × Int × Int × Bool × List ((Int × Int) × List Int × Int) × Int
     × Int × Int × Int × Int × (Int × Int) × Bool × Bool × Int × Int), x_4 ∈ x → (List.length x_4.1 ≤ maxLen ∧ ∀ (x : Int × Int), x ∈ x_4.1 → ((0 : Int) ≤ x.1 ∧ x.1 ≤ (4294967295 : Int)) ∧
     (-9223372036854775808 : Int) ≤ x.2 ∧ x.2 ≤ (9223372036854775807 : Int)) ∧ ((0 : Int) ≤ x_4.2.1 ∧ x_4.2.1 ≤ (4294967295 : Int)) ∧ ((-9223372036854775808 : Int) ≤ x_4.2.2.1 ∧ x_4.2.2.1 ≤
     (9223372036854775807 : Int)) ∧ True ∧ (List.length x_4.2.2.2.2.1 ≤ maxLen ∧ ∀ (x : (Int × Int) × List Int × Int), x ∈ x_4.2.2.2.2.1 → (((0 : Int) ≤ x.1.1 ∧ x.1.1 ≤ (4294967295 : Int)) ∧
     (-9223372036854775808 : Int) ≤ x.1.2 ∧ x.1.2 ≤ (9223372036854775807 : Int)) ∧ (List.length x.2.1 ≤ maxLen ∧ ∀ (x_5 : Int), x_5 ∈ x.2.1 → (-9223372036854775808 : Int) ≤ x_5 ∧ x_5 ≤ (9223372036854775807
     : Int)) ∧ (-9223372036854775808 : Int) ≤ x.2.2 ∧ x.2.2 ≤ (9223372036854775807 : Int)) ∧ ((-9223372036854775808 : Int) ≤ x_4.2.2.2.2.2.1 ∧ x_4.2.2.2.2.2.1 ≤ (9223372036854775807 : Int)) ∧ ((0 : Int) ≤
     x_4.2.2.2.2.2.2.1 ∧ x_4.2.2.2.2.2.2.1 ≤ (4294967295 : Int)) ∧ ((-9223372036854775808 : Int) ≤ x_4.2.2.2.2.2.2.2.1 ∧ x_4.2.2.2.2.2.2.2.1 ≤ (9223372036854775807 : Int)) ∧ ((-9223372036854775808 : Int) ≤
     x_4.2.2.2.2.2.2.2.2.1 ∧ x_4.2.2.2.2.2.2.2.2.1 ≤ (9223372036854775807 : Int)) ∧ ((-9223372036854775808 : Int) ≤ x_4.2.2.2.2.2.2.2.2.2.1 ∧ x_4.2.2.2.2.2.2.2.2.2.1 ≤ (9223372036854775807 : Int)) ∧
     (((-9223372036854775808 : Int) ≤ x_4.2.2.2.2.2.2.2.2.2.2.1.1 ∧ x_4.2.2.2.2.2.2.2.2.2.2.1.1 ≤ (9223372036854775807 : Int)) ∧ (-9223372036854775808 : Int) ≤ x_4.2.2.2.2.2.2.2.2.2.2.1.2 ∧
     x_4.2.2.2.2.2.2.2.2.2.2.1.2 ≤ (9223372036854775807 : Int)) ∧ True ∧ True ∧ ((-9223372036854775808 : Int) ≤ x_4.2.2.2.2.2.2.2.2.2.2.2.2.2.1 ∧ x_4.2.2.2.2.2.2.2.2.2.2.2.2.2.1 ≤ (9223372036854775807 :
     Int)) ∧ (-9223372036854775808 : Int) ≤ x_4.2.2.2.2.2.2.2.2.2.2.2.2.2.2 ∧ x_4.2.2.2.2.2.2.2.2.2.2.2.2.2.2 ≤ (9223372036854775807 : Int)) ∧ (List.length x_1 ≤ maxLen ∧ ∀ (x : Int × Int × Int × Int × Int
     × Int), x ∈ x_1 → ((-9223372036854775808 : Int) ≤ x.1 ∧ x.1 ≤ (9223372036854775807 : Int)) ∧ ((-9223372036854775808 : Int) ≤ x.2.1 ∧ x.2.1 ≤ (9223372036854775807 : Int)) ∧ ((-9223372036854775808 :
     Int) ≤ x.2.2.1 ∧ x.2.2.1 ≤ (9223372036854775807 : Int)) ∧ ((-9223372036854775808 : Int) ≤ x.2.2.2.1 ∧ x.2.2.2.1 ≤ (9223372036854775807 : Int)) ∧ ((-9223372036854775808 : Int) ≤ x.2.2.2.2.1 ∧
     x.2.2.2.2.1 ≤ (9223372036854775807 : Int)) ∧ (-9223372036854775808 : Int) ≤ x.2.2.2.2.2 ∧ x.2.2.2.2.2 ≤ (9223372036854775807 : Int)) ∧ List.length x_2 ≤ maxLen ∧ ∀ (x : Int × Int × Bool × (Int × Int)
     × List Int × Int), x ∈ x_2 → ((-9223372036854775808 : Int) ≤ x.1 ∧ x.1 ≤ (9223372036854775807 : Int)) ∧ ((-9223372036854775808 : Int) ≤ x.2.1 ∧ x.2.1 ≤ (9223372036854775807 : Int)) ∧ True ∧ (((0 :
     Int) ≤ x.2.2.2.1.1 ∧ x.2.2.2.1.1 ≤ (4294967295 : Int)) ∧ (-9223372036854775808 : Int) ≤ x.2.2.2.1.2 ∧ x.2.2.2.1.2 ≤ (9223372036854775807 : Int)) ∧ (List.length x.2.2.2.2.1 ≤ maxLen ∧ ∀ (x_4 : Int),
     x_4 ∈ x.2.2.2.2.1 → (-9223372036854775808 : Int) ≤ x_4 ∧ x_4 ≤ (9223372036854775807 : Int)) ∧ (-9223372036854775808 : Int) ≤ x.2.2.2.2.2 ∧ x.2.2.2.2.2 ≤ (9223372036854775807 : Int)) ∧ ((0 : Int) ≤ x_3
     ∧ x_3 ≤ (4294967295 : Int)) ∧ True → True → (∃ (x_4 : Int), ((0 : Int) ≤ x_4 ∧ x_4 ≤ (↑(List.length x) : Int) ∧ ∀ (x_5 : List (Int × Int) × Int × Int × Bool × List ((Int × Int) × List Int × Int) × Int
     × Int × Int × Int × Int × (Int × Int) × Bool × Bool × Int × Int), x_5 ∈ List.take (Int.toNat x_4) x → ownsA x_5 x_3 = false) ∧ x_3 = x_3 ∧ x = x ∧ (↑(List.length x) : Int) = (↑(List.length x) : Int) ∧
     (0 : Int) = x_4 ∧ x = x ∧ x_1 = x_1 ∧ x_2 = x_2 ∧ True) ∧ ∀ (x_4 : Int), ((0 : Int) ≤ x_4 ∧ x_4 ≤ (↑(List.length x) : Int) ∧ ∀ (x_5 : List (Int × Int) × Int × Int × Bool × List ((Int × Int) × List Int
     × Int) × Int × Int × Int × Int × Int × (Int × Int) × Bool × Bool × Int × Int), x_5 ∈ List.take (Int.toNat x_4) x → ownsA x_5 x_3 = false) → ifP (decide (x_4 < (↑(List.length x) : Int))) ((0 : Int) ≤
     x_4 ∧ x_4 < (↑(List.length x) : Int) ∧ ifP (ownsA (List.getD x (Int.toNat x_4) default) x_3) (x_4 = findV (x, x_1, x_2) x_3 ∧ true = findB (x, x_1, x_2) x_3) (∃ (x_5 : Int), ((0 : Int) ≤ x_5 ∧ x_5 ≤
     (↑(List.length x) : Int) ∧ ∀ (x_6 : List (Int × Int) × Int × Int × Bool × List ((Int × Int) × List Int × Int) × Int × Int × Int × Int × Int × (Int × Int) × Bool × Bool × Int × Int), x_6 ∈ List.take
     (Int.toNat x_5) x → ownsA x_6 x_3 = false) ∧ Int.toNat ((↑(List.length x) : Int) - x_5) < Int.toNat ((↑(List.length x) : Int) - x_4) ∧ x_3 = x_3 ∧ x = x ∧ (↑(List.length x) : Int) = (↑(List.length x)
     : Int) ∧ IntKind.wrap IntKind.i64 (x_4 + (1 : Int)) = x_5 ∧ x = x ∧ x_1 = x_1 ∧ x_2 = x_2 ∧ True)) ((0 : Int) = findV (x, x_1, x_2) x_3 ∧ false = findB (x, x_1, x_2) x_3) := by
  rintro ns ls hs a ⟨⟨⟨hnl, -⟩, -⟩, -⟩ -
  simp only [maxLen] at hnl
  refine ⟨⟨0, ⟨by omega, by omega, by simp⟩, (by repeat' first | exact trivial | refine ⟨trivial, ?_⟩ | refine ⟨(by with_reducible rfl), ?_⟩ | refine ⟨w64 (by omega) (by omega), ?_⟩ | refine ⟨rfl, ?_⟩)⟩, ?_⟩
  rintro i ⟨i0, i1, hI⟩
  refine ifP_split (fun hi => ?_) (fun hi => ?_)
  · have hi := of_decide_eq_true hi
    refine ⟨i0, hi, ifP_split (fun hm => ?_) (fun hm => ?_)⟩
    · have e := findI_at (q := fun x => ownsA x a) i0 hi hI hm
      unfold findV findB findI
      by_cases k : ns.findIdx (fun x => ownsA x a) < ns.length
      · rw [if_pos k] at e
        dsimp only
        rw [if_pos k, decide_eq_true k]
        exact ⟨e, rfl⟩
      · rw [if_neg k] at e; omega
    · exact ⟨i + 1, ⟨by omega, by omega, all_next i0 hi hI hm⟩, by omega, (by repeat' first | exact trivial | refine ⟨trivial, ?_⟩ | refine ⟨(by with_reducible rfl), ?_⟩ | refine ⟨w64 (by omega) (by omega), ?_⟩ | refine ⟨rfl, ?_⟩)⟩
  · have e := findI_none (q := fun x => ownsA x a) (of_decide_eq_false hi) hI
    unfold findV findB findI
    by_cases k : ns.findIdx (fun x => ownsA x a) < ns.length
    · rw [if_pos k] at e; omega
    · dsimp only
      rw [if_neg k, decide_eq_false k]
      exact ⟨rfl, rfl⟩
theorem ok_topology_Find : SpecOK Try.prog GL 48 ct_topology_Find.spec := Ct.okH _ Try.func48 (by kernel_rfl) (withSpec_ok noSpecs_ok ok_node_Owns) hmix an_topology_Find (hideMp (by kernel_rfl) vc_topology_Find)

def ct_CloneRt : Ct := ⟨[.val (.sl cRt)], [.own 128 cRt], fun d => [(d.1.length : Int) ≤ 134217728], fun d => ((d.1, ()), ())⟩
def an_CloneRt : PDs ct_CloneRt.ps → Anns := (fun _ => {})
theorem vc_CloneRt :
    ∀ (x : List ((Int × Int) × List Int × Int)), (List.length x ≤ maxLen ∧ ∀ (x_1 : (Int × Int) × List Int × Int), x_1 ∈ x → (((0 : Int) ≤ x_1.1.1 ∧ x_1.1.1 ≤ (4294967295 : Int)) ∧ (-9223372036854775808 :
     Int) ≤ x_1.1.2 ∧ x_1.1.2 ≤ (9223372036854775807 : Int)) ∧ (List.length x_1.2.1 ≤ maxLen ∧ ∀ (x : Int), x ∈ x_1.2.1 → (-9223372036854775808 : Int) ≤ x ∧ x ≤ (9223372036854775807 : Int)) ∧
     (-9223372036854775808 : Int) ≤ x_1.2.2 ∧ x_1.2.2 ≤ (9223372036854775807 : Int)) ∧ True → (↑(List.length x) : Int) ≤ (134217728 : Int) → ∀ (x_1 : Bool), (x_1 = true → List.length x = (0 : Nat)) → ifP
     x_1 (([] : List ((Int × Int) × List Int × Int)) = x) (((0 : Nat) + List.length x) * (48 : Nat) ≤ (140737488355328 : Nat) ∧ x = x) := by
  rintro x ⟨⟨hl, -⟩, -⟩ h b hb
  refine ifP_split (fun h1 => ?_) (fun h1 => ⟨by omega, by simp⟩)
  have := hb h1
  exact (List.eq_nil_of_length_eq_zero this).symm
theorem ok_CloneRt : SpecOK Try.prog GL 129 ct_CloneRt.spec := Ct.okH _ Try.func129 (by kernel_rfl) noSpecs_ok hmix an_CloneRt (hideMp (by kernel_rfl) vc_CloneRt)

def ct_topology_Routes : Ct := ⟨[.agg cNet, .val cI, .val cI], [.own 128 cRt], fun d => [okNet d.1], fun d => ((routesV d.1 d.2.1 d.2.2.1, ()), ())⟩
def an_topology_Routes : PDs ct_topology_Routes.ps → Anns := (fun d => { loops := (fun n => match n with | 5 => some (fun S => { ι := Int, μ := fun i => ((nRoutes (d.1.1.getD d.2.1.toNat default)).length - i).toNat, inv := fun i => 0 ≤ i ∧ i ≤ (nRoutes (d.1.1.getD d.2.1.toNat default)).length, keep := [1, 2, 3, 7, 26, 27], slots := fun i => [(28, .int .i64 i)], keepN := [64, 416], names := fun i => [] }) | 10 => some (fun S => { ι := Int × (List Rt), qn := ⟨fun k_ => ∀ (j : Int) (t : (List Rt)), k_ (j, t), fun k_ h_ i => h_ i.1 i.2, fun k_ => ∃ (j : Int) (t : (List Rt)), k_ (j, t), fun k_ ⟨j, t, h_⟩ => ⟨_, h_⟩⟩, μ := fun i => (d.1.2.2.length - i.1).toNat, inv := fun i => 0 ≤ i.1 ∧ i.1 ≤ d.1.2.2.length ∧ i.2 = routesK d.1 d.2.1 d.2.2.1 i.1, keep := [1, 2, 3, 42, 43], slots := fun i => [(7, .own 524288 4), (44, .int .i64 i.1)], keepN := [64], names := fun i => [(524288, .live (.row 128 cRt i.2))] }) | _ => none) })
theorem vc_topology_Routes :
    ∀ (x : List (List (Int × Int) × Int × Int × Bool × List ((Int × Int) × List Int × Int) × Int × Int × Int × Int × Int × (Int × Int) × Bool × Bool × Int × Int)) (x_1 : List (Int × Int × Int × Int × Int
     × Int)) (x_2 : List (Int × Int × Bool × (Int × Int) × List Int × Int)) (x_3 x_4 : Int), ((List.length x ≤ maxLen ∧ ∀ (x_5 : List (Int × Int) × Int × Int × Bool × List ((Int × Int) × List Int × Int) ×
     Int × Int × Int × Int × Int × (Int × Int) × Bool × Bool × Int × Int), x_5 ∈ x → (List.length x_5.1 ≤ maxLen ∧ ∀ (x : Int × Int), x ∈ x_5.1 → ((0 : Int) ≤ x.1 ∧ x.1 ≤ (4294967295 : Int)) ∧
     (-9223372036854775808 : Int) ≤ x.2 ∧ x.2 ≤ (9223372036854775807 : Int)) ∧ ((0 : Int) ≤ x_5.2.1 ∧ x_5.2.1 ≤ (4294967295 : Int)) ∧ ((-9223372036854775808 : Int) ≤ x_5.2.2.1 ∧ x_5.2.2.1 ≤
     (9223372036854775807 : Int)) ∧ True ∧ (List.length x_5.2.2.2.2.1 ≤ maxLen ∧ ∀ (x : (Int × Int) × List Int × Int), x ∈ x_5.2.2.2.2.1 → (((0 : Int) ≤ x.1.1 ∧ x.1.1 ≤ (4294967295 : Int)) ∧
     (-9223372036854775808 : Int) ≤ x.1.2 ∧ x.1.2 ≤ (9223372036854775807 : Int)) ∧ (List.length x.2.1 ≤ maxLen ∧ ∀ (x_6 : Int), x_6 ∈ x.2.1 → (-9223372036854775808 : Int) ≤ x_6 ∧ x_6 ≤ (9223372036854775807
     : Int)) ∧ (-9223372036854775808 : Int) ≤ x.2.2 ∧ x.2.2 ≤ (9223372036854775807 : Int)) ∧ ((-9223372036854775808 : Int) ≤ x_5.2.2.2.2.2.1 ∧ x_5.2.2.2.2.2.1 ≤ (9223372036854775807 : Int)) ∧ ((0 : Int) ≤
     x_5.2.2.2.2.2.2.1 ∧ x_5.2.2.2.2.2.2.1 ≤ (4294967295 : Int)) ∧ ((-9223372036854775808 : Int) ≤ x_5.2.2.2.2.2.2.2.1 ∧ x_5.2.2.2.2.2.2.2.1 ≤ (9223372036854775807 : Int)) ∧ ((-9223372036854775808 : Int) ≤
     x_5.2.2.2.2.2.2.2.2.1 ∧ x_5.2.2.2.2.2.2.2.2.1 ≤ (9223372036854775807 : Int)) ∧ ((-9223372036854775808 : Int) ≤ x_5.2.2.2.2.2.2.2.2.2.1 ∧ x_5.2.2.2.2.2.2.2.2.2.1 ≤ (9223372036854775807 : Int)) ∧
     (((-9223372036854775808 : Int) ≤ x_5.2.2.2.2.2.2.2.2.2.2.1.1 ∧ x_5.2.2.2.2.2.2.2.2.2.2.1.1 ≤ (9223372036854775807 : Int)) ∧ (-9223372036854775808 : Int) ≤ x_5.2.2.2.2.2.2.2.2.2.2.1.2 ∧
     x_5.2.2.2.2.2.2.2.2.2.2.1.2 ≤ (9223372036854775807 : Int)) ∧ True ∧ True ∧ ((-9223372036854775808 : Int) ≤ x_5.2.2.2.2.2.2.2.2.2.2.2.2.2.1 ∧ x_5.2.2.2.2.2.2.2.2.2.2.2.2.2.1 ≤ (9223372036854775807 :
     Int)) ∧ (-9223372036854775808 : Int) ≤ x_5.2.2.2.2.2.2.2.2.2.2.2.2.2.2 ∧ x_5.2.2.2.2.2.2.2.2.2.2.2.2.2.2 ≤ (9223372036854775807 : Int)) ∧ (List.length x_1 ≤ maxLen ∧ ∀ (x : Int × Int × Int × Int × Int
     × Int), x ∈ x_1 → ((-9223372036854775808 : Int) ≤ x.1 ∧ x.1 ≤ (9223372036854775807 : Int)) ∧ ((-9223372036854775808 : Int) ≤ x.2.1 ∧ x.2.1 ≤ (9223372036854775807 : Int)) ∧ ((-9223372036854775808 :
     Int) ≤ x.2.2.1 ∧ x.2.2.1 ≤ (9223372036854775807 : Int)) ∧ ((-9223372036854775808 : Int) ≤ x.2.2.2.1 ∧ x.2.2.2.1 ≤ (9223372036854775807 : Int)) ∧ ((-9223372036854775808 : Int) ≤ x.2.2.2.2.1 ∧
     x.2.2.2.2.1 ≤ (9223372036854775807 : Int)) ∧ (-9223372036854775808 : Int) ≤ x.2.2.2.2.2 ∧ x.2.2.2.2.2 ≤ (9223372036854775807 : Int)) ∧ List.length x_2 ≤ maxLen ∧ ∀ (x : Int × Int × Bool × (Int × Int)
     × List Int × Int), x ∈ x_2 → ((-9223372036854775808 : Int) ≤ x.1 ∧ x.1 ≤ (9223372036854775807 : Int)) ∧ ((-9223372036854775808 : Int) ≤ x.2.1 ∧ x.2.1 ≤ (9223372036854775807 : Int)) ∧ True ∧ (((0 :
     Int) ≤ x.2.2.2.1.1 ∧ x.2.2.2.1.1 ≤ (4294967295 : Int)) ∧ (-9223372036854775808 : Int) ≤ x.2.2.2.1.2 ∧ x.2.2.2.1.2 ≤ (9223372036854775807 : Int)) ∧ (List.length x.2.2.2.2.1 ≤ maxLen ∧ ∀ (x_5 : Int),
     x_5 ∈ x.2.2.2.2.1 → (-9223372036854775808 : Int) ≤ x_5 ∧ x_5 ≤ (9223372036854775807 : Int)) ∧ (-9223372036854775808 : Int) ≤ x.2.2.2.2.2 ∧ x.2.2.2.2.2 ≤ (9223372036854775807 : Int)) ∧
     ((-9223372036854775808 : Int) ≤ x_3 ∧ x_3 ≤ (9223372036854775807 : Int)) ∧ ((-9223372036854775808 : Int) ≤ x_4 ∧ x_4 ≤ (9223372036854775807 : Int)) ∧ True → okNet (x, x_1, x_2) → ifP (!decide ((0 :
     Int) ≤ x_3 ∧ x_3 ≤ IntKind.wrap IntKind.i64 ((↑(List.length x) : Int) - (1 : Int)))) (([] : List ((Int × Int) × List Int × Int)) = routesV (x, x_1, x_2) x_3 x_4) ((0 : Int) ≤ x_3 ∧ x_3 <
     (↑(List.length x) : Int) ∧ (↑(List.length (List.getD x (Int.toNat x_3) default).2.2.2.2.1) : Int) ≤ (134217728 : Int) ∧ (∃ (x_5 : Int), ((0 : Int) ≤ x_5 ∧ x_5 ≤ (↑(List.length (nRoutes (List.getD x
     (Int.toNat x_3) default))) : Int)) ∧ x_3 = x_3 ∧ x_4 = x_4 ∧ (↑(List.length (List.getD x (Int.toNat x_3) default).2.2.2.2.1) : Int) = (↑(List.length (List.getD x (Int.toNat x_3) default).2.2.2.2.1) :
     Int) ∧ (0 : Int) = x_5 ∧ x = x ∧ x_1 = x_1 ∧ x_2 = x_2 ∧ (List.getD x (Int.toNat x_3) default).2.2.2.2.1 = (List.getD x (Int.toNat x_3) default).2.2.2.2.1 ∧ True) ∧ ∀ (x_5 : Int), (0 : Int) ≤ x_5 ∧
     x_5 ≤ (↑(List.length (nRoutes (List.getD x (Int.toNat x_3) default))) : Int) → ifP (decide (x_5 < (↑(List.length (List.getD x (Int.toNat x_3) default).2.2.2.2.1) : Int))) ((0 : Int) ≤ x_5 ∧ x_5 <
     (↑(List.length (List.getD x (Int.toNat x_3) default).2.2.2.2.1) : Int) ∧ (↑(List.length (List.getD (List.getD x (Int.toNat x_3) default).2.2.2.2.1 (Int.toNat x_5) default).2.1) : Int) ≤ (1099511627776
     : Int) ∧ (0 : Int) ≤ x_5 ∧ x_5 < (↑(List.length (List.getD x (Int.toNat x_3) default).2.2.2.2.1) : Int) ∧ ∃ (x_6 : Int), ((0 : Int) ≤ x_6 ∧ x_6 ≤ (↑(List.length (nRoutes (List.getD x (Int.toNat x_3)
     default))) : Int)) ∧ Int.toNat ((↑(List.length (nRoutes (List.getD x (Int.toNat x_3) default))) : Int) - x_6) < Int.toNat ((↑(List.length (nRoutes (List.getD x (Int.toNat x_3) default))) : Int) - x_5)
     ∧ x_3 = x_3 ∧ x_4 = x_4 ∧ (↑(List.length (List.getD x (Int.toNat x_3) default).2.2.2.2.1) : Int) = (↑(List.length (List.getD x (Int.toNat x_3) default).2.2.2.2.1) : Int) ∧ IntKind.wrap IntKind.i64
     (x_5 + (1 : Int)) = x_6 ∧ x = x ∧ x_1 = x_1 ∧ x_2 = x_2 ∧ List.set (List.getD x (Int.toNat x_3) default).2.2.2.2.1 (Int.toNat x_5) (List.getD (List.getD x (Int.toNat x_3) default).2.2.2.2.1 (Int.toNat
     x_5) default) = (List.getD x (Int.toNat x_3) default).2.2.2.2.1 ∧ True) ((∃ (j : Int), ∃ (t : List Rt), ((0 : Int) ≤ j ∧ j ≤ (↑(List.length x_2) : Int) ∧ t = routesK (x, x_1, x_2) x_3 x_4 j) ∧ x_3 =
     x_3 ∧ x_4 = x_4 ∧ x_2 = x_2 ∧ (↑(List.length x_2) : Int) = (↑(List.length x_2) : Int) ∧ (0 : Int) = j ∧ x = x ∧ x_1 = x_1 ∧ x_2 = x_2 ∧ (List.getD x (Int.toNat x_3) default).2.2.2.2.1 = t ∧ True) ∧ ∀
     (j : Int) (t : List Rt), (0 : Int) ≤ j ∧ j ≤ (↑(List.length x_2) : Int) ∧ t = routesK (x, x_1, x_2) x_3 x_4 j → ifP (decide (j < (↑(List.length x_2) : Int))) ((0 : Int) ≤ j ∧ j < (↑(List.length x_2) :
     Int) ∧ ∀ (b : Bool), b = decide ((List.getD x_2 (Int.toNat j) default).2.1 = x_3) → (b = true → (b = true → b = true) ∧ True) ∧ (b = true → (b = true → b = true) ∧ (b = true → b = true) ∧ True) ∧ (b =
     true → b = true) ∧ ifP (bif b then decide ((List.getD x_2 (Int.toNat j) default).1 ≤ x_4) else false) (sortedR t ∧ okL t ∧ (↑(List.length (List.getD x_2 (Int.toNat j) default).2.2.2.2.1) : Int) ≤
     (1099511627776 : Int) ∧ ∃ (j_1 : Int), ∃ (t_1 : List Rt), ((0 : Int) ≤ j_1 ∧ j_1 ≤ (↑(List.length x_2) : Int) ∧ t_1 = routesK (x, x_1, x_2) x_3 x_4 j_1) ∧ Int.toNat ((↑(List.length x_2) : Int) - j_1)
     < Int.toNat ((↑(List.length x_2) : Int) - j) ∧ x_3 = x_3 ∧ x_4 = x_4 ∧ x_2 = x_2 ∧ (↑(List.length x_2) : Int) = (↑(List.length x_2) : Int) ∧ IntKind.wrap IntKind.i64 (j + (1 : Int)) = j_1 ∧ x = x ∧
     x_1 = x_1 ∧ x_2 = x_2 ∧ chV t (List.getD x_2 (Int.toNat j) default) = t_1 ∧ True) (∃ (j_1 : Int), ∃ (t_1 : List Rt), ((0 : Int) ≤ j_1 ∧ j_1 ≤ (↑(List.length x_2) : Int) ∧ t_1 = routesK (x, x_1, x_2)
     x_3 x_4 j_1) ∧ Int.toNat ((↑(List.length x_2) : Int) - j_1) < Int.toNat ((↑(List.length x_2) : Int) - j) ∧ x_3 = x_3 ∧ x_4 = x_4 ∧ x_2 = x_2 ∧ (↑(List.length x_2) : Int) = (↑(List.length x_2) : Int) ∧
     IntKind.wrap IntKind.i64 (j + (1 : Int)) = j_1 ∧ x = x ∧ x_1 = x_1 ∧ x_2 = x_2 ∧ t = t_1 ∧ True)) (t = routesV (x, x_1, x_2) x_3 x_4))) := by
  rintro ns ls hs who at' ⟨⟨⟨hnl, -⟩, -, ⟨hhl, -⟩⟩, -⟩ ok
  simp only [maxLen] at hnl hhl
  rw [w64 (n := (ns.length : Int) - 1) (by omega) (by omega)]
  refine ifP_split (fun h => ?_) (fun h => ?_)
  · have h := nd_t h
    unfold routesV
    rw [if_pos (by show who < 0 ∨ (ns.length : Int) ≤ who; omega)]
  have h := nd_f h
  have hm := getD_mem (xs := ns) h.1 (by omega)
  have hr := ok.t _ hm
  have eR : (ns.getD who.toNat default).2.2.2.2.1 = nRoutes (ns.getD who.toNat default) := rfl
  rw [eR]
  have r1 := hr.2.1
  refine ⟨h.1, by omega, by omega, ⟨0, ⟨by omega, by omega⟩, (by repeat' first | exact trivial | refine ⟨trivial, ?_⟩ | refine ⟨(by with_reducible rfl), ?_⟩ | refine ⟨w64 (by omega) (by omega), ?_⟩ | refine ⟨rfl, ?_⟩)⟩, ?_⟩
  rintro j ⟨j0, j1⟩
  refine ifP_split (fun hj => ?_) (fun hj => ?_)
  · have hj := of_decide_eq_true hj
    refine ⟨j0, hj, hr.2.2 _ (getD_mem j0 hj), j0, hj, j + 1, ⟨by omega, by omega⟩, by omega, ?_⟩
    (repeat first | refine ⟨trivial, ?_⟩ | refine ⟨(by with_reducible rfl), ?_⟩ | refine ⟨w64 (by omega) (by omega), ?_⟩)
    exact ⟨set_getD j0 hj, trivial⟩
  refine ⟨⟨0, _, ⟨by omega, by omega, rfl⟩, (by repeat' first | exact trivial | refine ⟨trivial, ?_⟩ | refine ⟨(by with_reducible rfl), ?_⟩ | refine ⟨w64 (by omega) (by omega), ?_⟩ | refine ⟨rfl, ?_⟩)⟩, ?_⟩
  clear hj j0 j1
  rintro j t ⟨j0, j1, rfl⟩
  have hok := routesK_ok ok (at' := at') h.1 (by show who < (ns.length : Int); omega) j.toNat (by show j.toNat ≤ hs.length; omega)
  rw [show ((j.toNat : Nat) : Int) = j by omega] at hok
  have hc := ok.c
  refine ifP_split (fun hj => ?_) (fun hj => ?_)
  · have hj := of_decide_eq_true hj
    have st := routesK_next (n := (ns, ls, hs)) (who := who) (at' := at') j0 hj
    refine ⟨j0, hj, ?_⟩
    (repeat (intro (b_ : Bool) (hb_ : b_ = _); (repeat refine ⟨(by first | (simp; done) | (rw [hb_]; simp; done) | (rw [hb_]; simp; omega) | (rw [hb_]; simp; intros; omega) | (rw [hb_]; simp +contextual; done)), ?_⟩); subst hb_))
    rw [band_d]
    refine ifP_split (fun q => ?_) (fun q => ?_)
    · have q := of_decide_eq_true q
      refine ⟨hok.s, hok.okL (by dsimp only at hc; omega), ok.s _ (getD_mem j0 hj), j + 1, _, ⟨by omega, by omega, rfl⟩, by omega, ?_⟩
      (repeat first | refine ⟨trivial, ?_⟩ | refine ⟨(by with_reducible rfl), ?_⟩ | refine ⟨w64 (by omega) (by omega), ?_⟩)
      refine ⟨?_, trivial⟩
      rw [st]; exact (if_pos q).symm
    · have q := of_decide_eq_false q
      refine ⟨j + 1, _, ⟨by omega, by omega, rfl⟩, by omega, ?_⟩
      (repeat first | refine ⟨trivial, ?_⟩ | refine ⟨(by with_reducible rfl), ?_⟩ | refine ⟨w64 (by omega) (by omega), ?_⟩)
      refine ⟨?_, trivial⟩
      rw [st]; exact (if_neg q).symm
  · have hj := of_decide_eq_false hj
    unfold routesV
    rw [if_neg (by show ¬ (who < 0 ∨ (ns.length : Int) ≤ who); omega), show j = (hs.length : Int) by omega]
theorem ok_topology_Routes : SpecOK Try.prog GL 80 ct_topology_Routes.spec := Ct.okH _ Try.func80 (by kernel_rfl) (withSpec_ok (withSpec_ok (withSpec_ok (withSpec_ok noSpecs_ok ok_topology_within) ok_CloneRt) ok_slices_Clone_263e) ok_topology_changed) hmix an_topology_Routes (hideMp (by kernel_rfl) vc_topology_Routes)

def ct_topology_Changed_1 : Ct := ⟨[.agg cChange, .box 3 cI, .box 3 cI], [.val .bool], fun _ => [], fun d => ((between d.2.1 d.2.2.1 d.1, ()), (d.2.1, d.2.2.1, ()))⟩
def an_topology_Changed_1 : PDs ct_topology_Changed_1.ps → Anns := (fun _ => {})
theorem vc_topology_Changed_1 :
    ∀ (d : Int × Int × Bool × (Int × Int) × List Int × Int) (x x_1 : Int), CT.wf cChange d ∧ ((-9223372036854775808 : Int) ≤ x ∧ x ≤ (9223372036854775807 : Int)) ∧ ((-9223372036854775808 : Int) ≤ x_1 ∧
     x_1 ≤ (9223372036854775807 : Int)) ∧ True → True → ∀ (b : Bool), b = decide (x < d.1) → (b = true → (b = true → b = true) ∧ True) ∧ (b = true → (b = true → b = true) ∧ (b = true → b = true) ∧ True) ∧
     (b = true → b = true) ∧ (bif b then decide (d.1 ≤ x_1) else false) = between x x_1 d ∧ x = x ∧ x_1 = x_1 := by
  rintro c s t - -
  intro b hb
  (repeat refine ⟨(by first | (simp; done) | (rw [hb]; simp; done) | (rw [hb]; unfold between hAt; exact band_d)), ?_⟩)
  rfl
theorem ok_topology_Changed_1 : SpecOK Try.prog GL 147 ct_topology_Changed_1.spec := Ct.okH _ Try.func147 (by kernel_rfl) noSpecs_ok hmix an_topology_Changed_1 (hideMp (by kernel_rfl) vc_topology_Changed_1)

def ct_IndexCh : Ct := ⟨[.val (.sl cChange), .fn 147 2, .box 3 cI, .box 3 cI], [.val cI], fun _ => [], fun d => ((idxI (between d.2.2.1 d.2.2.2.1) d.1, ()), (d.2.2.1, d.2.2.2.1, ()))⟩
def an_IndexCh : PDs ct_IndexCh.ps → Anns := (fun d => { loops := (fun n => match n with | 2 => some (fun S => { ι := Int, μ := fun i => (d.1.length - i).toNat, inv := fun i => 0 ≤ i ∧ i ≤ d.1.length ∧ ∀ x ∈ d.1.take i.toNat, between d.2.2.1 d.2.2.2.1 x = false, keep := [0, 1, 6, 7], slots := fun i => [(8, .int .i64 i)], keepN := [1048576, 1048577], names := fun i => [] }) | _ => none) })
theorem vc_IndexCh :
    ∀ (x : List (Int × Int × Bool × (Int × Int) × List Int × Int)) (x_1 x_2 : Int), (List.length x ≤ maxLen ∧ ∀ (x_3 : Int × Int × Bool × (Int × Int) × List Int × Int), x_3 ∈ x → ((-9223372036854775808 :
     Int) ≤ x_3.1 ∧ x_3.1 ≤ (9223372036854775807 : Int)) ∧ ((-9223372036854775808 : Int) ≤ x_3.2.1 ∧ x_3.2.1 ≤ (9223372036854775807 : Int)) ∧ True ∧ (((0 : Int) ≤ x_3.2.2.2.1.1 ∧ x_3.2.2.2.1.1 ≤
     (4294967295 : Int)) ∧ (-9223372036854775808 : Int) ≤ x_3.2.2.2.1.2 ∧ x_3.2.2.2.1.2 ≤ (9223372036854775807 : Int)) ∧ (List.length x_3.2.2.2.2.1 ≤ maxLen ∧ ∀ (x : Int), x ∈ x_3.2.2.2.2.1 →
     (-9223372036854775808 : Int) ≤ x ∧ x ≤ (9223372036854775807 : Int)) ∧ (-9223372036854775808 : Int) ≤ x_3.2.2.2.2.2 ∧ x_3.2.2.2.2.2 ≤ (9223372036854775807 : Int)) ∧ True ∧ ((-9223372036854775808 : Int)
     ≤ x_1 ∧ x_1 ≤ (9223372036854775807 : Int)) ∧ ((-9223372036854775808 : Int) ≤ x_2 ∧ x_2 ≤ (9223372036854775807 : Int)) ∧ True → True → (∃ (x_3 : Int), ((0 : Int) ≤ x_3 ∧ x_3 ≤ (↑(List.length x) : Int)
     ∧ ∀ (x_4 : Int × Int × Bool × (Int × Int) × List Int × Int), x_4 ∈ List.take (Int.toNat x_3) x → between x_1 x_2 x_4 = false) ∧ x = x ∧ x = x ∧ (↑(List.length x) : Int) = (↑(List.length x) : Int) ∧ (0
     : Int) = x_3 ∧ x_1 = x_1 ∧ x_2 = x_2 ∧ True) ∧ ∀ (x_3 : Int), ((0 : Int) ≤ x_3 ∧ x_3 ≤ (↑(List.length x) : Int) ∧ ∀ (x_4 : Int × Int × Bool × (Int × Int) × List Int × Int), x_4 ∈ List.take (Int.toNat
     x_3) x → between x_1 x_2 x_4 = false) → ifP (decide (x_3 < (↑(List.length x) : Int))) ((0 : Int) ≤ x_3 ∧ x_3 < (↑(List.length x) : Int) ∧ ifP (between x_1 x_2 (List.getD x (Int.toNat x_3) default))
     (x_3 = idxI (between x_1 x_2) x ∧ x_1 = x_1 ∧ x_2 = x_2) (∃ (x_4 : Int), ((0 : Int) ≤ x_4 ∧ x_4 ≤ (↑(List.length x) : Int) ∧ ∀ (x_5 : Int × Int × Bool × (Int × Int) × List Int × Int), x_5 ∈ List.take
     (Int.toNat x_4) x → between x_1 x_2 x_5 = false) ∧ Int.toNat ((↑(List.length x) : Int) - x_4) < Int.toNat ((↑(List.length x) : Int) - x_3) ∧ x = x ∧ x = x ∧ (↑(List.length x) : Int) = (↑(List.length
     x) : Int) ∧ IntKind.wrap IntKind.i64 (x_3 + (1 : Int)) = x_4 ∧ x_1 = x_1 ∧ x_2 = x_2 ∧ True)) ((-1 : Int) = idxI (between x_1 x_2) x ∧ x_1 = x_1 ∧ x_2 = x_2) := by
  rintro l s t ⟨⟨hl, -⟩, -⟩ -
  simp only [maxLen] at hl
  refine ⟨⟨0, ⟨by omega, by omega, by simp⟩, (by repeat' first | exact trivial | refine ⟨trivial, ?_⟩ | refine ⟨(by with_reducible rfl), ?_⟩ | refine ⟨w64 (by omega) (by omega), ?_⟩ | refine ⟨rfl, ?_⟩)⟩, ?_⟩
  rintro j ⟨j0, j1, hj⟩
  refine ifP_split (fun hk => ?_) (fun hk => ?_)
  · have hk := of_decide_eq_true hk
    refine ⟨j0, hk, ifP_split (fun hm => ?_) (fun hm => ?_)⟩
    · exact ⟨findI_at j0 hk hj hm, rfl, rfl⟩
    · exact ⟨j + 1, ⟨by omega, by omega, all_next j0 hk hj hm⟩, by omega, (by repeat' first | exact trivial | refine ⟨trivial, ?_⟩ | refine ⟨(by with_reducible rfl), ?_⟩ | refine ⟨w64 (by omega) (by omega), ?_⟩ | refine ⟨rfl, ?_⟩)⟩
  · exact ⟨findI_none (of_decide_eq_false hk) hj, rfl, rfl⟩
theorem ok_IndexCh : SpecOK Try.prog GL 182 ct_IndexCh.spec := Ct.okH _ Try.func182 (by kernel_rfl) (withSpec_ok noSpecs_ok ok_topology_Changed_1) hmix an_IndexCh (hideMp (by kernel_rfl) vc_IndexCh)

def ct_ContainsCh : Ct := ⟨[.val (.sl cChange), .fn 147 2, .box 3 cI, .box 3 cI], [.val .bool], fun _ => [], fun d => ((d.1.any (between d.2.2.1 d.2.2.2.1), ()), (d.2.2.1, d.2.2.2.1, ()))⟩
def an_ContainsCh : PDs ct_ContainsCh.ps → Anns := (fun _ => {})
theorem vc_ContainsCh :
    ∀ (x : List (Int × Int × Bool × (Int × Int) × List Int × Int)) (x_1 x_2 : Int), (List.length x ≤ maxLen ∧ ∀ (x_3 : Int × Int × Bool × (Int × Int) × List Int × Int), x_3 ∈ x → ((-9223372036854775808 :
     Int) ≤ x_3.1 ∧ x_3.1 ≤ (9223372036854775807 : Int)) ∧ ((-9223372036854775808 : Int) ≤ x_3.2.1 ∧ x_3.2.1 ≤ (9223372036854775807 : Int)) ∧ True ∧ (((0 : Int) ≤ x_3.2.2.2.1.1 ∧ x_3.2.2.2.1.1 ≤
     (4294967295 : Int)) ∧ (-9223372036854775808 : Int) ≤ x_3.2.2.2.1.2 ∧ x_3.2.2.2.1.2 ≤ (9223372036854775807 : Int)) ∧ (List.length x_3.2.2.2.2.1 ≤ maxLen ∧ ∀ (x : Int), x ∈ x_3.2.2.2.2.1 →
     (-9223372036854775808 : Int) ≤ x ∧ x ≤ (9223372036854775807 : Int)) ∧ (-9223372036854775808 : Int) ≤ x_3.2.2.2.2.2 ∧ x_3.2.2.2.2.2 ≤ (9223372036854775807 : Int)) ∧ True ∧ ((-9223372036854775808 : Int)
     ≤ x_1 ∧ x_1 ≤ (9223372036854775807 : Int)) ∧ ((-9223372036854775808 : Int) ≤ x_2 ∧ x_2 ≤ (9223372036854775807 : Int)) ∧ True → True → decide ((0 : Int) ≤ idxI (between x_1 x_2) x) = List.any x
     (between x_1 x_2) ∧ x_1 = x_1 ∧ x_2 = x_2 := by
  rintro l s t - -
  exact ⟨idxI_any, rfl, rfl⟩
theorem ok_ContainsCh : SpecOK Try.prog GL 146 ct_ContainsCh.spec := Ct.okH _ Try.func146 (by kernel_rfl) (withSpec_ok noSpecs_ok ok_IndexCh) hmix an_ContainsCh (hideMp (by kernel_rfl) vc_ContainsCh)

def ct_topology_Changed : Ct := ⟨[.agg cNet, .val cI, .val cI], [.val .bool], fun _ => [], fun d => ((d.1.2.2.any (between d.2.1 d.2.2.1), ()), ())⟩
def an_topology_Changed : PDs ct_topology_Changed.ps → Anns := (fun _ => {})
theorem vc_topology_Changed :
    ∀ (x : List (List (Int × Int) × Int × Int × Bool × List ((Int × Int) × List Int × Int) × Int × Int × Int × Int × Int × (Int × Int) × Bool × Bool × Int × Int)) (x_1 : List (Int × Int × Int × Int × Int
     × Int)) (x_2 : List (Int × Int × Bool × (Int × Int) × List Int × Int)) (x_3 x_4 : Int), ((List.length x ≤ maxLen ∧ ∀ (x_5 : List (Int × Int) × Int × Int × Bool × List ((Int × Int) × List Int × Int) ×
     Int × Int × Int × Int × Int × (Int × Int) × Bool × Bool × Int × Int), x_5 ∈ x → (List.length x_5.1 ≤ maxLen ∧ ∀ (x : Int × Int), x ∈ x_5.1 → ((0 : Int) ≤ x.1 ∧ x.1 ≤ (4294967295 : Int)) ∧
     (-9223372036854775808 : Int) ≤ x.2 ∧ x.2 ≤ (9223372036854775807 : Int)) ∧ ((0 : Int) ≤ x_5.2.1 ∧ x_5.2.1 ≤ (4294967295 : Int)) ∧ ((-9223372036854775808 : Int) ≤ x_5.2.2.1 ∧ x_5.2.2.1 ≤
     (9223372036854775807 : Int)) ∧ True ∧ (List.length x_5.2.2.2.2.1 ≤ maxLen ∧ ∀ (x : (Int × Int) × List Int × Int), x ∈ x_5.2.2.2.2.1 → (((0 : Int) ≤ x.1.1 ∧ x.1.1 ≤ (4294967295 : Int)) ∧
     (-9223372036854775808 : Int) ≤ x.1.2 ∧ x.1.2 ≤ (9223372036854775807 : Int)) ∧ (List.length x.2.1 ≤ maxLen ∧ ∀ (x_6 : Int), x_6 ∈ x.2.1 → (-9223372036854775808 : Int) ≤ x_6 ∧ x_6 ≤ (9223372036854775807
     : Int)) ∧ (-9223372036854775808 : Int) ≤ x.2.2 ∧ x.2.2 ≤ (9223372036854775807 : Int)) ∧ ((-9223372036854775808 : Int) ≤ x_5.2.2.2.2.2.1 ∧ x_5.2.2.2.2.2.1 ≤ (9223372036854775807 : Int)) ∧ ((0 : Int) ≤
     x_5.2.2.2.2.2.2.1 ∧ x_5.2.2.2.2.2.2.1 ≤ (4294967295 : Int)) ∧ ((-9223372036854775808 : Int) ≤ x_5.2.2.2.2.2.2.2.1 ∧ x_5.2.2.2.2.2.2.2.1 ≤ (9223372036854775807 : Int)) ∧ ((-9223372036854775808 : Int) ≤
     x_5.2.2.2.2.2.2.2.2.1 ∧ x_5.2.2.2.2.2.2.2.2.1 ≤ (9223372036854775807 : Int)) ∧ ((-9223372036854775808 : Int) ≤ x_5.2.2.2.2.2.2.2.2.2.1 ∧ x_5.2.2.2.2.2.2.2.2.2.1 ≤ (9223372036854775807 : Int)) ∧
     (((-9223372036854775808 : Int) ≤ x_5.2.2.2.2.2.2.2.2.2.2.1.1 ∧ x_5.2.2.2.2.2.2.2.2.2.2.1.1 ≤ (9223372036854775807 : Int)) ∧ (-9223372036854775808 : Int) ≤ x_5.2.2.2.2.2.2.2.2.2.2.1.2 ∧
     x_5.2.2.2.2.2.2.2.2.2.2.1.2 ≤ (9223372036854775807 : Int)) ∧ True ∧ True ∧ ((-9223372036854775808 : Int) ≤ x_5.2.2.2.2.2.2.2.2.2.2.2.2.2.1 ∧ x_5.2.2.2.2.2.2.2.2.2.2.2.2.2.1 ≤ (9223372036854775807 :
     Int)) ∧ (-9223372036854775808 : Int) ≤ x_5.2.2.2.2.2.2.2.2.2.2.2.2.2.2 ∧ x_5.2.2.2.2.2.2.2.2.2.2.2.2.2.2 ≤ (9223372036854775807 : Int)) ∧ (List.length x_1 ≤ maxLen ∧ ∀ (x : Int × Int × Int × Int × Int
     × Int), x ∈ x_1 → ((-9223372036854775808 : Int) ≤ x.1 ∧ x.1 ≤ (9223372036854775807 : Int)) ∧ ((-9223372036854775808 : Int) ≤ x.2.1 ∧ x.2.1 ≤ (9223372036854775807 : Int)) ∧ ((-9223372036854775808 :
     Int) ≤ x.2.2.1 ∧ x.2.2.1 ≤ (9223372036854775807 : Int)) ∧ ((-9223372036854775808 : Int) ≤ x.2.2.2.1 ∧ x.2.2.2.1 ≤ (9223372036854775807 : Int)) ∧ ((-9223372036854775808 : Int) ≤ x.2.2.2.2.1 ∧
     x.2.2.2.2.1 ≤ (9223372036854775807 : Int)) ∧ (-9223372036854775808 : Int) ≤ x.2.2.2.2.2 ∧ x.2.2.2.2.2 ≤ (9223372036854775807 : Int)) ∧ List.length x_2 ≤ maxLen ∧ ∀ (x : Int × Int × Bool × (Int × Int)
     × List Int × Int), x ∈ x_2 → ((-9223372036854775808 : Int) ≤ x.1 ∧ x.1 ≤ (9223372036854775807 : Int)) ∧ ((-9223372036854775808 : Int) ≤ x.2.1 ∧ x.2.1 ≤ (9223372036854775807 : Int)) ∧ True ∧ (((0 :
     Int) ≤ x.2.2.2.1.1 ∧ x.2.2.2.1.1 ≤ (4294967295 : Int)) ∧ (-9223372036854775808 : Int) ≤ x.2.2.2.1.2 ∧ x.2.2.2.1.2 ≤ (9223372036854775807 : Int)) ∧ (List.length x.2.2.2.2.1 ≤ maxLen ∧ ∀ (x_5 : Int),
     x_5 ∈ x.2.2.2.2.1 → (-9223372036854775808 : Int) ≤ x_5 ∧ x_5 ≤ (9223372036854775807 : Int)) ∧ (-9223372036854775808 : Int) ≤ x.2.2.2.2.2 ∧ x.2.2.2.2.2 ≤ (9223372036854775807 : Int)) ∧
     ((-9223372036854775808 : Int) ≤ x_3 ∧ x_3 ≤ (9223372036854775807 : Int)) ∧ ((-9223372036854775808 : Int) ≤ x_4 ∧ x_4 ≤ (9223372036854775807 : Int)) ∧ True → True → List.any x_2 (between x_3 x_4) =
     List.any x_2 (between x_3 x_4) := by
  rintro ns ls hs s t - -
  rfl
theorem ok_topology_Changed : SpecOK Try.prog GL 98 ct_topology_Changed.spec := Ct.okH _ Try.func98 (by kernel_rfl) (withSpec_ok noSpecs_ok ok_ContainsCh) hmix an_topology_Changed (hideMp (by kernel_rfl) vc_topology_Changed)
end Go.RS


/- Truth1: who has an address; the way of a packet. -/
namespace Go.RS
open Go.SX Go.Proofs
set_option maxRecDepth 100000
set_option linter.unusedVariables false

abbrev cWay : CT := .pair (.sl cI) (.pair (.sl cI) cI)
abbrev Way : Type := List Int × List Int × Int
def sameV (n : Net) (a b : Int) : Bool := findB n a && findB n b && decide (findV n a = findV n b)
def ct_truth_Same : Ct := ⟨[.agg cNet, .val cU32, .val cU32], [.val .bool], fun _ => [], fun d => ((sameV d.1 d.2.1 d.2.2.1, ()), ())⟩
def an_truth_Same : PDs ct_truth_Same.ps → Anns := (fun _ => {})
theorem vc_truth_Same :
    ∀ (x : List (List (Int × Int) × Int × Int × Bool × List ((Int × Int) × List Int × Int) × Int × Int × Int × Int × Int × (Int × Int) × Bool × Bool × Int × Int)) (x_1 : List (Int × Int × Int × Int × Int
     × Int)) (x_2 : List (Int × Int × Bool × (Int × Int) × List Int × Int)) (x_3 x_4 : Int), ((List.length x ≤ maxLen ∧ ∀ (x_5 : List (Int × Int) × Int × Int × Bool × List ((Int × Int) × List Int × Int) ×
     Int × Int × Int × Int × Int × (Int × Int) × Bool × Bool × Int × Int), x_5 ∈ x → (List.length x_5.1 ≤ maxLen ∧ ∀ (x : Int × Int), x ∈ x_5.1 → ((0 : Int) ≤ x.1 ∧ x.1 ≤ (4294967295 : Int)) ∧
     (-9223372036854775808 : Int) ≤ x.2 ∧ x.2 ≤ (9223372036854775807 : Int)) ∧ ((0 : Int) ≤ x_5.2.1 ∧ x_5.2.1 ≤ (4294967295 : Int)) ∧ ((-9223372036854775808 : Int) ≤ x_5.2.2.1 ∧ x_5.2.2.1 ≤
     (9223372036854775807 : Int)) ∧ True ∧ (List.length x_5.2.2.2.2.1 ≤ maxLen ∧ ∀ (x : (Int × Int) × List Int × Int), x ∈ x_5.2.2.2.2.1 → (((0 : Int) ≤ x.1.1 ∧ x.1.1 ≤ (4294967295 : Int)) ∧
     (-9223372036854775808 : Int) ≤ x.1.2 ∧ x.1.2 ≤ (9223372036854775807 : Int)) ∧ (List.length x.2.1 ≤ maxLen ∧ ∀ (x_6 : Int), x_6 ∈ x.2.1 → (-9223372036854775808 : Int) ≤ x_6 ∧ x_6 ≤ (9223372036854775807
     : Int)) ∧ (-9223372036854775808 : Int) ≤ x.2.2 ∧ x.2.2 ≤ (9223372036854775807 : Int)) ∧ ((-9223372036854775808 : Int) ≤ x_5.2.2.2.2.2.1 ∧ x_5.2.2.2.2.2.1 ≤ (9223372036854775807 : Int)) ∧ ((0 : Int) ≤
     x_5.2.2.2.2.2.2.1 ∧ x_5.2.2.2.2.2.2.1 ≤ (4294967295 : Int)) ∧ ((-9223372036854775808 : Int) ≤ x_5.2.2.2.2.2.2.2.1 ∧ x_5.2.2.2.2.2.2.2.1 ≤ (9223372036854775807 : Int)) ∧ ((-9223372036854775808 : Int) ≤
     x_5.2.2.2.2.2.2.2.2.1 ∧ x_5.2.2.2.2.2.2.2.2.1 ≤ (9223372036854775807 : Int)) ∧ ((-9223372036854775808 : Int) ≤ x_5.2.2.2.2.2.2.2.2.2.1 ∧ x_5.2.2.2.2.2.2.2.2.2.1 ≤ (9223372036854775807 : Int)) ∧
     (((-9223372036854775808 : Int) ≤ x_5.2.2.2.2.2.2.2.2.2.2.1.1 ∧ x_5.2.2.2.2.2.2.2.2.2.2.1.1 ≤ (9223372036854775807 : Int)) ∧ (-9223372036854775808 : Int) ≤ x_5.2.2.2.2.2.2.2.2.2.2.1.2 ∧
     x_5.2.2.2.2.2.2.2.2.2.2.1.2 ≤ (9223372036854775807 : Int)) ∧ True ∧ True ∧ ((-9223372036854775808 : Int) ≤ x_5.2.2.2.2.2.2.2.2.2.2.2.2.2.1 ∧ x_5.2.2.2.2.2.2.2.2.2.2.2.2.2.1 ≤ (9223372036854775807 :
     Int)) ∧ (-9223372036854775808 : Int) ≤ x_5.2.2.2.2.2.2.2.2.2.2.2.2.2.2 ∧ x_5.2.2.2.2.2.2.2.2.2.2.2.2.2.2 ≤ (9223372036854775807 : Int)) ∧ (List.length x_1 ≤ maxLen ∧ ∀ (x : Int × Int × Int × Int × Int
     × Int), x ∈ x_1 → ((-9223372036854775808 : Int) ≤ x.1 ∧ x.1 ≤ (9223372036854775807 : Int)) ∧ ((-9223372036854775808 : Int) ≤ x.2.1 ∧ x.2.1 ≤ (9223372036854775807 : Int)) ∧ ((-9223372036854775808 :
     Int) ≤ x.2.2.1 ∧ x.2.2.1 ≤ (9223372036854775807 : Int)) ∧ ((-9223372036854775808 : Int) ≤ x.2.2.2.1 ∧ x.2.2.2.1 ≤ (9223372036854775807 : Int)) ∧ ((-9223372036854775808 : Int) ≤ x.2.2.2.2.1 ∧
     x.2.2.2.2.1 ≤ (9223372036854775807 : Int)) ∧ (-9223372036854775808 : Int) ≤ x.2.2.2.2.2 ∧ x.2.2.2.2.2 ≤ (9223372036854775807 : Int)) ∧ List.length x_2 ≤ maxLen ∧ ∀ (x : Int × Int × Bool × (Int × Int)
     × List Int × Int), x ∈ x_2 → ((-9223372036854775808 : Int) ≤ x.1 ∧ x.1 ≤ (9223372036854775807 : Int)) ∧ ((-9223372036854775808 : Int) ≤ x.2.1 ∧ x.2.1 ≤ (9223372036854775807 : Int)) ∧ True ∧ (((0 :
     Int) ≤ x.2.2.2.1.1 ∧ x.2.2.2.1.1 ≤ (4294967295 : Int)) ∧ (-9223372036854775808 : Int) ≤ x.2.2.2.1.2 ∧ x.2.2.2.1.2 ≤ (9223372036854775807 : Int)) ∧ (List.length x.2.2.2.2.1 ≤ maxLen ∧ ∀ (x_5 : Int),
     x_5 ∈ x.2.2.2.2.1 → (-9223372036854775808 : Int) ≤ x_5 ∧ x_5 ≤ (9223372036854775807 : Int)) ∧ (-9223372036854775808 : Int) ≤ x.2.2.2.2.2 ∧ x.2.2.2.2.2 ≤ (9223372036854775807 : Int)) ∧ ((0 : Int) ≤ x_3
     ∧ x_3 ≤ (4294967295 : Int)) ∧ ((0 : Int) ≤ x_4 ∧ x_4 ≤ (4294967295 : Int)) ∧ True → True → ∀ (b : Bool), b = findB (x, x_1, x_2) x_3 → (b = true → b = true) ∧ ∀ (b_1 : Bool), (b_1 = bif b then findB
     (x, x_1, x_2) x_4 else false) → (b_1 = true → (b_1 = true → b_1 = true) ∧ (b_1 = true → b_1 = true) ∧ True) ∧ (b_1 = true → b_1 = true) ∧ (bif b_1 then decide (findV (x, x_1, x_2) x_3 = findV (x, x_1,
     x_2) x_4) else false) = sameV (x, x_1, x_2) x_3 x_4 := by
  rintro ns ls hs a b - -
  intro b1 hb1
  (repeat refine ⟨fun h_ => (by first | (simp; done) | (simp [h_]; done) | (simp_all; done)), ?_⟩)
  intro b2 hb2
  (repeat refine ⟨fun h_ => (by first | (simp; done) | (simp [h_]; done) | (simp_all; done)), ?_⟩)
  rw [hb2, hb1]
  unfold sameV
  cases findB (ns, ls, hs) a <;> cases findB (ns, ls, hs) b <;> rfl
theorem ok_truth_Same : SpecOK Try.prog GL 14 ct_truth_Same.spec := Ct.okH _ Try.func14 (by kernel_rfl) (withSpec_ok noSpecs_ok ok_topology_Find) hmix an_truth_Same (hideMp (by kernel_rfl) vc_truth_Same)






def ct_truth_several : Ct := ⟨[.agg cRt], [.val .bool], fun _ => [], fun d => ((decide (1 < (d.1.2.1.length : Int)), ()), ())⟩
def an_truth_several : PDs ct_truth_several.ps → Anns := (fun _ => {})
theorem vc_truth_several :
    ∀ (x x_1 : Int) (x_2 : List Int) (x_3 : Int), ((((0 : Int) ≤ x ∧ x ≤ (4294967295 : Int)) ∧ (-9223372036854775808 : Int) ≤ x_1 ∧ x_1 ≤ (9223372036854775807 : Int)) ∧ (List.length x_2 ≤ maxLen ∧ ∀ (x :
     Int), x ∈ x_2 → (-9223372036854775808 : Int) ≤ x ∧ x ≤ (9223372036854775807 : Int)) ∧ (-9223372036854775808 : Int) ≤ x_3 ∧ x_3 ≤ (9223372036854775807 : Int)) ∧ True → True → decide ((1 : Int) <
     (↑(List.length x_2) : Int)) = decide ((1 : Int) < (↑(List.length x_2) : Int)) := by
  rintro a b c e - -
  rfl
theorem ok_truth_several : SpecOK Try.prog GL 82 ct_truth_several.spec := Ct.okH _ Try.func82 (by kernel_rfl) noSpecs_ok hmix an_truth_several (hideMp (by kernel_rfl) vc_truth_several)
def lastI (l : List Int) : Int := l.getD (l.length - 1) default
/-- Which of the next links. -/
def pickV (r : Rt) (seed : Int) (k : Key) : Int := if 1 < r.2.1.length then (choose r.2.2 seed k 0 r.2.1.length).1 else 0
def stepR1 (n : Net) (k : Key) (here : Int) (x : Node) (r : Rt) (ok : Bool) (w : Way) : Way :=
  if ownsA x k.2.1 = true then (w.1, w.2.1, 1)
  else if nHost x = true ∧ 0 < w.2.1.length then (w.1, w.2.1, 5)
  else if ok = false ∨ r.2.1.length = 0 then (w.1, w.2.1, 2)
  else if 1 < r.2.1.length ∧ r.2.2 = 3 then (w.1, w.2.1, 4)
  else if 255 ≤ w.2.1.length then (w.1, w.2.1, 3)
  else (w.1 ++ [otherV n.2.1 (r.2.1.getD (pickV r (nSeed x) k).toNat default) here], w.2.1 ++ [r.2.1.getD (pickV r (nSeed x) k).toNat default], 0)
def stepW (n : Net) (at' : Int) (k : Key) (w : Way) : Way :=
  stepR1 n k (lastI w.1) (n.1.getD (lastI w.1).toNat default) (lookR (routesV n (lastI w.1) at') k.2.1) (lookB (routesV n (lastI w.1) at') k.2.1) w
def runW (n : Net) (at' : Int) (k : Key) : Nat → Way → Way
  | 0, w => w
  | f + 1, w => if w.2.2 = 0 then runW n at' k f (stepW n at' k w) else w
def traceV (n : Net) (at' who : Int) (k : Key) : Way := runW n at' k 257 ([who], [], 0)
/-- Networks in which ways can be followed. -/
structure WN (n : Net) : Prop where
  o : okNet n
  x : ∀ who at' : Int, 0 ≤ who → who < n.1.length → ∀ r ∈ routesV n who at', ∀ k ∈ r.2.1, 0 ≤ otherV n.2.1 k who ∧ otherV n.2.1 k who < n.1.length
structure TI (n : Net) (at' who : Int) (k : Key) (w : Way) : Prop where
  l : w.1.length = w.2.1.length + 1
  m : w.2.1.length ≤ 255
  r : ∀ x ∈ w.1, 0 ≤ x ∧ x < n.1.length
  e : runW n at' k (257 - w.2.1.length) w = traceV n at' who k
theorem runW_end {n : Net} {at' : Int} {k : Key} {w : Way} (h : w.2.2 ≠ 0) : ∀ f, runW n at' k f w = w
  | 0 => rfl
  | f + 1 => by rw [runW, if_neg h]
theorem TI.done {n : Net} {at' who : Int} {k : Key} {w : Way} (h : TI n at' who k w) (he : w.2.2 ≠ 0) : w = traceV n at' who k := by
  rw [← h.e, runW_end he]
theorem TI.start {n : Net} {at' who : Int} {k : Key} (w0 : 0 ≤ who) (w1 : who < n.1.length) : TI n at' who k ([who], [], 0) :=
  ⟨rfl, Nat.zero_le _, fun x hx => by rw [List.mem_singleton.1 hx]; exact ⟨w0, w1⟩, rfl⟩
theorem TI.stop {n : Net} {at' who : Int} {k : Key} {ns ls : List Int} (h : TI n at' who k (ns, ls, 0)) {e : Int} (he : e ≠ 0) (hs : stepW n at' k (ns, ls, 0) = (ns, ls, e)) : TI n at' who k (ns, ls, e) := by
  refine ⟨h.l, h.m, h.r, ?_⟩
  have hm := h.m
  have k1 := h.e
  dsimp only at k1 hm ⊢
  rw [show 257 - ls.length = (256 - ls.length) + 1 by omega, runW, if_pos rfl, hs, runW_end he] at k1
  rw [runW_end he]; exact k1
theorem TI.go {n : Net} {at' who : Int} {k : Key} {ns ls : List Int} (h : TI n at' who k (ns, ls, 0)) (hl : ls.length < 255) {o l : Int} (ho : 0 ≤ o ∧ o < n.1.length) (hs : stepW n at' k (ns, ls, 0) = (ns ++ [o], ls ++ [l], 0)) : TI n at' who k (ns ++ [o], ls ++ [l], 0) := by
  have hll := h.l
  have k1 := h.e
  dsimp only at k1 hll
  refine ⟨by dsimp only; rw [List.length_append, List.length_append, hll]; rfl, by dsimp only; rw [List.length_append, List.length_singleton]; omega, fun x hx => ?_, ?_⟩
  · rcases List.mem_append.1 hx with hx | hx
    · exact h.r x hx
    · rw [List.mem_singleton.1 hx]; exact ho
  · dsimp only
    rw [show 257 - ls.length = (256 - ls.length) + 1 by omega, runW, if_pos rfl, hs] at k1
    rw [List.length_append, List.length_singleton, show 257 - (ls.length + 1) = 256 - ls.length by omega]; exact k1
theorem lastI_eq {ns : List Int} : ns.getD ((ns.length : Int) - 1).toNat default = lastI ns := by
  unfold lastI; rw [show ((ns.length : Int) - 1).toNat = ns.length - 1 by omega]
theorem lastI_mem {ns : List Int} (h : 0 < ns.length) : lastI ns ∈ ns := by
  unfold lastI; exact getD_memN (by omega)
theorem choose_range {way seed c n : Int} {k : Key} (hn : 1 ≤ n) (hc : 0 ≤ c) : 0 ≤ (choose way seed k c n).1 ∧ (choose way seed k c n).1 < n := by
  have hr : ∀ k, 0 ≤ (hash seed k).tmod n ∧ (hash seed k).tmod n < n := fun k => ⟨tmod_lo (hash_range _ _).1, tmod_hi (hash_range _ _).1 (by omega)⟩
  unfold choose
  split
  · exact ⟨Int.le_refl _, by dsimp only; omega⟩
  · dsimp only
    split
    · exact hr _
    · split
      · exact hr _
      · exact ⟨tmod_lo hc, tmod_hi hc (by omega)⟩
theorem pick_range {r : Rt} {seed : Int} {k : Key} (h : 0 < r.2.1.length) : 0 ≤ pickV r seed k ∧ pickV r seed k < r.2.1.length := by
  unfold pickV
  split
  · exact choose_range (by omega) (by omega)
  · omega
theorem look_mem {l : List Rt} {a : Int} (h : lookB l a = true) : lookR l a ∈ l := by
  rw [lookB_iff] at h
  exact (lookR_is (of_decide_eq_true h)).1
def ct_truth_Trace : Ct := ⟨[.agg cNet, .val cI, .val cI, .agg cKey], [.agg cWay], fun d => [WN d.1, 0 ≤ d.2.2.1, d.2.2.1 < d.1.1.length], fun d => ((traceV d.1 d.2.1 d.2.2.1 d.2.2.2.1, ()), ())⟩
def an_truth_Trace : PDs ct_truth_Trace.ps → Anns := (fun d => { loops := (fun n => match n with | 2 => some (fun S => { ι := (List Int) × (List Int) × Int, qn := ⟨fun k_ => ∀ (ns : (List Int)) (ls : (List Int)) (e : Int), k_ (ns, ls, e), fun k_ h_ i => h_ i.1 i.2.1 i.2.2, fun k_ => ∃ (ns : (List Int)) (ls : (List Int)) (e : Int), k_ (ns, ls, e), fun k_ ⟨ns, ls, e, h_⟩ => ⟨_, h_⟩⟩, μ := fun i => 2 * (255 - i.2.1.length) + (if i.2.2 = 0 then 1 else 0), inv := fun i => TI d.1 d.2.1 d.2.2.1 d.2.2.2.1 (i.1, i.2.1, i.2.2), keep := [1, 4, 7, 8, 9], slots := fun i => [], keepN := [80, 128, 144], names := fun i => [(160, .live (.cells 78 [.own 524288 1, .own 524289 1, .int .i64 i.2.2])), (524288, .live (.row 3 cI i.1)), (524289, .live (.row 3 cI i.2.1))] }) | _ => none) })
theorem vc_truth_Trace :
    ∀ (x : List (List (Int × Int) × Int × Int × Bool × List ((Int × Int) × List Int × Int) × Int × Int × Int × Int × Int × (Int × Int) × Bool × Bool × Int × Int)) (x_1 : List (Int × Int × Int × Int × Int
     × Int)) (x_2 : List (Int × Int × Bool × (Int × Int) × List Int × Int)) (x_3 x_4 x_5 x_6 x_7 x_8 x_9 : Int), ((List.length x ≤ maxLen ∧ ∀ (x_10 : List (Int × Int) × Int × Int × Bool × List ((Int × Int)
     × List Int × Int) × Int × Int × Int × Int × Int × (Int × Int) × Bool × Bool × Int × Int), x_10 ∈ x → (List.length x_10.1 ≤ maxLen ∧ ∀ (x : Int × Int), x ∈ x_10.1 → ((0 : Int) ≤ x.1 ∧ x.1 ≤ (4294967295
     : Int)) ∧ (-9223372036854775808 : Int) ≤ x.2 ∧ x.2 ≤ (9223372036854775807 : Int)) ∧ ((0 : Int) ≤ x_10.2.1 ∧ x_10.2.1 ≤ (4294967295 : Int)) ∧ ((-9223372036854775808 : Int) ≤ x_10.2.2.1 ∧ x_10.2.2.1 ≤
     (9223372036854775807 : Int)) ∧ True ∧ (List.length x_10.2.2.2.2.1 ≤ maxLen ∧ ∀ (x : (Int × Int) × List Int × Int), x ∈ x_10.2.2.2.2.1 → (((0 : Int) ≤ x.1.1 ∧ x.1.1 ≤ (4294967295 : Int)) ∧
     (-9223372036854775808 : Int) ≤ x.1.2 ∧ x.1.2 ≤ (9223372036854775807 : Int)) ∧ (List.length x.2.1 ≤ maxLen ∧ ∀ (x_11 : Int), x_11 ∈ x.2.1 → (-9223372036854775808 : Int) ≤ x_11 ∧ x_11 ≤
     (9223372036854775807 : Int)) ∧ (-9223372036854775808 : Int) ≤ x.2.2 ∧ x.2.2 ≤ (9223372036854775807 : Int)) ∧ ((-9223372036854775808 : Int) ≤ x_10.2.2.2.2.2.1 ∧ x_10.2.2.2.2.2.1 ≤ (9223372036854775807
     : Int)) ∧ ((0 : Int) ≤ x_10.2.2.2.2.2.2.1 ∧ x_10.2.2.2.2.2.2.1 ≤ (4294967295 : Int)) ∧ ((-9223372036854775808 : Int) ≤ x_10.2.2.2.2.2.2.2.1 ∧ x_10.2.2.2.2.2.2.2.1 ≤ (9223372036854775807 : Int)) ∧
     ((-9223372036854775808 : Int) ≤ x_10.2.2.2.2.2.2.2.2.1 ∧ x_10.2.2.2.2.2.2.2.2.1 ≤ (9223372036854775807 : Int)) ∧ ((-9223372036854775808 : Int) ≤ x_10.2.2.2.2.2.2.2.2.2.1 ∧ x_10.2.2.2.2.2.2.2.2.2.1 ≤
     (9223372036854775807 : Int)) ∧ (((-9223372036854775808 : Int) ≤ x_10.2.2.2.2.2.2.2.2.2.2.1.1 ∧ x_10.2.2.2.2.2.2.2.2.2.2.1.1 ≤ (9223372036854775807 : Int)) ∧ (-9223372036854775808 : Int) ≤
     x_10.2.2.2.2.2.2.2.2.2.2.1.2 ∧ x_10.2.2.2.2.2.2.2.2.2.2.1.2 ≤ (9223372036854775807 : Int)) ∧ True ∧ True ∧ ((-9223372036854775808 : Int) ≤ x_10.2.2.2.2.2.2.2.2.2.2.2.2.2.1 ∧
     x_10.2.2.2.2.2.2.2.2.2.2.2.2.2.1 ≤ (9223372036854775807 : Int)) ∧ (-9223372036854775808 : Int) ≤ x_10.2.2.2.2.2.2.2.2.2.2.2.2.2.2 ∧ x_10.2.2.2.2.2.2.2.2.2.2.2.2.2.2 ≤ (9223372036854775807 : Int)) ∧
     (List.length x_1 ≤ maxLen ∧ ∀ (x : Int × Int × Int × Int × Int × Int), x ∈ x_1 → ((-9223372036854775808 : Int) ≤ x.1 ∧ x.1 ≤ (9223372036854775807 : Int)) ∧ ((-9223372036854775808 : Int) ≤ x.2.1 ∧
     x.2.1 ≤ (9223372036854775807 : Int)) ∧ ((-9223372036854775808 : Int) ≤ x.2.2.1 ∧ x.2.2.1 ≤ (9223372036854775807 : Int)) ∧ ((-9223372036854775808 : Int) ≤ x.2.2.2.1 ∧ x.2.2.2.1 ≤ (9223372036854775807 :
     Int)) ∧ ((-9223372036854775808 : Int) ≤ x.2.2.2.2.1 ∧ x.2.2.2.2.1 ≤ (9223372036854775807 : Int)) ∧ (-9223372036854775808 : Int) ≤ x.2.2.2.2.2 ∧ x.2.2.2.2.2 ≤ (9223372036854775807 : Int)) ∧ List.length
     x_2 ≤ maxLen ∧ ∀ (x : Int × Int × Bool × (Int × Int) × List Int × Int), x ∈ x_2 → ((-9223372036854775808 : Int) ≤ x.1 ∧ x.1 ≤ (9223372036854775807 : Int)) ∧ ((-9223372036854775808 : Int) ≤ x.2.1 ∧
     x.2.1 ≤ (9223372036854775807 : Int)) ∧ True ∧ (((0 : Int) ≤ x.2.2.2.1.1 ∧ x.2.2.2.1.1 ≤ (4294967295 : Int)) ∧ (-9223372036854775808 : Int) ≤ x.2.2.2.1.2 ∧ x.2.2.2.1.2 ≤ (9223372036854775807 : Int)) ∧
     (List.length x.2.2.2.2.1 ≤ maxLen ∧ ∀ (x_10 : Int), x_10 ∈ x.2.2.2.2.1 → (-9223372036854775808 : Int) ≤ x_10 ∧ x_10 ≤ (9223372036854775807 : Int)) ∧ (-9223372036854775808 : Int) ≤ x.2.2.2.2.2 ∧
     x.2.2.2.2.2 ≤ (9223372036854775807 : Int)) ∧ ((-9223372036854775808 : Int) ≤ x_3 ∧ x_3 ≤ (9223372036854775807 : Int)) ∧ ((-9223372036854775808 : Int) ≤ x_4 ∧ x_4 ≤ (9223372036854775807 : Int)) ∧ (((0
     : Int) ≤ x_5 ∧ x_5 ≤ (4294967295 : Int)) ∧ ((0 : Int) ≤ x_6 ∧ x_6 ≤ (4294967295 : Int)) ∧ ((-9223372036854775808 : Int) ≤ x_7 ∧ x_7 ≤ (9223372036854775807 : Int)) ∧ ((-9223372036854775808 : Int) ≤ x_8
     ∧ x_8 ≤ (9223372036854775807 : Int)) ∧ (-9223372036854775808 : Int) ≤ x_9 ∧ x_9 ≤ (9223372036854775807 : Int)) ∧ True → WN (x, x_1, x_2) ∧ (0 : Int) ≤ x_4 ∧ x_4 + (1 : Int) ≤ (↑(List.length x) : Int)
     → (∃ (ns : List Int), ∃ (ls : List Int), ∃ (e : Int), TI (x, x_1, x_2) x_3 x_4 (x_5, x_6, x_7, x_8, x_9) (ns, ls, e) ∧ x_3 = x_3 ∧ x = x ∧ x_1 = x_1 ∧ x_2 = x_2 ∧ x_5 = x_5 ∧ x_6 = x_6 ∧ x_7 = x_7 ∧
     x_8 = x_8 ∧ x_9 = x_9 ∧ (0 : Int) = (0 : Int) ∧ (0 : Int) = e ∧ [x_4] = ns ∧ ls = ([] : List Int) ∧ True) ∧ ∀ (ns ls : List Int) (e : Int), TI (x, x_1, x_2) x_3 x_4 (x_5, x_6, x_7, x_8, x_9) (ns, ls,
     e) → ifP (decide (e = (0 : Int))) ((0 : Int) ≤ IntKind.wrap IntKind.i64 ((↑(List.length ns) : Int) - (1 : Int)) ∧ IntKind.wrap IntKind.i64 ((↑(List.length ns) : Int) - (1 : Int)) < (↑(List.length ns)
     : Int) ∧ (0 : Int) ≤ List.getD ns (Int.toNat (IntKind.wrap IntKind.i64 ((↑(List.length ns) : Int) - (1 : Int)))) default ∧ List.getD ns (Int.toNat (IntKind.wrap IntKind.i64 ((↑(List.length ns) : Int)
     - (1 : Int)))) default < (↑(List.length x) : Int) ∧ okNet (x, x_1, x_2) ∧ sortedR (routesV (x, x_1, x_2) (List.getD ns (Int.toNat (IntKind.wrap IntKind.i64 ((↑(List.length ns) : Int) - (1 : Int))))
     default) x_3) ∧ okL (routesV (x, x_1, x_2) (List.getD ns (Int.toNat (IntKind.wrap IntKind.i64 ((↑(List.length ns) : Int) - (1 : Int)))) default) x_3) ∧ ifP (ownsA (List.getD x (Int.toNat (List.getD ns
     (Int.toNat (IntKind.wrap IntKind.i64 ((↑(List.length ns) : Int) - (1 : Int)))) default)) default) x_6) (∃ (ns_1 : List Int), ∃ (ls_1 : List Int), ∃ (e_1 : Int), TI (x, x_1, x_2) x_3 x_4 (x_5, x_6,
     x_7, x_8, x_9) (ns_1, ls_1, e_1) ∧ (((2 : Nat) * ((255 : Nat) - List.length ls_1) + if e_1 = (0 : Int) then (1 : Nat) else (0 : Nat)) < (2 : Nat) * ((255 : Nat) - List.length ls) + if e = (0 : Int)
     then (1 : Nat) else (0 : Nat)) ∧ x_3 = x_3 ∧ x = x ∧ x_1 = x_1 ∧ x_2 = x_2 ∧ x_5 = x_5 ∧ x_6 = x_6 ∧ x_7 = x_7 ∧ x_8 = x_8 ∧ x_9 = x_9 ∧ (0 : Int) = (0 : Int) ∧ (1 : Int) = e_1 ∧ ns = ns_1 ∧ ls = ls_1
     ∧ True) (∀ (b : Bool), b = (List.getD x (Int.toNat (List.getD ns (Int.toNat (IntKind.wrap IntKind.i64 ((↑(List.length ns) : Int) - (1 : Int)))) default)) default).2.2.2.1 → (b = true → (b = true → b =
     true) ∧ True) ∧ (b = true → (b = true → b = true) ∧ True) ∧ (b = true → (b = true → b = true) ∧ True) ∧ (b = true → b = true) ∧ ifP (bif b then decide ((0 : Int) < (↑(List.length ls) : Int)) else
     false) (∃ (ns_1 : List Int), ∃ (ls_1 : List Int), ∃ (e_1 : Int), TI (x, x_1, x_2) x_3 x_4 (x_5, x_6, x_7, x_8, x_9) (ns_1, ls_1, e_1) ∧ (((2 : Nat) * ((255 : Nat) - List.length ls_1) + if e_1 = (0 :
     Int) then (1 : Nat) else (0 : Nat)) < (2 : Nat) * ((255 : Nat) - List.length ls) + if e = (0 : Int) then (1 : Nat) else (0 : Nat)) ∧ x_3 = x_3 ∧ x = x ∧ x_1 = x_1 ∧ x_2 = x_2 ∧ x_5 = x_5 ∧ x_6 = x_6 ∧
     x_7 = x_7 ∧ x_8 = x_8 ∧ x_9 = x_9 ∧ (0 : Int) = (0 : Int) ∧ (5 : Int) = e_1 ∧ ns = ns_1 ∧ ls = ls_1 ∧ True) (∀ (b : Bool), b = !lookB (routesV (x, x_1, x_2) (List.getD ns (Int.toNat (IntKind.wrap
     IntKind.i64 ((↑(List.length ns) : Int) - (1 : Int)))) default) x_3) x_6 → ((!b) = true → ((!b) = true → (!b) = true) ∧ True) ∧ ((!b) = true → ((!b) = true → (!b) = true) ∧ True) ∧ ((!b) = true → ((!b)
     = true → (!b) = true) ∧ True) ∧ (b = false → (!b) = true) ∧ ifP (bif b then true else decide ((↑(List.length (lookR (routesV (x, x_1, x_2) (List.getD ns (Int.toNat (IntKind.wrap IntKind.i64
     ((↑(List.length ns) : Int) - (1 : Int)))) default) x_3) x_6).2.1) : Int) = (0 : Int))) (∃ (ns_1 : List Int), ∃ (ls_1 : List Int), ∃ (e_1 : Int), TI (x, x_1, x_2) x_3 x_4 (x_5, x_6, x_7, x_8, x_9)
     (ns_1, ls_1, e_1) ∧ (((2 : Nat) * ((255 : Nat) - List.length ls_1) + if e_1 = (0 : Int) then (1 : Nat) else (0 : Nat)) < (2 : Nat) * ((255 : Nat) - List.length ls) + if e = (0 : Int) then (1 : Nat)
     else (0 : Nat)) ∧ x_3 = x_3 ∧ x = x ∧ x_1 = x_1 ∧ x_2 = x_2 ∧ x_5 = x_5 ∧ x_6 = x_6 ∧ x_7 = x_7 ∧ x_8 = x_8 ∧ x_9 = x_9 ∧ (0 : Int) = (0 : Int) ∧ (2 : Int) = e_1 ∧ ns = ns_1 ∧ ls = ls_1 ∧ True) (∀ (b
     : Bool), b = decide ((1 : Int) < (↑(List.length (lookR (routesV (x, x_1, x_2) (List.getD ns (Int.toNat (IntKind.wrap IntKind.i64 ((↑(List.length ns) : Int) - (1 : Int)))) default) x_3) x_6).2.1) :
     Int)) → (b = true → (b = true → b = true) ∧ True) ∧ (b = true → (b = true → b = true) ∧ True) ∧ (b = true → b = true) ∧ ifP (bif b then decide ((lookR (routesV (x, x_1, x_2) (List.getD ns (Int.toNat
     (IntKind.wrap IntKind.i64 ((↑(List.length ns) : Int) - (1 : Int)))) default) x_3) x_6).2.2 = (3 : Int)) else false) (∃ (ns_1 : List Int), ∃ (ls_1 : List Int), ∃ (e_1 : Int), TI (x, x_1, x_2) x_3 x_4
     (x_5, x_6, x_7, x_8, x_9) (ns_1, ls_1, e_1) ∧ (((2 : Nat) * ((255 : Nat) - List.length ls_1) + if e_1 = (0 : Int) then (1 : Nat) else (0 : Nat)) < (2 : Nat) * ((255 : Nat) - List.length ls) + if e =
     (0 : Int) then (1 : Nat) else (0 : Nat)) ∧ x_3 = x_3 ∧ x = x ∧ x_1 = x_1 ∧ x_2 = x_2 ∧ x_5 = x_5 ∧ x_6 = x_6 ∧ x_7 = x_7 ∧ x_8 = x_8 ∧ x_9 = x_9 ∧ (0 : Int) = (0 : Int) ∧ (4 : Int) = e_1 ∧ ns = ns_1 ∧
     ls = ls_1 ∧ True) (ifP (decide ((255 : Int) ≤ (↑(List.length ls) : Int))) (∃ (ns_1 : List Int), ∃ (ls_1 : List Int), ∃ (e_1 : Int), TI (x, x_1, x_2) x_3 x_4 (x_5, x_6, x_7, x_8, x_9) (ns_1, ls_1, e_1)
     ∧ (((2 : Nat) * ((255 : Nat) - List.length ls_1) + if e_1 = (0 : Int) then (1 : Nat) else (0 : Nat)) < (2 : Nat) * ((255 : Nat) - List.length ls) + if e = (0 : Int) then (1 : Nat) else (0 : Nat)) ∧
     x_3 = x_3 ∧ x = x ∧ x_1 = x_1 ∧ x_2 = x_2 ∧ x_5 = x_5 ∧ x_6 = x_6 ∧ x_7 = x_7 ∧ x_8 = x_8 ∧ x_9 = x_9 ∧ (0 : Int) = (0 : Int) ∧ (3 : Int) = e_1 ∧ ns = ns_1 ∧ ls = ls_1 ∧ True) (ifP (decide ((1 : Int)
     < (↑(List.length (lookR (routesV (x, x_1, x_2) (List.getD ns (Int.toNat (IntKind.wrap IntKind.i64 ((↑(List.length ns) : Int) - (1 : Int)))) default) x_3) x_6).2.1) : Int))) ((0 : Int) ≤ (choose (lookR
     (routesV (x, x_1, x_2) (List.getD ns (Int.toNat (IntKind.wrap IntKind.i64 ((↑(List.length ns) : Int) - (1 : Int)))) default) x_3) x_6).2.2 (List.getD x (Int.toNat (List.getD ns (Int.toNat
     (IntKind.wrap IntKind.i64 ((↑(List.length ns) : Int) - (1 : Int)))) default)) default).2.2.2.2.2.2.2.2.2.2.2.2.2.2 (x_5, x_6, x_7, x_8, x_9) (0 : Int) (↑(List.length (lookR (routesV (x, x_1, x_2)
     (List.getD ns (Int.toNat (IntKind.wrap IntKind.i64 ((↑(List.length ns) : Int) - (1 : Int)))) default) x_3) x_6).2.1) : Int)).1 ∧ (choose (lookR (routesV (x, x_1, x_2) (List.getD ns (Int.toNat
     (IntKind.wrap IntKind.i64 ((↑(List.length ns) : Int) - (1 : Int)))) default) x_3) x_6).2.2 (List.getD x (Int.toNat (List.getD ns (Int.toNat (IntKind.wrap IntKind.i64 ((↑(List.length ns) : Int) - (1 :
     Int)))) default)) default).2.2.2.2.2.2.2.2.2.2.2.2.2.2 (x_5, x_6, x_7, x_8, x_9) (0 : Int) (↑(List.length (lookR (routesV (x, x_1, x_2) (List.getD ns (Int.toNat (IntKind.wrap IntKind.i64
     ((↑(List.length ns) : Int) - (1 : Int)))) default) x_3) x_6).2.1) : Int)).1 < (↑(List.length (lookR (routesV (x, x_1, x_2) (List.getD ns (Int.toNat (IntKind.wrap IntKind.i64 ((↑(List.length ns) : Int)
     - (1 : Int)))) default) x_3) x_6).2.1) : Int) ∧ (List.length ls + List.length [List.getD (lookR (routesV (x, x_1, x_2) (List.getD ns (Int.toNat (IntKind.wrap IntKind.i64 ((↑(List.length ns) : Int) -
     (1 : Int)))) default) x_3) x_6).2.1 (Int.toNat (choose (lookR (routesV (x, x_1, x_2) (List.getD ns (Int.toNat (IntKind.wrap IntKind.i64 ((↑(List.length ns) : Int) - (1 : Int)))) default) x_3) x_6).2.2
     (List.getD x (Int.toNat (List.getD ns (Int.toNat (IntKind.wrap IntKind.i64 ((↑(List.length ns) : Int) - (1 : Int)))) default)) default).2.2.2.2.2.2.2.2.2.2.2.2.2.2 (x_5, x_6, x_7, x_8, x_9) (0 : Int)
     (↑(List.length (lookR (routesV (x, x_1, x_2) (List.getD ns (Int.toNat (IntKind.wrap IntKind.i64 ((↑(List.length ns) : Int) - (1 : Int)))) default) x_3) x_6).2.1) : Int)).1) default]) * (8 : Nat) ≤
     (140737488355328 : Nat) ∧ (0 : Int) ≤ (choose (lookR (routesV (x, x_1, x_2) (List.getD ns (Int.toNat (IntKind.wrap IntKind.i64 ((↑(List.length ns) : Int) - (1 : Int)))) default) x_3) x_6).2.2
     (List.getD x (Int.toNat (List.getD ns (Int.toNat (IntKind.wrap IntKind.i64 ((↑(List.length ns) : Int) - (1 : Int)))) default)) default).2.2.2.2.2.2.2.2.2.2.2.2.2.2 (x_5, x_6, x_7, x_8, x_9) (0 : Int)
     (↑(List.length (lookR (routesV (x, x_1, x_2) (List.getD ns (Int.toNat (IntKind.wrap IntKind.i64 ((↑(List.length ns) : Int) - (1 : Int)))) default) x_3) x_6).2.1) : Int)).1 ∧ (choose (lookR (routesV
     (x, x_1, x_2) (List.getD ns (Int.toNat (IntKind.wrap IntKind.i64 ((↑(List.length ns) : Int) - (1 : Int)))) default) x_3) x_6).2.2 (List.getD x (Int.toNat (List.getD ns (Int.toNat (IntKind.wrap
     IntKind.i64 ((↑(List.length ns) : Int) - (1 : Int)))) default)) default).2.2.2.2.2.2.2.2.2.2.2.2.2.2 (x_5, x_6, x_7, x_8, x_9) (0 : Int) (↑(List.length (lookR (routesV (x, x_1, x_2) (List.getD ns
     (Int.toNat (IntKind.wrap IntKind.i64 ((↑(List.length ns) : Int) - (1 : Int)))) default) x_3) x_6).2.1) : Int)).1 < (↑(List.length (lookR (routesV (x, x_1, x_2) (List.getD ns (Int.toNat (IntKind.wrap
     IntKind.i64 ((↑(List.length ns) : Int) - (1 : Int)))) default) x_3) x_6).2.1) : Int) ∧ (List.length ns + List.length [otherV x_1 (List.getD (lookR (routesV (x, x_1, x_2) (List.getD ns (Int.toNat
     (IntKind.wrap IntKind.i64 ((↑(List.length ns) : Int) - (1 : Int)))) default) x_3) x_6).2.1 (Int.toNat (choose (lookR (routesV (x, x_1, x_2) (List.getD ns (Int.toNat (IntKind.wrap IntKind.i64
     ((↑(List.length ns) : Int) - (1 : Int)))) default) x_3) x_6).2.2 (List.getD x (Int.toNat (List.getD ns (Int.toNat (IntKind.wrap IntKind.i64 ((↑(List.length ns) : Int) - (1 : Int)))) default))
     default).2.2.2.2.2.2.2.2.2.2.2.2.2.2 (x_5, x_6, x_7, x_8, x_9) (0 : Int) (↑(List.length (lookR (routesV (x, x_1, x_2) (List.getD ns (Int.toNat (IntKind.wrap IntKind.i64 ((↑(List.length ns) : Int) - (1
     : Int)))) default) x_3) x_6).2.1) : Int)).1) default) (List.getD ns (Int.toNat (IntKind.wrap IntKind.i64 ((↑(List.length ns) : Int) - (1 : Int)))) default)]) * (8 : Nat) ≤ (140737488355328 : Nat) ∧ ∃
     (ns_1 : List Int), ∃ (ls_1 : List Int), ∃ (e_1 : Int), TI (x, x_1, x_2) x_3 x_4 (x_5, x_6, x_7, x_8, x_9) (ns_1, ls_1, e_1) ∧ (((2 : Nat) * ((255 : Nat) - List.length ls_1) + if e_1 = (0 : Int) then
     (1 : Nat) else (0 : Nat)) < (2 : Nat) * ((255 : Nat) - List.length ls) + if e = (0 : Int) then (1 : Nat) else (0 : Nat)) ∧ x_3 = x_3 ∧ x = x ∧ x_1 = x_1 ∧ x_2 = x_2 ∧ x_5 = x_5 ∧ x_6 = x_6 ∧ x_7 = x_7
     ∧ x_8 = x_8 ∧ x_9 = x_9 ∧ (0 : Int) = (0 : Int) ∧ e = e_1 ∧ ns ++ [otherV x_1 (List.getD (lookR (routesV (x, x_1, x_2) (List.getD ns (Int.toNat (IntKind.wrap IntKind.i64 ((↑(List.length ns) : Int) -
     (1 : Int)))) default) x_3) x_6).2.1 (Int.toNat (choose (lookR (routesV (x, x_1, x_2) (List.getD ns (Int.toNat (IntKind.wrap IntKind.i64 ((↑(List.length ns) : Int) - (1 : Int)))) default) x_3) x_6).2.2
     (List.getD x (Int.toNat (List.getD ns (Int.toNat (IntKind.wrap IntKind.i64 ((↑(List.length ns) : Int) - (1 : Int)))) default)) default).2.2.2.2.2.2.2.2.2.2.2.2.2.2 (x_5, x_6, x_7, x_8, x_9) (0 : Int)
     (↑(List.length (lookR (routesV (x, x_1, x_2) (List.getD ns (Int.toNat (IntKind.wrap IntKind.i64 ((↑(List.length ns) : Int) - (1 : Int)))) default) x_3) x_6).2.1) : Int)).1) default) (List.getD ns
     (Int.toNat (IntKind.wrap IntKind.i64 ((↑(List.length ns) : Int) - (1 : Int)))) default)] = ns_1 ∧ ls ++ [List.getD (lookR (routesV (x, x_1, x_2) (List.getD ns (Int.toNat (IntKind.wrap IntKind.i64
     ((↑(List.length ns) : Int) - (1 : Int)))) default) x_3) x_6).2.1 (Int.toNat (choose (lookR (routesV (x, x_1, x_2) (List.getD ns (Int.toNat (IntKind.wrap IntKind.i64 ((↑(List.length ns) : Int) - (1 :
     Int)))) default) x_3) x_6).2.2 (List.getD x (Int.toNat (List.getD ns (Int.toNat (IntKind.wrap IntKind.i64 ((↑(List.length ns) : Int) - (1 : Int)))) default)) default).2.2.2.2.2.2.2.2.2.2.2.2.2.2 (x_5,
     x_6, x_7, x_8, x_9) (0 : Int) (↑(List.length (lookR (routesV (x, x_1, x_2) (List.getD ns (Int.toNat (IntKind.wrap IntKind.i64 ((↑(List.length ns) : Int) - (1 : Int)))) default) x_3) x_6).2.1) :
     Int)).1) default] = ls_1 ∧ True) ((0 : Int) ≤ (0 : Int) ∧ (0 : Int) < (↑(List.length (lookR (routesV (x, x_1, x_2) (List.getD ns (Int.toNat (IntKind.wrap IntKind.i64 ((↑(List.length ns) : Int) - (1 :
     Int)))) default) x_3) x_6).2.1) : Int) ∧ (List.length ls + List.length [List.getD (lookR (routesV (x, x_1, x_2) (List.getD ns (Int.toNat (IntKind.wrap IntKind.i64 ((↑(List.length ns) : Int) - (1 :
     Int)))) default) x_3) x_6).2.1 (Int.toNat (0 : Int)) default]) * (8 : Nat) ≤ (140737488355328 : Nat) ∧ (0 : Int) ≤ (0 : Int) ∧ (0 : Int) < (↑(List.length (lookR (routesV (x, x_1, x_2) (List.getD ns
     (Int.toNat (IntKind.wrap IntKind.i64 ((↑(List.length ns) : Int) - (1 : Int)))) default) x_3) x_6).2.1) : Int) ∧ (List.length ns + List.length [otherV x_1 (List.getD (lookR (routesV (x, x_1, x_2)
     (List.getD ns (Int.toNat (IntKind.wrap IntKind.i64 ((↑(List.length ns) : Int) - (1 : Int)))) default) x_3) x_6).2.1 (Int.toNat (0 : Int)) default) (List.getD ns (Int.toNat (IntKind.wrap IntKind.i64
     ((↑(List.length ns) : Int) - (1 : Int)))) default)]) * (8 : Nat) ≤ (140737488355328 : Nat) ∧ ∃ (ns_1 : List Int), ∃ (ls_1 : List Int), ∃ (e_1 : Int), TI (x, x_1, x_2) x_3 x_4 (x_5, x_6, x_7, x_8, x_9)
     (ns_1, ls_1, e_1) ∧ (((2 : Nat) * ((255 : Nat) - List.length ls_1) + if e_1 = (0 : Int) then (1 : Nat) else (0 : Nat)) < (2 : Nat) * ((255 : Nat) - List.length ls) + if e = (0 : Int) then (1 : Nat)
     else (0 : Nat)) ∧ x_3 = x_3 ∧ x = x ∧ x_1 = x_1 ∧ x_2 = x_2 ∧ x_5 = x_5 ∧ x_6 = x_6 ∧ x_7 = x_7 ∧ x_8 = x_8 ∧ x_9 = x_9 ∧ (0 : Int) = (0 : Int) ∧ e = e_1 ∧ ns ++ [otherV x_1 (List.getD (lookR (routesV
     (x, x_1, x_2) (List.getD ns (Int.toNat (IntKind.wrap IntKind.i64 ((↑(List.length ns) : Int) - (1 : Int)))) default) x_3) x_6).2.1 (Int.toNat (0 : Int)) default) (List.getD ns (Int.toNat (IntKind.wrap
     IntKind.i64 ((↑(List.length ns) : Int) - (1 : Int)))) default)] = ns_1 ∧ ls ++ [List.getD (lookR (routesV (x, x_1, x_2) (List.getD ns (Int.toNat (IntKind.wrap IntKind.i64 ((↑(List.length ns) : Int) -
     (1 : Int)))) default) x_3) x_6).2.1 (Int.toNat (0 : Int)) default] = ls_1 ∧ True))))))) ((ns, ls, e) = traceV (x, x_1, x_2) x_3 x_4 (x_5, x_6, x_7, x_8, x_9)) := by
  rintro ns0 ls0 hs at' who a b c e f - ⟨W, w0, w1⟩
  refine ⟨⟨_, _, _, TI.start w0 (by show who < (ns0.length : Int); omega), (by repeat' first | exact trivial | refine ⟨trivial, ?_⟩ | refine ⟨(by with_reducible rfl), ?_⟩ | refine ⟨w64 (by omega) (by omega), ?_⟩ | refine ⟨rfl, ?_⟩)⟩, ?_⟩
  rintro ns ls e1 I
  refine ifP_split (fun h => ?_) (fun h => I.done (of_decide_eq_false h))
  have h := of_decide_eq_true h
  subst h
  have hl := I.l
  have hm := I.m
  dsimp only at hl hm
  rw [w64 (n := (ns.length : Int) - 1) (by omega) (by omega), lastI_eq]
  have hr := I.r _ (lastI_mem (ns := ns) (by omega))
  have eS : stepW (ns0, ls0, hs) at' (a, b, c, e, f) (ns, ls, 0) = stepR1 (ns0, ls0, hs) (a, b, c, e, f) (lastI ns) (ns0.getD (lastI ns).toNat default) (lookR (routesV (ns0, ls0, hs) (lastI ns) at') b) (lookB (routesV (ns0, ls0, hs) (lastI ns) at') b) (ns, ls, 0) := rfl
  have tb := routesV_ok W.o (lastI ns) at'
  have nx := W.x (lastI ns) at' hr.1 hr.2
  have lm := look_mem (l := routesV (ns0, ls0, hs) (lastI ns) at') (a := b)
  generalize lastI ns = q at *
  generalize routesV (ns0, ls0, hs) q at' = T at *
  generalize lookR T b = r at *
  generalize lookB T b = ok at *
  generalize ns0.getD q.toNat default = X at *
  unfold stepR1 at eS
  refine ⟨by omega, by omega, hr.1, hr.2, W.o, tb.s, tb.okL (by decide), ?_⟩
  refine ifP_split (fun h => ?_) (fun h => ?_)
  · rw [if_pos h] at eS
    exact ⟨_, _, _, I.stop (by decide) eS, by simp, (by repeat' first | exact trivial | refine ⟨trivial, ?_⟩ | refine ⟨(by with_reducible rfl), ?_⟩ | refine ⟨w64 (by omega) (by omega), ?_⟩ | refine ⟨rfl, ?_⟩)⟩
  rw [if_neg (by rw [h]; decide)] at eS
  (repeat (intro (b_ : Bool) (hb_ : b_ = _); (repeat refine ⟨(by first | (simp; done) | (rw [hb_]; simp; done) | (rw [hb_]; simp; omega) | (rw [hb_]; simp; intros; omega) | (rw [hb_]; simp +contextual; done)), ?_⟩); subst hb_))
  refine ifP_split (fun h1 => ?_) (fun h1 => ?_)
  · have h1 : nHost X = true ∧ 0 < ls.length := by
      rw [show X.2.2.2.1 = nHost X from rfl] at h1
      cases hh : nHost X <;> rw [hh] at h1
      · cases h1
      · exact ⟨rfl, by have := of_decide_eq_true h1; omega⟩
    rw [if_pos h1] at eS
    exact ⟨_, _, _, I.stop (by decide) eS, by simp, (by repeat' first | exact trivial | refine ⟨trivial, ?_⟩ | refine ⟨(by with_reducible rfl), ?_⟩ | refine ⟨w64 (by omega) (by omega), ?_⟩ | refine ⟨rfl, ?_⟩)⟩
  have h1 : ¬ (nHost X = true ∧ 0 < ls.length) := by
    rintro ⟨k1, k2⟩
    rw [show X.2.2.2.1 = nHost X from rfl, k1, cond_true, decide_eq_true (by omega)] at h1
    cases h1
  rw [if_neg h1] at eS
  (repeat (intro (b_ : Bool) (hb_ : b_ = _); (repeat refine ⟨(by first | (simp; done) | (rw [hb_]; simp; done) | (rw [hb_]; simp; omega) | (rw [hb_]; simp; intros; omega) | (rw [hb_]; simp +contextual; done)), ?_⟩); subst hb_))
  refine ifP_split (fun h2 => ?_) (fun h2 => ?_)
  · have h2 : ok = false ∨ r.2.1.length = 0 := by
      cases ok
      · exact .inl rfl
      · exact .inr (by have := of_decide_eq_true h2; omega)
    rw [if_pos h2] at eS
    exact ⟨_, _, _, I.stop (by decide) eS, by simp, (by repeat' first | exact trivial | refine ⟨trivial, ?_⟩ | refine ⟨(by with_reducible rfl), ?_⟩ | refine ⟨w64 (by omega) (by omega), ?_⟩ | refine ⟨rfl, ?_⟩)⟩
  have h2 : ¬ (ok = false ∨ r.2.1.length = 0) := by
    rintro (k | k)
    · rw [k] at h2; cases h2
    · rw [decide_eq_true (show (r.2.1.length : Int) = 0 by omega)] at h2
      cases ok <;> cases h2
  rw [if_neg h2] at eS
  (repeat (intro (b_ : Bool) (hb_ : b_ = _); (repeat refine ⟨(by first | (simp; done) | (rw [hb_]; simp; done) | (rw [hb_]; simp; omega) | (rw [hb_]; simp; intros; omega) | (rw [hb_]; simp +contextual; done)), ?_⟩); subst hb_))
  rw [band_d]
  refine ifP_split (fun h3 => ?_) (fun h3 => ?_)
  · have h3 := of_decide_eq_true h3
    rw [if_pos (show 1 < r.2.1.length ∧ r.2.2 = 3 from ⟨by omega, h3.2⟩)] at eS
    exact ⟨_, _, _, I.stop (by decide) eS, by simp, (by repeat' first | exact trivial | refine ⟨trivial, ?_⟩ | refine ⟨(by with_reducible rfl), ?_⟩ | refine ⟨w64 (by omega) (by omega), ?_⟩ | refine ⟨rfl, ?_⟩)⟩
  have h3 := of_decide_eq_false h3
  rw [if_neg (show ¬ (1 < r.2.1.length ∧ r.2.2 = 3) from fun k => h3 ⟨by omega, k.2⟩)] at eS
  refine ifP_split (fun h4 => ?_) (fun h4 => ?_)
  · have h4 := of_decide_eq_true h4
    rw [if_pos (show 255 ≤ ls.length by omega)] at eS
    exact ⟨_, _, _, I.stop (by decide) eS, by simp, (by repeat' first | exact trivial | refine ⟨trivial, ?_⟩ | refine ⟨(by with_reducible rfl), ?_⟩ | refine ⟨w64 (by omega) (by omega), ?_⟩ | refine ⟨rfl, ?_⟩)⟩
  have h4 := of_decide_eq_false h4
  rw [if_neg (show ¬ 255 ≤ ls.length by omega)] at eS
  have hok : ok = true := by
    cases ok
    · exact absurd (.inl rfl) h2
    · rfl
  have hlen : 0 < r.2.1.length := by
    have : ¬ r.2.1.length = 0 := fun k => h2 (.inr k)
    omega
  have pr := pick_range (r := r) (seed := nSeed X) (k := (a, b, c, e, f)) hlen
  have nk := nx r (lm hok) _ (getD_mem pr.1 pr.2)
  have goal := I.go (by omega) nk eS
  unfold pickV at goal pr
  refine ifP_split (fun h5 => ?_) (fun h5 => ?_)
  · have h5 := of_decide_eq_true h5
    rw [if_pos (show 1 < r.2.1.length by omega)] at goal pr
    exact ⟨pr.1, pr.2, by simp only [List.length_singleton]; omega, pr.1, pr.2, by simp only [List.length_singleton]; omega, _, _, _, goal, Nat.add_lt_add_right (by simp only [List.length_append, List.length_singleton]; omega) _, (by repeat' first | exact trivial | refine ⟨trivial, ?_⟩ | refine ⟨(by with_reducible rfl), ?_⟩ | refine ⟨w64 (by omega) (by omega), ?_⟩ | refine ⟨rfl, ?_⟩)⟩
  · have h5 := of_decide_eq_false h5
    rw [if_neg (show ¬ 1 < r.2.1.length by omega)] at goal pr
    exact ⟨pr.1, pr.2, by simp only [List.length_singleton]; omega, pr.1, pr.2, by simp only [List.length_singleton]; omega, _, _, _, goal, Nat.add_lt_add_right (by simp only [List.length_append, List.length_singleton]; omega) _, (by repeat' first | exact trivial | refine ⟨trivial, ?_⟩ | refine ⟨(by with_reducible rfl), ?_⟩ | refine ⟨w64 (by omega) (by omega), ?_⟩ | refine ⟨rfl, ?_⟩)⟩
theorem ok_truth_Trace : SpecOK Try.prog GL 42 ct_truth_Trace.spec := Ct.okH _ Try.func42 (by kernel_rfl) (withSpec_ok (withSpec_ok (withSpec_ok (withSpec_ok (withSpec_ok (withSpec_ok noSpecs_ok ok_topology_Routes) ok_fib_Lookup) ok_node_Owns) ok_truth_several) ok_balance_Choose) ok_topology_Other) hmix an_truth_Trace (hideMp (by kernel_rfl) vc_truth_Trace)
end Go.RS

