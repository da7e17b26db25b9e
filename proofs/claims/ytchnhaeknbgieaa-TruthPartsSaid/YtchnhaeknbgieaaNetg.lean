/- Topo2: networks: the program's check of all, finding, and routes at a time. -/
import Derived.Test.YtchnhaeknbgieaaTopod
import Derived.Test.YtchnhaeknbgieaaReply
namespace Go.RS
open Go.SX Go.Proofs
set_option maxRecDepth 100000
set_option linter.unusedVariables false

def idxI {α : Type} (q : α → Bool) (l : List α) : Int := if l.findIdx q < l.length then (l.findIdx q : Int) else -1
theorem idxI_any {α : Type} {q : α → Bool} {l : List α} : decide (0 ≤ idxI q l) = l.any q := by
  unfold idxI
  cases h : l.any q with
  | true =>
    rw [if_pos (List.findIdx_lt_length_of_exists (by simpa using h))]
    exact decide_eq_true (by omega)
  | false =>
    have : l.findIdx q = l.length := List.findIdx_eq_length_of_false (by simpa using h)
    rw [if_neg (by omega)]; rfl
def ct_topology_changed : Ct := ⟨[.val (.sl cRt), .agg cChange], [.own 128 cRt], fun d => [sortedR d.1, okL d.1, ((hRoute d.2.1).2.1.length : Int) ≤ 1099511627776], fun d => ((chV d.1 d.2.1, ()), ())⟩
def an_topology_changed : PDs ct_topology_changed.ps → Anns := (fun _ => {})
theorem vc_topology_changed :
    ∀ (x : List ((Int × Int) × List Int × Int)) (d : Int × Int × Bool × (Int × Int) × List Int × Int), (List.length x ≤ maxLen ∧ ∀ (x_1 : (Int × Int) × List Int × Int), x_1 ∈ x → (((0 : Int) ≤ x_1.1.1 ∧
     x_1.1.1 ≤ (4294967295 : Int)) ∧ (-9223372036854775808 : Int) ≤ x_1.1.2 ∧ x_1.1.2 ≤ (9223372036854775807 : Int)) ∧ (List.length x_1.2.1 ≤ maxLen ∧ ∀ (x : Int), x ∈ x_1.2.1 → (-9223372036854775808 :
     Int) ≤ x ∧ x ≤ (9223372036854775807 : Int)) ∧ (-9223372036854775808 : Int) ≤ x_1.2.2 ∧ x_1.2.2 ≤ (9223372036854775807 : Int)) ∧ CT.wf cChange d ∧ True → sortedR x ∧ okL x ∧ (↑(List.length (hRoute
     d).2.1) : Int) ≤ (1099511627776 : Int) → ifP d.2.2.1 (sortedR x ∧ okL x ∧ removeL x d.2.2.2.1 = chV x d) (sortedR x ∧ okL x ∧ (↑(List.length d.2.2.2.2.1) : Int) ≤ (1099511627776 : Int) ∧ putL x
     d.2.2.2 = chV x d) := by
  rintro l c - ⟨hs, hl, hx⟩
  unfold chV
  rw [show c.2.2.1 = hRem c from rfl]
  refine ifP_split (fun h => ⟨hs, hl, ?_⟩) (fun h => ⟨hs, hl, hx, ?_⟩)
  · rw [if_pos h]; rfl
  · rw [if_neg (by rw [h]; decide)]; rfl
theorem ok_topology_changed : SpecOK Try.prog GL 131 ct_topology_changed.spec := Ct.okH _ Try.func131 (by kernel_rfl) (withSpec_ok (withSpec_ok noSpecs_ok ok_fib_Put) ok_fib_Remove) hmix an_topology_changed (hideMp (by kernel_rfl) vc_topology_changed)
def ct_topology_Find : Ct := ⟨[.agg cNet, .val cU32], [.val cI, .val .bool], fun d => [], fun d => ((findV d.1 d.2.1, findB d.1 d.2.1, ()), ())⟩
def an_topology_Find : PDs ct_topology_Find.ps → Anns := (fun d => { loops := (fun n => match n with | 2 => some (fun S => { ι := Int, μ := fun i => (d.1.1.length - i).toNat, inv := fun i => 0 ≤ i ∧ i ≤ d.1.1.length ∧ ∀ x ∈ d.1.1.take i.toNat, ownsA x d.2.1 = false, keep := [1, 3, 9, 10], slots := fun i => [(11, .int .i64 i)], keepN := [48], names := fun i => [] }) | _ => none) })
theorem vc_topology_Find :
    ∀ (x : List (List (Int × Int) × Int × Int × Bool × List ((Int × Int) × List Int × Int) × Int × Int × Int × Int × Int × (Int × Int) × Bool × Bool × Int × Int)) (x_1 : List (Int × Int × Int × Int × Int
     × Int)) (x_2 : List (Int × Int × Bool × (Int × Int) × List Int × Int)) (x_3 : Int), ((List.length x ≤ maxLen ∧ ∀ (x_4 : List (Int × Int) × Int × Int × Bool × List ((Int × Int) × List Int × Int) × Int
     × Int × Int × Int × Int × (Int × Int) × Bool × Bool × Int × Int), x_4 ∈ x → (List.length x_4.1 ≤ maxLen ∧ ∀ (x : Int × Int), x ∈ x_4.1 → ((0 : Int) ≤ x.1 ∧ x.1 ≤ (4294967295 : Int)) ∧
     (-9223372036854775808 : Int) ≤ x.2 ∧ x.2 ≤ (9223372036854775807 : Int)) ∧ ((0 : Int) ≤ x_4.2.1 ∧ x_4.2.1 ≤ (4294967295 : Int)) ∧ ((-9223372036854775808 : Int) ≤ x_4.2.2.1 ∧ x_4.2.2.1 ≤
     (9223372036854775807 : Int)) ∧ True ∧ (List.length x_4.2.2.2.2.1 ≤ maxLen ∧ ∀ (x : (Int × Int) × List Int × Int), x ∈ x_4.2.2.2.2.1 → (((0 : Int) ≤ x.1.1 ∧ x.1.1 ≤ (4294967295 : Int)) ∧
     (-9223372036854775808 : Int) ≤ x.1.2 ∧ x.1.2 ≤ (9223372036854775807 : Int)) ∧ (List.length x.2.1 ≤ maxLen ∧ ∀ (x_5 : Int), x_5 ∈ x.2.1 → (-9223372036854775808 : Int) ≤ x_5 ∧ x_5 ≤ (9223372036854775807
     : Int)) ∧ (-9223372036854775808 : Int) ≤ x.2.2 ∧ x.2.2 ≤ (9223372036854775807 : Int)) ∧ ((-9223372036854775808 : Int) ≤ x_4.2.2.2.2.2.1 ∧ x_4.2.2.2.2.2.1 ≤ (9223372036854775807 : Int)) ∧ ((0 : Int) ≤
     x_4.2.2.2.2.2.2.1 ∧ x_4.2.2.2.2.2.2.1 ≤ (4294967295 : Int)) ∧ ((-9223372036854775808 : Int) ≤ x_4.2.2.2.2.2.2.2.1 ∧ x_4.2.2.2.2.2.2.2.1 ≤ (9223372036854775807 : Int)) ∧ ((-9223372036854775808 : Int) ≤
     x_4.2.2.2.2.2.2.2.2.1 ∧ x_4.2.2.2.2.2.2.2.2.1 ≤ (9223372036854775807 : Int)) ∧ ((-9223372036854775808 : Int) ≤ x_4.2.2.2.2.2.2.2.2.2.1 ∧ x_4.2.2.2.2.2.2.2.2.2.1 ≤ (9223372036854775807 : Int)) ∧
     (((-9223372036854775808 : Int) ≤ x_4.2.2.2.2.2.2.2.2.2.2.1.1 ∧ x_4.2.2.2.2.2.2.2.2.2.2.1.1 ≤ (9223372036854775807 : Int)) ∧ (-9223372036854775808 : Int) ≤ x_4.2.2.2.2.2.2.2.2.2.2.1.2 ∧
     x_4.2.2.2.2.2.2.2.2.2.2.1.2 ≤ (9223372036854775807 : Int)) ∧ True ∧ True ∧ ((-9223372036854775808 : Int) ≤ x_4.2.2.2.2.2.2.2.2.2.2.2.2.2.1 ∧ x_4.2.2.2.2.2.2.2.2.2.2.2.2.2.1 ≤ (9223372036854775807 :
     Int)) ∧ (-9223372036854775808 : Int) ≤ x_4.2.2.2.2.2.2.2.2.2.2.2.2.2.2 ∧ x_4.2.2.2.2.2.2.2.2.2.2.2.2.2.2 ≤ (9223372036854775807 : Int)) ∧ (List.length x_1 ≤ maxLen ∧ ∀ (x : Int × Int × Int × Int × Int
     × Int), x ∈ x_1 → ((-9223372036854775808 : Int) ≤ x.1 ∧ x.1 ≤ (9223372036854775807 : Int)) ∧ ((-9223372036854775808 : Int) ≤ x.2.1 ∧ x.2.1 ≤ (9223372036854775807 : Int)) ∧ ((-9223372036854775808 :
     Int) ≤ x.2.2.1 ∧ x.2.2.1 ≤ (9223372036854775807 : Int)) ∧ ((-9223372036854775808 : Int) ≤ x.2.2.2.1 ∧ x.2.2.2.1 ≤ (9223372036854775807 : Int)) ∧ ((-9223372036854775808 : Int) ≤ x.2.2.2.2.1 ∧
     x.2.2.2.2.1 ≤ (9223372036854775807 : Int)) ∧ (-9223372036854775808 : Int) ≤ x.2.2.2.2.2 ∧ x.2.2.2.2.2 ≤ (9223372036854775807 : Int)) ∧ List.length x_2 ≤ maxLen ∧ ∀ (x : Int × Int × Bool × (Int × Int)
     × List Int × Int), x ∈ x_2 → ((-9223372036854775808 : Int) ≤ x.1 ∧ x.1 ≤ (9223372036854775807 : Int)) ∧ ((-9223372036854775808 : Int) ≤ x.2.1 ∧ x.2.1 ≤ (9223372036854775807 : Int)) ∧ True ∧ (((0 :
     Int) ≤ x.2.2.2.1.1 ∧ x.2.2.2.1.1 ≤ (4294967295 : Int)) ∧ (-9223372036854775808 : Int) ≤ x.2.2.2.1.2 ∧ x.2.2.2.1.2 ≤ (9223372036854775807 : Int)) ∧ (List.length x.2.2.2.2.1 ≤ maxLen ∧ ∀ (x_4 : Int),
     x_4 ∈ x.2.2.2.2.1 → (-9223372036854775808 : Int) ≤ x_4 ∧ x_4 ≤ (9223372036854775807 : Int)) ∧ (-9223372036854775808 : Int) ≤ x.2.2.2.2.2 ∧ x.2.2.2.2.2 ≤ (9223372036854775807 : Int)) ∧ ((0 : Int) ≤ x_3
     ∧ x_3 ≤ (4294967295 : Int)) ∧ True → True → (∃ (x_4 : Int), ((0 : Int) ≤ x_4 ∧ x_4 ≤ (↑(List.length x) : Int) ∧ ∀ (x_5 : List (Int × Int) × Int × Int × Bool × List ((Int × Int) × List Int × Int) × Int
     × Int × Int × Int × Int × (Int × Int) × Bool × Bool × Int × Int), x_5 ∈ List.take (Int.toNat x_4) x → ownsA x_5 x_3 = false) ∧ x_3 = x_3 ∧ x = x ∧ (↑(List.length x) : Int) = (↑(List.length x) : Int) ∧
     (0 : Int) = x_4 ∧ x = x ∧ x_1 = x_1 ∧ x_2 = x_2 ∧ True) ∧ ∀ (x_4 : Int), ((0 : Int) ≤ x_4 ∧ x_4 ≤ (↑(List.length x) : Int) ∧ ∀ (x_5 : List (Int × Int) × Int × Int × Bool × List ((Int × Int) × List Int
     × Int) × Int × Int × Int × Int × Int × (Int × Int) × Bool × Bool × Int × Int), x_5 ∈ List.take (Int.toNat x_4) x → ownsA x_5 x_3 = false) → ifP (decide (x_4 < (↑(List.length x) : Int))) ((0 : Int) ≤
     x_4 ∧ x_4 < (↑(List.length x) : Int) ∧ ifP (ownsA (List.getD x (Int.toNat x_4) default) x_3) (x_4 = findV (x, x_1, x_2) x_3 ∧ true = findB (x, x_1, x_2) x_3) (∃ (x_5 : Int), ((0 : Int) ≤ x_5 ∧ x_5 ≤
     (↑(List.length x) : Int) ∧ ∀ (x_6 : List (Int × Int) × Int × Int × Bool × List ((Int × Int) × List Int × Int) × Int × Int × Int × Int × Int × (Int × Int) × Bool × Bool × Int × Int), x_6 ∈ List.take
     (Int.toNat x_5) x → ownsA x_6 x_3 = false) ∧ Int.toNat ((↑(List.length x) : Int) - x_5) < Int.toNat ((↑(List.length x) : Int) - x_4) ∧ x_3 = x_3 ∧ x = x ∧ (↑(List.length x) : Int) = (↑(List.length x)
     : Int) ∧ IntKind.wrap IntKind.i64 (x_4 + (1 : Int)) = x_5 ∧ x = x ∧ x_1 = x_1 ∧ x_2 = x_2 ∧ True)) ((0 : Int) = findV (x, x_1, x_2) x_3 ∧ false = findB (x, x_1, x_2) x_3) := by
  rintro ns ls hs a ⟨⟨⟨hnl, -⟩, -⟩, -⟩ -
  simp only [maxLen] at hnl
  refine ⟨⟨0, ⟨by omega, by omega, by simp⟩, (by repeat' first | exact trivial | refine ⟨trivial, ?_⟩ | refine ⟨(by with_reducible rfl), ?_⟩ | refine ⟨w64 (by omega) (by omega), ?_⟩ | refine ⟨rfl, ?_⟩)⟩, ?_⟩
  rintro i ⟨i0, i1, hI⟩
  refine ifP_split (fun hi => ?_) (fun hi => ?_)
  · have hi := of_decide_eq_true hi
    refine ⟨i0, hi, ifP_split (fun hm => ?_) (fun hm => ?_)⟩
    · have e := findI_at (q := fun x => ownsA x a) i0 hi hI hm
      unfold findV findB findI
      by_cases k : ns.findIdx (fun x => ownsA x a) < ns.length
      · rw [if_pos k] at e
        dsimp only
        rw [if_pos k, decide_eq_true k]
        exact ⟨e, rfl⟩
      · rw [if_neg k] at e; omega
    · exact ⟨i + 1, ⟨by omega, by omega, all_next i0 hi hI hm⟩, by omega, (by repeat' first | exact trivial | refine ⟨trivial, ?_⟩ | refine ⟨(by with_reducible rfl), ?_⟩ | refine ⟨w64 (by omega) (by omega), ?_⟩ | refine ⟨rfl, ?_⟩)⟩
  · have e := findI_none (q := fun x => ownsA x a) (of_decide_eq_false hi) hI
    unfold findV findB findI
    by_cases k : ns.findIdx (fun x => ownsA x a) < ns.length
    · rw [if_pos k] at e; omega
    · dsimp only
      rw [if_neg k, decide_eq_false k]
      exact ⟨rfl, rfl⟩
theorem ok_topology_Find : SpecOK Try.prog GL 48 ct_topology_Find.spec := Ct.okH _ Try.func48 (by kernel_rfl) (withSpec_ok noSpecs_ok ok_node_Owns) hmix an_topology_Find (hideMp (by kernel_rfl) vc_topology_Find)

def ct_CloneRt : Ct := ⟨[.val (.sl cRt)], [.own 128 cRt], fun d => [(d.1.length : Int) ≤ 134217728], fun d => ((d.1, ()), ())⟩
def an_CloneRt : PDs ct_CloneRt.ps → Anns := (fun _ => {})
theorem vc_CloneRt :
    ∀ (x : List ((Int × Int) × List Int × Int)), (List.length x ≤ maxLen ∧ ∀ (x_1 : (Int × Int) × List Int × Int), x_1 ∈ x → (((0 : Int) ≤ x_1.1.1 ∧ x_1.1.1 ≤ (4294967295 : Int)) ∧ (-9223372036854775808 :
     Int) ≤ x_1.1.2 ∧ x_1.1.2 ≤ (9223372036854775807 : Int)) ∧ (List.length x_1.2.1 ≤ maxLen ∧ ∀ (x : Int), x ∈ x_1.2.1 → (-9223372036854775808 : Int) ≤ x ∧ x ≤ (9223372036854775807 : Int)) ∧
     (-9223372036854775808 : Int) ≤ x_1.2.2 ∧ x_1.2.2 ≤ (9223372036854775807 : Int)) ∧ True → (↑(List.length x) : Int) ≤ (134217728 : Int) → ∀ (x_1 : Bool), (x_1 = true → List.length x = (0 : Nat)) → ifP
     x_1 (([] : List ((Int × Int) × List Int × Int)) = x) (((0 : Nat) + List.length x) * (48 : Nat) ≤ (140737488355328 : Nat) ∧ x = x) := by
  rintro x ⟨⟨hl, -⟩, -⟩ h b hb
  refine ifP_split (fun h1 => ?_) (fun h1 => ⟨by omega, by simp⟩)
  have := hb h1
  exact (List.eq_nil_of_length_eq_zero this).symm
theorem ok_CloneRt : SpecOK Try.prog GL 129 ct_CloneRt.spec := Ct.okH _ Try.func129 (by kernel_rfl) noSpecs_ok hmix an_CloneRt (hideMp (by kernel_rfl) vc_CloneRt)

def ct_topology_Routes : Ct := ⟨[.agg cNet, .val cI, .val cI], [.own 128 cRt], fun d => [okNet d.1], fun d => ((routesV d.1 d.2.1 d.2.2.1, ()), ())⟩
def an_topology_Routes : PDs ct_topology_Routes.ps → Anns := (fun d => { loops := (fun n => match n with | 5 => some (fun S => { ι := Int, μ := fun i => ((nRoutes (d.1.1.getD d.2.1.toNat default)).length - i).toNat, inv := fun i => 0 ≤ i ∧ i ≤ (nRoutes (d.1.1.getD d.2.1.toNat default)).length, keep := [1, 2, 3, 7, 26, 27], slots := fun i => [(28, .int .i64 i)], keepN := [64, 416], names := fun i => [] }) | 10 => some (fun S => { ι := Int × (List Rt), qn := ⟨fun k_ => ∀ (j : Int) (t : (List Rt)), k_ (j, t), fun k_ h_ i => h_ i.1 i.2, fun k_ => ∃ (j : Int) (t : (List Rt)), k_ (j, t), fun k_ ⟨j, t, h_⟩ => ⟨_, h_⟩⟩, μ := fun i => (d.1.2.2.length - i.1).toNat, inv := fun i => 0 ≤ i.1 ∧ i.1 ≤ d.1.2.2.length ∧ i.2 = routesK d.1 d.2.1 d.2.2.1 i.1, keep := [1, 2, 3, 42, 43], slots := fun i => [(7, .own 524288 4), (44, .int .i64 i.1)], keepN := [64], names := fun i => [(524288, .live (.row 128 cRt i.2))] }) | _ => none) })
theorem vc_topology_Routes :
    ∀ (x : List (List (Int × Int) × Int × Int × Bool × List ((Int × Int) × List Int × Int) × Int × Int × Int × Int × Int × (Int × Int) × Bool × Bool × Int × Int)) (x_1 : List (Int × Int × Int × Int × Int
     × Int)) (x_2 : List (Int × Int × Bool × (Int × Int) × List Int × Int)) (x_3 x_4 : Int), ((List.length x ≤ maxLen ∧ ∀ (x_5 : List (Int × Int) × Int × Int × Bool × List ((Int × Int) × List Int × Int) ×
     Int × Int × Int × Int × Int × (Int × Int) × Bool × Bool × Int × Int), x_5 ∈ x → (List.length x_5.1 ≤ maxLen ∧ ∀ (x : Int × Int), x ∈ x_5.1 → ((0 : Int) ≤ x.1 ∧ x.1 ≤ (4294967295 : Int)) ∧
     (-9223372036854775808 : Int) ≤ x.2 ∧ x.2 ≤ (9223372036854775807 : Int)) ∧ ((0 : Int) ≤ x_5.2.1 ∧ x_5.2.1 ≤ (4294967295 : Int)) ∧ ((-9223372036854775808 : Int) ≤ x_5.2.2.1 ∧ x_5.2.2.1 ≤
     (9223372036854775807 : Int)) ∧ True ∧ (List.length x_5.2.2.2.2.1 ≤ maxLen ∧ ∀ (x : (Int × Int) × List Int × Int), x ∈ x_5.2.2.2.2.1 → (((0 : Int) ≤ x.1.1 ∧ x.1.1 ≤ (4294967295 : Int)) ∧
     (-9223372036854775808 : Int) ≤ x.1.2 ∧ x.1.2 ≤ (9223372036854775807 : Int)) ∧ (List.length x.2.1 ≤ maxLen ∧ ∀ (x_6 : Int), x_6 ∈ x.2.1 → (-9223372036854775808 : Int) ≤ x_6 ∧ x_6 ≤ (9223372036854775807
     : Int)) ∧ (-9223372036854775808 : Int) ≤ x.2.2 ∧ x.2.2 ≤ (9223372036854775807 : Int)) ∧ ((-9223372036854775808 : Int) ≤ x_5.2.2.2.2.2.1 ∧ x_5.2.2.2.2.2.1 ≤ (9223372036854775807 : Int)) ∧ ((0 : Int) ≤
     x_5.2.2.2.2.2.2.1 ∧ x_5.2.2.2.2.2.2.1 ≤ (4294967295 : Int)) ∧ ((-9223372036854775808 : Int) ≤ x_5.2.2.2.2.2.2.2.1 ∧ x_5.2.2.2.2.2.2.2.1 ≤ (9223372036854775807 : Int)) ∧ ((-9223372036854775808 : Int) ≤
     x_5.2.2.2.2.2.2.2.2.1 ∧ x_5.2.2.2.2.2.2.2.2.1 ≤ (9223372036854775807 : Int)) ∧ ((-9223372036854775808 : Int) ≤ x_5.2.2.2.2.2.2.2.2.2.1 ∧ x_5.2.2.2.2.2.2.2.2.2.1 ≤ (9223372036854775807 : Int)) ∧
     (((-9223372036854775808 : Int) ≤ x_5.2.2.2.2.2.2.2.2.2.2.1.1 ∧ x_5.2.2.2.2.2.2.2.2.2.2.1.1 ≤ (9223372036854775807 : Int)) ∧ (-9223372036854775808 : Int) ≤ x_5.2.2.2.2.2.2.2.2.2.2.1.2 ∧
     x_5.2.2.2.2.2.2.2.2.2.2.1.2 ≤ (9223372036854775807 : Int)) ∧ True ∧ True ∧ ((-9223372036854775808 : Int) ≤ x_5.2.2.2.2.2.2.2.2.2.2.2.2.2.1 ∧ x_5.2.2.2.2.2.2.2.2.2.2.2.2.2.1 ≤ (9223372036854775807 :
     Int)) ∧ (-9223372036854775808 : Int) ≤ x_5.2.2.2.2.2.2.2.2.2.2.2.2.2.2 ∧ x_5.2.2.2.2.2.2.2.2.2.2.2.2.2.2 ≤ (9223372036854775807 : Int)) ∧ (List.length x_1 ≤ maxLen ∧ ∀ (x : Int × Int × Int × Int × Int
     × Int), x ∈ x_1 → ((-9223372036854775808 : Int) ≤ x.1 ∧ x.1 ≤ (9223372036854775807 : Int)) ∧ ((-9223372036854775808 : Int) ≤ x.2.1 ∧ x.2.1 ≤ (9223372036854775807 : Int)) ∧ ((-9223372036854775808 :
     Int) ≤ x.2.2.1 ∧ x.2.2.1 ≤ (9223372036854775807 : Int)) ∧ ((-9223372036854775808 : Int) ≤ x.2.2.2.1 ∧ x.2.2.2.1 ≤ (9223372036854775807 : Int)) ∧ ((-9223372036854775808 : Int) ≤ x.2.2.2.2.1 ∧
     x.2.2.2.2.1 ≤ (9223372036854775807 : Int)) ∧ (-9223372036854775808 : Int) ≤ x.2.2.2.2.2 ∧ x.2.2.2.2.2 ≤ (9223372036854775807 : Int)) ∧ List.length x_2 ≤ maxLen ∧ ∀ (x : Int × Int × Bool × (Int × Int)
     × List Int × Int), x ∈ x_2 → ((-9223372036854775808 : Int) ≤ x.1 ∧ x.1 ≤ (9223372036854775807 : Int)) ∧ ((-9223372036854775808 : Int) ≤ x.2.1 ∧ x.2.1 ≤ (9223372036854775807 : Int)) ∧ True ∧ (((0 :
     Int) ≤ x.2.2.2.1.1 ∧ x.2.2.2.1.1 ≤ (4294967295 : Int)) ∧ (-9223372036854775808 : Int) ≤ x.2.2.2.1.2 ∧ x.2.2.2.1.2 ≤ (9223372036854775807 : Int)) ∧ (List.length x.2.2.2.2.1 ≤ maxLen ∧ ∀ (x_5 : Int),
     x_5 ∈ x.2.2.2.2.1 → (-9223372036854775808 : Int) ≤ x_5 ∧ x_5 ≤ (9223372036854775807 : Int)) ∧ (-9223372036854775808 : Int) ≤ x.2.2.2.2.2 ∧ x.2.2.2.2.2 ≤ (9223372036854775807 : Int)) ∧
     ((-9223372036854775808 : Int) ≤ x_3 ∧ x_3 ≤ (9223372036854775807 : Int)) ∧ ((-9223372036854775808 : Int) ≤ x_4 ∧ x_4 ≤ (9223372036854775807 : Int)) ∧ True → okNet (x, x_1, x_2) → ifP (!decide ((0 :
     Int) ≤ x_3 ∧ x_3 ≤ IntKind.wrap IntKind.i64 ((↑(List.length x) : Int) - (1 : Int)))) (([] : List ((Int × Int) × List Int × Int)) = routesV (x, x_1, x_2) x_3 x_4) ((0 : Int) ≤ x_3 ∧ x_3 <
     (↑(List.length x) : Int) ∧ (↑(List.length (List.getD x (Int.toNat x_3) default).2.2.2.2.1) : Int) ≤ (134217728 : Int) ∧ (∃ (x_5 : Int), ((0 : Int) ≤ x_5 ∧ x_5 ≤ (↑(List.length (nRoutes (List.getD x
     (Int.toNat x_3) default))) : Int)) ∧ x_3 = x_3 ∧ x_4 = x_4 ∧ (↑(List.length (List.getD x (Int.toNat x_3) default).2.2.2.2.1) : Int) = (↑(List.length (List.getD x (Int.toNat x_3) default).2.2.2.2.1) :
     Int) ∧ (0 : Int) = x_5 ∧ x = x ∧ x_1 = x_1 ∧ x_2 = x_2 ∧ (List.getD x (Int.toNat x_3) default).2.2.2.2.1 = (List.getD x (Int.toNat x_3) default).2.2.2.2.1 ∧ True) ∧ ∀ (x_5 : Int), (0 : Int) ≤ x_5 ∧
     x_5 ≤ (↑(List.length (nRoutes (List.getD x (Int.toNat x_3) default))) : Int) → ifP (decide (x_5 < (↑(List.length (List.getD x (Int.toNat x_3) default).2.2.2.2.1) : Int))) ((0 : Int) ≤ x_5 ∧ x_5 <
     (↑(List.length (List.getD x (Int.toNat x_3) default).2.2.2.2.1) : Int) ∧ (↑(List.length (List.getD (List.getD x (Int.toNat x_3) default).2.2.2.2.1 (Int.toNat x_5) default).2.1) : Int) ≤ (1099511627776
     : Int) ∧ (0 : Int) ≤ x_5 ∧ x_5 < (↑(List.length (List.getD x (Int.toNat x_3) default).2.2.2.2.1) : Int) ∧ ∃ (x_6 : Int), ((0 : Int) ≤ x_6 ∧ x_6 ≤ (↑(List.length (nRoutes (List.getD x (Int.toNat x_3)
     default))) : Int)) ∧ Int.toNat ((↑(List.length (nRoutes (List.getD x (Int.toNat x_3) default))) : Int) - x_6) < Int.toNat ((↑(List.length (nRoutes (List.getD x (Int.toNat x_3) default))) : Int) - x_5)
     ∧ x_3 = x_3 ∧ x_4 = x_4 ∧ (↑(List.length (List.getD x (Int.toNat x_3) default).2.2.2.2.1) : Int) = (↑(List.length (List.getD x (Int.toNat x_3) default).2.2.2.2.1) : Int) ∧ IntKind.wrap IntKind.i64
     (x_5 + (1 : Int)) = x_6 ∧ x = x ∧ x_1 = x_1 ∧ x_2 = x_2 ∧ List.set (List.getD x (Int.toNat x_3) default).2.2.2.2.1 (Int.toNat x_5) (List.getD (List.getD x (Int.toNat x_3) default).2.2.2.2.1 (Int.toNat
     x_5) default) = (List.getD x (Int.toNat x_3) default).2.2.2.2.1 ∧ True) ((∃ (j : Int), ∃ (t : List Rt), ((0 : Int) ≤ j ∧ j ≤ (↑(List.length x_2) : Int) ∧ t = routesK (x, x_1, x_2) x_3 x_4 j) ∧ x_3 =
     x_3 ∧ x_4 = x_4 ∧ x_2 = x_2 ∧ (↑(List.length x_2) : Int) = (↑(List.length x_2) : Int) ∧ (0 : Int) = j ∧ x = x ∧ x_1 = x_1 ∧ x_2 = x_2 ∧ (List.getD x (Int.toNat x_3) default).2.2.2.2.1 = t ∧ True) ∧ ∀
     (j : Int) (t : List Rt), (0 : Int) ≤ j ∧ j ≤ (↑(List.length x_2) : Int) ∧ t = routesK (x, x_1, x_2) x_3 x_4 j → ifP (decide (j < (↑(List.length x_2) : Int))) ((0 : Int) ≤ j ∧ j < (↑(List.length x_2) :
     Int) ∧ ∀ (b : Bool), b = decide ((List.getD x_2 (Int.toNat j) default).2.1 = x_3) → (b = true → (b = true → b = true) ∧ True) ∧ (b = true → (b = true → b = true) ∧ (b = true → b = true) ∧ True) ∧ (b =
     true → b = true) ∧ ifP (bif b then decide ((List.getD x_2 (Int.toNat j) default).1 ≤ x_4) else false) (sortedR t ∧ okL t ∧ (↑(List.length (List.getD x_2 (Int.toNat j) default).2.2.2.2.1) : Int) ≤
     (1099511627776 : Int) ∧ ∃ (j_1 : Int), ∃ (t_1 : List Rt), ((0 : Int) ≤ j_1 ∧ j_1 ≤ (↑(List.length x_2) : Int) ∧ t_1 = routesK (x, x_1, x_2) x_3 x_4 j_1) ∧ Int.toNat ((↑(List.length x_2) : Int) - j_1)
     < Int.toNat ((↑(List.length x_2) : Int) - j) ∧ x_3 = x_3 ∧ x_4 = x_4 ∧ x_2 = x_2 ∧ (↑(List.length x_2) : Int) = (↑(List.length x_2) : Int) ∧ IntKind.wrap IntKind.i64 (j + (1 : Int)) = j_1 ∧ x = x ∧
     x_1 = x_1 ∧ x_2 = x_2 ∧ chV t (List.getD x_2 (Int.toNat j) default) = t_1 ∧ True) (∃ (j_1 : Int), ∃ (t_1 : List Rt), ((0 : Int) ≤ j_1 ∧ j_1 ≤ (↑(List.length x_2) : Int) ∧ t_1 = routesK (x, x_1, x_2)
     x_3 x_4 j_1) ∧ Int.toNat ((↑(List.length x_2) : Int) - j_1) < Int.toNat ((↑(List.length x_2) : Int) - j) ∧ x_3 = x_3 ∧ x_4 = x_4 ∧ x_2 = x_2 ∧ (↑(List.length x_2) : Int) = (↑(List.length x_2) : Int) ∧
     IntKind.wrap IntKind.i64 (j + (1 : Int)) = j_1 ∧ x = x ∧ x_1 = x_1 ∧ x_2 = x_2 ∧ t = t_1 ∧ True)) (t = routesV (x, x_1, x_2) x_3 x_4))) := by
  rintro ns ls hs who at' ⟨⟨⟨hnl, -⟩, -, ⟨hhl, -⟩⟩, -⟩ ok
  simp only [maxLen] at hnl hhl
  rw [w64 (n := (ns.length : Int) - 1) (by omega) (by omega)]
  refine ifP_split (fun h => ?_) (fun h => ?_)
  · have h := nd_t h
    unfold routesV
    rw [if_pos (by show who < 0 ∨ (ns.length : Int) ≤ who; omega)]
  have h := nd_f h
  have hm := getD_mem (xs := ns) h.1 (by omega)
  have hr := ok.t _ hm
  have eR : (ns.getD who.toNat default).2.2.2.2.1 = nRoutes (ns.getD who.toNat default) := rfl
  rw [eR]
  have r1 := hr.2.1
  refine ⟨h.1, by omega, by omega, ⟨0, ⟨by omega, by omega⟩, (by repeat' first | exact trivial | refine ⟨trivial, ?_⟩ | refine ⟨(by with_reducible rfl), ?_⟩ | refine ⟨w64 (by omega) (by omega), ?_⟩ | refine ⟨rfl, ?_⟩)⟩, ?_⟩
  rintro j ⟨j0, j1⟩
  refine ifP_split (fun hj => ?_) (fun hj => ?_)
  · have hj := of_decide_eq_true hj
    refine ⟨j0, hj, hr.2.2 _ (getD_mem j0 hj), j0, hj, j + 1, ⟨by omega, by omega⟩, by omega, ?_⟩
    (repeat first | refine ⟨trivial, ?_⟩ | refine ⟨(by with_reducible rfl), ?_⟩ | refine ⟨w64 (by omega) (by omega), ?_⟩)
    exact ⟨set_getD j0 hj, trivial⟩
  refine ⟨⟨0, _, ⟨by omega, by omega, rfl⟩, (by repeat' first | exact trivial | refine ⟨trivial, ?_⟩ | refine ⟨(by with_reducible rfl), ?_⟩ | refine ⟨w64 (by omega) (by omega), ?_⟩ | refine ⟨rfl, ?_⟩)⟩, ?_⟩
  clear hj j0 j1
  rintro j t ⟨j0, j1, rfl⟩
  have hok := routesK_ok ok (at' := at') h.1 (by show who < (ns.length : Int); omega) j.toNat (by show j.toNat ≤ hs.length; omega)
  rw [show ((j.toNat : Nat) : Int) = j by omega] at hok
  have hc := ok.c
  refine ifP_split (fun hj => ?_) (fun hj => ?_)
  · have hj := of_decide_eq_true hj
    have st := routesK_next (n := (ns, ls, hs)) (who := who) (at' := at') j0 hj
    refine ⟨j0, hj, ?_⟩
    (repeat (intro (b_ : Bool) (hb_ : b_ = _); (repeat refine ⟨(by first | (simp; done) | (rw [hb_]; simp; done) | (rw [hb_]; simp; omega) | (rw [hb_]; simp; intros; omega) | (rw [hb_]; simp +contextual; done)), ?_⟩); subst hb_))
    rw [band_d]
    refine ifP_split (fun q => ?_) (fun q => ?_)
    · have q := of_decide_eq_true q
      refine ⟨hok.s, hok.okL (by dsimp only at hc; omega), ok.s _ (getD_mem j0 hj), j + 1, _, ⟨by omega, by omega, rfl⟩, by omega, ?_⟩
      (repeat first | refine ⟨trivial, ?_⟩ | refine ⟨(by with_reducible rfl), ?_⟩ | refine ⟨w64 (by omega) (by omega), ?_⟩)
      refine ⟨?_, trivial⟩
      rw [st]; exact (if_pos q).symm
    · have q := of_decide_eq_false q
      refine ⟨j + 1, _, ⟨by omega, by omega, rfl⟩, by omega, ?_⟩
      (repeat first | refine ⟨trivial, ?_⟩ | refine ⟨(by with_reducible rfl), ?_⟩ | refine ⟨w64 (by omega) (by omega), ?_⟩)
      refine ⟨?_, trivial⟩
      rw [st]; exact (if_neg q).symm
  · have hj := of_decide_eq_false hj
    unfold routesV
    rw [if_neg (by show ¬ (who < 0 ∨ (ns.length : Int) ≤ who); omega), show j = (hs.length : Int) by omega]
theorem ok_topology_Routes : SpecOK Try.prog GL 80 ct_topology_Routes.spec := Ct.okH _ Try.func80 (by kernel_rfl) (withSpec_ok (withSpec_ok (withSpec_ok (withSpec_ok noSpecs_ok ok_topology_within) ok_CloneRt) ok_slices_Clone_263e) ok_topology_changed) hmix an_topology_Routes (hideMp (by kernel_rfl) vc_topology_Routes)




end Go.RS


/- Truth1: who has an address; the way of a packet. -/
namespace Go.RS
open Go.SX Go.Proofs
set_option maxRecDepth 100000
set_option linter.unusedVariables false

abbrev cWay : CT := .pair (.sl cI) (.pair (.sl cI) cI)
abbrev Way : Type := List Int × List Int × Int
def sameV (n : Net) (a b : Int) : Bool := findB n a && findB n b && decide (findV n a = findV n b)
def joinsL (i k : Int) (l : Link) : Bool := (decide (lA l = i) && decide (lB l = k)) || (decide (lA l = k) && decide (lB l = i))
def joinedV (n : Net) (a b : Int) : Bool := findB n a && findB n b && n.2.1.any (joinsL (findV n a) (findV n b))
def ownerV (n : Net) (a : Int) : Int := if findB n a = true then nOwner (n.1.getD (findV n a).toNat default) else 0
theorem find_in (n : Net) (a : Int) (h : findB n a = true) : 0 ≤ findV n a ∧ findV n a < n.1.length := by
  unfold findB at h
  have h := of_decide_eq_true h
  unfold findV
  rw [if_pos h]; omega
def ct_truth_Same : Ct := ⟨[.agg cNet, .val cU32, .val cU32], [.val .bool], fun _ => [], fun d => ((sameV d.1 d.2.1 d.2.2.1, ()), ())⟩
def an_truth_Same : PDs ct_truth_Same.ps → Anns := (fun _ => {})
theorem vc_truth_Same :
    ∀ (x : List (List (Int × Int) × Int × Int × Bool × List ((Int × Int) × List Int × Int) × Int × Int × Int × Int × Int × (Int × Int) × Bool × Bool × Int × Int)) (x_1 : List (Int × Int × Int × Int × Int
     × Int)) (x_2 : List (Int × Int × Bool × (Int × Int) × List Int × Int)) (x_3 x_4 : Int), ((List.length x ≤ maxLen ∧ ∀ (x_5 : List (Int × Int) × Int × Int × Bool × List ((Int × Int) × List Int × Int) ×
     Int × Int × Int × Int × Int × (Int × Int) × Bool × Bool × Int × Int), x_5 ∈ x → (List.length x_5.1 ≤ maxLen ∧ ∀ (x : Int × Int), x ∈ x_5.1 → ((0 : Int) ≤ x.1 ∧ x.1 ≤ (4294967295 : Int)) ∧
     (-9223372036854775808 : Int) ≤ x.2 ∧ x.2 ≤ (9223372036854775807 : Int)) ∧ ((0 : Int) ≤ x_5.2.1 ∧ x_5.2.1 ≤ (4294967295 : Int)) ∧ ((-9223372036854775808 : Int) ≤ x_5.2.2.1 ∧ x_5.2.2.1 ≤
     (9223372036854775807 : Int)) ∧ True ∧ (List.length x_5.2.2.2.2.1 ≤ maxLen ∧ ∀ (x : (Int × Int) × List Int × Int), x ∈ x_5.2.2.2.2.1 → (((0 : Int) ≤ x.1.1 ∧ x.1.1 ≤ (4294967295 : Int)) ∧
     (-9223372036854775808 : Int) ≤ x.1.2 ∧ x.1.2 ≤ (9223372036854775807 : Int)) ∧ (List.length x.2.1 ≤ maxLen ∧ ∀ (x_6 : Int), x_6 ∈ x.2.1 → (-9223372036854775808 : Int) ≤ x_6 ∧ x_6 ≤ (9223372036854775807
     : Int)) ∧ (-9223372036854775808 : Int) ≤ x.2.2 ∧ x.2.2 ≤ (9223372036854775807 : Int)) ∧ ((-9223372036854775808 : Int) ≤ x_5.2.2.2.2.2.1 ∧ x_5.2.2.2.2.2.1 ≤ (9223372036854775807 : Int)) ∧ ((0 : Int) ≤
     x_5.2.2.2.2.2.2.1 ∧ x_5.2.2.2.2.2.2.1 ≤ (4294967295 : Int)) ∧ ((-9223372036854775808 : Int) ≤ x_5.2.2.2.2.2.2.2.1 ∧ x_5.2.2.2.2.2.2.2.1 ≤ (9223372036854775807 : Int)) ∧ ((-9223372036854775808 : Int) ≤
     x_5.2.2.2.2.2.2.2.2.1 ∧ x_5.2.2.2.2.2.2.2.2.1 ≤ (9223372036854775807 : Int)) ∧ ((-9223372036854775808 : Int) ≤ x_5.2.2.2.2.2.2.2.2.2.1 ∧ x_5.2.2.2.2.2.2.2.2.2.1 ≤ (9223372036854775807 : Int)) ∧
     (((-9223372036854775808 : Int) ≤ x_5.2.2.2.2.2.2.2.2.2.2.1.1 ∧ x_5.2.2.2.2.2.2.2.2.2.2.1.1 ≤ (9223372036854775807 : Int)) ∧ (-9223372036854775808 : Int) ≤ x_5.2.2.2.2.2.2.2.2.2.2.1.2 ∧
     x_5.2.2.2.2.2.2.2.2.2.2.1.2 ≤ (9223372036854775807 : Int)) ∧ True ∧ True ∧ ((-9223372036854775808 : Int) ≤ x_5.2.2.2.2.2.2.2.2.2.2.2.2.2.1 ∧ x_5.2.2.2.2.2.2.2.2.2.2.2.2.2.1 ≤ (9223372036854775807 :
     Int)) ∧ (-9223372036854775808 : Int) ≤ x_5.2.2.2.2.2.2.2.2.2.2.2.2.2.2 ∧ x_5.2.2.2.2.2.2.2.2.2.2.2.2.2.2 ≤ (9223372036854775807 : Int)) ∧ (List.length x_1 ≤ maxLen ∧ ∀ (x : Int × Int × Int × Int × Int
     × Int), x ∈ x_1 → ((-9223372036854775808 : Int) ≤ x.1 ∧ x.1 ≤ (9223372036854775807 : Int)) ∧ ((-9223372036854775808 : Int) ≤ x.2.1 ∧ x.2.1 ≤ (9223372036854775807 : Int)) ∧ ((-9223372036854775808 :
     Int) ≤ x.2.2.1 ∧ x.2.2.1 ≤ (9223372036854775807 : Int)) ∧ ((-9223372036854775808 : Int) ≤ x.2.2.2.1 ∧ x.2.2.2.1 ≤ (9223372036854775807 : Int)) ∧ ((-9223372036854775808 : Int) ≤ x.2.2.2.2.1 ∧
     x.2.2.2.2.1 ≤ (9223372036854775807 : Int)) ∧ (-9223372036854775808 : Int) ≤ x.2.2.2.2.2 ∧ x.2.2.2.2.2 ≤ (9223372036854775807 : Int)) ∧ List.length x_2 ≤ maxLen ∧ ∀ (x : Int × Int × Bool × (Int × Int)
     × List Int × Int), x ∈ x_2 → ((-9223372036854775808 : Int) ≤ x.1 ∧ x.1 ≤ (9223372036854775807 : Int)) ∧ ((-9223372036854775808 : Int) ≤ x.2.1 ∧ x.2.1 ≤ (9223372036854775807 : Int)) ∧ True ∧ (((0 :
     Int) ≤ x.2.2.2.1.1 ∧ x.2.2.2.1.1 ≤ (4294967295 : Int)) ∧ (-9223372036854775808 : Int) ≤ x.2.2.2.1.2 ∧ x.2.2.2.1.2 ≤ (9223372036854775807 : Int)) ∧ (List.length x.2.2.2.2.1 ≤ maxLen ∧ ∀ (x_5 : Int),
     x_5 ∈ x.2.2.2.2.1 → (-9223372036854775808 : Int) ≤ x_5 ∧ x_5 ≤ (9223372036854775807 : Int)) ∧ (-9223372036854775808 : Int) ≤ x.2.2.2.2.2 ∧ x.2.2.2.2.2 ≤ (9223372036854775807 : Int)) ∧ ((0 : Int) ≤ x_3
     ∧ x_3 ≤ (4294967295 : Int)) ∧ ((0 : Int) ≤ x_4 ∧ x_4 ≤ (4294967295 : Int)) ∧ True → True → ∀ (b : Bool), b = findB (x, x_1, x_2) x_3 → (b = true → b = true) ∧ ∀ (b_1 : Bool), (b_1 = bif b then findB
     (x, x_1, x_2) x_4 else false) → (b_1 = true → (b_1 = true → b_1 = true) ∧ (b_1 = true → b_1 = true) ∧ True) ∧ (b_1 = true → b_1 = true) ∧ (bif b_1 then decide (findV (x, x_1, x_2) x_3 = findV (x, x_1,
     x_2) x_4) else false) = sameV (x, x_1, x_2) x_3 x_4 := by
  rintro ns ls hs a b - -
  intro b1 hb1
  (repeat refine ⟨fun h_ => (by first | (simp; done) | (simp [h_]; done) | (simp_all; done)), ?_⟩)
  intro b2 hb2
  (repeat refine ⟨fun h_ => (by first | (simp; done) | (simp [h_]; done) | (simp_all; done)), ?_⟩)
  rw [hb2, hb1]
  unfold sameV
  cases findB (ns, ls, hs) a <;> cases findB (ns, ls, hs) b <;> rfl
theorem ok_truth_Same : SpecOK Try.prog GL 14 ct_truth_Same.spec := Ct.okH _ Try.func14 (by kernel_rfl) (withSpec_ok noSpecs_ok ok_topology_Find) hmix an_truth_Same (hideMp (by kernel_rfl) vc_truth_Same)

def ct_truth_Joined_1 : Ct := ⟨[.agg cLink, .box 3 cI, .box 3 cI], [.val .bool], fun _ => [], fun d => ((joinsL d.2.1 d.2.2.1 d.1, ()), (d.2.1, d.2.2.1, ()))⟩
def an_truth_Joined_1 : PDs ct_truth_Joined_1.ps → Anns := (fun _ => {})
theorem vc_truth_Joined_1 :
    ∀ (x x_1 x_2 x_3 x_4 x_5 x_6 x_7 : Int), (((-9223372036854775808 : Int) ≤ x ∧ x ≤ (9223372036854775807 : Int)) ∧ ((-9223372036854775808 : Int) ≤ x_1 ∧ x_1 ≤ (9223372036854775807 : Int)) ∧
     ((-9223372036854775808 : Int) ≤ x_2 ∧ x_2 ≤ (9223372036854775807 : Int)) ∧ ((-9223372036854775808 : Int) ≤ x_3 ∧ x_3 ≤ (9223372036854775807 : Int)) ∧ ((-9223372036854775808 : Int) ≤ x_4 ∧ x_4 ≤
     (9223372036854775807 : Int)) ∧ (-9223372036854775808 : Int) ≤ x_5 ∧ x_5 ≤ (9223372036854775807 : Int)) ∧ ((-9223372036854775808 : Int) ≤ x_6 ∧ x_6 ≤ (9223372036854775807 : Int)) ∧
     ((-9223372036854775808 : Int) ≤ x_7 ∧ x_7 ≤ (9223372036854775807 : Int)) ∧ True → True → ∀ (b : Bool), b = decide (x = x_6) → (b = true → (b = true → b = true) ∧ True) ∧ (b = true → (b = true → b =
     true) ∧ (b = true → b = true) ∧ True) ∧ (b = true → b = true) ∧ ∀ (b_1 : Bool), (b_1 = bif b then decide (x_1 = x_7) else false) → ((!b_1) = true → ((!b_1) = true → (!b_1) = true) ∧ True) ∧ ((!b_1) =
     true → ((!b_1) = true → (!b_1) = true) ∧ ((!b_1) = true → (!b_1) = true) ∧ True) ∧ ((!b_1) = true → ((!b_1) = true → (!b_1) = true) ∧ True) ∧ ∀ (b : Bool), b = decide (x = x_7) → ((!b_1 && b) = true →
     ((!b_1 && b) = true → (!b_1 && b) = true) ∧ True) ∧ ((!b_1 && b) = true → ((!b_1 && b) = true → (!b_1 && b) = true) ∧ ((!b_1 && b) = true → (!b_1 && b) = true) ∧ True) ∧ ((!b_1) = true → ((!b_1) =
     true → (!b_1) = true) ∧ (b = true → (!b_1 && b) = true) ∧ True) ∧ (b_1 = false → (!b_1) = true) ∧ (bif b_1 then true else bif b then decide (x_1 = x_6) else false) = joinsL x_6 x_7 (x, x_1, x_2, x_3,
     x_4, x_5) ∧ x_6 = x_6 ∧ x_7 = x_7 := by
  rintro a b c e f g i k - -
  intro b1 hb1
  (repeat refine ⟨fun h_ => (by first | (simp; done) | (simp [h_]; done) | (simp_all; done)), ?_⟩)
  intro b2 hb2
  (repeat refine ⟨fun h_ => (by first | (simp; done) | (simp [h_]; done) | (simp_all; done)), ?_⟩)
  intro b3 hb3
  (repeat refine ⟨fun h_ => (by first | (simp; done) | (simp [h_]; done) | (simp_all; done)), ?_⟩)
  refine ⟨?_, rfl, rfl⟩
  rw [hb3, hb2, hb1]
  unfold joinsL lA lB
  dsimp only
  cases decide (a = i) <;> cases decide (b = k) <;> cases decide (a = k) <;> cases decide (b = i) <;> rfl
theorem ok_truth_Joined_1 : SpecOK Try.prog GL 50 ct_truth_Joined_1.spec := Ct.okH _ Try.func50 (by kernel_rfl) noSpecs_ok hmix an_truth_Joined_1 (hideMp (by kernel_rfl) vc_truth_Joined_1)

def ct_IndexJoin : Ct := ⟨[.val (.sl cLink), .fn 50 2, .box 3 cI, .box 3 cI], [.val cI], fun _ => [], fun d => ((idxI (joinsL d.2.2.1 d.2.2.2.1) d.1, ()), (d.2.2.1, d.2.2.2.1, ()))⟩
def an_IndexJoin : PDs ct_IndexJoin.ps → Anns := (fun d => { loops := (fun n => match n with | 2 => some (fun S => { ι := Int, μ := fun i => (d.1.length - i).toNat, inv := fun i => 0 ≤ i ∧ i ≤ d.1.length ∧ ∀ x ∈ d.1.take i.toNat, joinsL d.2.2.1 d.2.2.2.1 x = false, keep := [0, 1, 6, 7], slots := fun i => [(8, .int .i64 i)], keepN := [1048576, 1048577], names := fun i => [] }) | _ => none) })
theorem vc_IndexJoin :
    ∀ (x : List (Int × Int × Int × Int × Int × Int)) (x_1 x_2 : Int), (List.length x ≤ maxLen ∧ ∀ (x_3 : Int × Int × Int × Int × Int × Int), x_3 ∈ x → ((-9223372036854775808 : Int) ≤ x_3.1 ∧ x_3.1 ≤
     (9223372036854775807 : Int)) ∧ ((-9223372036854775808 : Int) ≤ x_3.2.1 ∧ x_3.2.1 ≤ (9223372036854775807 : Int)) ∧ ((-9223372036854775808 : Int) ≤ x_3.2.2.1 ∧ x_3.2.2.1 ≤ (9223372036854775807 : Int)) ∧
     ((-9223372036854775808 : Int) ≤ x_3.2.2.2.1 ∧ x_3.2.2.2.1 ≤ (9223372036854775807 : Int)) ∧ ((-9223372036854775808 : Int) ≤ x_3.2.2.2.2.1 ∧ x_3.2.2.2.2.1 ≤ (9223372036854775807 : Int)) ∧
     (-9223372036854775808 : Int) ≤ x_3.2.2.2.2.2 ∧ x_3.2.2.2.2.2 ≤ (9223372036854775807 : Int)) ∧ True ∧ ((-9223372036854775808 : Int) ≤ x_1 ∧ x_1 ≤ (9223372036854775807 : Int)) ∧ ((-9223372036854775808 :
     Int) ≤ x_2 ∧ x_2 ≤ (9223372036854775807 : Int)) ∧ True → True → (∃ (x_3 : Int), ((0 : Int) ≤ x_3 ∧ x_3 ≤ (↑(List.length x) : Int) ∧ ∀ (x_4 : Int × Int × Int × Int × Int × Int), x_4 ∈ List.take
     (Int.toNat x_3) x → joinsL x_1 x_2 x_4 = false) ∧ x = x ∧ x = x ∧ (↑(List.length x) : Int) = (↑(List.length x) : Int) ∧ (0 : Int) = x_3 ∧ x_1 = x_1 ∧ x_2 = x_2 ∧ True) ∧ ∀ (x_3 : Int), ((0 : Int) ≤
     x_3 ∧ x_3 ≤ (↑(List.length x) : Int) ∧ ∀ (x_4 : Int × Int × Int × Int × Int × Int), x_4 ∈ List.take (Int.toNat x_3) x → joinsL x_1 x_2 x_4 = false) → ifP (decide (x_3 < (↑(List.length x) : Int))) ((0
     : Int) ≤ x_3 ∧ x_3 < (↑(List.length x) : Int) ∧ ifP (joinsL x_1 x_2 (List.getD x (Int.toNat x_3) default)) (x_3 = idxI (joinsL x_1 x_2) x ∧ x_1 = x_1 ∧ x_2 = x_2) (∃ (x_4 : Int), ((0 : Int) ≤ x_4 ∧
     x_4 ≤ (↑(List.length x) : Int) ∧ ∀ (x_5 : Int × Int × Int × Int × Int × Int), x_5 ∈ List.take (Int.toNat x_4) x → joinsL x_1 x_2 x_5 = false) ∧ Int.toNat ((↑(List.length x) : Int) - x_4) < Int.toNat
     ((↑(List.length x) : Int) - x_3) ∧ x = x ∧ x = x ∧ (↑(List.length x) : Int) = (↑(List.length x) : Int) ∧ IntKind.wrap IntKind.i64 (x_3 + (1 : Int)) = x_4 ∧ x_1 = x_1 ∧ x_2 = x_2 ∧ True)) ((-1 : Int) =
     idxI (joinsL x_1 x_2) x ∧ x_1 = x_1 ∧ x_2 = x_2) := by
  rintro l s t ⟨⟨hl, -⟩, -⟩ -
  simp only [maxLen] at hl
  refine ⟨⟨0, ⟨by omega, by omega, by simp⟩, (by repeat' first | exact trivial | refine ⟨trivial, ?_⟩ | refine ⟨(by with_reducible rfl), ?_⟩ | refine ⟨w64 (by omega) (by omega), ?_⟩ | refine ⟨rfl, ?_⟩)⟩, ?_⟩
  rintro j ⟨j0, j1, hj⟩
  refine ifP_split (fun hk => ?_) (fun hk => ?_)
  · have hk := of_decide_eq_true hk
    refine ⟨j0, hk, ifP_split (fun hm => ?_) (fun hm => ?_)⟩
    · exact ⟨findI_at j0 hk hj hm, rfl, rfl⟩
    · exact ⟨j + 1, ⟨by omega, by omega, all_next j0 hk hj hm⟩, by omega, (by repeat' first | exact trivial | refine ⟨trivial, ?_⟩ | refine ⟨(by with_reducible rfl), ?_⟩ | refine ⟨w64 (by omega) (by omega), ?_⟩ | refine ⟨rfl, ?_⟩)⟩
  · exact ⟨findI_none (of_decide_eq_false hk) hj, rfl, rfl⟩
theorem ok_IndexJoin : SpecOK Try.prog GL 89 ct_IndexJoin.spec := Ct.okH _ Try.func89 (by kernel_rfl) (withSpec_ok noSpecs_ok ok_truth_Joined_1) hmix an_IndexJoin (hideMp (by kernel_rfl) vc_IndexJoin)

def ct_ContainsJoin : Ct := ⟨[.val (.sl cLink), .fn 50 2, .box 3 cI, .box 3 cI], [.val .bool], fun _ => [], fun d => ((d.1.any (joinsL d.2.2.1 d.2.2.2.1), ()), (d.2.2.1, d.2.2.2.1, ()))⟩
def an_ContainsJoin : PDs ct_ContainsJoin.ps → Anns := (fun _ => {})
theorem vc_ContainsJoin :
    ∀ (x : List (Int × Int × Int × Int × Int × Int)) (x_1 x_2 : Int), (List.length x ≤ maxLen ∧ ∀ (x_3 : Int × Int × Int × Int × Int × Int), x_3 ∈ x → ((-9223372036854775808 : Int) ≤ x_3.1 ∧ x_3.1 ≤
     (9223372036854775807 : Int)) ∧ ((-9223372036854775808 : Int) ≤ x_3.2.1 ∧ x_3.2.1 ≤ (9223372036854775807 : Int)) ∧ ((-9223372036854775808 : Int) ≤ x_3.2.2.1 ∧ x_3.2.2.1 ≤ (9223372036854775807 : Int)) ∧
     ((-9223372036854775808 : Int) ≤ x_3.2.2.2.1 ∧ x_3.2.2.2.1 ≤ (9223372036854775807 : Int)) ∧ ((-9223372036854775808 : Int) ≤ x_3.2.2.2.2.1 ∧ x_3.2.2.2.2.1 ≤ (9223372036854775807 : Int)) ∧
     (-9223372036854775808 : Int) ≤ x_3.2.2.2.2.2 ∧ x_3.2.2.2.2.2 ≤ (9223372036854775807 : Int)) ∧ True ∧ ((-9223372036854775808 : Int) ≤ x_1 ∧ x_1 ≤ (9223372036854775807 : Int)) ∧ ((-9223372036854775808 :
     Int) ≤ x_2 ∧ x_2 ≤ (9223372036854775807 : Int)) ∧ True → True → decide ((0 : Int) ≤ idxI (joinsL x_1 x_2) x) = List.any x (joinsL x_1 x_2) ∧ x_1 = x_1 ∧ x_2 = x_2 := by
  rintro l s t - -
  exact ⟨idxI_any, rfl, rfl⟩
theorem ok_ContainsJoin : SpecOK Try.prog GL 49 ct_ContainsJoin.spec := Ct.okH _ Try.func49 (by kernel_rfl) (withSpec_ok noSpecs_ok ok_IndexJoin) hmix an_ContainsJoin (hideMp (by kernel_rfl) vc_ContainsJoin)

def ct_truth_Joined : Ct := ⟨[.agg cNet, .val cU32, .val cU32], [.val .bool], fun _ => [], fun d => ((joinedV d.1 d.2.1 d.2.2.1, ()), ())⟩
def an_truth_Joined : PDs ct_truth_Joined.ps → Anns := (fun _ => {})
theorem vc_truth_Joined :
    ∀ (x : List (List (Int × Int) × Int × Int × Bool × List ((Int × Int) × List Int × Int) × Int × Int × Int × Int × Int × (Int × Int) × Bool × Bool × Int × Int)) (x_1 : List (Int × Int × Int × Int × Int
     × Int)) (x_2 : List (Int × Int × Bool × (Int × Int) × List Int × Int)) (x_3 x_4 : Int), ((List.length x ≤ maxLen ∧ ∀ (x_5 : List (Int × Int) × Int × Int × Bool × List ((Int × Int) × List Int × Int) ×
     Int × Int × Int × Int × Int × (Int × Int) × Bool × Bool × Int × Int), x_5 ∈ x → (List.length x_5.1 ≤ maxLen ∧ ∀ (x : Int × Int), x ∈ x_5.1 → ((0 : Int) ≤ x.1 ∧ x.1 ≤ (4294967295 : Int)) ∧
     (-9223372036854775808 : Int) ≤ x.2 ∧ x.2 ≤ (9223372036854775807 : Int)) ∧ ((0 : Int) ≤ x_5.2.1 ∧ x_5.2.1 ≤ (4294967295 : Int)) ∧ ((-9223372036854775808 : Int) ≤ x_5.2.2.1 ∧ x_5.2.2.1 ≤
     (9223372036854775807 : Int)) ∧ True ∧ (List.length x_5.2.2.2.2.1 ≤ maxLen ∧ ∀ (x : (Int × Int) × List Int × Int), x ∈ x_5.2.2.2.2.1 → (((0 : Int) ≤ x.1.1 ∧ x.1.1 ≤ (4294967295 : Int)) ∧
     (-9223372036854775808 : Int) ≤ x.1.2 ∧ x.1.2 ≤ (9223372036854775807 : Int)) ∧ (List.length x.2.1 ≤ maxLen ∧ ∀ (x_6 : Int), x_6 ∈ x.2.1 → (-9223372036854775808 : Int) ≤ x_6 ∧ x_6 ≤ (9223372036854775807
     : Int)) ∧ (-9223372036854775808 : Int) ≤ x.2.2 ∧ x.2.2 ≤ (9223372036854775807 : Int)) ∧ ((-9223372036854775808 : Int) ≤ x_5.2.2.2.2.2.1 ∧ x_5.2.2.2.2.2.1 ≤ (9223372036854775807 : Int)) ∧ ((0 : Int) ≤
     x_5.2.2.2.2.2.2.1 ∧ x_5.2.2.2.2.2.2.1 ≤ (4294967295 : Int)) ∧ ((-9223372036854775808 : Int) ≤ x_5.2.2.2.2.2.2.2.1 ∧ x_5.2.2.2.2.2.2.2.1 ≤ (9223372036854775807 : Int)) ∧ ((-9223372036854775808 : Int) ≤
     x_5.2.2.2.2.2.2.2.2.1 ∧ x_5.2.2.2.2.2.2.2.2.1 ≤ (9223372036854775807 : Int)) ∧ ((-9223372036854775808 : Int) ≤ x_5.2.2.2.2.2.2.2.2.2.1 ∧ x_5.2.2.2.2.2.2.2.2.2.1 ≤ (9223372036854775807 : Int)) ∧
     (((-9223372036854775808 : Int) ≤ x_5.2.2.2.2.2.2.2.2.2.2.1.1 ∧ x_5.2.2.2.2.2.2.2.2.2.2.1.1 ≤ (9223372036854775807 : Int)) ∧ (-9223372036854775808 : Int) ≤ x_5.2.2.2.2.2.2.2.2.2.2.1.2 ∧
     x_5.2.2.2.2.2.2.2.2.2.2.1.2 ≤ (9223372036854775807 : Int)) ∧ True ∧ True ∧ ((-9223372036854775808 : Int) ≤ x_5.2.2.2.2.2.2.2.2.2.2.2.2.2.1 ∧ x_5.2.2.2.2.2.2.2.2.2.2.2.2.2.1 ≤ (9223372036854775807 :
     Int)) ∧ (-9223372036854775808 : Int) ≤ x_5.2.2.2.2.2.2.2.2.2.2.2.2.2.2 ∧ x_5.2.2.2.2.2.2.2.2.2.2.2.2.2.2 ≤ (9223372036854775807 : Int)) ∧ (List.length x_1 ≤ maxLen ∧ ∀ (x : Int × Int × Int × Int × Int
     × Int), x ∈ x_1 → ((-9223372036854775808 : Int) ≤ x.1 ∧ x.1 ≤ (9223372036854775807 : Int)) ∧ ((-9223372036854775808 : Int) ≤ x.2.1 ∧ x.2.1 ≤ (9223372036854775807 : Int)) ∧ ((-9223372036854775808 :
     Int) ≤ x.2.2.1 ∧ x.2.2.1 ≤ (9223372036854775807 : Int)) ∧ ((-9223372036854775808 : Int) ≤ x.2.2.2.1 ∧ x.2.2.2.1 ≤ (9223372036854775807 : Int)) ∧ ((-9223372036854775808 : Int) ≤ x.2.2.2.2.1 ∧
     x.2.2.2.2.1 ≤ (9223372036854775807 : Int)) ∧ (-9223372036854775808 : Int) ≤ x.2.2.2.2.2 ∧ x.2.2.2.2.2 ≤ (9223372036854775807 : Int)) ∧ List.length x_2 ≤ maxLen ∧ ∀ (x : Int × Int × Bool × (Int × Int)
     × List Int × Int), x ∈ x_2 → ((-9223372036854775808 : Int) ≤ x.1 ∧ x.1 ≤ (9223372036854775807 : Int)) ∧ ((-9223372036854775808 : Int) ≤ x.2.1 ∧ x.2.1 ≤ (9223372036854775807 : Int)) ∧ True ∧ (((0 :
     Int) ≤ x.2.2.2.1.1 ∧ x.2.2.2.1.1 ≤ (4294967295 : Int)) ∧ (-9223372036854775808 : Int) ≤ x.2.2.2.1.2 ∧ x.2.2.2.1.2 ≤ (9223372036854775807 : Int)) ∧ (List.length x.2.2.2.2.1 ≤ maxLen ∧ ∀ (x_5 : Int),
     x_5 ∈ x.2.2.2.2.1 → (-9223372036854775808 : Int) ≤ x_5 ∧ x_5 ≤ (9223372036854775807 : Int)) ∧ (-9223372036854775808 : Int) ≤ x.2.2.2.2.2 ∧ x.2.2.2.2.2 ≤ (9223372036854775807 : Int)) ∧ ((0 : Int) ≤ x_3
     ∧ x_3 ≤ (4294967295 : Int)) ∧ ((0 : Int) ≤ x_4 ∧ x_4 ≤ (4294967295 : Int)) ∧ True → True → ∀ (b : Bool), b = findB (x, x_1, x_2) x_3 → (b = true → b = true) ∧ ∀ (b_1 : Bool), (b_1 = bif b then findB
     (x, x_1, x_2) x_4 else false) → (b_1 = true → (b_1 = true → b_1 = true) ∧ True) ∧ ifP b_1 ((b_1 = true → b_1 = true) ∧ (b_1 = true → b_1 = true) ∧ (bif b_1 then List.any x_1 (joinsL (findV (x, x_1,
     x_2) x_3) (findV (x, x_1, x_2) x_4)) else false) = joinedV (x, x_1, x_2) x_3 x_4) ((b_1 = true → false = true) ∧ (bif b_1 then false else false) = joinedV (x, x_1, x_2) x_3 x_4) := by
  rintro ns ls hs a b - -
  intro b1 hb1
  (repeat refine ⟨fun h_ => (by first | (simp; done) | (simp [h_]; done) | (simp_all; done)), ?_⟩)
  intro b2 hb2
  (repeat refine ⟨fun h_ => (by first | (simp; done) | (simp [h_]; done) | (simp_all; done)), ?_⟩)
  have e : joinedV (ns, ls, hs) a b = (b2 && ls.any (joinsL (findV (ns, ls, hs) a) (findV (ns, ls, hs) b))) := by
    rw [hb2, hb1]; unfold joinedV; cases findB (ns, ls, hs) a <;> rfl
  rw [e]
  refine ifP_split (fun h => ?_) (fun h => ?_)
  · (repeat refine ⟨fun h_ => (by first | (simp; done) | (simp [h_]; done) | (simp_all; done)), ?_⟩)
    rw [h]; rfl
  · refine ⟨by simp [h], ?_⟩
    rw [h]; rfl
theorem ok_truth_Joined : SpecOK Try.prog GL 15 ct_truth_Joined.spec := Ct.okH _ Try.func15 (by kernel_rfl) (withSpec_ok (withSpec_ok noSpecs_ok ok_topology_Find) ok_ContainsJoin) hmix an_truth_Joined (hideMp (by kernel_rfl) vc_truth_Joined)

def ct_truth_Owner : Ct := ⟨[.agg cNet, .val cU32], [.val cI, .val .bool], fun _ => [], fun d => ((ownerV d.1 d.2.1, findB d.1 d.2.1, ()), ())⟩
def an_truth_Owner : PDs ct_truth_Owner.ps → Anns := (fun _ => {})
theorem vc_truth_Owner :
    ∀ (x : List (List (Int × Int) × Int × Int × Bool × List ((Int × Int) × List Int × Int) × Int × Int × Int × Int × Int × (Int × Int) × Bool × Bool × Int × Int)) (x_1 : List (Int × Int × Int × Int × Int
     × Int)) (x_2 : List (Int × Int × Bool × (Int × Int) × List Int × Int)) (x_3 : Int), ((List.length x ≤ maxLen ∧ ∀ (x_4 : List (Int × Int) × Int × Int × Bool × List ((Int × Int) × List Int × Int) × Int
     × Int × Int × Int × Int × (Int × Int) × Bool × Bool × Int × Int), x_4 ∈ x → (List.length x_4.1 ≤ maxLen ∧ ∀ (x : Int × Int), x ∈ x_4.1 → ((0 : Int) ≤ x.1 ∧ x.1 ≤ (4294967295 : Int)) ∧
     (-9223372036854775808 : Int) ≤ x.2 ∧ x.2 ≤ (9223372036854775807 : Int)) ∧ ((0 : Int) ≤ x_4.2.1 ∧ x_4.2.1 ≤ (4294967295 : Int)) ∧ ((-9223372036854775808 : Int) ≤ x_4.2.2.1 ∧ x_4.2.2.1 ≤
     (9223372036854775807 : Int)) ∧ True ∧ (List.length x_4.2.2.2.2.1 ≤ maxLen ∧ ∀ (x : (Int × Int) × List Int × Int), x ∈ x_4.2.2.2.2.1 → (((0 : Int) ≤ x.1.1 ∧ x.1.1 ≤ (4294967295 : Int)) ∧
     (-9223372036854775808 : Int) ≤ x.1.2 ∧ x.1.2 ≤ (9223372036854775807 : Int)) ∧ (List.length x.2.1 ≤ maxLen ∧ ∀ (x_5 : Int), x_5 ∈ x.2.1 → (-9223372036854775808 : Int) ≤ x_5 ∧ x_5 ≤ (9223372036854775807
     : Int)) ∧ (-9223372036854775808 : Int) ≤ x.2.2 ∧ x.2.2 ≤ (9223372036854775807 : Int)) ∧ ((-9223372036854775808 : Int) ≤ x_4.2.2.2.2.2.1 ∧ x_4.2.2.2.2.2.1 ≤ (9223372036854775807 : Int)) ∧ ((0 : Int) ≤
     x_4.2.2.2.2.2.2.1 ∧ x_4.2.2.2.2.2.2.1 ≤ (4294967295 : Int)) ∧ ((-9223372036854775808 : Int) ≤ x_4.2.2.2.2.2.2.2.1 ∧ x_4.2.2.2.2.2.2.2.1 ≤ (9223372036854775807 : Int)) ∧ ((-9223372036854775808 : Int) ≤
     x_4.2.2.2.2.2.2.2.2.1 ∧ x_4.2.2.2.2.2.2.2.2.1 ≤ (9223372036854775807 : Int)) ∧ ((-9223372036854775808 : Int) ≤ x_4.2.2.2.2.2.2.2.2.2.1 ∧ x_4.2.2.2.2.2.2.2.2.2.1 ≤ (9223372036854775807 : Int)) ∧
     (((-9223372036854775808 : Int) ≤ x_4.2.2.2.2.2.2.2.2.2.2.1.1 ∧ x_4.2.2.2.2.2.2.2.2.2.2.1.1 ≤ (9223372036854775807 : Int)) ∧ (-9223372036854775808 : Int) ≤ x_4.2.2.2.2.2.2.2.2.2.2.1.2 ∧
     x_4.2.2.2.2.2.2.2.2.2.2.1.2 ≤ (9223372036854775807 : Int)) ∧ True ∧ True ∧ ((-9223372036854775808 : Int) ≤ x_4.2.2.2.2.2.2.2.2.2.2.2.2.2.1 ∧ x_4.2.2.2.2.2.2.2.2.2.2.2.2.2.1 ≤ (9223372036854775807 :
     Int)) ∧ (-9223372036854775808 : Int) ≤ x_4.2.2.2.2.2.2.2.2.2.2.2.2.2.2 ∧ x_4.2.2.2.2.2.2.2.2.2.2.2.2.2.2 ≤ (9223372036854775807 : Int)) ∧ (List.length x_1 ≤ maxLen ∧ ∀ (x : Int × Int × Int × Int × Int
     × Int), x ∈ x_1 → ((-9223372036854775808 : Int) ≤ x.1 ∧ x.1 ≤ (9223372036854775807 : Int)) ∧ ((-9223372036854775808 : Int) ≤ x.2.1 ∧ x.2.1 ≤ (9223372036854775807 : Int)) ∧ ((-9223372036854775808 :
     Int) ≤ x.2.2.1 ∧ x.2.2.1 ≤ (9223372036854775807 : Int)) ∧ ((-9223372036854775808 : Int) ≤ x.2.2.2.1 ∧ x.2.2.2.1 ≤ (9223372036854775807 : Int)) ∧ ((-9223372036854775808 : Int) ≤ x.2.2.2.2.1 ∧
     x.2.2.2.2.1 ≤ (9223372036854775807 : Int)) ∧ (-9223372036854775808 : Int) ≤ x.2.2.2.2.2 ∧ x.2.2.2.2.2 ≤ (9223372036854775807 : Int)) ∧ List.length x_2 ≤ maxLen ∧ ∀ (x : Int × Int × Bool × (Int × Int)
     × List Int × Int), x ∈ x_2 → ((-9223372036854775808 : Int) ≤ x.1 ∧ x.1 ≤ (9223372036854775807 : Int)) ∧ ((-9223372036854775808 : Int) ≤ x.2.1 ∧ x.2.1 ≤ (9223372036854775807 : Int)) ∧ True ∧ (((0 :
     Int) ≤ x.2.2.2.1.1 ∧ x.2.2.2.1.1 ≤ (4294967295 : Int)) ∧ (-9223372036854775808 : Int) ≤ x.2.2.2.1.2 ∧ x.2.2.2.1.2 ≤ (9223372036854775807 : Int)) ∧ (List.length x.2.2.2.2.1 ≤ maxLen ∧ ∀ (x_4 : Int),
     x_4 ∈ x.2.2.2.2.1 → (-9223372036854775808 : Int) ≤ x_4 ∧ x_4 ≤ (9223372036854775807 : Int)) ∧ (-9223372036854775808 : Int) ≤ x.2.2.2.2.2 ∧ x.2.2.2.2.2 ≤ (9223372036854775807 : Int)) ∧ ((0 : Int) ≤ x_3
     ∧ x_3 ≤ (4294967295 : Int)) ∧ True → True → ifP (!findB (x, x_1, x_2) x_3) ((0 : Int) = ownerV (x, x_1, x_2) x_3 ∧ false = findB (x, x_1, x_2) x_3) ((0 : Int) ≤ findV (x, x_1, x_2) x_3 ∧ findV (x,
     x_1, x_2) x_3 < (↑(List.length x) : Int) ∧ (List.getD x (Int.toNat (findV (x, x_1, x_2) x_3)) default).2.2.1 = ownerV (x, x_1, x_2) x_3 ∧ true = findB (x, x_1, x_2) x_3) := by
  rintro ns ls hs a - -
  unfold ownerV
  refine ifP_split (fun h => ?_) (fun h => ?_)
  · have h : findB (ns, ls, hs) a = false := by simpa using h
    rw [h]; exact ⟨rfl, rfl⟩
  · have h : findB (ns, ls, hs) a = true := by simpa using h
    have k := find_in _ _ h
    rw [if_pos h, h]
    exact ⟨k.1, k.2, rfl, rfl⟩
theorem ok_truth_Owner : SpecOK Try.prog GL 16 ct_truth_Owner.spec := Ct.okH _ Try.func16 (by kernel_rfl) (withSpec_ok noSpecs_ok ok_topology_Find) hmix an_truth_Owner (hideMp (by kernel_rfl) vc_truth_Owner)

def ct_truth_several : Ct := ⟨[.agg cRt], [.val .bool], fun _ => [], fun d => ((decide (1 < (d.1.2.1.length : Int)), ()), ())⟩
def an_truth_several : PDs ct_truth_several.ps → Anns := (fun _ => {})
theorem vc_truth_several :
    ∀ (x x_1 : Int) (x_2 : List Int) (x_3 : Int), ((((0 : Int) ≤ x ∧ x ≤ (4294967295 : Int)) ∧ (-9223372036854775808 : Int) ≤ x_1 ∧ x_1 ≤ (9223372036854775807 : Int)) ∧ (List.length x_2 ≤ maxLen ∧ ∀ (x :
     Int), x ∈ x_2 → (-9223372036854775808 : Int) ≤ x ∧ x ≤ (9223372036854775807 : Int)) ∧ (-9223372036854775808 : Int) ≤ x_3 ∧ x_3 ≤ (9223372036854775807 : Int)) ∧ True → True → decide ((1 : Int) <
     (↑(List.length x_2) : Int)) = decide ((1 : Int) < (↑(List.length x_2) : Int)) := by
  rintro a b c e - -
  rfl
theorem ok_truth_several : SpecOK Try.prog GL 82 ct_truth_several.spec := Ct.okH _ Try.func82 (by kernel_rfl) noSpecs_ok hmix an_truth_several (hideMp (by kernel_rfl) vc_truth_several)
def lastI (l : List Int) : Int := l.getD (l.length - 1) default
/-- Which of the next links. -/
def pickV (r : Rt) (seed : Int) (k : Key) : Int := if 1 < r.2.1.length then (choose r.2.2 seed k 0 r.2.1.length).1 else 0
def stepR1 (n : Net) (k : Key) (here : Int) (x : Node) (r : Rt) (ok : Bool) (w : Way) : Way :=
  if ownsA x k.2.1 = true then (w.1, w.2.1, 1)
  else if nHost x = true ∧ 0 < w.2.1.length then (w.1, w.2.1, 5)
  else if ok = false ∨ r.2.1.length = 0 then (w.1, w.2.1, 2)
  else if 1 < r.2.1.length ∧ r.2.2 = 3 then (w.1, w.2.1, 4)
  else if 255 ≤ w.2.1.length then (w.1, w.2.1, 3)
  else (w.1 ++ [otherV n.2.1 (r.2.1.getD (pickV r (nSeed x) k).toNat default) here], w.2.1 ++ [r.2.1.getD (pickV r (nSeed x) k).toNat default], 0)
def stepW (n : Net) (at' : Int) (k : Key) (w : Way) : Way :=
  stepR1 n k (lastI w.1) (n.1.getD (lastI w.1).toNat default) (lookR (routesV n (lastI w.1) at') k.2.1) (lookB (routesV n (lastI w.1) at') k.2.1) w
def runW (n : Net) (at' : Int) (k : Key) : Nat → Way → Way
  | 0, w => w
  | f + 1, w => if w.2.2 = 0 then runW n at' k f (stepW n at' k w) else w
def traceV (n : Net) (at' who : Int) (k : Key) : Way := runW n at' k 257 ([who], [], 0)
/-- Networks in which ways can be followed. -/
structure WN (n : Net) : Prop where
  o : okNet n
  x : ∀ who at' : Int, 0 ≤ who → who < n.1.length → ∀ r ∈ routesV n who at', ∀ k ∈ r.2.1, 0 ≤ otherV n.2.1 k who ∧ otherV n.2.1 k who < n.1.length
structure TI (n : Net) (at' who : Int) (k : Key) (w : Way) : Prop where
  l : w.1.length = w.2.1.length + 1
  m : w.2.1.length ≤ 255
  r : ∀ x ∈ w.1, 0 ≤ x ∧ x < n.1.length
  e : runW n at' k (257 - w.2.1.length) w = traceV n at' who k
theorem runW_end {n : Net} {at' : Int} {k : Key} {w : Way} (h : w.2.2 ≠ 0) : ∀ f, runW n at' k f w = w
  | 0 => rfl
  | f + 1 => by rw [runW, if_neg h]
theorem TI.done {n : Net} {at' who : Int} {k : Key} {w : Way} (h : TI n at' who k w) (he : w.2.2 ≠ 0) : w = traceV n at' who k := by
  rw [← h.e, runW_end he]
theorem TI.start {n : Net} {at' who : Int} {k : Key} (w0 : 0 ≤ who) (w1 : who < n.1.length) : TI n at' who k ([who], [], 0) :=
  ⟨rfl, Nat.zero_le _, fun x hx => by rw [List.mem_singleton.1 hx]; exact ⟨w0, w1⟩, rfl⟩
theorem TI.stop {n : Net} {at' who : Int} {k : Key} {ns ls : List Int} (h : TI n at' who k (ns, ls, 0)) {e : Int} (he : e ≠ 0) (hs : stepW n at' k (ns, ls, 0) = (ns, ls, e)) : TI n at' who k (ns, ls, e) := by
  refine ⟨h.l, h.m, h.r, ?_⟩
  have hm := h.m
  have k1 := h.e
  dsimp only at k1 hm ⊢
  rw [show 257 - ls.length = (256 - ls.length) + 1 by omega, runW, if_pos rfl, hs, runW_end he] at k1
  rw [runW_end he]; exact k1
theorem TI.go {n : Net} {at' who : Int} {k : Key} {ns ls : List Int} (h : TI n at' who k (ns, ls, 0)) (hl : ls.length < 255) {o l : Int} (ho : 0 ≤ o ∧ o < n.1.length) (hs : stepW n at' k (ns, ls, 0) = (ns ++ [o], ls ++ [l], 0)) : TI n at' who k (ns ++ [o], ls ++ [l], 0) := by
  have hll := h.l
  have k1 := h.e
  dsimp only at k1 hll
  refine ⟨by dsimp only; rw [List.length_append, List.length_append, hll]; rfl, by dsimp only; rw [List.length_append, List.length_singleton]; omega, fun x hx => ?_, ?_⟩
  · rcases List.mem_append.1 hx with hx | hx
    · exact h.r x hx
    · rw [List.mem_singleton.1 hx]; exact ho
  · dsimp only
    rw [show 257 - ls.length = (256 - ls.length) + 1 by omega, runW, if_pos rfl, hs] at k1
    rw [List.length_append, List.length_singleton, show 257 - (ls.length + 1) = 256 - ls.length by omega]; exact k1
theorem lastI_eq {ns : List Int} : ns.getD ((ns.length : Int) - 1).toNat default = lastI ns := by
  unfold lastI; rw [show ((ns.length : Int) - 1).toNat = ns.length - 1 by omega]
theorem lastI_mem {ns : List Int} (h : 0 < ns.length) : lastI ns ∈ ns := by
  unfold lastI; exact getD_memN (by omega)
theorem choose_range {way seed c n : Int} {k : Key} (hn : 1 ≤ n) (hc : 0 ≤ c) : 0 ≤ (choose way seed k c n).1 ∧ (choose way seed k c n).1 < n := by
  have hr : ∀ k, 0 ≤ (hash seed k).tmod n ∧ (hash seed k).tmod n < n := fun k => ⟨tmod_lo (hash_range _ _).1, tmod_hi (hash_range _ _).1 (by omega)⟩
  unfold choose
  split
  · exact ⟨Int.le_refl _, by dsimp only; omega⟩
  · dsimp only
    split
    · exact hr _
    · split
      · exact hr _
      · exact ⟨tmod_lo hc, tmod_hi hc (by omega)⟩
theorem pick_range {r : Rt} {seed : Int} {k : Key} (h : 0 < r.2.1.length) : 0 ≤ pickV r seed k ∧ pickV r seed k < r.2.1.length := by
  unfold pickV
  split
  · exact choose_range (by omega) (by omega)
  · omega
theorem look_mem {l : List Rt} {a : Int} (h : lookB l a = true) : lookR l a ∈ l := by
  rw [lookB_iff] at h
  exact (lookR_is (of_decide_eq_true h)).1
def ct_truth_Trace : Ct := ⟨[.agg cNet, .val cI, .val cI, .agg cKey], [.agg cWay], fun d => [WN d.1, 0 ≤ d.2.2.1, d.2.2.1 < d.1.1.length], fun d => ((traceV d.1 d.2.1 d.2.2.1 d.2.2.2.1, ()), ())⟩
def an_truth_Trace : PDs ct_truth_Trace.ps → Anns := (fun d => { loops := (fun n => match n with | 2 => some (fun S => { ι := (List Int) × (List Int) × Int, qn := ⟨fun k_ => ∀ (ns : (List Int)) (ls : (List Int)) (e : Int), k_ (ns, ls, e), fun k_ h_ i => h_ i.1 i.2.1 i.2.2, fun k_ => ∃ (ns : (List Int)) (ls : (List Int)) (e : Int), k_ (ns, ls, e), fun k_ ⟨ns, ls, e, h_⟩ => ⟨_, h_⟩⟩, μ := fun i => 2 * (255 - i.2.1.length) + (if i.2.2 = 0 then 1 else 0), inv := fun i => TI d.1 d.2.1 d.2.2.1 d.2.2.2.1 (i.1, i.2.1, i.2.2), keep := [1, 4, 7, 8, 9], slots := fun i => [], keepN := [80, 128, 144], names := fun i => [(160, .live (.cells 78 [.own 524288 1, .own 524289 1, .int .i64 i.2.2])), (524288, .live (.row 3 cI i.1)), (524289, .live (.row 3 cI i.2.1))] }) | _ => none) })
theorem vc_truth_Trace :
    ∀ (x : List (List (Int × Int) × Int × Int × Bool × List ((Int × Int) × List Int × Int) × Int × Int × Int × Int × Int × (Int × Int) × Bool × Bool × Int × Int)) (x_1 : List (Int × Int × Int × Int × Int
     × Int)) (x_2 : List (Int × Int × Bool × (Int × Int) × List Int × Int)) (x_3 x_4 x_5 x_6 x_7 x_8 x_9 : Int), ((List.length x ≤ maxLen ∧ ∀ (x_10 : List (Int × Int) × Int × Int × Bool × List ((Int × Int)
     × List Int × Int) × Int × Int × Int × Int × Int × (Int × Int) × Bool × Bool × Int × Int), x_10 ∈ x → (List.length x_10.1 ≤ maxLen ∧ ∀ (x : Int × Int), x ∈ x_10.1 → ((0 : Int) ≤ x.1 ∧ x.1 ≤ (4294967295
     : Int)) ∧ (-9223372036854775808 : Int) ≤ x.2 ∧ x.2 ≤ (9223372036854775807 : Int)) ∧ ((0 : Int) ≤ x_10.2.1 ∧ x_10.2.1 ≤ (4294967295 : Int)) ∧ ((-9223372036854775808 : Int) ≤ x_10.2.2.1 ∧ x_10.2.2.1 ≤
     (9223372036854775807 : Int)) ∧ True ∧ (List.length x_10.2.2.2.2.1 ≤ maxLen ∧ ∀ (x : (Int × Int) × List Int × Int), x ∈ x_10.2.2.2.2.1 → (((0 : Int) ≤ x.1.1 ∧ x.1.1 ≤ (4294967295 : Int)) ∧
     (-9223372036854775808 : Int) ≤ x.1.2 ∧ x.1.2 ≤ (9223372036854775807 : Int)) ∧ (List.length x.2.1 ≤ maxLen ∧ ∀ (x_11 : Int), x_11 ∈ x.2.1 → (-9223372036854775808 : Int) ≤ x_11 ∧ x_11 ≤
     (9223372036854775807 : Int)) ∧ (-9223372036854775808 : Int) ≤ x.2.2 ∧ x.2.2 ≤ (9223372036854775807 : Int)) ∧ ((-9223372036854775808 : Int) ≤ x_10.2.2.2.2.2.1 ∧ x_10.2.2.2.2.2.1 ≤ (9223372036854775807
     : Int)) ∧ ((0 : Int) ≤ x_10.2.2.2.2.2.2.1 ∧ x_10.2.2.2.2.2.2.1 ≤ (4294967295 : Int)) ∧ ((-9223372036854775808 : Int) ≤ x_10.2.2.2.2.2.2.2.1 ∧ x_10.2.2.2.2.2.2.2.1 ≤ (9223372036854775807 : Int)) ∧
     ((-9223372036854775808 : Int) ≤ x_10.2.2.2.2.2.2.2.2.1 ∧ x_10.2.2.2.2.2.2.2.2.1 ≤ (9223372036854775807 : Int)) ∧ ((-9223372036854775808 : Int) ≤ x_10.2.2.2.2.2.2.2.2.2.1 ∧ x_10.2.2.2.2.2.2.2.2.2.1 ≤
     (9223372036854775807 : Int)) ∧ (((-9223372036854775808 : Int) ≤ x_10.2.2.2.2.2.2.2.2.2.2.1.1 ∧ x_10.2.2.2.2.2.2.2.2.2.2.1.1 ≤ (9223372036854775807 : Int)) ∧ (-9223372036854775808 : Int) ≤
     x_10.2.2.2.2.2.2.2.2.2.2.1.2 ∧ x_10.2.2.2.2.2.2.2.2.2.2.1.2 ≤ (9223372036854775807 : Int)) ∧ True ∧ True ∧ ((-9223372036854775808 : Int) ≤ x_10.2.2.2.2.2.2.2.2.2.2.2.2.2.1 ∧
     x_10.2.2.2.2.2.2.2.2.2.2.2.2.2.1 ≤ (9223372036854775807 : Int)) ∧ (-9223372036854775808 : Int) ≤ x_10.2.2.2.2.2.2.2.2.2.2.2.2.2.2 ∧ x_10.2.2.2.2.2.2.2.2.2.2.2.2.2.2 ≤ (9223372036854775807 : Int)) ∧
     (List.length x_1 ≤ maxLen ∧ ∀ (x : Int × Int × Int × Int × Int × Int), x ∈ x_1 → ((-9223372036854775808 : Int) ≤ x.1 ∧ x.1 ≤ (9223372036854775807 : Int)) ∧ ((-9223372036854775808 : Int) ≤ x.2.1 ∧
     x.2.1 ≤ (9223372036854775807 : Int)) ∧ ((-9223372036854775808 : Int) ≤ x.2.2.1 ∧ x.2.2.1 ≤ (9223372036854775807 : Int)) ∧ ((-9223372036854775808 : Int) ≤ x.2.2.2.1 ∧ x.2.2.2.1 ≤ (9223372036854775807 :
     Int)) ∧ ((-9223372036854775808 : Int) ≤ x.2.2.2.2.1 ∧ x.2.2.2.2.1 ≤ (9223372036854775807 : Int)) ∧ (-9223372036854775808 : Int) ≤ x.2.2.2.2.2 ∧ x.2.2.2.2.2 ≤ (9223372036854775807 : Int)) ∧ List.length
     x_2 ≤ maxLen ∧ ∀ (x : Int × Int × Bool × (Int × Int) × List Int × Int), x ∈ x_2 → ((-9223372036854775808 : Int) ≤ x.1 ∧ x.1 ≤ (9223372036854775807 : Int)) ∧ ((-9223372036854775808 : Int) ≤ x.2.1 ∧
     x.2.1 ≤ (9223372036854775807 : Int)) ∧ True ∧ (((0 : Int) ≤ x.2.2.2.1.1 ∧ x.2.2.2.1.1 ≤ (4294967295 : Int)) ∧ (-9223372036854775808 : Int) ≤ x.2.2.2.1.2 ∧ x.2.2.2.1.2 ≤ (9223372036854775807 : Int)) ∧
     (List.length x.2.2.2.2.1 ≤ maxLen ∧ ∀ (x_10 : Int), x_10 ∈ x.2.2.2.2.1 → (-9223372036854775808 : Int) ≤ x_10 ∧ x_10 ≤ (9223372036854775807 : Int)) ∧ (-9223372036854775808 : Int) ≤ x.2.2.2.2.2 ∧
     x.2.2.2.2.2 ≤ (9223372036854775807 : Int)) ∧ ((-9223372036854775808 : Int) ≤ x_3 ∧ x_3 ≤ (9223372036854775807 : Int)) ∧ ((-9223372036854775808 : Int) ≤ x_4 ∧ x_4 ≤ (9223372036854775807 : Int)) ∧ (((0
     : Int) ≤ x_5 ∧ x_5 ≤ (4294967295 : Int)) ∧ ((0 : Int) ≤ x_6 ∧ x_6 ≤ (4294967295 : Int)) ∧ ((-9223372036854775808 : Int) ≤ x_7 ∧ x_7 ≤ (9223372036854775807 : Int)) ∧ ((-9223372036854775808 : Int) ≤ x_8
     ∧ x_8 ≤ (9223372036854775807 : Int)) ∧ (-9223372036854775808 : Int) ≤ x_9 ∧ x_9 ≤ (9223372036854775807 : Int)) ∧ True → WN (x, x_1, x_2) ∧ (0 : Int) ≤ x_4 ∧ x_4 + (1 : Int) ≤ (↑(List.length x) : Int)
     → (∃ (ns : List Int), ∃ (ls : List Int), ∃ (e : Int), TI (x, x_1, x_2) x_3 x_4 (x_5, x_6, x_7, x_8, x_9) (ns, ls, e) ∧ x_3 = x_3 ∧ x = x ∧ x_1 = x_1 ∧ x_2 = x_2 ∧ x_5 = x_5 ∧ x_6 = x_6 ∧ x_7 = x_7 ∧
     x_8 = x_8 ∧ x_9 = x_9 ∧ (0 : Int) = (0 : Int) ∧ (0 : Int) = e ∧ [x_4] = ns ∧ ls = ([] : List Int) ∧ True) ∧ ∀ (ns ls : List Int) (e : Int), TI (x, x_1, x_2) x_3 x_4 (x_5, x_6, x_7, x_8, x_9) (ns, ls,
     e) → ifP (decide (e = (0 : Int))) ((0 : Int) ≤ IntKind.wrap IntKind.i64 ((↑(List.length ns) : Int) - (1 : Int)) ∧ IntKind.wrap IntKind.i64 ((↑(List.length ns) : Int) - (1 : Int)) < (↑(List.length ns)
     : Int) ∧ (0 : Int) ≤ List.getD ns (Int.toNat (IntKind.wrap IntKind.i64 ((↑(List.length ns) : Int) - (1 : Int)))) default ∧ List.getD ns (Int.toNat (IntKind.wrap IntKind.i64 ((↑(List.length ns) : Int)
     - (1 : Int)))) default < (↑(List.length x) : Int) ∧ okNet (x, x_1, x_2) ∧ sortedR (routesV (x, x_1, x_2) (List.getD ns (Int.toNat (IntKind.wrap IntKind.i64 ((↑(List.length ns) : Int) - (1 : Int))))
     default) x_3) ∧ okL (routesV (x, x_1, x_2) (List.getD ns (Int.toNat (IntKind.wrap IntKind.i64 ((↑(List.length ns) : Int) - (1 : Int)))) default) x_3) ∧ ifP (ownsA (List.getD x (Int.toNat (List.getD ns
     (Int.toNat (IntKind.wrap IntKind.i64 ((↑(List.length ns) : Int) - (1 : Int)))) default)) default) x_6) (∃ (ns_1 : List Int), ∃ (ls_1 : List Int), ∃ (e_1 : Int), TI (x, x_1, x_2) x_3 x_4 (x_5, x_6,
     x_7, x_8, x_9) (ns_1, ls_1, e_1) ∧ (((2 : Nat) * ((255 : Nat) - List.length ls_1) + if e_1 = (0 : Int) then (1 : Nat) else (0 : Nat)) < (2 : Nat) * ((255 : Nat) - List.length ls) + if e = (0 : Int)
     then (1 : Nat) else (0 : Nat)) ∧ x_3 = x_3 ∧ x = x ∧ x_1 = x_1 ∧ x_2 = x_2 ∧ x_5 = x_5 ∧ x_6 = x_6 ∧ x_7 = x_7 ∧ x_8 = x_8 ∧ x_9 = x_9 ∧ (0 : Int) = (0 : Int) ∧ (1 : Int) = e_1 ∧ ns = ns_1 ∧ ls = ls_1
     ∧ True) (∀ (b : Bool), b = (List.getD x (Int.toNat (List.getD ns (Int.toNat (IntKind.wrap IntKind.i64 ((↑(List.length ns) : Int) - (1 : Int)))) default)) default).2.2.2.1 → (b = true → (b = true → b =
     true) ∧ True) ∧ (b = true → (b = true → b = true) ∧ True) ∧ (b = true → (b = true → b = true) ∧ True) ∧ (b = true → b = true) ∧ ifP (bif b then decide ((0 : Int) < (↑(List.length ls) : Int)) else
     false) (∃ (ns_1 : List Int), ∃ (ls_1 : List Int), ∃ (e_1 : Int), TI (x, x_1, x_2) x_3 x_4 (x_5, x_6, x_7, x_8, x_9) (ns_1, ls_1, e_1) ∧ (((2 : Nat) * ((255 : Nat) - List.length ls_1) + if e_1 = (0 :
     Int) then (1 : Nat) else (0 : Nat)) < (2 : Nat) * ((255 : Nat) - List.length ls) + if e = (0 : Int) then (1 : Nat) else (0 : Nat)) ∧ x_3 = x_3 ∧ x = x ∧ x_1 = x_1 ∧ x_2 = x_2 ∧ x_5 = x_5 ∧ x_6 = x_6 ∧
     x_7 = x_7 ∧ x_8 = x_8 ∧ x_9 = x_9 ∧ (0 : Int) = (0 : Int) ∧ (5 : Int) = e_1 ∧ ns = ns_1 ∧ ls = ls_1 ∧ True) (∀ (b : Bool), b = !lookB (routesV (x, x_1, x_2) (List.getD ns (Int.toNat (IntKind.wrap
     IntKind.i64 ((↑(List.length ns) : Int) - (1 : Int)))) default) x_3) x_6 → ((!b) = true → ((!b) = true → (!b) = true) ∧ True) ∧ ((!b) = true → ((!b) = true → (!b) = true) ∧ True) ∧ ((!b) = true → ((!b)
     = true → (!b) = true) ∧ True) ∧ (b = false → (!b) = true) ∧ ifP (bif b then true else decide ((↑(List.length (lookR (routesV (x, x_1, x_2) (List.getD ns (Int.toNat (IntKind.wrap IntKind.i64
     ((↑(List.length ns) : Int) - (1 : Int)))) default) x_3) x_6).2.1) : Int) = (0 : Int))) (∃ (ns_1 : List Int), ∃ (ls_1 : List Int), ∃ (e_1 : Int), TI (x, x_1, x_2) x_3 x_4 (x_5, x_6, x_7, x_8, x_9)
     (ns_1, ls_1, e_1) ∧ (((2 : Nat) * ((255 : Nat) - List.length ls_1) + if e_1 = (0 : Int) then (1 : Nat) else (0 : Nat)) < (2 : Nat) * ((255 : Nat) - List.length ls) + if e = (0 : Int) then (1 : Nat)
     else (0 : Nat)) ∧ x_3 = x_3 ∧ x = x ∧ x_1 = x_1 ∧ x_2 = x_2 ∧ x_5 = x_5 ∧ x_6 = x_6 ∧ x_7 = x_7 ∧ x_8 = x_8 ∧ x_9 = x_9 ∧ (0 : Int) = (0 : Int) ∧ (2 : Int) = e_1 ∧ ns = ns_1 ∧ ls = ls_1 ∧ True) (∀ (b
     : Bool), b = decide ((1 : Int) < (↑(List.length (lookR (routesV (x, x_1, x_2) (List.getD ns (Int.toNat (IntKind.wrap IntKind.i64 ((↑(List.length ns) : Int) - (1 : Int)))) default) x_3) x_6).2.1) :
     Int)) → (b = true → (b = true → b = true) ∧ True) ∧ (b = true → (b = true → b = true) ∧ True) ∧ (b = true → b = true) ∧ ifP (bif b then decide ((lookR (routesV (x, x_1, x_2) (List.getD ns (Int.toNat
     (IntKind.wrap IntKind.i64 ((↑(List.length ns) : Int) - (1 : Int)))) default) x_3) x_6).2.2 = (3 : Int)) else false) (∃ (ns_1 : List Int), ∃ (ls_1 : List Int), ∃ (e_1 : Int), TI (x, x_1, x_2) x_3 x_4
     (x_5, x_6, x_7, x_8, x_9) (ns_1, ls_1, e_1) ∧ (((2 : Nat) * ((255 : Nat) - List.length ls_1) + if e_1 = (0 : Int) then (1 : Nat) else (0 : Nat)) < (2 : Nat) * ((255 : Nat) - List.length ls) + if e =
     (0 : Int) then (1 : Nat) else (0 : Nat)) ∧ x_3 = x_3 ∧ x = x ∧ x_1 = x_1 ∧ x_2 = x_2 ∧ x_5 = x_5 ∧ x_6 = x_6 ∧ x_7 = x_7 ∧ x_8 = x_8 ∧ x_9 = x_9 ∧ (0 : Int) = (0 : Int) ∧ (4 : Int) = e_1 ∧ ns = ns_1 ∧
     ls = ls_1 ∧ True) (ifP (decide ((255 : Int) ≤ (↑(List.length ls) : Int))) (∃ (ns_1 : List Int), ∃ (ls_1 : List Int), ∃ (e_1 : Int), TI (x, x_1, x_2) x_3 x_4 (x_5, x_6, x_7, x_8, x_9) (ns_1, ls_1, e_1)
     ∧ (((2 : Nat) * ((255 : Nat) - List.length ls_1) + if e_1 = (0 : Int) then (1 : Nat) else (0 : Nat)) < (2 : Nat) * ((255 : Nat) - List.length ls) + if e = (0 : Int) then (1 : Nat) else (0 : Nat)) ∧
     x_3 = x_3 ∧ x = x ∧ x_1 = x_1 ∧ x_2 = x_2 ∧ x_5 = x_5 ∧ x_6 = x_6 ∧ x_7 = x_7 ∧ x_8 = x_8 ∧ x_9 = x_9 ∧ (0 : Int) = (0 : Int) ∧ (3 : Int) = e_1 ∧ ns = ns_1 ∧ ls = ls_1 ∧ True) (ifP (decide ((1 : Int)
     < (↑(List.length (lookR (routesV (x, x_1, x_2) (List.getD ns (Int.toNat (IntKind.wrap IntKind.i64 ((↑(List.length ns) : Int) - (1 : Int)))) default) x_3) x_6).2.1) : Int))) ((0 : Int) ≤ (choose (lookR
     (routesV (x, x_1, x_2) (List.getD ns (Int.toNat (IntKind.wrap IntKind.i64 ((↑(List.length ns) : Int) - (1 : Int)))) default) x_3) x_6).2.2 (List.getD x (Int.toNat (List.getD ns (Int.toNat
     (IntKind.wrap IntKind.i64 ((↑(List.length ns) : Int) - (1 : Int)))) default)) default).2.2.2.2.2.2.2.2.2.2.2.2.2.2 (x_5, x_6, x_7, x_8, x_9) (0 : Int) (↑(List.length (lookR (routesV (x, x_1, x_2)
     (List.getD ns (Int.toNat (IntKind.wrap IntKind.i64 ((↑(List.length ns) : Int) - (1 : Int)))) default) x_3) x_6).2.1) : Int)).1 ∧ (choose (lookR (routesV (x, x_1, x_2) (List.getD ns (Int.toNat
     (IntKind.wrap IntKind.i64 ((↑(List.length ns) : Int) - (1 : Int)))) default) x_3) x_6).2.2 (List.getD x (Int.toNat (List.getD ns (Int.toNat (IntKind.wrap IntKind.i64 ((↑(List.length ns) : Int) - (1 :
     Int)))) default)) default).2.2.2.2.2.2.2.2.2.2.2.2.2.2 (x_5, x_6, x_7, x_8, x_9) (0 : Int) (↑(List.length (lookR (routesV (x, x_1, x_2) (List.getD ns (Int.toNat (IntKind.wrap IntKind.i64
     ((↑(List.length ns) : Int) - (1 : Int)))) default) x_3) x_6).2.1) : Int)).1 < (↑(List.length (lookR (routesV (x, x_1, x_2) (List.getD ns (Int.toNat (IntKind.wrap IntKind.i64 ((↑(List.length ns) : Int)
     - (1 : Int)))) default) x_3) x_6).2.1) : Int) ∧ (List.length ls + List.length [List.getD (lookR (routesV (x, x_1, x_2) (List.getD ns (Int.toNat (IntKind.wrap IntKind.i64 ((↑(List.length ns) : Int) -
     (1 : Int)))) default) x_3) x_6).2.1 (Int.toNat (choose (lookR (routesV (x, x_1, x_2) (List.getD ns (Int.toNat (IntKind.wrap IntKind.i64 ((↑(List.length ns) : Int) - (1 : Int)))) default) x_3) x_6).2.2
     (List.getD x (Int.toNat (List.getD ns (Int.toNat (IntKind.wrap IntKind.i64 ((↑(List.length ns) : Int) - (1 : Int)))) default)) default).2.2.2.2.2.2.2.2.2.2.2.2.2.2 (x_5, x_6, x_7, x_8, x_9) (0 : Int)
     (↑(List.length (lookR (routesV (x, x_1, x_2) (List.getD ns (Int.toNat (IntKind.wrap IntKind.i64 ((↑(List.length ns) : Int) - (1 : Int)))) default) x_3) x_6).2.1) : Int)).1) default]) * (8 : Nat) ≤
     (140737488355328 : Nat) ∧ (0 : Int) ≤ (choose (lookR (routesV (x, x_1, x_2) (List.getD ns (Int.toNat (IntKind.wrap IntKind.i64 ((↑(List.length ns) : Int) - (1 : Int)))) default) x_3) x_6).2.2
     (List.getD x (Int.toNat (List.getD ns (Int.toNat (IntKind.wrap IntKind.i64 ((↑(List.length ns) : Int) - (1 : Int)))) default)) default).2.2.2.2.2.2.2.2.2.2.2.2.2.2 (x_5, x_6, x_7, x_8, x_9) (0 : Int)
     (↑(List.length (lookR (routesV (x, x_1, x_2) (List.getD ns (Int.toNat (IntKind.wrap IntKind.i64 ((↑(List.length ns) : Int) - (1 : Int)))) default) x_3) x_6).2.1) : Int)).1 ∧ (choose (lookR (routesV
     (x, x_1, x_2) (List.getD ns (Int.toNat (IntKind.wrap IntKind.i64 ((↑(List.length ns) : Int) - (1 : Int)))) default) x_3) x_6).2.2 (List.getD x (Int.toNat (List.getD ns (Int.toNat (IntKind.wrap
     IntKind.i64 ((↑(List.length ns) : Int) - (1 : Int)))) default)) default).2.2.2.2.2.2.2.2.2.2.2.2.2.2 (x_5, x_6, x_7, x_8, x_9) (0 : Int) (↑(List.length (lookR (routesV (x, x_1, x_2) (List.getD ns
     (Int.toNat (IntKind.wrap IntKind.i64 ((↑(List.length ns) : Int) - (1 : Int)))) default) x_3) x_6).2.1) : Int)).1 < (↑(List.length (lookR (routesV (x, x_1, x_2) (List.getD ns (Int.toNat (IntKind.wrap
     IntKind.i64 ((↑(List.length ns) : Int) - (1 : Int)))) default) x_3) x_6).2.1) : Int) ∧ (List.length ns + List.length [otherV x_1 (List.getD (lookR (routesV (x, x_1, x_2) (List.getD ns (Int.toNat
     (IntKind.wrap IntKind.i64 ((↑(List.length ns) : Int) - (1 : Int)))) default) x_3) x_6).2.1 (Int.toNat (choose (lookR (routesV (x, x_1, x_2) (List.getD ns (Int.toNat (IntKind.wrap IntKind.i64
     ((↑(List.length ns) : Int) - (1 : Int)))) default) x_3) x_6).2.2 (List.getD x (Int.toNat (List.getD ns (Int.toNat (IntKind.wrap IntKind.i64 ((↑(List.length ns) : Int) - (1 : Int)))) default))
     default).2.2.2.2.2.2.2.2.2.2.2.2.2.2 (x_5, x_6, x_7, x_8, x_9) (0 : Int) (↑(List.length (lookR (routesV (x, x_1, x_2) (List.getD ns (Int.toNat (IntKind.wrap IntKind.i64 ((↑(List.length ns) : Int) - (1
     : Int)))) default) x_3) x_6).2.1) : Int)).1) default) (List.getD ns (Int.toNat (IntKind.wrap IntKind.i64 ((↑(List.length ns) : Int) - (1 : Int)))) default)]) * (8 : Nat) ≤ (140737488355328 : Nat) ∧ ∃
     (ns_1 : List Int), ∃ (ls_1 : List Int), ∃ (e_1 : Int), TI (x, x_1, x_2) x_3 x_4 (x_5, x_6, x_7, x_8, x_9) (ns_1, ls_1, e_1) ∧ (((2 : Nat) * ((255 : Nat) - List.length ls_1) + if e_1 = (0 : Int) then
     (1 : Nat) else (0 : Nat)) < (2 : Nat) * ((255 : Nat) - List.length ls) + if e = (0 : Int) then (1 : Nat) else (0 : Nat)) ∧ x_3 = x_3 ∧ x = x ∧ x_1 = x_1 ∧ x_2 = x_2 ∧ x_5 = x_5 ∧ x_6 = x_6 ∧ x_7 = x_7
     ∧ x_8 = x_8 ∧ x_9 = x_9 ∧ (0 : Int) = (0 : Int) ∧ e = e_1 ∧ ns ++ [otherV x_1 (List.getD (lookR (routesV (x, x_1, x_2) (List.getD ns (Int.toNat (IntKind.wrap IntKind.i64 ((↑(List.length ns) : Int) -
     (1 : Int)))) default) x_3) x_6).2.1 (Int.toNat (choose (lookR (routesV (x, x_1, x_2) (List.getD ns (Int.toNat (IntKind.wrap IntKind.i64 ((↑(List.length ns) : Int) - (1 : Int)))) default) x_3) x_6).2.2
     (List.getD x (Int.toNat (List.getD ns (Int.toNat (IntKind.wrap IntKind.i64 ((↑(List.length ns) : Int) - (1 : Int)))) default)) default).2.2.2.2.2.2.2.2.2.2.2.2.2.2 (x_5, x_6, x_7, x_8, x_9) (0 : Int)
     (↑(List.length (lookR (routesV (x, x_1, x_2) (List.getD ns (Int.toNat (IntKind.wrap IntKind.i64 ((↑(List.length ns) : Int) - (1 : Int)))) default) x_3) x_6).2.1) : Int)).1) default) (List.getD ns
     (Int.toNat (IntKind.wrap IntKind.i64 ((↑(List.length ns) : Int) - (1 : Int)))) default)] = ns_1 ∧ ls ++ [List.getD (lookR (routesV (x, x_1, x_2) (List.getD ns (Int.toNat (IntKind.wrap IntKind.i64
     ((↑(List.length ns) : Int) - (1 : Int)))) default) x_3) x_6).2.1 (Int.toNat (choose (lookR (routesV (x, x_1, x_2) (List.getD ns (Int.toNat (IntKind.wrap IntKind.i64 ((↑(List.length ns) : Int) - (1 :
     Int)))) default) x_3) x_6).2.2 (List.getD x (Int.toNat (List.getD ns (Int.toNat (IntKind.wrap IntKind.i64 ((↑(List.length ns) : Int) - (1 : Int)))) default)) default).2.2.2.2.2.2.2.2.2.2.2.2.2.2 (x_5,
     x_6, x_7, x_8, x_9) (0 : Int) (↑(List.length (lookR (routesV (x, x_1, x_2) (List.getD ns (Int.toNat (IntKind.wrap IntKind.i64 ((↑(List.length ns) : Int) - (1 : Int)))) default) x_3) x_6).2.1) :
     Int)).1) default] = ls_1 ∧ True) ((0 : Int) ≤ (0 : Int) ∧ (0 : Int) < (↑(List.length (lookR (routesV (x, x_1, x_2) (List.getD ns (Int.toNat (IntKind.wrap IntKind.i64 ((↑(List.length ns) : Int) - (1 :
     Int)))) default) x_3) x_6).2.1) : Int) ∧ (List.length ls + List.length [List.getD (lookR (routesV (x, x_1, x_2) (List.getD ns (Int.toNat (IntKind.wrap IntKind.i64 ((↑(List.length ns) : Int) - (1 :
     Int)))) default) x_3) x_6).2.1 (Int.toNat (0 : Int)) default]) * (8 : Nat) ≤ (140737488355328 : Nat) ∧ (0 : Int) ≤ (0 : Int) ∧ (0 : Int) < (↑(List.length (lookR (routesV (x, x_1, x_2) (List.getD ns
     (Int.toNat (IntKind.wrap IntKind.i64 ((↑(List.length ns) : Int) - (1 : Int)))) default) x_3) x_6).2.1) : Int) ∧ (List.length ns + List.length [otherV x_1 (List.getD (lookR (routesV (x, x_1, x_2)
     (List.getD ns (Int.toNat (IntKind.wrap IntKind.i64 ((↑(List.length ns) : Int) - (1 : Int)))) default) x_3) x_6).2.1 (Int.toNat (0 : Int)) default) (List.getD ns (Int.toNat (IntKind.wrap IntKind.i64
     ((↑(List.length ns) : Int) - (1 : Int)))) default)]) * (8 : Nat) ≤ (140737488355328 : Nat) ∧ ∃ (ns_1 : List Int), ∃ (ls_1 : List Int), ∃ (e_1 : Int), TI (x, x_1, x_2) x_3 x_4 (x_5, x_6, x_7, x_8, x_9)
     (ns_1, ls_1, e_1) ∧ (((2 : Nat) * ((255 : Nat) - List.length ls_1) + if e_1 = (0 : Int) then (1 : Nat) else (0 : Nat)) < (2 : Nat) * ((255 : Nat) - List.length ls) + if e = (0 : Int) then (1 : Nat)
     else (0 : Nat)) ∧ x_3 = x_3 ∧ x = x ∧ x_1 = x_1 ∧ x_2 = x_2 ∧ x_5 = x_5 ∧ x_6 = x_6 ∧ x_7 = x_7 ∧ x_8 = x_8 ∧ x_9 = x_9 ∧ (0 : Int) = (0 : Int) ∧ e = e_1 ∧ ns ++ [otherV x_1 (List.getD (lookR (routesV
     (x, x_1, x_2) (List.getD ns (Int.toNat (IntKind.wrap IntKind.i64 ((↑(List.length ns) : Int) - (1 : Int)))) default) x_3) x_6).2.1 (Int.toNat (0 : Int)) default) (List.getD ns (Int.toNat (IntKind.wrap
     IntKind.i64 ((↑(List.length ns) : Int) - (1 : Int)))) default)] = ns_1 ∧ ls ++ [List.getD (lookR (routesV (x, x_1, x_2) (List.getD ns (Int.toNat (IntKind.wrap IntKind.i64 ((↑(List.length ns) : Int) -
     (1 : Int)))) default) x_3) x_6).2.1 (Int.toNat (0 : Int)) default] = ls_1 ∧ True))))))) ((ns, ls, e) = traceV (x, x_1, x_2) x_3 x_4 (x_5, x_6, x_7, x_8, x_9)) := by
  rintro ns0 ls0 hs at' who a b c e f - ⟨W, w0, w1⟩
  refine ⟨⟨_, _, _, TI.start w0 (by show who < (ns0.length : Int); omega), (by repeat' first | exact trivial | refine ⟨trivial, ?_⟩ | refine ⟨(by with_reducible rfl), ?_⟩ | refine ⟨w64 (by omega) (by omega), ?_⟩ | refine ⟨rfl, ?_⟩)⟩, ?_⟩
  rintro ns ls e1 I
  refine ifP_split (fun h => ?_) (fun h => I.done (of_decide_eq_false h))
  have h := of_decide_eq_true h
  subst h
  have hl := I.l
  have hm := I.m
  dsimp only at hl hm
  rw [w64 (n := (ns.length : Int) - 1) (by omega) (by omega), lastI_eq]
  have hr := I.r _ (lastI_mem (ns := ns) (by omega))
  have eS : stepW (ns0, ls0, hs) at' (a, b, c, e, f) (ns, ls, 0) = stepR1 (ns0, ls0, hs) (a, b, c, e, f) (lastI ns) (ns0.getD (lastI ns).toNat default) (lookR (routesV (ns0, ls0, hs) (lastI ns) at') b) (lookB (routesV (ns0, ls0, hs) (lastI ns) at') b) (ns, ls, 0) := rfl
  have tb := routesV_ok W.o (lastI ns) at'
  have nx := W.x (lastI ns) at' hr.1 hr.2
  have lm := look_mem (l := routesV (ns0, ls0, hs) (lastI ns) at') (a := b)
  generalize lastI ns = q at *
  generalize routesV (ns0, ls0, hs) q at' = T at *
  generalize lookR T b = r at *
  generalize lookB T b = ok at *
  generalize ns0.getD q.toNat default = X at *
  unfold stepR1 at eS
  refine ⟨by omega, by omega, hr.1, hr.2, W.o, tb.s, tb.okL (by decide), ?_⟩
  refine ifP_split (fun h => ?_) (fun h => ?_)
  · rw [if_pos h] at eS
    exact ⟨_, _, _, I.stop (by decide) eS, by simp, (by repeat' first | exact trivial | refine ⟨trivial, ?_⟩ | refine ⟨(by with_reducible rfl), ?_⟩ | refine ⟨w64 (by omega) (by omega), ?_⟩ | refine ⟨rfl, ?_⟩)⟩
  rw [if_neg (by rw [h]; decide)] at eS
  (repeat (intro (b_ : Bool) (hb_ : b_ = _); (repeat refine ⟨(by first | (simp; done) | (rw [hb_]; simp; done) | (rw [hb_]; simp; omega) | (rw [hb_]; simp; intros; omega) | (rw [hb_]; simp +contextual; done)), ?_⟩); subst hb_))
  refine ifP_split (fun h1 => ?_) (fun h1 => ?_)
  · have h1 : nHost X = true ∧ 0 < ls.length := by
      rw [show X.2.2.2.1 = nHost X from rfl] at h1
      cases hh : nHost X <;> rw [hh] at h1
      · cases h1
      · exact ⟨rfl, by have := of_decide_eq_true h1; omega⟩
    rw [if_pos h1] at eS
    exact ⟨_, _, _, I.stop (by decide) eS, by simp, (by repeat' first | exact trivial | refine ⟨trivial, ?_⟩ | refine ⟨(by with_reducible rfl), ?_⟩ | refine ⟨w64 (by omega) (by omega), ?_⟩ | refine ⟨rfl, ?_⟩)⟩
  have h1 : ¬ (nHost X = true ∧ 0 < ls.length) := by
    rintro ⟨k1, k2⟩
    rw [show X.2.2.2.1 = nHost X from rfl, k1, cond_true, decide_eq_true (by omega)] at h1
    cases h1
  rw [if_neg h1] at eS
  (repeat (intro (b_ : Bool) (hb_ : b_ = _); (repeat refine ⟨(by first | (simp; done) | (rw [hb_]; simp; done) | (rw [hb_]; simp; omega) | (rw [hb_]; simp; intros; omega) | (rw [hb_]; simp +contextual; done)), ?_⟩); subst hb_))
  refine ifP_split (fun h2 => ?_) (fun h2 => ?_)
  · have h2 : ok = false ∨ r.2.1.length = 0 := by
      cases ok
      · exact .inl rfl
      · exact .inr (by have := of_decide_eq_true h2; omega)
    rw [if_pos h2] at eS
    exact ⟨_, _, _, I.stop (by decide) eS, by simp, (by repeat' first | exact trivial | refine ⟨trivial, ?_⟩ | refine ⟨(by with_reducible rfl), ?_⟩ | refine ⟨w64 (by omega) (by omega), ?_⟩ | refine ⟨rfl, ?_⟩)⟩
  have h2 : ¬ (ok = false ∨ r.2.1.length = 0) := by
    rintro (k | k)
    · rw [k] at h2; cases h2
    · rw [decide_eq_true (show (r.2.1.length : Int) = 0 by omega)] at h2
      cases ok <;> cases h2
  rw [if_neg h2] at eS
  (repeat (intro (b_ : Bool) (hb_ : b_ = _); (repeat refine ⟨(by first | (simp; done) | (rw [hb_]; simp; done) | (rw [hb_]; simp; omega) | (rw [hb_]; simp; intros; omega) | (rw [hb_]; simp +contextual; done)), ?_⟩); subst hb_))
  rw [band_d]
  refine ifP_split (fun h3 => ?_) (fun h3 => ?_)
  · have h3 := of_decide_eq_true h3
    rw [if_pos (show 1 < r.2.1.length ∧ r.2.2 = 3 from ⟨by omega, h3.2⟩)] at eS
    exact ⟨_, _, _, I.stop (by decide) eS, by simp, (by repeat' first | exact trivial | refine ⟨trivial, ?_⟩ | refine ⟨(by with_reducible rfl), ?_⟩ | refine ⟨w64 (by omega) (by omega), ?_⟩ | refine ⟨rfl, ?_⟩)⟩
  have h3 := of_decide_eq_false h3
  rw [if_neg (show ¬ (1 < r.2.1.length ∧ r.2.2 = 3) from fun k => h3 ⟨by omega, k.2⟩)] at eS
  refine ifP_split (fun h4 => ?_) (fun h4 => ?_)
  · have h4 := of_decide_eq_true h4
    rw [if_pos (show 255 ≤ ls.length by omega)] at eS
    exact ⟨_, _, _, I.stop (by decide) eS, by simp, (by repeat' first | exact trivial | refine ⟨trivial, ?_⟩ | refine ⟨(by with_reducible rfl), ?_⟩ | refine ⟨w64 (by omega) (by omega), ?_⟩ | refine ⟨rfl, ?_⟩)⟩
  have h4 := of_decide_eq_false h4
  rw [if_neg (show ¬ 255 ≤ ls.length by omega)] at eS
  have hok : ok = true := by
    cases ok
    · exact absurd (.inl rfl) h2
    · rfl
  have hlen : 0 < r.2.1.length := by
    have : ¬ r.2.1.length = 0 := fun k => h2 (.inr k)
    omega
  have pr := pick_range (r := r) (seed := nSeed X) (k := (a, b, c, e, f)) hlen
  have nk := nx r (lm hok) _ (getD_mem pr.1 pr.2)
  have goal := I.go (by omega) nk eS
  unfold pickV at goal pr
  refine ifP_split (fun h5 => ?_) (fun h5 => ?_)
  · have h5 := of_decide_eq_true h5
    rw [if_pos (show 1 < r.2.1.length by omega)] at goal pr
    exact ⟨pr.1, pr.2, by simp only [List.length_singleton]; omega, pr.1, pr.2, by simp only [List.length_singleton]; omega, _, _, _, goal, Nat.add_lt_add_right (by simp only [List.length_append, List.length_singleton]; omega) _, (by repeat' first | exact trivial | refine ⟨trivial, ?_⟩ | refine ⟨(by with_reducible rfl), ?_⟩ | refine ⟨w64 (by omega) (by omega), ?_⟩ | refine ⟨rfl, ?_⟩)⟩
  · have h5 := of_decide_eq_false h5
    rw [if_neg (show ¬ 1 < r.2.1.length by omega)] at goal pr
    exact ⟨pr.1, pr.2, by simp only [List.length_singleton]; omega, pr.1, pr.2, by simp only [List.length_singleton]; omega, _, _, _, goal, Nat.add_lt_add_right (by simp only [List.length_append, List.length_singleton]; omega) _, (by repeat' first | exact trivial | refine ⟨trivial, ?_⟩ | refine ⟨(by with_reducible rfl), ?_⟩ | refine ⟨w64 (by omega) (by omega), ?_⟩ | refine ⟨rfl, ?_⟩)⟩
theorem ok_truth_Trace : SpecOK Try.prog GL 42 ct_truth_Trace.spec := Ct.okH _ Try.func42 (by kernel_rfl) (withSpec_ok (withSpec_ok (withSpec_ok (withSpec_ok (withSpec_ok (withSpec_ok noSpecs_ok ok_topology_Routes) ok_fib_Lookup) ok_node_Owns) ok_truth_several) ok_balance_Choose) ok_topology_Other) hmix an_truth_Trace (hideMp (by kernel_rfl) vc_truth_Trace)
end Go.RS


/- Netr: routes of drawn networks: what holds of them at any time. -/
namespace Go.RS
open Go.SX Go.Proofs
set_option maxRecDepth 100000
set_option linter.unusedVariables false

theorem nodup_len {α : Type} [DecidableEq α] : ∀ {l m : List α}, l.Nodup → (∀ x ∈ l, x ∈ m) → l.length ≤ m.length
  | [], m, _, _ => by simp
  | x :: l, m, h, hs => by
    have hx := hs x List.mem_cons_self
    have hn := List.nodup_cons.1 h
    have := nodup_len (l := l) (m := m.erase x) hn.2 fun y hy => (List.mem_erase_of_ne (fun e : y = x => hn.1 (e ▸ hy))).2 (hs y (List.mem_cons_of_mem _ hy))
    rw [List.length_erase_of_mem hx] at this
    have hp := List.length_pos_of_mem hx
    rw [List.length_cons]; omega
theorem foldl_inv {α β : Type} (I : β → Prop) (f : β → α → β) : ∀ {l : List α} {b : β}, I b → (∀ x ∈ l, ∀ b, I b → I (f b x)) → I (l.foldl f b)
  | [], b, h, _ => h
  | x :: l, b, h, hf => foldl_inv I f (l := l) (hf x List.mem_cons_self b h) fun y hy => hf y (List.mem_cons_of_mem _ hy)
theorem mem_insN {k x : Int} : ∀ {l : List Int}, x ∈ insN k l → x = k ∨ x ∈ l
  | [], h => by simp [insN] at h; exact .inl h
  | y :: r, h => by
    rw [insN] at h
    split at h
    · rcases List.mem_cons.1 h with e | h
      · exact .inl e
      · exact .inr h
    · rcases List.mem_cons.1 h with e | h
      · exact .inr (e ▸ List.mem_cons_self)
      · rcases mem_insN h with e | h
        · exact .inl e
        · exact .inr (List.mem_cons_of_mem _ h)
theorem insN_pw {k : Int} : ∀ {l : List Int}, l.Pairwise (· < ·) → k ∉ l → (insN k l).Pairwise (· < ·)
  | [], _, _ => by rw [insN]; exact List.pairwise_singleton _ _
  | y :: r, h, hk => by
    have h := List.pairwise_cons.1 h
    rw [insN]
    split
    · rename_i hy
      refine List.pairwise_cons.2 ⟨fun z hz => ?_, List.pairwise_cons.2 h⟩
      rcases List.mem_cons.1 hz with rfl | hz
      · exact hy
      · exact Int.lt_trans hy (h.1 z hz)
    · rename_i hy
      have : k ≠ y := fun e => hk (e ▸ List.mem_cons_self)
      refine List.pairwise_cons.2 ⟨fun z hz => ?_, insN_pw h.2 fun e => hk (List.mem_cons_of_mem _ e)⟩
      rcases mem_insN hz with rfl | hz
      · omega
      · exact h.1 z hz
theorem insN_ne (k : Int) (l : List Int) : insN k l ≠ [] := by
  intro e
  have := insN_len k l
  rw [e] at this; simp at this
theorem mem_putL {l : List Rt} {r x : Rt} (h : x ∈ putL l r) : x = r ∨ x ∈ l := by
  unfold putL at h
  rcases List.mem_append.1 h with h | h
  · exact .inr (List.mem_filter.1 h).1
  · rcases List.mem_cons.1 h with e | h
    · exact .inl e
    · exact .inr (List.mem_filter.1 h).1

/-- A link's number that is one of a node. -/
def lnk (ls : List Link) (i k : Int) : Prop := 0 ≤ k ∧ k < ls.length ∧ (lA (ls.getD k.toNat default) = i ∨ lB (ls.getD k.toNat default) = i)
structure rtOK (ls : List Link) (aa : List Int) (i : Int) (r : Rt) : Prop where
  len : r.1.2 = 32
  mem : r.1.1 ∈ aa
  ne : r.2.1 ≠ []
  pw : r.2.1.Pairwise (· < ·)
  ln : ∀ k ∈ r.2.1, lnk ls i k
  w0 : 1 ≤ r.2.2
  w1 : r.2.2 ≤ 3
def tabOK (ls : List Link) (aa : List Int) (i : Int) (t : List Rt) : Prop := sortedR t ∧ ∀ r ∈ t, rtOK ls aa i r
theorem tabOK_len {ls : List Link} {aa : List Int} {i : Int} {t : List Rt} (h : tabOK ls aa i t) : t.length ≤ aa.length := by
  have hn : (t.map fun r => r.1.1).Nodup := by
    refine List.Pairwise.map (R := fun a b : Rt => a.1.1 ≠ b.1.1) _ (fun a b h => h) (h.1.imp_of_mem fun {a b} ha hb k => ?_)
    have e1 := (h.2 a ha).len
    have e2 := (h.2 b hb).len
    unfold plt at k
    omega
  have := nodup_len hn (m := aa) fun x hx => by
    obtain ⟨r, hr, rfl⟩ := List.mem_map.1 hx
    exact (h.2 r hr).mem
  simpa using this
theorem rtOK_len {ls : List Link} {aa : List Int} {i : Int} {r : Rt} (h : rtOK ls aa i r) : r.2.1.length ≤ ls.length := by
  have hn : r.2.1.Nodup := h.pw.imp fun k => by omega
  have := nodup_len hn (m := (List.range ls.length).map fun (n : Nat) => (n : Int)) fun x hx => by
    obtain ⟨k0, k1, _⟩ := h.ln x hx
    exact List.mem_map.2 ⟨x.toNat, List.mem_range.2 (by omega), by omega⟩
  simpa using this
theorem tabOK_route {ls : List Link} {aa : List Int} {i : Int} {t : List Rt} (h : tabOK ls aa i t) {p : Pfx} {k way : Int} (hp : p.2 = 32) (ha : p.1 ∈ aa) (hk : lnk ls i k) (h0 : 1 ≤ way) (h1 : way ≤ 3) :
    tabOK ls aa i (routeL t p k way) := by
  have put : ∀ r : Rt, rtOK ls aa i r → tabOK ls aa i (putL t r) := fun r hr =>
    ⟨putL_sorted h.1, fun x hx => by
      rcases mem_putL hx with rfl | hx
      · exact hr
      · exact h.2 x hx⟩
  unfold routeL
  split
  · rename_i hf
    have hx : t.getD (rFind t p) default ∈ t := by
      have := getD_mem (xs := t) (i := (rFind t p : Nat)) (by omega) (by omega)
      simpa using this
    have hx := h.2 _ hx
    split
    · exact h
    · rename_i hn
      exact put _ ⟨hp, ha, insN_ne _ _, insN_pw hx.pw hn, fun y hy => by
        rcases mem_insN hy with rfl | hy
        · exact hk
        · exact hx.ln y hy, hx.w0, hx.w1⟩
  · exact put _ ⟨hp, ha, by simp, List.pairwise_singleton _ _, fun y hy => by rw [List.mem_singleton.1 hy]; exact hk, h0, h1⟩

/-- Nodes that agree with others but for their routes, which are right. -/
structure RI (ls : List Link) (aa : List Int) (ns0 ns : List Node) : Prop where
  n : ns.length = ns0.length
  e : ∀ i : Nat, i < ns0.length → setRoutes (ns.getD i default) [] = setRoutes (ns0.getD i default) []
  t : ∀ i : Nat, i < ns0.length → tabOK ls aa i (nRoutes (ns.getD i default))
theorem RI.ports {ls aa ns0 ns} (h : RI ls aa ns0 ns) {i : Nat} (hi : i < ns0.length) : nPorts (ns.getD i default) = nPorts (ns0.getD i default) := by
  have := congrArg nPorts (h.e i hi); exact this
theorem RI.host {ls aa ns0 ns} (h : RI ls aa ns0 ns) {i : Nat} (hi : i < ns0.length) : nHost (ns.getD i default) = nHost (ns0.getD i default) := by
  have := congrArg nHost (h.e i hi); exact this
theorem RI.route {ls aa ns0 ns} (h : RI ls aa ns0 ns) {a : Int} {p : Pfx} {k way : Int} (a0 : 0 ≤ a) (a1 : a < ns0.length) (hp : p.2 = 32) (ha : p.1 ∈ aa) (hk : lnk ls a k) (h0 : 1 ≤ way) (h1 : way ≤ 3) :
    RI ls aa ns0 (routeN ns a p k way) := by
  have hl : a.toNat < ns.length := by have := h.n; omega
  unfold routeN
  refine ⟨by rw [List.length_set]; exact h.n, fun i hi => ?_, fun i hi => ?_⟩
  · by_cases e : a.toNat = i
    · subst e
      rw [getD_set hl]; exact h.e _ hi
    · rw [getD_setne e]; exact h.e _ hi
  · by_cases e : a.toNat = i
    · subst e
      rw [getD_set hl]
      have := tabOK_route (h.t _ hi) (p := p) (k := k) (way := way) hp ha (by rwa [show ((a.toNat : Nat) : Int) = a by omega]) h0 h1
      exact this
    · rw [getD_setne e]; exact h.t _ hi
theorem RI.step {ls aa ns0 ns} (h : RI ls aa ns0 ns) {d : List Int} {to : Int} {p : Pfx} {plain : Bool} {k way a b : Int} (a0 : 0 ≤ a) (a1 : a < ns0.length) (hp : p.2 = 32) (ha : p.1 ∈ aa) (hk : lnk ls a k) (h0 : 1 ≤ way) (h1 : way ≤ 3) :
    RI ls aa ns0 (stepE d to p plain k way ns a b) := by
  unfold stepE
  split
  · exact h
  · split
    · exact h
    · exact h.route a0 a1 hp ha hk h0 h1
def goodEnds (n : Nat) (ls : List Link) : Prop := ∀ l ∈ ls, 0 ≤ l.1 ∧ l.1 < n ∧ 0 ≤ l.2.1 ∧ l.2.1 < n
theorem goodEnds.at' {n : Nat} {ls : List Link} (hg : goodEnds n ls) {k : Nat} (hk : k < ls.length) : (0 ≤ lA (ls.getD k default) ∧ lA (ls.getD k default) < n) ∧ 0 ≤ lB (ls.getD k default) ∧ lB (ls.getD k default) < n := by
  have hx : ls.getD k default ∈ ls := by
    have := getD_mem (xs := ls) (i := (k : Nat)) (by omega) (by omega)
    simpa using this
  obtain ⟨q1, q2, q3, q4⟩ := hg _ hx
  exact ⟨⟨q1, q2⟩, q3, q4⟩
theorem lnkA {ls : List Link} {k : Nat} (hk : k < ls.length) : lnk ls (lA (ls.getD k default)) k := ⟨by omega, by omega, .inl (by simp)⟩
theorem lnkB {ls : List Link} {k : Nat} (hk : k < ls.length) : lnk ls (lB (ls.getD k default)) k := ⟨by omega, by omega, .inr (by simp)⟩
theorem RI.stepK {ls aa ns0 ns} (h : RI ls aa ns0 ns) (hg : goodEnds ns0.length ls) {d : List Int} {to : Int} {p : Pfx} {plain : Bool} {way : Int} {k : Nat} (hk : k < ls.length) (hp : p.2 = 32) (ha : p.1 ∈ aa) (h0 : 1 ≤ way) (h1 : way ≤ 3) :
    RI ls aa ns0 (stepK ls d to p plain way ns k) := by
  have hh := hg.at' hk
  unfold Go.RS.stepK
  exact (h.step hh.1.1 hh.1.2 hp ha (lnkA hk) h0 h1).step hh.2.1 hh.2.2 hp ha (lnkB hk) h0 h1
theorem RI.stepKs {ls aa ns0 ns} (h : RI ls aa ns0 ns) (hg : goodEnds ns0.length ls) {d : List Int} {to : Int} {p : Pfx} {plain : Bool} {way : Int} (hp : p.2 = 32) (ha : p.1 ∈ aa) (h0 : 1 ≤ way) (h1 : way ≤ 3) {n : Nat} (hn : n ≤ ls.length) :
    RI ls aa ns0 ((List.range n).foldl (Go.RS.stepK ls d to p plain way) ns) :=
  foldl_inv _ _ h fun k hk b hb => hb.stepK hg (by have := List.mem_range.1 hk; omega) hp ha h0 h1
theorem RI.stepP {ls aa ns0 ns} (h : RI ls aa ns0 ns) (hg : goodEnds ns0.length ls) {d : List Int} {to : Int} {plain : Bool} {way : Int} {q : Port} (ha : q.1 ∈ aa) (h0 : 1 ≤ way) (h1 : way ≤ 3) :
    RI ls aa ns0 (stepP ls d to plain way ns q) :=
  h.stepKs (p := (q.1, 32)) hg rfl ha h0 h1 (Nat.le_refl _)
def allA (ns : List Node) : List Int := ns.flatMap fun x => (nPorts x).map (·.1)
theorem mem_allA {ns : List Node} {i : Nat} (hi : i < ns.length) {q : Port} (hq : q ∈ nPorts (ns.getD i default)) : q.1 ∈ allA ns := by
  have hx : ns.getD i default ∈ ns := by
    have := getD_mem (xs := ns) (i := (i : Nat)) (by omega) (by omega)
    simpa using this
  exact List.mem_flatMap.2 ⟨_, hx, List.mem_map.2 ⟨q, hq, rfl⟩⟩
theorem RI.stepPs {ls ns0 ns} (h : RI ls (allA ns0) ns0 ns) (hg : goodEnds ns0.length ls) {d : List Int} {to : Int} {plain : Bool} {way : Int} (h0 : 1 ≤ way) (h1 : way ≤ 3) {l : List Port} (hl : ∀ q ∈ l, q.1 ∈ allA ns0) :
    RI ls (allA ns0) ns0 (l.foldl (Go.RS.stepP ls d to plain way) ns) :=
  foldl_inv _ _ h fun q hq b hb => hb.stepP hg (hl q hq) h0 h1
theorem wayC_ok {c : Codes} (h : okB c) : okB (wayC c).2 ∧ 1 ≤ (wayC c).1 ∧ (wayC c).1 ≤ 3 := by
  have k := nextV_ok h 3
  have k2 := nextV_ok k.1 3
  have := nextV_lt h (n := 3) (by omega)
  unfold wayC
  split
  · refine ⟨k2.1, ?_⟩
    dsimp only
    split <;> omega
  · exact ⟨k.1, by dsimp only; omega, by dsimp only; omega⟩
theorem RI.stepT {ls ns0} {s : List Node × Codes} (h : RI ls (allA ns0) ns0 s.1 ∧ okB s.2) (hg : goodEnds ns0.length ls) {plain : Bool} {to : Nat} (ht : to < ns0.length) :
    RI ls (allA ns0) ns0 (stepT ls plain s to).1 ∧ okB (stepT ls plain s to).2 := by
  have w := wayC_ok h.2
  unfold Go.RS.stepT
  refine ⟨h.1.stepPs hg w.2.1 w.2.2 fun q hq => ?_, w.1⟩
  rw [h.1.ports ht] at hq
  exact mem_allA ht hq
theorem RI.stepTs {ls ns0} {s : List Node × Codes} (h : RI ls (allA ns0) ns0 s.1 ∧ okB s.2) (hg : goodEnds ns0.length ls) {plain : Bool} {n : Nat} (hn : n ≤ ns0.length) :
    RI ls (allA ns0) ns0 ((List.range n).foldl (Go.RS.stepT ls plain) s).1 ∧ okB ((List.range n).foldl (Go.RS.stepT ls plain) s).2 :=
  foldl_inv (fun s : List Node × Codes => RI ls (allA ns0) ns0 s.1 ∧ okB s.2) _ h fun k hk b hb => RI.stepT hb hg (by have := List.mem_range.1 hk; omega)
theorem RI.start {ls : List Link} {ns0 : List Node} (h : ∀ x ∈ ns0, nRoutes x = []) : RI ls (allA ns0) ns0 ns0 := by
  refine ⟨rfl, fun _ _ => rfl, fun i hi => ?_⟩
  have hx : ns0.getD i default ∈ ns0 := by
    have := getD_mem (xs := ns0) (i := (i : Nat)) (by omega) (by omega)
    simpa using this
  rw [h _ hx]
  exact ⟨List.Pairwise.nil, fun r hr => by cases hr⟩
end Go.RS


/- Netg: how drawn networks grow: what holds of their nodes and links. -/
namespace Go.RS
open Go.SX Go.Proofs
set_option maxRecDepth 100000
set_option linter.unusedVariables false

def port1 (i : Int) (k : Nat) (l : Link) : List Port := (if lA l = i then [(baseA k + 1, (k : Int))] else []) ++ (if lB l = i then [(baseA k + 2, (k : Int))] else [])
/-- The ports of node 'i' for links that are numbered from 'k' on. -/
def portsF (i : Int) : Nat → List Link → List Port
  | _, [] => []
  | k, l :: r => port1 i k l ++ portsF i (k + 1) r
theorem portsF_snoc (i : Int) (l : Link) : ∀ (k : Nat) (ls : List Link), portsF i k (ls ++ [l]) = portsF i k ls ++ port1 i (k + ls.length) l
  | k, [] => by simp [portsF]
  | k, x :: r => by
    rw [List.cons_append, portsF, portsF_snoc i l (k + 1) r, portsF, List.append_assoc, List.length_cons, show k + 1 + r.length = k + (r.length + 1) by omega]
theorem port1_len (i : Int) (k : Nat) (l : Link) : (port1 i k l).length ≤ 2 := by
  unfold port1
  split <;> split <;> simp
theorem portsF_len (i : Int) : ∀ (k : Nat) (ls : List Link), (portsF i k ls).length ≤ 2 * ls.length
  | k, [] => by simp [portsF]
  | k, x :: r => by
    have := portsF_len i (k + 1) r
    have := port1_len i k x
    rw [portsF, List.length_append, List.length_cons]; omega
theorem portsF_none {i : Int} : ∀ {k : Nat} {ls : List Link}, (∀ x ∈ ls, lA x ≠ i ∧ lB x ≠ i) → portsF i k ls = []
  | k, [], _ => rfl
  | k, x :: r, h => by
    have hx := h x List.mem_cons_self
    rw [portsF, portsF_none fun y hy => h y (List.mem_cons_of_mem _ hy), port1, if_neg hx.1, if_neg hx.2]; rfl
theorem mem_portsF {i : Int} {q : Port} : ∀ {k : Nat} {ls : List Link}, q ∈ portsF i k ls ↔ ∃ j, j < ls.length ∧ ((lA (ls.getD j default) = i ∧ q = (baseA (k + j : Nat) + 1, ((k + j : Nat) : Int))) ∨ (lB (ls.getD j default) = i ∧ q = (baseA (k + j : Nat) + 2, ((k + j : Nat) : Int))))
  | k, [] => by simp [portsF]
  | k, x :: r => by
    rw [portsF, List.mem_append, mem_portsF (k := k + 1) (ls := r)]
    constructor
    · rintro (h | ⟨j, hj, h⟩)
      · refine ⟨0, by simp, ?_⟩
        unfold port1 at h
        rcases List.mem_append.1 h with h | h
        · split at h
          · rename_i e
            exact .inl ⟨e, by simpa using h⟩
          · cases h
        · split at h
          · rename_i e
            exact .inr ⟨e, by simpa using h⟩
          · cases h
      · refine ⟨j + 1, by rw [List.length_cons]; omega, ?_⟩
        rw [List.getD_cons_succ, show k + (j + 1) = k + 1 + j by omega]; exact h
    · rintro ⟨j, hj, h⟩
      cases j with
      | zero =>
        refine .inl ?_
        rw [List.getD_cons_zero] at h
        unfold port1
        rcases h with ⟨e, h⟩ | ⟨e, h⟩
        · rw [if_pos e]; exact List.mem_append.2 (.inl (by simpa using h))
        · rw [if_pos e]; exact List.mem_append.2 (.inr (by simpa using h))
      | succ j =>
        refine .inr ⟨j, by rw [List.length_cons] at hj; omega, ?_⟩
        rw [List.getD_cons_succ, show k + (j + 1) = k + 1 + j by omega] at h; exact h

theorem getD_app_lt {α : Type} [Inhabited α] {l m : List α} {i : Nat} (h : i < l.length) : (l ++ m).getD i default = l.getD i default := by
  rw [List.getD_eq_getElem?_getD, List.getElem?_append_left h, List.getD_eq_getElem?_getD]
theorem getD_app_eq {α : Type} [Inhabited α] {l : List α} {x : α} : (l ++ [x]).getD l.length default = x := by
  rw [List.getD_eq_getElem?_getD]; simp
theorem addPort_get {ns : List Node} {x : Int} {p : Port} (x0 : 0 ≤ x) {i : Nat} (hi : i < ns.length) :
    (addPort ns x p).getD i default = ((ns.getD i default).1 ++ (if x = i then [p] else []), (ns.getD i default).2) := by
  unfold addPort
  by_cases e : x = i
  · have : x.toNat = i := by omega
    rw [this, getD_set hi, if_pos e]
  · have : x.toNat ≠ i := by omega
    rw [getD_setne this, if_neg e, List.append_nil]
theorem addPort_len (ns : List Node) (x : Int) (p : Port) : (addPort ns x p).length = ns.length := by unfold addPort; exact List.length_set

structure GI (s : Scene) (nn nl : Nat) : Prop where
  n : s.1.1.length = nn
  l : s.1.2.1.length = nl
  h : s.1.2.2 = []
  c : okB s.2
  g : ∀ x ∈ s.1.2.1, (0 ≤ lA x ∧ lA x < nn) ∧ (0 ≤ lB x ∧ lB x < nn) ∧ lA x ≠ lB x ∧ (1 ≤ lDelay x ∧ lDelay x ≤ 20) ∧ lJitter x = 0 ∧ lLoss x = 0 ∧ 0 ≤ lSeed x ∧ lSeed x ≤ 255
  p : ∀ i : Nat, i < nn → nPorts (s.1.1.getD i default) = portsF i 0 s.1.2.1
  d : ∀ i : Nat, i < nn → ∃ host f sd, (s.1.1.getD i default).2 = (newNode i host f sd).2 ∧ (f = 64 ∨ f = 255 ∨ f = 128) ∧ 0 ≤ sd ∧ sd ≤ 255
theorem GI.node {s : Scene} {nn nl : Nat} (h : GI s nn nl) (host : Bool) : GI (nodeS s host) (nn + 1) nl := by
  have k3 := nextV_lt h.c (n := 3) (by omega)
  have c3 := (nextV_ok h.c 3).1
  have k4 := nextV_lt c3 (n := 256) (by omega)
  have c4 := (nextV_ok c3 256).1
  refine ⟨by simp only [nodeS, List.length_append, List.length_cons, List.length_nil, h.n], h.l, h.h, c4, fun x hx => ?_, fun i hi => ?_, fun i hi => ?_⟩
  · have := h.g x hx
    omega
  · by_cases e : i < nn
    · rw [show (nodeS s host).1.1.getD i default = s.1.1.getD i default from getD_app_lt (by rw [h.n]; exact e)]
      exact h.p i e
    · have e : i = s.1.1.length := by rw [h.n]; omega
      subst e
      rw [show (nodeS s host).1.1.getD s.1.1.length default = newNode s.1.1.length host _ _ from getD_app_eq]
      refine (portsF_none fun x hx => ?_).symm
      have := h.g x hx
      have := h.n
      omega
  · by_cases e : i < nn
    · rw [show (nodeS s host).1.1.getD i default = s.1.1.getD i default from getD_app_lt (by rw [h.n]; exact e)]
      exact h.d i e
    · have e : i = s.1.1.length := by rw [h.n]; omega
      subst e
      rw [show (nodeS s host).1.1.getD s.1.1.length default = newNode s.1.1.length host _ _ from getD_app_eq]
      refine ⟨host, _, _, rfl, ?_, k4.1, by omega⟩
      rcases (show (nextV s.2 3).1 = 0 ∨ (nextV s.2 3).1 = 1 ∨ (nextV s.2 3).1 = 2 by omega) with e | e | e <;> rw [e] <;> simp
theorem GI.link {s : Scene} {nn nl : Nat} (h : GI s nn nl) {a b : Int} (a0 : 0 ≤ a) (a1 : a < nn) (b0 : 0 ≤ b) (b1 : b < nn) (ne : a ≠ b) : GI (linkS s a b) nn (nl + 1) := by
  have k3 := nextV_lt h.c (n := 20) (by omega)
  have c3 := (nextV_ok h.c 20).1
  have k4 := nextV_lt c3 (n := 256) (by omega)
  have c4 := (nextV_ok c3 256).1
  refine ⟨by simp only [linkS, addPort_len, h.n], by simp only [linkS, List.length_append, List.length_cons, List.length_nil, h.l], h.h, c4, fun x hx => ?_, fun i hi => ?_, fun i hi => ?_⟩
  · rcases List.mem_append.1 hx with hx | hx
    · exact h.g x hx
    · rw [List.mem_singleton.1 hx]
      refine ⟨⟨a0, a1⟩, ⟨b0, b1⟩, ne, ?_, rfl, rfl, k4.1, ?_⟩
      · show 1 ≤ 1 + (nextV s.2 20).1 ∧ 1 + (nextV s.2 20).1 ≤ 20
        omega
      · show (nextV (nextV s.2 20).2 256).1 ≤ 255
        omega
  · have hp := h.p i hi
    unfold linkS
    dsimp only
    rw [addPort_get b0 (by rw [addPort_len, h.n]; exact hi), addPort_get a0 (by rw [h.n]; exact hi), portsF_snoc, ← hp, Nat.zero_add]
    simp only [nPorts, port1, lA, lB, List.append_assoc]
    rfl
  · unfold linkS
    dsimp only
    rw [addPort_get b0 (by rw [addPort_len, h.n]; exact hi), addPort_get a0 (by rw [h.n]; exact hi)]
    exact h.d i hi
theorem GI.codes {s : Scene} {nn nl : Nat} (h : GI s nn nl) {c : Codes} (hc : okB c) : GI (s.1, c) nn nl := ⟨h.n, h.l, h.h, hc, h.g, h.p, h.d⟩
theorem GI.start {c : Codes} (hc : okB c) : GI (([], [], []), c) 0 0 :=
  ⟨rfl, rfl, rfl, hc, fun x hx => (by cases hx), fun i hi => (by omega), fun i hi => (by omega)⟩
theorem GI.routes {s : Scene} {nn nl : Nat} (h : GI s nn nl) : ∀ x ∈ s.1.1, nRoutes x = [] := fun x hx => by
  obtain ⟨i, hi, e⟩ := List.mem_iff_getElem.1 hx
  obtain ⟨host, f, sd, hd, -⟩ := h.d i (by rw [← h.n]; exact hi)
  have : s.1.1.getD i default = x := by rw [List.getD_eq_getElem?_getD, List.getElem?_eq_getElem hi, e]; rfl
  rw [this] at hd
  show x.2.2.2.2.1 = []
  rw [hd]; rfl
theorem GI.plen {s : Scene} {nn nl : Nat} (h : GI s nn nl) : ∀ x ∈ s.1.1, x.1.length ≤ 2 * nl := fun x hx => by
  obtain ⟨i, hi, e⟩ := List.mem_iff_getElem.1 hx
  have hp := h.p i (by rw [← h.n]; exact hi)
  have : s.1.1.getD i default = x := by rw [List.getD_eq_getElem?_getD, List.getElem?_eq_getElem hi, e]; rfl
  rw [this] at hp
  have := portsF_len i 0 s.1.2.1
  rw [← hp, h.l] at this; exact this
theorem allA_len : ∀ {ns : List Node} {m : Nat}, (∀ x ∈ ns, x.1.length ≤ m) → (allA ns).length ≤ ns.length * m
  | [], m, _ => by simp [allA]
  | x :: r, m, h => by
    have k := allA_len (ns := r) (m := m) fun y hy => h y (List.mem_cons_of_mem _ hy)
    have hx := h x List.mem_cons_self
    unfold allA at k ⊢
    rw [List.flatMap_cons, List.length_append, List.length_map, List.length_cons, Nat.succ_mul]
    show (nPorts x).length + _ ≤ _
    have : (nPorts x).length ≤ m := hx
    omega
theorem GI.ends {s : Scene} {nn nl : Nat} (h : GI s nn nl) : goodEnds s.1.1.length s.1.2.1 := fun x hx => by
  have := h.g x hx
  rw [h.n]
  exact ⟨this.1.1, this.1.2, this.2.1.1, this.2.1.2⟩
/-- The chain. -/
theorem GI.chain {s : Scene} (h : GI s 1 0) : ∀ k : Nat, GI ((List.range k).foldl chainS s) (k + 1) k
  | 0 => h
  | k + 1 => by
    rw [List.range_succ, List.foldl_append]
    exact ((GI.chain h k).node false).link (by omega) (by omega) (by omega) (by omega) (by omega)
def lineN (c : Codes) : Int := 1 + (nextV (nodeS (([], [], []), c) true).2 5).1
def line0 (c : Codes) : Scene := ((nodeS (([], [], []), c) true).1, (nextV (nodeS (([], [], []), c) true).2 5).2)
theorem line0_ok {c : Codes} (h : okB c) : GI (line0 c) 1 0 := ((GI.start h).node true).codes (nextV_ok ((GI.start h).node true).c 5).1
theorem lineN_ok {c : Codes} (h : okB c) : 1 ≤ lineN c ∧ lineN c ≤ 5 := by
  have := nextV_lt ((GI.start h).node true).c (n := 5) (by omega)
  unfold lineN; omega
theorem lineS_eq (c : Codes) : lineS c = (lineN c, linkS (nodeS ((List.range (lineN c).toNat).foldl chainS (line0 c)) true) (lineN c) (lineN c + 1)) := rfl
theorem line_ok {c : Codes} (h : okB c) : GI (lineS c).2 ((lineN c).toNat + 2) ((lineN c).toNat + 1) := by
  have := lineN_ok h
  rw [lineS_eq]
  exact (((line0_ok h).chain _).node true).link (by omega) (by omega) (by omega) (by omega) (by omega)
theorem GI.short {s : Scene} {nn nl : Nat} (h : GI s nn nl) {n : Int} (n1 : 1 ≤ n) (hn : n + 2 ≤ nn) : ∃ m, nl ≤ m ∧ m ≤ nl + 1 ∧ GI (shortS n s) nn m := by
  have ka := nextV_lt h.c (n := n) (by omega)
  have ca := (nextV_ok h.c n).1
  have kb := nextV_lt ca (n := n) (by omega)
  have cb := (nextV_ok ca n).1
  unfold shortS
  dsimp only
  split
  · exact ⟨nl, by omega, by omega, h.codes cb⟩
  · rename_i e
    exact ⟨nl + 1, by omega, by omega, (h.codes cb).link (by omega) (by omega) (by omega) (by omega) (by omega)⟩
theorem GI.shorts {s : Scene} {nn nl : Nat} (h : GI s nn nl) {n : Int} (n1 : 1 ≤ n) (hn : n + 2 ≤ nn) : ∀ k : Nat, ∃ m, nl ≤ m ∧ m ≤ nl + k ∧ GI ((List.range k).foldl (fun s _ => shortS n s) s) nn m
  | 0 => ⟨nl, by omega, by omega, h⟩
  | k + 1 => by
    obtain ⟨m, m0, m1, hm⟩ := GI.shorts h n1 hn k
    obtain ⟨m', q0, q1, hq⟩ := hm.short n1 hn
    refine ⟨m', by omega, by omega, ?_⟩
    rw [List.range_succ, List.foldl_append]; exact hq
/-- After the shortcuts. -/
def more1 (plain : Bool) (n : Int) (s : Scene) (k : Nat) : Scene := if 1 < n ∧ plain = false then (List.range k).foldl (fun s _ => shortS n s) (s.1, (nextV s.2 4).2) else (s.1, (nextV s.2 4).2)
theorem more1_ok {s : Scene} {nn nl : Nat} (h : GI s nn nl) {plain : Bool} {n : Int} (n1 : 1 ≤ n) (hn : n + 2 ≤ nn) (k : Nat) : ∃ m, nl ≤ m ∧ m ≤ nl + k ∧ GI (more1 plain n s k) nn m := by
  have hc := h.codes (nextV_ok h.c 4).1
  unfold more1
  split
  · exact hc.shorts n1 hn k
  · exact ⟨nl, by omega, by omega, hc⟩
theorem moreS_eq (plain : Bool) (n : Int) (s : Scene) : moreS plain n s = (let s1 := more1 plain n s (nextV s.2 4).1.toNat
    if plain = true ∧ 2 < n then
      if (nextV s1.2 2).1 = 1 then linkS (s1.1, (nextV (nextV s1.2 2).2 (n - 1)).2) (1 + (nextV (nextV s1.2 2).2 (n - 1)).1) n else (s1.1, (nextV s1.2 2).2)
    else s1) := rfl
theorem moreS_ok {s : Scene} {nn nl : Nat} (h : GI s nn nl) {plain : Bool} {n : Int} (n1 : 1 ≤ n) (hn : n + 2 ≤ nn) : ∃ m, nl ≤ m ∧ m ≤ nl + 4 ∧ GI (moreS plain n s) nn m := by
  have k4 := nextV_lt h.c (n := 4) (by omega)
  obtain ⟨m, m0, m1, hm⟩ := more1_ok h (plain := plain) n1 hn (nextV s.2 4).1.toNat
  rw [moreS_eq]
  dsimp only
  generalize more1 plain n s (nextV s.2 4).1.toNat = t at hm ⊢
  have c2 := (nextV_ok hm.c 2).1
  have c3 := (nextV_ok c2 (n - 1)).1
  split
  · rename_i e
    split
    · have k5 := nextV_lt c2 (n := n - 1) (by omega)
      exact ⟨m + 1, by omega, by omega, (hm.codes c3).link (by omega) (by omega) (by omega) (by omega) (by omega)⟩
    · exact ⟨m, by omega, by omega, hm.codes c2⟩
  · exact ⟨m, by omega, by omega, hm⟩
theorem net_ok {c : Codes} (h : okB c) (plain : Bool) : ∃ m, 2 ≤ m ∧ m ≤ 10 ∧ GI (moreS plain (lineS c).1 (lineS c).2) ((lineN c).toNat + 2) m := by
  have hn := lineN_ok h
  obtain ⟨m, m0, m1, hm⟩ := moreS_ok (line_ok h) (plain := plain) (n := lineN c) hn.1 (by omega)
  exact ⟨m, by omega, by omega, hm⟩
end Go.RS

