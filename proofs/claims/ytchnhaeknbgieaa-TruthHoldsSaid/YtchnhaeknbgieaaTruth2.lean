/- Truth2: what is so of all nodes and all links. -/
import Derived.Test.YtchnhaeknbgieaaTruth1
namespace Go.RS
open Go.SX Go.Proofs
set_option maxRecDepth 100000
set_option linter.unusedVariables false

abbrev cSpan : CT := .pair cNet (.pair cI (.pair cI cI))
def pVis (x : Node) : Bool := !nOpaque x
def pUns (x : Node) : Bool := !decide (nSource x = 4)
def pInc (x : Node) : Bool := decide (nSource x = 1)
def pTal (x : Node) : Bool := !nSilent x && decide ((nLimit x).1 ≤ 0)
def pSte (l : Link) : Bool := decide (lJitter l = 0)
def pLos (l : Link) : Bool := decide (lLoss l = 0)
theorem any_not {α : Type} {p : α → Bool} {l : List α} : (!l.any fun x => !p x) = l.all p := by
  induction l with
  | nil => rfl
  | cons x l ih => rw [List.any_cons, List.all_cons, Bool.not_or, ih, Bool.not_not]
def ct_truth_visible_1 : Ct := ⟨[.agg cNode], [.val .bool], fun _ => [], fun d => ((pVis d.1, ()), ())⟩
def an_truth_visible_1 : PDs ct_truth_visible_1.ps → Anns := (fun _ => {})
theorem vc_truth_visible_1 :
    ∀ (d : List (Int × Int) × Int × Int × Bool × List ((Int × Int) × List Int × Int) × Int × Int × Int × Int × Int × (Int × Int) × Bool × Bool × Int × Int), CT.wf cNode d ∧ True → True →
     (!d.2.2.2.2.2.2.2.2.2.2.2.2.1) = pVis d := by
  rintro d - -
  rfl
theorem ok_truth_visible_1 : SpecOK Try.prog GL 100 ct_truth_visible_1.spec := Ct.okH _ Try.func100 (by kernel_rfl) noSpecs_ok hmix an_truth_visible_1 (hideMp (by kernel_rfl) vc_truth_visible_1)

def ct_NegVis : Ct := ⟨[.agg cNode, .box 158 (.fnc 100)], [.val .bool], fun _ => [], fun d => ((!pVis d.1, ()), ((), ()))⟩
def an_NegVis : PDs ct_NegVis.ps → Anns := (fun _ => {})
theorem vc_NegVis :
    ∀ (d : List (Int × Int) × Int × Int × Bool × List ((Int × Int) × List Int × Int) × Int × Int × Int × Int × Int × (Int × Int) × Bool × Bool × Int × Int), CT.wf cNode d ∧ True ∧ True → True → (!pVis d)
     = !pVis d ∧ () = () := by
  rintro d - -
  exact ⟨rfl, rfl⟩
theorem ok_NegVis : SpecOK Try.prog GL 149 ct_NegVis.spec := Ct.okH _ Try.func149 (by kernel_rfl) (withSpec_ok noSpecs_ok ok_truth_visible_1) hmix an_NegVis (hideMp (by kernel_rfl) vc_NegVis)

def ct_IndexVis : Ct := ⟨[.val (.sl cNode), .fn 149 1, .box 158 (.fnc 100)], [.val cI], fun _ => [], fun d => ((idxI (fun x => !pVis x) d.1, ()), ((), ()))⟩
def an_IndexVis : PDs ct_IndexVis.ps → Anns := (fun d => { loops := (fun n => match n with | 2 => some (fun S => { ι := Int, μ := fun i => (d.1.length - i).toNat, inv := fun i => 0 ≤ i ∧ i ≤ d.1.length ∧ ∀ x ∈ d.1.take i.toNat, (!pVis x) = false, keep := [0, 1, 6, 7], slots := fun i => [(8, .int .i64 i)], keepN := [1048576], names := fun i => [] }) | _ => none) })
theorem vc_IndexVis :
    ∀ (x : List (List (Int × Int) × Int × Int × Bool × List ((Int × Int) × List Int × Int) × Int × Int × Int × Int × Int × (Int × Int) × Bool × Bool × Int × Int)), (List.length x ≤ maxLen ∧ ∀ (x_1 : List
     (Int × Int) × Int × Int × Bool × List ((Int × Int) × List Int × Int) × Int × Int × Int × Int × Int × (Int × Int) × Bool × Bool × Int × Int), x_1 ∈ x → (List.length x_1.1 ≤ maxLen ∧ ∀ (x : Int × Int),
     x ∈ x_1.1 → ((0 : Int) ≤ x.1 ∧ x.1 ≤ (4294967295 : Int)) ∧ (-9223372036854775808 : Int) ≤ x.2 ∧ x.2 ≤ (9223372036854775807 : Int)) ∧ ((0 : Int) ≤ x_1.2.1 ∧ x_1.2.1 ≤ (4294967295 : Int)) ∧
     ((-9223372036854775808 : Int) ≤ x_1.2.2.1 ∧ x_1.2.2.1 ≤ (9223372036854775807 : Int)) ∧ True ∧ (List.length x_1.2.2.2.2.1 ≤ maxLen ∧ ∀ (x : (Int × Int) × List Int × Int), x ∈ x_1.2.2.2.2.1 → (((0 :
     Int) ≤ x.1.1 ∧ x.1.1 ≤ (4294967295 : Int)) ∧ (-9223372036854775808 : Int) ≤ x.1.2 ∧ x.1.2 ≤ (9223372036854775807 : Int)) ∧ (List.length x.2.1 ≤ maxLen ∧ ∀ (x_2 : Int), x_2 ∈ x.2.1 →
     (-9223372036854775808 : Int) ≤ x_2 ∧ x_2 ≤ (9223372036854775807 : Int)) ∧ (-9223372036854775808 : Int) ≤ x.2.2 ∧ x.2.2 ≤ (9223372036854775807 : Int)) ∧ ((-9223372036854775808 : Int) ≤ x_1.2.2.2.2.2.1
     ∧ x_1.2.2.2.2.2.1 ≤ (9223372036854775807 : Int)) ∧ ((0 : Int) ≤ x_1.2.2.2.2.2.2.1 ∧ x_1.2.2.2.2.2.2.1 ≤ (4294967295 : Int)) ∧ ((-9223372036854775808 : Int) ≤ x_1.2.2.2.2.2.2.2.1 ∧ x_1.2.2.2.2.2.2.2.1
     ≤ (9223372036854775807 : Int)) ∧ ((-9223372036854775808 : Int) ≤ x_1.2.2.2.2.2.2.2.2.1 ∧ x_1.2.2.2.2.2.2.2.2.1 ≤ (9223372036854775807 : Int)) ∧ ((-9223372036854775808 : Int) ≤ x_1.2.2.2.2.2.2.2.2.2.1
     ∧ x_1.2.2.2.2.2.2.2.2.2.1 ≤ (9223372036854775807 : Int)) ∧ (((-9223372036854775808 : Int) ≤ x_1.2.2.2.2.2.2.2.2.2.2.1.1 ∧ x_1.2.2.2.2.2.2.2.2.2.2.1.1 ≤ (9223372036854775807 : Int)) ∧
     (-9223372036854775808 : Int) ≤ x_1.2.2.2.2.2.2.2.2.2.2.1.2 ∧ x_1.2.2.2.2.2.2.2.2.2.2.1.2 ≤ (9223372036854775807 : Int)) ∧ True ∧ True ∧ ((-9223372036854775808 : Int) ≤ x_1.2.2.2.2.2.2.2.2.2.2.2.2.2.1
     ∧ x_1.2.2.2.2.2.2.2.2.2.2.2.2.2.1 ≤ (9223372036854775807 : Int)) ∧ (-9223372036854775808 : Int) ≤ x_1.2.2.2.2.2.2.2.2.2.2.2.2.2.2 ∧ x_1.2.2.2.2.2.2.2.2.2.2.2.2.2.2 ≤ (9223372036854775807 : Int)) ∧
     True ∧ True ∧ True → True → (∃ (x_1 : Int), ((0 : Int) ≤ x_1 ∧ x_1 ≤ (↑(List.length x) : Int) ∧ ∀ (x_2 : List (Int × Int) × Int × Int × Bool × List ((Int × Int) × List Int × Int) × Int × Int × Int ×
     Int × Int × (Int × Int) × Bool × Bool × Int × Int), x_2 ∈ List.take (Int.toNat x_1) x → (!pVis x_2) = false) ∧ x = x ∧ x = x ∧ (↑(List.length x) : Int) = (↑(List.length x) : Int) ∧ (0 : Int) = x_1 ∧
     True) ∧ ∀ (x_1 : Int), ((0 : Int) ≤ x_1 ∧ x_1 ≤ (↑(List.length x) : Int) ∧ ∀ (x_2 : List (Int × Int) × Int × Int × Bool × List ((Int × Int) × List Int × Int) × Int × Int × Int × Int × Int × (Int ×
     Int) × Bool × Bool × Int × Int), x_2 ∈ List.take (Int.toNat x_1) x → (!pVis x_2) = false) → ifP (decide (x_1 < (↑(List.length x) : Int))) ((0 : Int) ≤ x_1 ∧ x_1 < (↑(List.length x) : Int) ∧ ifP (!pVis
     (List.getD x (Int.toNat x_1) default)) (x_1 = idxI (fun (x : Node) => !pVis x) x ∧ () = ()) (∃ (x_2 : Int), ((0 : Int) ≤ x_2 ∧ x_2 ≤ (↑(List.length x) : Int) ∧ ∀ (x_3 : List (Int × Int) × Int × Int ×
     Bool × List ((Int × Int) × List Int × Int) × Int × Int × Int × Int × Int × (Int × Int) × Bool × Bool × Int × Int), x_3 ∈ List.take (Int.toNat x_2) x → (!pVis x_3) = false) ∧ Int.toNat ((↑(List.length
     x) : Int) - x_2) < Int.toNat ((↑(List.length x) : Int) - x_1) ∧ x = x ∧ x = x ∧ (↑(List.length x) : Int) = (↑(List.length x) : Int) ∧ IntKind.wrap IntKind.i64 (x_1 + (1 : Int)) = x_2 ∧ True)) ((-1 :
     Int) = idxI (fun (x : Node) => !pVis x) x ∧ () = ()) := by
  rintro l ⟨⟨hl, -⟩, -⟩ -
  simp only [maxLen] at hl
  refine ⟨⟨0, ⟨by omega, by omega, by simp⟩, (by repeat' first | exact trivial | refine ⟨trivial, ?_⟩ | refine ⟨(by with_reducible rfl), ?_⟩ | refine ⟨w64 (by omega) (by omega), ?_⟩ | refine ⟨rfl, ?_⟩)⟩, ?_⟩
  rintro j ⟨j0, j1, hj⟩
  refine ifP_split (fun hk => ?_) (fun hk => ?_)
  · have hk := of_decide_eq_true hk
    refine ⟨j0, hk, ifP_split (fun hm => ?_) (fun hm => ?_)⟩
    · exact ⟨findI_at (q := fun x => !pVis x) j0 hk hj hm, rfl⟩
    · exact ⟨j + 1, ⟨by omega, by omega, all_next (P := fun x => (!pVis x) = false) j0 hk hj hm⟩, by omega, (by repeat' first | exact trivial | refine ⟨trivial, ?_⟩ | refine ⟨(by with_reducible rfl), ?_⟩ | refine ⟨w64 (by omega) (by omega), ?_⟩ | refine ⟨rfl, ?_⟩)⟩
  · exact ⟨findI_none (q := fun x => !pVis x) (of_decide_eq_false hk) hj, rfl⟩
theorem ok_IndexVis : SpecOK Try.prog GL 183 ct_IndexVis.spec := Ct.okH _ Try.func183 (by kernel_rfl) (withSpec_ok noSpecs_ok ok_NegVis) hmix an_IndexVis (hideMp (by kernel_rfl) vc_IndexVis)

def ct_ContainsVis : Ct := ⟨[.val (.sl cNode), .fn 149 1, .box 158 (.fnc 100)], [.val .bool], fun _ => [], fun d => ((d.1.any (fun x => !pVis x), ()), ((), ()))⟩
def an_ContainsVis : PDs ct_ContainsVis.ps → Anns := (fun _ => {})
theorem vc_ContainsVis :
    ∀ (x : List (List (Int × Int) × Int × Int × Bool × List ((Int × Int) × List Int × Int) × Int × Int × Int × Int × Int × (Int × Int) × Bool × Bool × Int × Int)), (List.length x ≤ maxLen ∧ ∀ (x_1 : List
     (Int × Int) × Int × Int × Bool × List ((Int × Int) × List Int × Int) × Int × Int × Int × Int × Int × (Int × Int) × Bool × Bool × Int × Int), x_1 ∈ x → (List.length x_1.1 ≤ maxLen ∧ ∀ (x : Int × Int),
     x ∈ x_1.1 → ((0 : Int) ≤ x.1 ∧ x.1 ≤ (4294967295 : Int)) ∧ (-9223372036854775808 : Int) ≤ x.2 ∧ x.2 ≤ (9223372036854775807 : Int)) ∧ ((0 : Int) ≤ x_1.2.1 ∧ x_1.2.1 ≤ (4294967295 : Int)) ∧
     ((-9223372036854775808 : Int) ≤ x_1.2.2.1 ∧ x_1.2.2.1 ≤ (9223372036854775807 : Int)) ∧ True ∧ (List.length x_1.2.2.2.2.1 ≤ maxLen ∧ ∀ (x : (Int × Int) × List Int × Int), x ∈ x_1.2.2.2.2.1 → (((0 :
     Int) ≤ x.1.1 ∧ x.1.1 ≤ (4294967295 : Int)) ∧ (-9223372036854775808 : Int) ≤ x.1.2 ∧ x.1.2 ≤ (9223372036854775807 : Int)) ∧ (List.length x.2.1 ≤ maxLen ∧ ∀ (x_2 : Int), x_2 ∈ x.2.1 →
     (-9223372036854775808 : Int) ≤ x_2 ∧ x_2 ≤ (9223372036854775807 : Int)) ∧ (-9223372036854775808 : Int) ≤ x.2.2 ∧ x.2.2 ≤ (9223372036854775807 : Int)) ∧ ((-9223372036854775808 : Int) ≤ x_1.2.2.2.2.2.1
     ∧ x_1.2.2.2.2.2.1 ≤ (9223372036854775807 : Int)) ∧ ((0 : Int) ≤ x_1.2.2.2.2.2.2.1 ∧ x_1.2.2.2.2.2.2.1 ≤ (4294967295 : Int)) ∧ ((-9223372036854775808 : Int) ≤ x_1.2.2.2.2.2.2.2.1 ∧ x_1.2.2.2.2.2.2.2.1
     ≤ (9223372036854775807 : Int)) ∧ ((-9223372036854775808 : Int) ≤ x_1.2.2.2.2.2.2.2.2.1 ∧ x_1.2.2.2.2.2.2.2.2.1 ≤ (9223372036854775807 : Int)) ∧ ((-9223372036854775808 : Int) ≤ x_1.2.2.2.2.2.2.2.2.2.1
     ∧ x_1.2.2.2.2.2.2.2.2.2.1 ≤ (9223372036854775807 : Int)) ∧ (((-9223372036854775808 : Int) ≤ x_1.2.2.2.2.2.2.2.2.2.2.1.1 ∧ x_1.2.2.2.2.2.2.2.2.2.2.1.1 ≤ (9223372036854775807 : Int)) ∧
     (-9223372036854775808 : Int) ≤ x_1.2.2.2.2.2.2.2.2.2.2.1.2 ∧ x_1.2.2.2.2.2.2.2.2.2.2.1.2 ≤ (9223372036854775807 : Int)) ∧ True ∧ True ∧ ((-9223372036854775808 : Int) ≤ x_1.2.2.2.2.2.2.2.2.2.2.2.2.2.1
     ∧ x_1.2.2.2.2.2.2.2.2.2.2.2.2.2.1 ≤ (9223372036854775807 : Int)) ∧ (-9223372036854775808 : Int) ≤ x_1.2.2.2.2.2.2.2.2.2.2.2.2.2.2 ∧ x_1.2.2.2.2.2.2.2.2.2.2.2.2.2.2 ≤ (9223372036854775807 : Int)) ∧
     True ∧ True ∧ True → True → (decide ((0 : Int) ≤ idxI (fun (x : Node) => !pVis x) x) = List.any x fun (x : List (Int × Int) × Int × Int × Bool × List ((Int × Int) × List Int × Int) × Int × Int × Int ×
     Int × Int × (Int × Int) × Bool × Bool × Int × Int) => !pVis x) ∧ () = () := by
  rintro l - -
  exact ⟨idxI_any, rfl⟩
theorem ok_ContainsVis : SpecOK Try.prog GL 148 ct_ContainsVis.spec := Ct.okH _ Try.func148 (by kernel_rfl) (withSpec_ok noSpecs_ok ok_IndexVis) hmix an_ContainsVis (hideMp (by kernel_rfl) vc_ContainsVis)

def ct_AllVis : Ct := ⟨[.agg cSpan, .fn 100 0], [.val .bool], fun _ => [], fun d => ((d.1.1.1.all pVis, ()), ())⟩
def an_AllVis : PDs ct_AllVis.ps → Anns := (fun _ => {})
theorem vc_AllVis :
    ∀ (x : List (List (Int × Int) × Int × Int × Bool × List ((Int × Int) × List Int × Int) × Int × Int × Int × Int × Int × (Int × Int) × Bool × Bool × Int × Int)) (x_1 : List (Int × Int × Int × Int × Int
     × Int)) (x_2 : List (Int × Int × Bool × (Int × Int) × List Int × Int)) (x_3 x_4 x_5 : Int), (((List.length x ≤ maxLen ∧ ∀ (x_6 : List (Int × Int) × Int × Int × Bool × List ((Int × Int) × List Int ×
     Int) × Int × Int × Int × Int × Int × (Int × Int) × Bool × Bool × Int × Int), x_6 ∈ x → (List.length x_6.1 ≤ maxLen ∧ ∀ (x : Int × Int), x ∈ x_6.1 → ((0 : Int) ≤ x.1 ∧ x.1 ≤ (4294967295 : Int)) ∧
     (-9223372036854775808 : Int) ≤ x.2 ∧ x.2 ≤ (9223372036854775807 : Int)) ∧ ((0 : Int) ≤ x_6.2.1 ∧ x_6.2.1 ≤ (4294967295 : Int)) ∧ ((-9223372036854775808 : Int) ≤ x_6.2.2.1 ∧ x_6.2.2.1 ≤
     (9223372036854775807 : Int)) ∧ True ∧ (List.length x_6.2.2.2.2.1 ≤ maxLen ∧ ∀ (x : (Int × Int) × List Int × Int), x ∈ x_6.2.2.2.2.1 → (((0 : Int) ≤ x.1.1 ∧ x.1.1 ≤ (4294967295 : Int)) ∧
     (-9223372036854775808 : Int) ≤ x.1.2 ∧ x.1.2 ≤ (9223372036854775807 : Int)) ∧ (List.length x.2.1 ≤ maxLen ∧ ∀ (x_7 : Int), x_7 ∈ x.2.1 → (-9223372036854775808 : Int) ≤ x_7 ∧ x_7 ≤ (9223372036854775807
     : Int)) ∧ (-9223372036854775808 : Int) ≤ x.2.2 ∧ x.2.2 ≤ (9223372036854775807 : Int)) ∧ ((-9223372036854775808 : Int) ≤ x_6.2.2.2.2.2.1 ∧ x_6.2.2.2.2.2.1 ≤ (9223372036854775807 : Int)) ∧ ((0 : Int) ≤
     x_6.2.2.2.2.2.2.1 ∧ x_6.2.2.2.2.2.2.1 ≤ (4294967295 : Int)) ∧ ((-9223372036854775808 : Int) ≤ x_6.2.2.2.2.2.2.2.1 ∧ x_6.2.2.2.2.2.2.2.1 ≤ (9223372036854775807 : Int)) ∧ ((-9223372036854775808 : Int) ≤
     x_6.2.2.2.2.2.2.2.2.1 ∧ x_6.2.2.2.2.2.2.2.2.1 ≤ (9223372036854775807 : Int)) ∧ ((-9223372036854775808 : Int) ≤ x_6.2.2.2.2.2.2.2.2.2.1 ∧ x_6.2.2.2.2.2.2.2.2.2.1 ≤ (9223372036854775807 : Int)) ∧
     (((-9223372036854775808 : Int) ≤ x_6.2.2.2.2.2.2.2.2.2.2.1.1 ∧ x_6.2.2.2.2.2.2.2.2.2.2.1.1 ≤ (9223372036854775807 : Int)) ∧ (-9223372036854775808 : Int) ≤ x_6.2.2.2.2.2.2.2.2.2.2.1.2 ∧
     x_6.2.2.2.2.2.2.2.2.2.2.1.2 ≤ (9223372036854775807 : Int)) ∧ True ∧ True ∧ ((-9223372036854775808 : Int) ≤ x_6.2.2.2.2.2.2.2.2.2.2.2.2.2.1 ∧ x_6.2.2.2.2.2.2.2.2.2.2.2.2.2.1 ≤ (9223372036854775807 :
     Int)) ∧ (-9223372036854775808 : Int) ≤ x_6.2.2.2.2.2.2.2.2.2.2.2.2.2.2 ∧ x_6.2.2.2.2.2.2.2.2.2.2.2.2.2.2 ≤ (9223372036854775807 : Int)) ∧ (List.length x_1 ≤ maxLen ∧ ∀ (x : Int × Int × Int × Int × Int
     × Int), x ∈ x_1 → ((-9223372036854775808 : Int) ≤ x.1 ∧ x.1 ≤ (9223372036854775807 : Int)) ∧ ((-9223372036854775808 : Int) ≤ x.2.1 ∧ x.2.1 ≤ (9223372036854775807 : Int)) ∧ ((-9223372036854775808 :
     Int) ≤ x.2.2.1 ∧ x.2.2.1 ≤ (9223372036854775807 : Int)) ∧ ((-9223372036854775808 : Int) ≤ x.2.2.2.1 ∧ x.2.2.2.1 ≤ (9223372036854775807 : Int)) ∧ ((-9223372036854775808 : Int) ≤ x.2.2.2.2.1 ∧
     x.2.2.2.2.1 ≤ (9223372036854775807 : Int)) ∧ (-9223372036854775808 : Int) ≤ x.2.2.2.2.2 ∧ x.2.2.2.2.2 ≤ (9223372036854775807 : Int)) ∧ List.length x_2 ≤ maxLen ∧ ∀ (x : Int × Int × Bool × (Int × Int)
     × List Int × Int), x ∈ x_2 → ((-9223372036854775808 : Int) ≤ x.1 ∧ x.1 ≤ (9223372036854775807 : Int)) ∧ ((-9223372036854775808 : Int) ≤ x.2.1 ∧ x.2.1 ≤ (9223372036854775807 : Int)) ∧ True ∧ (((0 :
     Int) ≤ x.2.2.2.1.1 ∧ x.2.2.2.1.1 ≤ (4294967295 : Int)) ∧ (-9223372036854775808 : Int) ≤ x.2.2.2.1.2 ∧ x.2.2.2.1.2 ≤ (9223372036854775807 : Int)) ∧ (List.length x.2.2.2.2.1 ≤ maxLen ∧ ∀ (x_6 : Int),
     x_6 ∈ x.2.2.2.2.1 → (-9223372036854775808 : Int) ≤ x_6 ∧ x_6 ≤ (9223372036854775807 : Int)) ∧ (-9223372036854775808 : Int) ≤ x.2.2.2.2.2 ∧ x.2.2.2.2.2 ≤ (9223372036854775807 : Int)) ∧
     ((-9223372036854775808 : Int) ≤ x_3 ∧ x_3 ≤ (9223372036854775807 : Int)) ∧ ((-9223372036854775808 : Int) ≤ x_4 ∧ x_4 ≤ (9223372036854775807 : Int)) ∧ (-9223372036854775808 : Int) ≤ x_5 ∧ x_5 ≤
     (9223372036854775807 : Int)) ∧ True ∧ True → True → (!List.any x fun (x : List (Int × Int) × Int × Int × Bool × List ((Int × Int) × List Int × Int) × Int × Int × Int × Int × Int × (Int × Int) × Bool ×
     Bool × Int × Int) => !pVis x) = List.all x pVis := by
  intros
  exact any_not
theorem ok_AllVis : SpecOK Try.prog GL 99 ct_AllVis.spec := Ct.okH _ Try.func99 (by kernel_rfl) (withSpec_ok noSpecs_ok ok_ContainsVis) hmix an_AllVis (hideMp (by kernel_rfl) vc_AllVis)

def ct_truth_visible : Ct := ⟨[.agg cSpan], [.val .bool], fun _ => [], fun d => ((d.1.1.1.all pVis, ()), ())⟩
def an_truth_visible : PDs ct_truth_visible.ps → Anns := (fun _ => {})
theorem vc_truth_visible :
    ∀ (x : List (List (Int × Int) × Int × Int × Bool × List ((Int × Int) × List Int × Int) × Int × Int × Int × Int × Int × (Int × Int) × Bool × Bool × Int × Int)) (x_1 : List (Int × Int × Int × Int × Int
     × Int)) (x_2 : List (Int × Int × Bool × (Int × Int) × List Int × Int)) (x_3 x_4 x_5 : Int), (((List.length x ≤ maxLen ∧ ∀ (x_6 : List (Int × Int) × Int × Int × Bool × List ((Int × Int) × List Int ×
     Int) × Int × Int × Int × Int × Int × (Int × Int) × Bool × Bool × Int × Int), x_6 ∈ x → (List.length x_6.1 ≤ maxLen ∧ ∀ (x : Int × Int), x ∈ x_6.1 → ((0 : Int) ≤ x.1 ∧ x.1 ≤ (4294967295 : Int)) ∧
     (-9223372036854775808 : Int) ≤ x.2 ∧ x.2 ≤ (9223372036854775807 : Int)) ∧ ((0 : Int) ≤ x_6.2.1 ∧ x_6.2.1 ≤ (4294967295 : Int)) ∧ ((-9223372036854775808 : Int) ≤ x_6.2.2.1 ∧ x_6.2.2.1 ≤
     (9223372036854775807 : Int)) ∧ True ∧ (List.length x_6.2.2.2.2.1 ≤ maxLen ∧ ∀ (x : (Int × Int) × List Int × Int), x ∈ x_6.2.2.2.2.1 → (((0 : Int) ≤ x.1.1 ∧ x.1.1 ≤ (4294967295 : Int)) ∧
     (-9223372036854775808 : Int) ≤ x.1.2 ∧ x.1.2 ≤ (9223372036854775807 : Int)) ∧ (List.length x.2.1 ≤ maxLen ∧ ∀ (x_7 : Int), x_7 ∈ x.2.1 → (-9223372036854775808 : Int) ≤ x_7 ∧ x_7 ≤ (9223372036854775807
     : Int)) ∧ (-9223372036854775808 : Int) ≤ x.2.2 ∧ x.2.2 ≤ (9223372036854775807 : Int)) ∧ ((-9223372036854775808 : Int) ≤ x_6.2.2.2.2.2.1 ∧ x_6.2.2.2.2.2.1 ≤ (9223372036854775807 : Int)) ∧ ((0 : Int) ≤
     x_6.2.2.2.2.2.2.1 ∧ x_6.2.2.2.2.2.2.1 ≤ (4294967295 : Int)) ∧ ((-9223372036854775808 : Int) ≤ x_6.2.2.2.2.2.2.2.1 ∧ x_6.2.2.2.2.2.2.2.1 ≤ (9223372036854775807 : Int)) ∧ ((-9223372036854775808 : Int) ≤
     x_6.2.2.2.2.2.2.2.2.1 ∧ x_6.2.2.2.2.2.2.2.2.1 ≤ (9223372036854775807 : Int)) ∧ ((-9223372036854775808 : Int) ≤ x_6.2.2.2.2.2.2.2.2.2.1 ∧ x_6.2.2.2.2.2.2.2.2.2.1 ≤ (9223372036854775807 : Int)) ∧
     (((-9223372036854775808 : Int) ≤ x_6.2.2.2.2.2.2.2.2.2.2.1.1 ∧ x_6.2.2.2.2.2.2.2.2.2.2.1.1 ≤ (9223372036854775807 : Int)) ∧ (-9223372036854775808 : Int) ≤ x_6.2.2.2.2.2.2.2.2.2.2.1.2 ∧
     x_6.2.2.2.2.2.2.2.2.2.2.1.2 ≤ (9223372036854775807 : Int)) ∧ True ∧ True ∧ ((-9223372036854775808 : Int) ≤ x_6.2.2.2.2.2.2.2.2.2.2.2.2.2.1 ∧ x_6.2.2.2.2.2.2.2.2.2.2.2.2.2.1 ≤ (9223372036854775807 :
     Int)) ∧ (-9223372036854775808 : Int) ≤ x_6.2.2.2.2.2.2.2.2.2.2.2.2.2.2 ∧ x_6.2.2.2.2.2.2.2.2.2.2.2.2.2.2 ≤ (9223372036854775807 : Int)) ∧ (List.length x_1 ≤ maxLen ∧ ∀ (x : Int × Int × Int × Int × Int
     × Int), x ∈ x_1 → ((-9223372036854775808 : Int) ≤ x.1 ∧ x.1 ≤ (9223372036854775807 : Int)) ∧ ((-9223372036854775808 : Int) ≤ x.2.1 ∧ x.2.1 ≤ (9223372036854775807 : Int)) ∧ ((-9223372036854775808 :
     Int) ≤ x.2.2.1 ∧ x.2.2.1 ≤ (9223372036854775807 : Int)) ∧ ((-9223372036854775808 : Int) ≤ x.2.2.2.1 ∧ x.2.2.2.1 ≤ (9223372036854775807 : Int)) ∧ ((-9223372036854775808 : Int) ≤ x.2.2.2.2.1 ∧
     x.2.2.2.2.1 ≤ (9223372036854775807 : Int)) ∧ (-9223372036854775808 : Int) ≤ x.2.2.2.2.2 ∧ x.2.2.2.2.2 ≤ (9223372036854775807 : Int)) ∧ List.length x_2 ≤ maxLen ∧ ∀ (x : Int × Int × Bool × (Int × Int)
     × List Int × Int), x ∈ x_2 → ((-9223372036854775808 : Int) ≤ x.1 ∧ x.1 ≤ (9223372036854775807 : Int)) ∧ ((-9223372036854775808 : Int) ≤ x.2.1 ∧ x.2.1 ≤ (9223372036854775807 : Int)) ∧ True ∧ (((0 :
     Int) ≤ x.2.2.2.1.1 ∧ x.2.2.2.1.1 ≤ (4294967295 : Int)) ∧ (-9223372036854775808 : Int) ≤ x.2.2.2.1.2 ∧ x.2.2.2.1.2 ≤ (9223372036854775807 : Int)) ∧ (List.length x.2.2.2.2.1 ≤ maxLen ∧ ∀ (x_6 : Int),
     x_6 ∈ x.2.2.2.2.1 → (-9223372036854775808 : Int) ≤ x_6 ∧ x_6 ≤ (9223372036854775807 : Int)) ∧ (-9223372036854775808 : Int) ≤ x.2.2.2.2.2 ∧ x.2.2.2.2.2 ≤ (9223372036854775807 : Int)) ∧
     ((-9223372036854775808 : Int) ≤ x_3 ∧ x_3 ≤ (9223372036854775807 : Int)) ∧ ((-9223372036854775808 : Int) ≤ x_4 ∧ x_4 ≤ (9223372036854775807 : Int)) ∧ (-9223372036854775808 : Int) ≤ x_5 ∧ x_5 ≤
     (9223372036854775807 : Int)) ∧ True → True → List.all x pVis = List.all x pVis := by
  intros
  rfl
theorem ok_truth_visible : SpecOK Try.prog GL 57 ct_truth_visible.spec := Ct.okH _ Try.func57 (by kernel_rfl) (withSpec_ok noSpecs_ok ok_AllVis) hmix an_truth_visible (hideMp (by kernel_rfl) vc_truth_visible)

def ct_truth_unspoofed_1 : Ct := ⟨[.agg cNode], [.val .bool], fun _ => [], fun d => ((pUns d.1, ()), ())⟩
def an_truth_unspoofed_1 : PDs ct_truth_unspoofed_1.ps → Anns := (fun _ => {})
theorem vc_truth_unspoofed_1 :
    ∀ (d : List (Int × Int) × Int × Int × Bool × List ((Int × Int) × List Int × Int) × Int × Int × Int × Int × Int × (Int × Int) × Bool × Bool × Int × Int), CT.wf cNode d ∧ True → True → (!decide
     (d.2.2.2.2.2.1 = (4 : Int))) = pUns d := by
  rintro d - -
  rfl
theorem ok_truth_unspoofed_1 : SpecOK Try.prog GL 101 ct_truth_unspoofed_1.spec := Ct.okH _ Try.func101 (by kernel_rfl) noSpecs_ok hmix an_truth_unspoofed_1 (hideMp (by kernel_rfl) vc_truth_unspoofed_1)

def ct_NegUns : Ct := ⟨[.agg cNode, .box 158 (.fnc 101)], [.val .bool], fun _ => [], fun d => ((!pUns d.1, ()), ((), ()))⟩
def an_NegUns : PDs ct_NegUns.ps → Anns := (fun _ => {})
theorem vc_NegUns :
    ∀ (d : List (Int × Int) × Int × Int × Bool × List ((Int × Int) × List Int × Int) × Int × Int × Int × Int × Int × (Int × Int) × Bool × Bool × Int × Int), CT.wf cNode d ∧ True ∧ True → True → (!pUns d)
     = !pUns d ∧ () = () := by
  rintro d - -
  exact ⟨rfl, rfl⟩
theorem ok_NegUns : SpecOK Try.prog GL 149 ct_NegUns.spec := Ct.okH _ Try.func149 (by kernel_rfl) (withSpec_ok noSpecs_ok ok_truth_unspoofed_1) hmix an_NegUns (hideMp (by kernel_rfl) vc_NegUns)

def ct_IndexUns : Ct := ⟨[.val (.sl cNode), .fn 149 1, .box 158 (.fnc 101)], [.val cI], fun _ => [], fun d => ((idxI (fun x => !pUns x) d.1, ()), ((), ()))⟩
def an_IndexUns : PDs ct_IndexUns.ps → Anns := (fun d => { loops := (fun n => match n with | 2 => some (fun S => { ι := Int, μ := fun i => (d.1.length - i).toNat, inv := fun i => 0 ≤ i ∧ i ≤ d.1.length ∧ ∀ x ∈ d.1.take i.toNat, (!pUns x) = false, keep := [0, 1, 6, 7], slots := fun i => [(8, .int .i64 i)], keepN := [1048576], names := fun i => [] }) | _ => none) })
theorem vc_IndexUns :
    ∀ (x : List (List (Int × Int) × Int × Int × Bool × List ((Int × Int) × List Int × Int) × Int × Int × Int × Int × Int × (Int × Int) × Bool × Bool × Int × Int)), (List.length x ≤ maxLen ∧ ∀ (x_1 : List
     (Int × Int) × Int × Int × Bool × List ((Int × Int) × List Int × Int) × Int × Int × Int × Int × Int × (Int × Int) × Bool × Bool × Int × Int), x_1 ∈ x → (List.length x_1.1 ≤ maxLen ∧ ∀ (x : Int × Int),
     x ∈ x_1.1 → ((0 : Int) ≤ x.1 ∧ x.1 ≤ (4294967295 : Int)) ∧ (-9223372036854775808 : Int) ≤ x.2 ∧ x.2 ≤ (9223372036854775807 : Int)) ∧ ((0 : Int) ≤ x_1.2.1 ∧ x_1.2.1 ≤ (4294967295 : Int)) ∧
     ((-9223372036854775808 : Int) ≤ x_1.2.2.1 ∧ x_1.2.2.1 ≤ (9223372036854775807 : Int)) ∧ True ∧ (List.length x_1.2.2.2.2.1 ≤ maxLen ∧ ∀ (x : (Int × Int) × List Int × Int), x ∈ x_1.2.2.2.2.1 → (((0 :
     Int) ≤ x.1.1 ∧ x.1.1 ≤ (4294967295 : Int)) ∧ (-9223372036854775808 : Int) ≤ x.1.2 ∧ x.1.2 ≤ (9223372036854775807 : Int)) ∧ (List.length x.2.1 ≤ maxLen ∧ ∀ (x_2 : Int), x_2 ∈ x.2.1 →
     (-9223372036854775808 : Int) ≤ x_2 ∧ x_2 ≤ (9223372036854775807 : Int)) ∧ (-9223372036854775808 : Int) ≤ x.2.2 ∧ x.2.2 ≤ (9223372036854775807 : Int)) ∧ ((-9223372036854775808 : Int) ≤ x_1.2.2.2.2.2.1
     ∧ x_1.2.2.2.2.2.1 ≤ (9223372036854775807 : Int)) ∧ ((0 : Int) ≤ x_1.2.2.2.2.2.2.1 ∧ x_1.2.2.2.2.2.2.1 ≤ (4294967295 : Int)) ∧ ((-9223372036854775808 : Int) ≤ x_1.2.2.2.2.2.2.2.1 ∧ x_1.2.2.2.2.2.2.2.1
     ≤ (9223372036854775807 : Int)) ∧ ((-9223372036854775808 : Int) ≤ x_1.2.2.2.2.2.2.2.2.1 ∧ x_1.2.2.2.2.2.2.2.2.1 ≤ (9223372036854775807 : Int)) ∧ ((-9223372036854775808 : Int) ≤ x_1.2.2.2.2.2.2.2.2.2.1
     ∧ x_1.2.2.2.2.2.2.2.2.2.1 ≤ (9223372036854775807 : Int)) ∧ (((-9223372036854775808 : Int) ≤ x_1.2.2.2.2.2.2.2.2.2.2.1.1 ∧ x_1.2.2.2.2.2.2.2.2.2.2.1.1 ≤ (9223372036854775807 : Int)) ∧
     (-9223372036854775808 : Int) ≤ x_1.2.2.2.2.2.2.2.2.2.2.1.2 ∧ x_1.2.2.2.2.2.2.2.2.2.2.1.2 ≤ (9223372036854775807 : Int)) ∧ True ∧ True ∧ ((-9223372036854775808 : Int) ≤ x_1.2.2.2.2.2.2.2.2.2.2.2.2.2.1
     ∧ x_1.2.2.2.2.2.2.2.2.2.2.2.2.2.1 ≤ (9223372036854775807 : Int)) ∧ (-9223372036854775808 : Int) ≤ x_1.2.2.2.2.2.2.2.2.2.2.2.2.2.2 ∧ x_1.2.2.2.2.2.2.2.2.2.2.2.2.2.2 ≤ (9223372036854775807 : Int)) ∧
     True ∧ True ∧ True → True → (∃ (x_1 : Int), ((0 : Int) ≤ x_1 ∧ x_1 ≤ (↑(List.length x) : Int) ∧ ∀ (x_2 : List (Int × Int) × Int × Int × Bool × List ((Int × Int) × List Int × Int) × Int × Int × Int ×
     Int × Int × (Int × Int) × Bool × Bool × Int × Int), x_2 ∈ List.take (Int.toNat x_1) x → (!pUns x_2) = false) ∧ x = x ∧ x = x ∧ (↑(List.length x) : Int) = (↑(List.length x) : Int) ∧ (0 : Int) = x_1 ∧
     True) ∧ ∀ (x_1 : Int), ((0 : Int) ≤ x_1 ∧ x_1 ≤ (↑(List.length x) : Int) ∧ ∀ (x_2 : List (Int × Int) × Int × Int × Bool × List ((Int × Int) × List Int × Int) × Int × Int × Int × Int × Int × (Int ×
     Int) × Bool × Bool × Int × Int), x_2 ∈ List.take (Int.toNat x_1) x → (!pUns x_2) = false) → ifP (decide (x_1 < (↑(List.length x) : Int))) ((0 : Int) ≤ x_1 ∧ x_1 < (↑(List.length x) : Int) ∧ ifP (!pUns
     (List.getD x (Int.toNat x_1) default)) (x_1 = idxI (fun (x : Node) => !pUns x) x ∧ () = ()) (∃ (x_2 : Int), ((0 : Int) ≤ x_2 ∧ x_2 ≤ (↑(List.length x) : Int) ∧ ∀ (x_3 : List (Int × Int) × Int × Int ×
     Bool × List ((Int × Int) × List Int × Int) × Int × Int × Int × Int × Int × (Int × Int) × Bool × Bool × Int × Int), x_3 ∈ List.take (Int.toNat x_2) x → (!pUns x_3) = false) ∧ Int.toNat ((↑(List.length
     x) : Int) - x_2) < Int.toNat ((↑(List.length x) : Int) - x_1) ∧ x = x ∧ x = x ∧ (↑(List.length x) : Int) = (↑(List.length x) : Int) ∧ IntKind.wrap IntKind.i64 (x_1 + (1 : Int)) = x_2 ∧ True)) ((-1 :
     Int) = idxI (fun (x : Node) => !pUns x) x ∧ () = ()) := by
  rintro l ⟨⟨hl, -⟩, -⟩ -
  simp only [maxLen] at hl
  refine ⟨⟨0, ⟨by omega, by omega, by simp⟩, (by repeat' first | exact trivial | refine ⟨trivial, ?_⟩ | refine ⟨(by with_reducible rfl), ?_⟩ | refine ⟨w64 (by omega) (by omega), ?_⟩ | refine ⟨rfl, ?_⟩)⟩, ?_⟩
  rintro j ⟨j0, j1, hj⟩
  refine ifP_split (fun hk => ?_) (fun hk => ?_)
  · have hk := of_decide_eq_true hk
    refine ⟨j0, hk, ifP_split (fun hm => ?_) (fun hm => ?_)⟩
    · exact ⟨findI_at (q := fun x => !pUns x) j0 hk hj hm, rfl⟩
    · exact ⟨j + 1, ⟨by omega, by omega, all_next (P := fun x => (!pUns x) = false) j0 hk hj hm⟩, by omega, (by repeat' first | exact trivial | refine ⟨trivial, ?_⟩ | refine ⟨(by with_reducible rfl), ?_⟩ | refine ⟨w64 (by omega) (by omega), ?_⟩ | refine ⟨rfl, ?_⟩)⟩
  · exact ⟨findI_none (q := fun x => !pUns x) (of_decide_eq_false hk) hj, rfl⟩
theorem ok_IndexUns : SpecOK Try.prog GL 183 ct_IndexUns.spec := Ct.okH _ Try.func183 (by kernel_rfl) (withSpec_ok noSpecs_ok ok_NegUns) hmix an_IndexUns (hideMp (by kernel_rfl) vc_IndexUns)

def ct_ContainsUns : Ct := ⟨[.val (.sl cNode), .fn 149 1, .box 158 (.fnc 101)], [.val .bool], fun _ => [], fun d => ((d.1.any (fun x => !pUns x), ()), ((), ()))⟩
def an_ContainsUns : PDs ct_ContainsUns.ps → Anns := (fun _ => {})
theorem vc_ContainsUns :
    ∀ (x : List (List (Int × Int) × Int × Int × Bool × List ((Int × Int) × List Int × Int) × Int × Int × Int × Int × Int × (Int × Int) × Bool × Bool × Int × Int)), (List.length x ≤ maxLen ∧ ∀ (x_1 : List
     (Int × Int) × Int × Int × Bool × List ((Int × Int) × List Int × Int) × Int × Int × Int × Int × Int × (Int × Int) × Bool × Bool × Int × Int), x_1 ∈ x → (List.length x_1.1 ≤ maxLen ∧ ∀ (x : Int × Int),
     x ∈ x_1.1 → ((0 : Int) ≤ x.1 ∧ x.1 ≤ (4294967295 : Int)) ∧ (-9223372036854775808 : Int) ≤ x.2 ∧ x.2 ≤ (9223372036854775807 : Int)) ∧ ((0 : Int) ≤ x_1.2.1 ∧ x_1.2.1 ≤ (4294967295 : Int)) ∧
     ((-9223372036854775808 : Int) ≤ x_1.2.2.1 ∧ x_1.2.2.1 ≤ (9223372036854775807 : Int)) ∧ True ∧ (List.length x_1.2.2.2.2.1 ≤ maxLen ∧ ∀ (x : (Int × Int) × List Int × Int), x ∈ x_1.2.2.2.2.1 → (((0 :
     Int) ≤ x.1.1 ∧ x.1.1 ≤ (4294967295 : Int)) ∧ (-9223372036854775808 : Int) ≤ x.1.2 ∧ x.1.2 ≤ (9223372036854775807 : Int)) ∧ (List.length x.2.1 ≤ maxLen ∧ ∀ (x_2 : Int), x_2 ∈ x.2.1 →
     (-9223372036854775808 : Int) ≤ x_2 ∧ x_2 ≤ (9223372036854775807 : Int)) ∧ (-9223372036854775808 : Int) ≤ x.2.2 ∧ x.2.2 ≤ (9223372036854775807 : Int)) ∧ ((-9223372036854775808 : Int) ≤ x_1.2.2.2.2.2.1
     ∧ x_1.2.2.2.2.2.1 ≤ (9223372036854775807 : Int)) ∧ ((0 : Int) ≤ x_1.2.2.2.2.2.2.1 ∧ x_1.2.2.2.2.2.2.1 ≤ (4294967295 : Int)) ∧ ((-9223372036854775808 : Int) ≤ x_1.2.2.2.2.2.2.2.1 ∧ x_1.2.2.2.2.2.2.2.1
     ≤ (9223372036854775807 : Int)) ∧ ((-9223372036854775808 : Int) ≤ x_1.2.2.2.2.2.2.2.2.1 ∧ x_1.2.2.2.2.2.2.2.2.1 ≤ (9223372036854775807 : Int)) ∧ ((-9223372036854775808 : Int) ≤ x_1.2.2.2.2.2.2.2.2.2.1
     ∧ x_1.2.2.2.2.2.2.2.2.2.1 ≤ (9223372036854775807 : Int)) ∧ (((-9223372036854775808 : Int) ≤ x_1.2.2.2.2.2.2.2.2.2.2.1.1 ∧ x_1.2.2.2.2.2.2.2.2.2.2.1.1 ≤ (9223372036854775807 : Int)) ∧
     (-9223372036854775808 : Int) ≤ x_1.2.2.2.2.2.2.2.2.2.2.1.2 ∧ x_1.2.2.2.2.2.2.2.2.2.2.1.2 ≤ (9223372036854775807 : Int)) ∧ True ∧ True ∧ ((-9223372036854775808 : Int) ≤ x_1.2.2.2.2.2.2.2.2.2.2.2.2.2.1
     ∧ x_1.2.2.2.2.2.2.2.2.2.2.2.2.2.1 ≤ (9223372036854775807 : Int)) ∧ (-9223372036854775808 : Int) ≤ x_1.2.2.2.2.2.2.2.2.2.2.2.2.2.2 ∧ x_1.2.2.2.2.2.2.2.2.2.2.2.2.2.2 ≤ (9223372036854775807 : Int)) ∧
     True ∧ True ∧ True → True → (decide ((0 : Int) ≤ idxI (fun (x : Node) => !pUns x) x) = List.any x fun (x : List (Int × Int) × Int × Int × Bool × List ((Int × Int) × List Int × Int) × Int × Int × Int ×
     Int × Int × (Int × Int) × Bool × Bool × Int × Int) => !pUns x) ∧ () = () := by
  rintro l - -
  exact ⟨idxI_any, rfl⟩
theorem ok_ContainsUns : SpecOK Try.prog GL 148 ct_ContainsUns.spec := Ct.okH _ Try.func148 (by kernel_rfl) (withSpec_ok noSpecs_ok ok_IndexUns) hmix an_ContainsUns (hideMp (by kernel_rfl) vc_ContainsUns)

def ct_AllUns : Ct := ⟨[.agg cSpan, .fn 101 0], [.val .bool], fun _ => [], fun d => ((d.1.1.1.all pUns, ()), ())⟩
def an_AllUns : PDs ct_AllUns.ps → Anns := (fun _ => {})
theorem vc_AllUns :
    ∀ (x : List (List (Int × Int) × Int × Int × Bool × List ((Int × Int) × List Int × Int) × Int × Int × Int × Int × Int × (Int × Int) × Bool × Bool × Int × Int)) (x_1 : List (Int × Int × Int × Int × Int
     × Int)) (x_2 : List (Int × Int × Bool × (Int × Int) × List Int × Int)) (x_3 x_4 x_5 : Int), (((List.length x ≤ maxLen ∧ ∀ (x_6 : List (Int × Int) × Int × Int × Bool × List ((Int × Int) × List Int ×
     Int) × Int × Int × Int × Int × Int × (Int × Int) × Bool × Bool × Int × Int), x_6 ∈ x → (List.length x_6.1 ≤ maxLen ∧ ∀ (x : Int × Int), x ∈ x_6.1 → ((0 : Int) ≤ x.1 ∧ x.1 ≤ (4294967295 : Int)) ∧
     (-9223372036854775808 : Int) ≤ x.2 ∧ x.2 ≤ (9223372036854775807 : Int)) ∧ ((0 : Int) ≤ x_6.2.1 ∧ x_6.2.1 ≤ (4294967295 : Int)) ∧ ((-9223372036854775808 : Int) ≤ x_6.2.2.1 ∧ x_6.2.2.1 ≤
     (9223372036854775807 : Int)) ∧ True ∧ (List.length x_6.2.2.2.2.1 ≤ maxLen ∧ ∀ (x : (Int × Int) × List Int × Int), x ∈ x_6.2.2.2.2.1 → (((0 : Int) ≤ x.1.1 ∧ x.1.1 ≤ (4294967295 : Int)) ∧
     (-9223372036854775808 : Int) ≤ x.1.2 ∧ x.1.2 ≤ (9223372036854775807 : Int)) ∧ (List.length x.2.1 ≤ maxLen ∧ ∀ (x_7 : Int), x_7 ∈ x.2.1 → (-9223372036854775808 : Int) ≤ x_7 ∧ x_7 ≤ (9223372036854775807
     : Int)) ∧ (-9223372036854775808 : Int) ≤ x.2.2 ∧ x.2.2 ≤ (9223372036854775807 : Int)) ∧ ((-9223372036854775808 : Int) ≤ x_6.2.2.2.2.2.1 ∧ x_6.2.2.2.2.2.1 ≤ (9223372036854775807 : Int)) ∧ ((0 : Int) ≤
     x_6.2.2.2.2.2.2.1 ∧ x_6.2.2.2.2.2.2.1 ≤ (4294967295 : Int)) ∧ ((-9223372036854775808 : Int) ≤ x_6.2.2.2.2.2.2.2.1 ∧ x_6.2.2.2.2.2.2.2.1 ≤ (9223372036854775807 : Int)) ∧ ((-9223372036854775808 : Int) ≤
     x_6.2.2.2.2.2.2.2.2.1 ∧ x_6.2.2.2.2.2.2.2.2.1 ≤ (9223372036854775807 : Int)) ∧ ((-9223372036854775808 : Int) ≤ x_6.2.2.2.2.2.2.2.2.2.1 ∧ x_6.2.2.2.2.2.2.2.2.2.1 ≤ (9223372036854775807 : Int)) ∧
     (((-9223372036854775808 : Int) ≤ x_6.2.2.2.2.2.2.2.2.2.2.1.1 ∧ x_6.2.2.2.2.2.2.2.2.2.2.1.1 ≤ (9223372036854775807 : Int)) ∧ (-9223372036854775808 : Int) ≤ x_6.2.2.2.2.2.2.2.2.2.2.1.2 ∧
     x_6.2.2.2.2.2.2.2.2.2.2.1.2 ≤ (9223372036854775807 : Int)) ∧ True ∧ True ∧ ((-9223372036854775808 : Int) ≤ x_6.2.2.2.2.2.2.2.2.2.2.2.2.2.1 ∧ x_6.2.2.2.2.2.2.2.2.2.2.2.2.2.1 ≤ (9223372036854775807 :
     Int)) ∧ (-9223372036854775808 : Int) ≤ x_6.2.2.2.2.2.2.2.2.2.2.2.2.2.2 ∧ x_6.2.2.2.2.2.2.2.2.2.2.2.2.2.2 ≤ (9223372036854775807 : Int)) ∧ (List.length x_1 ≤ maxLen ∧ ∀ (x : Int × Int × Int × Int × Int
     × Int), x ∈ x_1 → ((-9223372036854775808 : Int) ≤ x.1 ∧ x.1 ≤ (9223372036854775807 : Int)) ∧ ((-9223372036854775808 : Int) ≤ x.2.1 ∧ x.2.1 ≤ (9223372036854775807 : Int)) ∧ ((-9223372036854775808 :
     Int) ≤ x.2.2.1 ∧ x.2.2.1 ≤ (9223372036854775807 : Int)) ∧ ((-9223372036854775808 : Int) ≤ x.2.2.2.1 ∧ x.2.2.2.1 ≤ (9223372036854775807 : Int)) ∧ ((-9223372036854775808 : Int) ≤ x.2.2.2.2.1 ∧
     x.2.2.2.2.1 ≤ (9223372036854775807 : Int)) ∧ (-9223372036854775808 : Int) ≤ x.2.2.2.2.2 ∧ x.2.2.2.2.2 ≤ (9223372036854775807 : Int)) ∧ List.length x_2 ≤ maxLen ∧ ∀ (x : Int × Int × Bool × (Int × Int)
     × List Int × Int), x ∈ x_2 → ((-9223372036854775808 : Int) ≤ x.1 ∧ x.1 ≤ (9223372036854775807 : Int)) ∧ ((-9223372036854775808 : Int) ≤ x.2.1 ∧ x.2.1 ≤ (9223372036854775807 : Int)) ∧ True ∧ (((0 :
     Int) ≤ x.2.2.2.1.1 ∧ x.2.2.2.1.1 ≤ (4294967295 : Int)) ∧ (-9223372036854775808 : Int) ≤ x.2.2.2.1.2 ∧ x.2.2.2.1.2 ≤ (9223372036854775807 : Int)) ∧ (List.length x.2.2.2.2.1 ≤ maxLen ∧ ∀ (x_6 : Int),
     x_6 ∈ x.2.2.2.2.1 → (-9223372036854775808 : Int) ≤ x_6 ∧ x_6 ≤ (9223372036854775807 : Int)) ∧ (-9223372036854775808 : Int) ≤ x.2.2.2.2.2 ∧ x.2.2.2.2.2 ≤ (9223372036854775807 : Int)) ∧
     ((-9223372036854775808 : Int) ≤ x_3 ∧ x_3 ≤ (9223372036854775807 : Int)) ∧ ((-9223372036854775808 : Int) ≤ x_4 ∧ x_4 ≤ (9223372036854775807 : Int)) ∧ (-9223372036854775808 : Int) ≤ x_5 ∧ x_5 ≤
     (9223372036854775807 : Int)) ∧ True ∧ True → True → (!List.any x fun (x : List (Int × Int) × Int × Int × Bool × List ((Int × Int) × List Int × Int) × Int × Int × Int × Int × Int × (Int × Int) × Bool ×
     Bool × Int × Int) => !pUns x) = List.all x pUns := by
  intros
  exact any_not
theorem ok_AllUns : SpecOK Try.prog GL 99 ct_AllUns.spec := Ct.okH _ Try.func99 (by kernel_rfl) (withSpec_ok noSpecs_ok ok_ContainsUns) hmix an_AllUns (hideMp (by kernel_rfl) vc_AllUns)

def ct_truth_unspoofed : Ct := ⟨[.agg cSpan], [.val .bool], fun _ => [], fun d => ((d.1.1.1.all pUns, ()), ())⟩
def an_truth_unspoofed : PDs ct_truth_unspoofed.ps → Anns := (fun _ => {})
theorem vc_truth_unspoofed :
    ∀ (x : List (List (Int × Int) × Int × Int × Bool × List ((Int × Int) × List Int × Int) × Int × Int × Int × Int × Int × (Int × Int) × Bool × Bool × Int × Int)) (x_1 : List (Int × Int × Int × Int × Int
     × Int)) (x_2 : List (Int × Int × Bool × (Int × Int) × List Int × Int)) (x_3 x_4 x_5 : Int), (((List.length x ≤ maxLen ∧ ∀ (x_6 : List (Int × Int) × Int × Int × Bool × List ((Int × Int) × List Int ×
     Int) × Int × Int × Int × Int × Int × (Int × Int) × Bool × Bool × Int × Int), x_6 ∈ x → (List.length x_6.1 ≤ maxLen ∧ ∀ (x : Int × Int), x ∈ x_6.1 → ((0 : Int) ≤ x.1 ∧ x.1 ≤ (4294967295 : Int)) ∧
     (-9223372036854775808 : Int) ≤ x.2 ∧ x.2 ≤ (9223372036854775807 : Int)) ∧ ((0 : Int) ≤ x_6.2.1 ∧ x_6.2.1 ≤ (4294967295 : Int)) ∧ ((-9223372036854775808 : Int) ≤ x_6.2.2.1 ∧ x_6.2.2.1 ≤
     (9223372036854775807 : Int)) ∧ True ∧ (List.length x_6.2.2.2.2.1 ≤ maxLen ∧ ∀ (x : (Int × Int) × List Int × Int), x ∈ x_6.2.2.2.2.1 → (((0 : Int) ≤ x.1.1 ∧ x.1.1 ≤ (4294967295 : Int)) ∧
     (-9223372036854775808 : Int) ≤ x.1.2 ∧ x.1.2 ≤ (9223372036854775807 : Int)) ∧ (List.length x.2.1 ≤ maxLen ∧ ∀ (x_7 : Int), x_7 ∈ x.2.1 → (-9223372036854775808 : Int) ≤ x_7 ∧ x_7 ≤ (9223372036854775807
     : Int)) ∧ (-9223372036854775808 : Int) ≤ x.2.2 ∧ x.2.2 ≤ (9223372036854775807 : Int)) ∧ ((-9223372036854775808 : Int) ≤ x_6.2.2.2.2.2.1 ∧ x_6.2.2.2.2.2.1 ≤ (9223372036854775807 : Int)) ∧ ((0 : Int) ≤
     x_6.2.2.2.2.2.2.1 ∧ x_6.2.2.2.2.2.2.1 ≤ (4294967295 : Int)) ∧ ((-9223372036854775808 : Int) ≤ x_6.2.2.2.2.2.2.2.1 ∧ x_6.2.2.2.2.2.2.2.1 ≤ (9223372036854775807 : Int)) ∧ ((-9223372036854775808 : Int) ≤
     x_6.2.2.2.2.2.2.2.2.1 ∧ x_6.2.2.2.2.2.2.2.2.1 ≤ (9223372036854775807 : Int)) ∧ ((-9223372036854775808 : Int) ≤ x_6.2.2.2.2.2.2.2.2.2.1 ∧ x_6.2.2.2.2.2.2.2.2.2.1 ≤ (9223372036854775807 : Int)) ∧
     (((-9223372036854775808 : Int) ≤ x_6.2.2.2.2.2.2.2.2.2.2.1.1 ∧ x_6.2.2.2.2.2.2.2.2.2.2.1.1 ≤ (9223372036854775807 : Int)) ∧ (-9223372036854775808 : Int) ≤ x_6.2.2.2.2.2.2.2.2.2.2.1.2 ∧
     x_6.2.2.2.2.2.2.2.2.2.2.1.2 ≤ (9223372036854775807 : Int)) ∧ True ∧ True ∧ ((-9223372036854775808 : Int) ≤ x_6.2.2.2.2.2.2.2.2.2.2.2.2.2.1 ∧ x_6.2.2.2.2.2.2.2.2.2.2.2.2.2.1 ≤ (9223372036854775807 :
     Int)) ∧ (-9223372036854775808 : Int) ≤ x_6.2.2.2.2.2.2.2.2.2.2.2.2.2.2 ∧ x_6.2.2.2.2.2.2.2.2.2.2.2.2.2.2 ≤ (9223372036854775807 : Int)) ∧ (List.length x_1 ≤ maxLen ∧ ∀ (x : Int × Int × Int × Int × Int
     × Int), x ∈ x_1 → ((-9223372036854775808 : Int) ≤ x.1 ∧ x.1 ≤ (9223372036854775807 : Int)) ∧ ((-9223372036854775808 : Int) ≤ x.2.1 ∧ x.2.1 ≤ (9223372036854775807 : Int)) ∧ ((-9223372036854775808 :
     Int) ≤ x.2.2.1 ∧ x.2.2.1 ≤ (9223372036854775807 : Int)) ∧ ((-9223372036854775808 : Int) ≤ x.2.2.2.1 ∧ x.2.2.2.1 ≤ (9223372036854775807 : Int)) ∧ ((-9223372036854775808 : Int) ≤ x.2.2.2.2.1 ∧
     x.2.2.2.2.1 ≤ (9223372036854775807 : Int)) ∧ (-9223372036854775808 : Int) ≤ x.2.2.2.2.2 ∧ x.2.2.2.2.2 ≤ (9223372036854775807 : Int)) ∧ List.length x_2 ≤ maxLen ∧ ∀ (x : Int × Int × Bool × (Int × Int)
     × List Int × Int), x ∈ x_2 → ((-9223372036854775808 : Int) ≤ x.1 ∧ x.1 ≤ (9223372036854775807 : Int)) ∧ ((-9223372036854775808 : Int) ≤ x.2.1 ∧ x.2.1 ≤ (9223372036854775807 : Int)) ∧ True ∧ (((0 :
     Int) ≤ x.2.2.2.1.1 ∧ x.2.2.2.1.1 ≤ (4294967295 : Int)) ∧ (-9223372036854775808 : Int) ≤ x.2.2.2.1.2 ∧ x.2.2.2.1.2 ≤ (9223372036854775807 : Int)) ∧ (List.length x.2.2.2.2.1 ≤ maxLen ∧ ∀ (x_6 : Int),
     x_6 ∈ x.2.2.2.2.1 → (-9223372036854775808 : Int) ≤ x_6 ∧ x_6 ≤ (9223372036854775807 : Int)) ∧ (-9223372036854775808 : Int) ≤ x.2.2.2.2.2 ∧ x.2.2.2.2.2 ≤ (9223372036854775807 : Int)) ∧
     ((-9223372036854775808 : Int) ≤ x_3 ∧ x_3 ≤ (9223372036854775807 : Int)) ∧ ((-9223372036854775808 : Int) ≤ x_4 ∧ x_4 ≤ (9223372036854775807 : Int)) ∧ (-9223372036854775808 : Int) ≤ x_5 ∧ x_5 ≤
     (9223372036854775807 : Int)) ∧ True → True → List.all x pUns = List.all x pUns := by
  intros
  rfl
theorem ok_truth_unspoofed : SpecOK Try.prog GL 58 ct_truth_unspoofed.spec := Ct.okH _ Try.func58 (by kernel_rfl) (withSpec_ok noSpecs_ok ok_AllUns) hmix an_truth_unspoofed (hideMp (by kernel_rfl) vc_truth_unspoofed)

def ct_truth_incoming_1 : Ct := ⟨[.agg cNode], [.val .bool], fun _ => [], fun d => ((pInc d.1, ()), ())⟩
def an_truth_incoming_1 : PDs ct_truth_incoming_1.ps → Anns := (fun _ => {})
theorem vc_truth_incoming_1 :
    ∀ (d : List (Int × Int) × Int × Int × Bool × List ((Int × Int) × List Int × Int) × Int × Int × Int × Int × Int × (Int × Int) × Bool × Bool × Int × Int), CT.wf cNode d ∧ True → True → decide
     (d.2.2.2.2.2.1 = (1 : Int)) = pInc d := by
  rintro d - -
  rfl
theorem ok_truth_incoming_1 : SpecOK Try.prog GL 102 ct_truth_incoming_1.spec := Ct.okH _ Try.func102 (by kernel_rfl) noSpecs_ok hmix an_truth_incoming_1 (hideMp (by kernel_rfl) vc_truth_incoming_1)

def ct_NegInc : Ct := ⟨[.agg cNode, .box 158 (.fnc 102)], [.val .bool], fun _ => [], fun d => ((!pInc d.1, ()), ((), ()))⟩
def an_NegInc : PDs ct_NegInc.ps → Anns := (fun _ => {})
theorem vc_NegInc :
    ∀ (d : List (Int × Int) × Int × Int × Bool × List ((Int × Int) × List Int × Int) × Int × Int × Int × Int × Int × (Int × Int) × Bool × Bool × Int × Int), CT.wf cNode d ∧ True ∧ True → True → (!pInc d)
     = !pInc d ∧ () = () := by
  rintro d - -
  exact ⟨rfl, rfl⟩
theorem ok_NegInc : SpecOK Try.prog GL 149 ct_NegInc.spec := Ct.okH _ Try.func149 (by kernel_rfl) (withSpec_ok noSpecs_ok ok_truth_incoming_1) hmix an_NegInc (hideMp (by kernel_rfl) vc_NegInc)

def ct_IndexInc : Ct := ⟨[.val (.sl cNode), .fn 149 1, .box 158 (.fnc 102)], [.val cI], fun _ => [], fun d => ((idxI (fun x => !pInc x) d.1, ()), ((), ()))⟩
def an_IndexInc : PDs ct_IndexInc.ps → Anns := (fun d => { loops := (fun n => match n with | 2 => some (fun S => { ι := Int, μ := fun i => (d.1.length - i).toNat, inv := fun i => 0 ≤ i ∧ i ≤ d.1.length ∧ ∀ x ∈ d.1.take i.toNat, (!pInc x) = false, keep := [0, 1, 6, 7], slots := fun i => [(8, .int .i64 i)], keepN := [1048576], names := fun i => [] }) | _ => none) })
theorem vc_IndexInc :
    ∀ (x : List (List (Int × Int) × Int × Int × Bool × List ((Int × Int) × List Int × Int) × Int × Int × Int × Int × Int × (Int × Int) × Bool × Bool × Int × Int)), (List.length x ≤ maxLen ∧ ∀ (x_1 : List
     (Int × Int) × Int × Int × Bool × List ((Int × Int) × List Int × Int) × Int × Int × Int × Int × Int × (Int × Int) × Bool × Bool × Int × Int), x_1 ∈ x → (List.length x_1.1 ≤ maxLen ∧ ∀ (x : Int × Int),
     x ∈ x_1.1 → ((0 : Int) ≤ x.1 ∧ x.1 ≤ (4294967295 : Int)) ∧ (-9223372036854775808 : Int) ≤ x.2 ∧ x.2 ≤ (9223372036854775807 : Int)) ∧ ((0 : Int) ≤ x_1.2.1 ∧ x_1.2.1 ≤ (4294967295 : Int)) ∧
     ((-9223372036854775808 : Int) ≤ x_1.2.2.1 ∧ x_1.2.2.1 ≤ (9223372036854775807 : Int)) ∧ True ∧ (List.length x_1.2.2.2.2.1 ≤ maxLen ∧ ∀ (x : (Int × Int) × List Int × Int), x ∈ x_1.2.2.2.2.1 → (((0 :
     Int) ≤ x.1.1 ∧ x.1.1 ≤ (4294967295 : Int)) ∧ (-9223372036854775808 : Int) ≤ x.1.2 ∧ x.1.2 ≤ (9223372036854775807 : Int)) ∧ (List.length x.2.1 ≤ maxLen ∧ ∀ (x_2 : Int), x_2 ∈ x.2.1 →
     (-9223372036854775808 : Int) ≤ x_2 ∧ x_2 ≤ (9223372036854775807 : Int)) ∧ (-9223372036854775808 : Int) ≤ x.2.2 ∧ x.2.2 ≤ (9223372036854775807 : Int)) ∧ ((-9223372036854775808 : Int) ≤ x_1.2.2.2.2.2.1
     ∧ x_1.2.2.2.2.2.1 ≤ (9223372036854775807 : Int)) ∧ ((0 : Int) ≤ x_1.2.2.2.2.2.2.1 ∧ x_1.2.2.2.2.2.2.1 ≤ (4294967295 : Int)) ∧ ((-9223372036854775808 : Int) ≤ x_1.2.2.2.2.2.2.2.1 ∧ x_1.2.2.2.2.2.2.2.1
     ≤ (9223372036854775807 : Int)) ∧ ((-9223372036854775808 : Int) ≤ x_1.2.2.2.2.2.2.2.2.1 ∧ x_1.2.2.2.2.2.2.2.2.1 ≤ (9223372036854775807 : Int)) ∧ ((-9223372036854775808 : Int) ≤ x_1.2.2.2.2.2.2.2.2.2.1
     ∧ x_1.2.2.2.2.2.2.2.2.2.1 ≤ (9223372036854775807 : Int)) ∧ (((-9223372036854775808 : Int) ≤ x_1.2.2.2.2.2.2.2.2.2.2.1.1 ∧ x_1.2.2.2.2.2.2.2.2.2.2.1.1 ≤ (9223372036854775807 : Int)) ∧
     (-9223372036854775808 : Int) ≤ x_1.2.2.2.2.2.2.2.2.2.2.1.2 ∧ x_1.2.2.2.2.2.2.2.2.2.2.1.2 ≤ (9223372036854775807 : Int)) ∧ True ∧ True ∧ ((-9223372036854775808 : Int) ≤ x_1.2.2.2.2.2.2.2.2.2.2.2.2.2.1
     ∧ x_1.2.2.2.2.2.2.2.2.2.2.2.2.2.1 ≤ (9223372036854775807 : Int)) ∧ (-9223372036854775808 : Int) ≤ x_1.2.2.2.2.2.2.2.2.2.2.2.2.2.2 ∧ x_1.2.2.2.2.2.2.2.2.2.2.2.2.2.2 ≤ (9223372036854775807 : Int)) ∧
     True ∧ True ∧ True → True → (∃ (x_1 : Int), ((0 : Int) ≤ x_1 ∧ x_1 ≤ (↑(List.length x) : Int) ∧ ∀ (x_2 : List (Int × Int) × Int × Int × Bool × List ((Int × Int) × List Int × Int) × Int × Int × Int ×
     Int × Int × (Int × Int) × Bool × Bool × Int × Int), x_2 ∈ List.take (Int.toNat x_1) x → (!pInc x_2) = false) ∧ x = x ∧ x = x ∧ (↑(List.length x) : Int) = (↑(List.length x) : Int) ∧ (0 : Int) = x_1 ∧
     True) ∧ ∀ (x_1 : Int), ((0 : Int) ≤ x_1 ∧ x_1 ≤ (↑(List.length x) : Int) ∧ ∀ (x_2 : List (Int × Int) × Int × Int × Bool × List ((Int × Int) × List Int × Int) × Int × Int × Int × Int × Int × (Int ×
     Int) × Bool × Bool × Int × Int), x_2 ∈ List.take (Int.toNat x_1) x → (!pInc x_2) = false) → ifP (decide (x_1 < (↑(List.length x) : Int))) ((0 : Int) ≤ x_1 ∧ x_1 < (↑(List.length x) : Int) ∧ ifP (!pInc
     (List.getD x (Int.toNat x_1) default)) (x_1 = idxI (fun (x : Node) => !pInc x) x ∧ () = ()) (∃ (x_2 : Int), ((0 : Int) ≤ x_2 ∧ x_2 ≤ (↑(List.length x) : Int) ∧ ∀ (x_3 : List (Int × Int) × Int × Int ×
     Bool × List ((Int × Int) × List Int × Int) × Int × Int × Int × Int × Int × (Int × Int) × Bool × Bool × Int × Int), x_3 ∈ List.take (Int.toNat x_2) x → (!pInc x_3) = false) ∧ Int.toNat ((↑(List.length
     x) : Int) - x_2) < Int.toNat ((↑(List.length x) : Int) - x_1) ∧ x = x ∧ x = x ∧ (↑(List.length x) : Int) = (↑(List.length x) : Int) ∧ IntKind.wrap IntKind.i64 (x_1 + (1 : Int)) = x_2 ∧ True)) ((-1 :
     Int) = idxI (fun (x : Node) => !pInc x) x ∧ () = ()) := by
  rintro l ⟨⟨hl, -⟩, -⟩ -
  simp only [maxLen] at hl
  refine ⟨⟨0, ⟨by omega, by omega, by simp⟩, (by repeat' first | exact trivial | refine ⟨trivial, ?_⟩ | refine ⟨(by with_reducible rfl), ?_⟩ | refine ⟨w64 (by omega) (by omega), ?_⟩ | refine ⟨rfl, ?_⟩)⟩, ?_⟩
  rintro j ⟨j0, j1, hj⟩
  refine ifP_split (fun hk => ?_) (fun hk => ?_)
  · have hk := of_decide_eq_true hk
    refine ⟨j0, hk, ifP_split (fun hm => ?_) (fun hm => ?_)⟩
    · exact ⟨findI_at (q := fun x => !pInc x) j0 hk hj hm, rfl⟩
    · exact ⟨j + 1, ⟨by omega, by omega, all_next (P := fun x => (!pInc x) = false) j0 hk hj hm⟩, by omega, (by repeat' first | exact trivial | refine ⟨trivial, ?_⟩ | refine ⟨(by with_reducible rfl), ?_⟩ | refine ⟨w64 (by omega) (by omega), ?_⟩ | refine ⟨rfl, ?_⟩)⟩
  · exact ⟨findI_none (q := fun x => !pInc x) (of_decide_eq_false hk) hj, rfl⟩
theorem ok_IndexInc : SpecOK Try.prog GL 183 ct_IndexInc.spec := Ct.okH _ Try.func183 (by kernel_rfl) (withSpec_ok noSpecs_ok ok_NegInc) hmix an_IndexInc (hideMp (by kernel_rfl) vc_IndexInc)

def ct_ContainsInc : Ct := ⟨[.val (.sl cNode), .fn 149 1, .box 158 (.fnc 102)], [.val .bool], fun _ => [], fun d => ((d.1.any (fun x => !pInc x), ()), ((), ()))⟩
def an_ContainsInc : PDs ct_ContainsInc.ps → Anns := (fun _ => {})
theorem vc_ContainsInc :
    ∀ (x : List (List (Int × Int) × Int × Int × Bool × List ((Int × Int) × List Int × Int) × Int × Int × Int × Int × Int × (Int × Int) × Bool × Bool × Int × Int)), (List.length x ≤ maxLen ∧ ∀ (x_1 : List
     (Int × Int) × Int × Int × Bool × List ((Int × Int) × List Int × Int) × Int × Int × Int × Int × Int × (Int × Int) × Bool × Bool × Int × Int), x_1 ∈ x → (List.length x_1.1 ≤ maxLen ∧ ∀ (x : Int × Int),
     x ∈ x_1.1 → ((0 : Int) ≤ x.1 ∧ x.1 ≤ (4294967295 : Int)) ∧ (-9223372036854775808 : Int) ≤ x.2 ∧ x.2 ≤ (9223372036854775807 : Int)) ∧ ((0 : Int) ≤ x_1.2.1 ∧ x_1.2.1 ≤ (4294967295 : Int)) ∧
     ((-9223372036854775808 : Int) ≤ x_1.2.2.1 ∧ x_1.2.2.1 ≤ (9223372036854775807 : Int)) ∧ True ∧ (List.length x_1.2.2.2.2.1 ≤ maxLen ∧ ∀ (x : (Int × Int) × List Int × Int), x ∈ x_1.2.2.2.2.1 → (((0 :
     Int) ≤ x.1.1 ∧ x.1.1 ≤ (4294967295 : Int)) ∧ (-9223372036854775808 : Int) ≤ x.1.2 ∧ x.1.2 ≤ (9223372036854775807 : Int)) ∧ (List.length x.2.1 ≤ maxLen ∧ ∀ (x_2 : Int), x_2 ∈ x.2.1 →
     (-9223372036854775808 : Int) ≤ x_2 ∧ x_2 ≤ (9223372036854775807 : Int)) ∧ (-9223372036854775808 : Int) ≤ x.2.2 ∧ x.2.2 ≤ (9223372036854775807 : Int)) ∧ ((-9223372036854775808 : Int) ≤ x_1.2.2.2.2.2.1
     ∧ x_1.2.2.2.2.2.1 ≤ (9223372036854775807 : Int)) ∧ ((0 : Int) ≤ x_1.2.2.2.2.2.2.1 ∧ x_1.2.2.2.2.2.2.1 ≤ (4294967295 : Int)) ∧ ((-9223372036854775808 : Int) ≤ x_1.2.2.2.2.2.2.2.1 ∧ x_1.2.2.2.2.2.2.2.1
     ≤ (9223372036854775807 : Int)) ∧ ((-9223372036854775808 : Int) ≤ x_1.2.2.2.2.2.2.2.2.1 ∧ x_1.2.2.2.2.2.2.2.2.1 ≤ (9223372036854775807 : Int)) ∧ ((-9223372036854775808 : Int) ≤ x_1.2.2.2.2.2.2.2.2.2.1
     ∧ x_1.2.2.2.2.2.2.2.2.2.1 ≤ (9223372036854775807 : Int)) ∧ (((-9223372036854775808 : Int) ≤ x_1.2.2.2.2.2.2.2.2.2.2.1.1 ∧ x_1.2.2.2.2.2.2.2.2.2.2.1.1 ≤ (9223372036854775807 : Int)) ∧
     (-9223372036854775808 : Int) ≤ x_1.2.2.2.2.2.2.2.2.2.2.1.2 ∧ x_1.2.2.2.2.2.2.2.2.2.2.1.2 ≤ (9223372036854775807 : Int)) ∧ True ∧ True ∧ ((-9223372036854775808 : Int) ≤ x_1.2.2.2.2.2.2.2.2.2.2.2.2.2.1
     ∧ x_1.2.2.2.2.2.2.2.2.2.2.2.2.2.1 ≤ (9223372036854775807 : Int)) ∧ (-9223372036854775808 : Int) ≤ x_1.2.2.2.2.2.2.2.2.2.2.2.2.2.2 ∧ x_1.2.2.2.2.2.2.2.2.2.2.2.2.2.2 ≤ (9223372036854775807 : Int)) ∧
     True ∧ True ∧ True → True → (decide ((0 : Int) ≤ idxI (fun (x : Node) => !pInc x) x) = List.any x fun (x : List (Int × Int) × Int × Int × Bool × List ((Int × Int) × List Int × Int) × Int × Int × Int ×
     Int × Int × (Int × Int) × Bool × Bool × Int × Int) => !pInc x) ∧ () = () := by
  rintro l - -
  exact ⟨idxI_any, rfl⟩
theorem ok_ContainsInc : SpecOK Try.prog GL 148 ct_ContainsInc.spec := Ct.okH _ Try.func148 (by kernel_rfl) (withSpec_ok noSpecs_ok ok_IndexInc) hmix an_ContainsInc (hideMp (by kernel_rfl) vc_ContainsInc)

def ct_AllInc : Ct := ⟨[.agg cSpan, .fn 102 0], [.val .bool], fun _ => [], fun d => ((d.1.1.1.all pInc, ()), ())⟩
def an_AllInc : PDs ct_AllInc.ps → Anns := (fun _ => {})
theorem vc_AllInc :
    ∀ (x : List (List (Int × Int) × Int × Int × Bool × List ((Int × Int) × List Int × Int) × Int × Int × Int × Int × Int × (Int × Int) × Bool × Bool × Int × Int)) (x_1 : List (Int × Int × Int × Int × Int
     × Int)) (x_2 : List (Int × Int × Bool × (Int × Int) × List Int × Int)) (x_3 x_4 x_5 : Int), (((List.length x ≤ maxLen ∧ ∀ (x_6 : List (Int × Int) × Int × Int × Bool × List ((Int × Int) × List Int ×
     Int) × Int × Int × Int × Int × Int × (Int × Int) × Bool × Bool × Int × Int), x_6 ∈ x → (List.length x_6.1 ≤ maxLen ∧ ∀ (x : Int × Int), x ∈ x_6.1 → ((0 : Int) ≤ x.1 ∧ x.1 ≤ (4294967295 : Int)) ∧
     (-9223372036854775808 : Int) ≤ x.2 ∧ x.2 ≤ (9223372036854775807 : Int)) ∧ ((0 : Int) ≤ x_6.2.1 ∧ x_6.2.1 ≤ (4294967295 : Int)) ∧ ((-9223372036854775808 : Int) ≤ x_6.2.2.1 ∧ x_6.2.2.1 ≤
     (9223372036854775807 : Int)) ∧ True ∧ (List.length x_6.2.2.2.2.1 ≤ maxLen ∧ ∀ (x : (Int × Int) × List Int × Int), x ∈ x_6.2.2.2.2.1 → (((0 : Int) ≤ x.1.1 ∧ x.1.1 ≤ (4294967295 : Int)) ∧
     (-9223372036854775808 : Int) ≤ x.1.2 ∧ x.1.2 ≤ (9223372036854775807 : Int)) ∧ (List.length x.2.1 ≤ maxLen ∧ ∀ (x_7 : Int), x_7 ∈ x.2.1 → (-9223372036854775808 : Int) ≤ x_7 ∧ x_7 ≤ (9223372036854775807
     : Int)) ∧ (-9223372036854775808 : Int) ≤ x.2.2 ∧ x.2.2 ≤ (9223372036854775807 : Int)) ∧ ((-9223372036854775808 : Int) ≤ x_6.2.2.2.2.2.1 ∧ x_6.2.2.2.2.2.1 ≤ (9223372036854775807 : Int)) ∧ ((0 : Int) ≤
     x_6.2.2.2.2.2.2.1 ∧ x_6.2.2.2.2.2.2.1 ≤ (4294967295 : Int)) ∧ ((-9223372036854775808 : Int) ≤ x_6.2.2.2.2.2.2.2.1 ∧ x_6.2.2.2.2.2.2.2.1 ≤ (9223372036854775807 : Int)) ∧ ((-9223372036854775808 : Int) ≤
     x_6.2.2.2.2.2.2.2.2.1 ∧ x_6.2.2.2.2.2.2.2.2.1 ≤ (9223372036854775807 : Int)) ∧ ((-9223372036854775808 : Int) ≤ x_6.2.2.2.2.2.2.2.2.2.1 ∧ x_6.2.2.2.2.2.2.2.2.2.1 ≤ (9223372036854775807 : Int)) ∧
     (((-9223372036854775808 : Int) ≤ x_6.2.2.2.2.2.2.2.2.2.2.1.1 ∧ x_6.2.2.2.2.2.2.2.2.2.2.1.1 ≤ (9223372036854775807 : Int)) ∧ (-9223372036854775808 : Int) ≤ x_6.2.2.2.2.2.2.2.2.2.2.1.2 ∧
     x_6.2.2.2.2.2.2.2.2.2.2.1.2 ≤ (9223372036854775807 : Int)) ∧ True ∧ True ∧ ((-9223372036854775808 : Int) ≤ x_6.2.2.2.2.2.2.2.2.2.2.2.2.2.1 ∧ x_6.2.2.2.2.2.2.2.2.2.2.2.2.2.1 ≤ (9223372036854775807 :
     Int)) ∧ (-9223372036854775808 : Int) ≤ x_6.2.2.2.2.2.2.2.2.2.2.2.2.2.2 ∧ x_6.2.2.2.2.2.2.2.2.2.2.2.2.2.2 ≤ (9223372036854775807 : Int)) ∧ (List.length x_1 ≤ maxLen ∧ ∀ (x : Int × Int × Int × Int × Int
     × Int), x ∈ x_1 → ((-9223372036854775808 : Int) ≤ x.1 ∧ x.1 ≤ (9223372036854775807 : Int)) ∧ ((-9223372036854775808 : Int) ≤ x.2.1 ∧ x.2.1 ≤ (9223372036854775807 : Int)) ∧ ((-9223372036854775808 :
     Int) ≤ x.2.2.1 ∧ x.2.2.1 ≤ (9223372036854775807 : Int)) ∧ ((-9223372036854775808 : Int) ≤ x.2.2.2.1 ∧ x.2.2.2.1 ≤ (9223372036854775807 : Int)) ∧ ((-9223372036854775808 : Int) ≤ x.2.2.2.2.1 ∧
     x.2.2.2.2.1 ≤ (9223372036854775807 : Int)) ∧ (-9223372036854775808 : Int) ≤ x.2.2.2.2.2 ∧ x.2.2.2.2.2 ≤ (9223372036854775807 : Int)) ∧ List.length x_2 ≤ maxLen ∧ ∀ (x : Int × Int × Bool × (Int × Int)
     × List Int × Int), x ∈ x_2 → ((-9223372036854775808 : Int) ≤ x.1 ∧ x.1 ≤ (9223372036854775807 : Int)) ∧ ((-9223372036854775808 : Int) ≤ x.2.1 ∧ x.2.1 ≤ (9223372036854775807 : Int)) ∧ True ∧ (((0 :
     Int) ≤ x.2.2.2.1.1 ∧ x.2.2.2.1.1 ≤ (4294967295 : Int)) ∧ (-9223372036854775808 : Int) ≤ x.2.2.2.1.2 ∧ x.2.2.2.1.2 ≤ (9223372036854775807 : Int)) ∧ (List.length x.2.2.2.2.1 ≤ maxLen ∧ ∀ (x_6 : Int),
     x_6 ∈ x.2.2.2.2.1 → (-9223372036854775808 : Int) ≤ x_6 ∧ x_6 ≤ (9223372036854775807 : Int)) ∧ (-9223372036854775808 : Int) ≤ x.2.2.2.2.2 ∧ x.2.2.2.2.2 ≤ (9223372036854775807 : Int)) ∧
     ((-9223372036854775808 : Int) ≤ x_3 ∧ x_3 ≤ (9223372036854775807 : Int)) ∧ ((-9223372036854775808 : Int) ≤ x_4 ∧ x_4 ≤ (9223372036854775807 : Int)) ∧ (-9223372036854775808 : Int) ≤ x_5 ∧ x_5 ≤
     (9223372036854775807 : Int)) ∧ True ∧ True → True → (!List.any x fun (x : List (Int × Int) × Int × Int × Bool × List ((Int × Int) × List Int × Int) × Int × Int × Int × Int × Int × (Int × Int) × Bool ×
     Bool × Int × Int) => !pInc x) = List.all x pInc := by
  intros
  exact any_not
theorem ok_AllInc : SpecOK Try.prog GL 99 ct_AllInc.spec := Ct.okH _ Try.func99 (by kernel_rfl) (withSpec_ok noSpecs_ok ok_ContainsInc) hmix an_AllInc (hideMp (by kernel_rfl) vc_AllInc)

def ct_truth_incoming : Ct := ⟨[.agg cSpan], [.val .bool], fun _ => [], fun d => ((d.1.1.1.all pInc, ()), ())⟩
def an_truth_incoming : PDs ct_truth_incoming.ps → Anns := (fun _ => {})
theorem vc_truth_incoming :
    ∀ (x : List (List (Int × Int) × Int × Int × Bool × List ((Int × Int) × List Int × Int) × Int × Int × Int × Int × Int × (Int × Int) × Bool × Bool × Int × Int)) (x_1 : List (Int × Int × Int × Int × Int
     × Int)) (x_2 : List (Int × Int × Bool × (Int × Int) × List Int × Int)) (x_3 x_4 x_5 : Int), (((List.length x ≤ maxLen ∧ ∀ (x_6 : List (Int × Int) × Int × Int × Bool × List ((Int × Int) × List Int ×
     Int) × Int × Int × Int × Int × Int × (Int × Int) × Bool × Bool × Int × Int), x_6 ∈ x → (List.length x_6.1 ≤ maxLen ∧ ∀ (x : Int × Int), x ∈ x_6.1 → ((0 : Int) ≤ x.1 ∧ x.1 ≤ (4294967295 : Int)) ∧
     (-9223372036854775808 : Int) ≤ x.2 ∧ x.2 ≤ (9223372036854775807 : Int)) ∧ ((0 : Int) ≤ x_6.2.1 ∧ x_6.2.1 ≤ (4294967295 : Int)) ∧ ((-9223372036854775808 : Int) ≤ x_6.2.2.1 ∧ x_6.2.2.1 ≤
     (9223372036854775807 : Int)) ∧ True ∧ (List.length x_6.2.2.2.2.1 ≤ maxLen ∧ ∀ (x : (Int × Int) × List Int × Int), x ∈ x_6.2.2.2.2.1 → (((0 : Int) ≤ x.1.1 ∧ x.1.1 ≤ (4294967295 : Int)) ∧
     (-9223372036854775808 : Int) ≤ x.1.2 ∧ x.1.2 ≤ (9223372036854775807 : Int)) ∧ (List.length x.2.1 ≤ maxLen ∧ ∀ (x_7 : Int), x_7 ∈ x.2.1 → (-9223372036854775808 : Int) ≤ x_7 ∧ x_7 ≤ (9223372036854775807
     : Int)) ∧ (-9223372036854775808 : Int) ≤ x.2.2 ∧ x.2.2 ≤ (9223372036854775807 : Int)) ∧ ((-9223372036854775808 : Int) ≤ x_6.2.2.2.2.2.1 ∧ x_6.2.2.2.2.2.1 ≤ (9223372036854775807 : Int)) ∧ ((0 : Int) ≤
     x_6.2.2.2.2.2.2.1 ∧ x_6.2.2.2.2.2.2.1 ≤ (4294967295 : Int)) ∧ ((-9223372036854775808 : Int) ≤ x_6.2.2.2.2.2.2.2.1 ∧ x_6.2.2.2.2.2.2.2.1 ≤ (9223372036854775807 : Int)) ∧ ((-9223372036854775808 : Int) ≤
     x_6.2.2.2.2.2.2.2.2.1 ∧ x_6.2.2.2.2.2.2.2.2.1 ≤ (9223372036854775807 : Int)) ∧ ((-9223372036854775808 : Int) ≤ x_6.2.2.2.2.2.2.2.2.2.1 ∧ x_6.2.2.2.2.2.2.2.2.2.1 ≤ (9223372036854775807 : Int)) ∧
     (((-9223372036854775808 : Int) ≤ x_6.2.2.2.2.2.2.2.2.2.2.1.1 ∧ x_6.2.2.2.2.2.2.2.2.2.2.1.1 ≤ (9223372036854775807 : Int)) ∧ (-9223372036854775808 : Int) ≤ x_6.2.2.2.2.2.2.2.2.2.2.1.2 ∧
     x_6.2.2.2.2.2.2.2.2.2.2.1.2 ≤ (9223372036854775807 : Int)) ∧ True ∧ True ∧ ((-9223372036854775808 : Int) ≤ x_6.2.2.2.2.2.2.2.2.2.2.2.2.2.1 ∧ x_6.2.2.2.2.2.2.2.2.2.2.2.2.2.1 ≤ (9223372036854775807 :
     Int)) ∧ (-9223372036854775808 : Int) ≤ x_6.2.2.2.2.2.2.2.2.2.2.2.2.2.2 ∧ x_6.2.2.2.2.2.2.2.2.2.2.2.2.2.2 ≤ (9223372036854775807 : Int)) ∧ (List.length x_1 ≤ maxLen ∧ ∀ (x : Int × Int × Int × Int × Int
     × Int), x ∈ x_1 → ((-9223372036854775808 : Int) ≤ x.1 ∧ x.1 ≤ (9223372036854775807 : Int)) ∧ ((-9223372036854775808 : Int) ≤ x.2.1 ∧ x.2.1 ≤ (9223372036854775807 : Int)) ∧ ((-9223372036854775808 :
     Int) ≤ x.2.2.1 ∧ x.2.2.1 ≤ (9223372036854775807 : Int)) ∧ ((-9223372036854775808 : Int) ≤ x.2.2.2.1 ∧ x.2.2.2.1 ≤ (9223372036854775807 : Int)) ∧ ((-9223372036854775808 : Int) ≤ x.2.2.2.2.1 ∧
     x.2.2.2.2.1 ≤ (9223372036854775807 : Int)) ∧ (-9223372036854775808 : Int) ≤ x.2.2.2.2.2 ∧ x.2.2.2.2.2 ≤ (9223372036854775807 : Int)) ∧ List.length x_2 ≤ maxLen ∧ ∀ (x : Int × Int × Bool × (Int × Int)
     × List Int × Int), x ∈ x_2 → ((-9223372036854775808 : Int) ≤ x.1 ∧ x.1 ≤ (9223372036854775807 : Int)) ∧ ((-9223372036854775808 : Int) ≤ x.2.1 ∧ x.2.1 ≤ (9223372036854775807 : Int)) ∧ True ∧ (((0 :
     Int) ≤ x.2.2.2.1.1 ∧ x.2.2.2.1.1 ≤ (4294967295 : Int)) ∧ (-9223372036854775808 : Int) ≤ x.2.2.2.1.2 ∧ x.2.2.2.1.2 ≤ (9223372036854775807 : Int)) ∧ (List.length x.2.2.2.2.1 ≤ maxLen ∧ ∀ (x_6 : Int),
     x_6 ∈ x.2.2.2.2.1 → (-9223372036854775808 : Int) ≤ x_6 ∧ x_6 ≤ (9223372036854775807 : Int)) ∧ (-9223372036854775808 : Int) ≤ x.2.2.2.2.2 ∧ x.2.2.2.2.2 ≤ (9223372036854775807 : Int)) ∧
     ((-9223372036854775808 : Int) ≤ x_3 ∧ x_3 ≤ (9223372036854775807 : Int)) ∧ ((-9223372036854775808 : Int) ≤ x_4 ∧ x_4 ≤ (9223372036854775807 : Int)) ∧ (-9223372036854775808 : Int) ≤ x_5 ∧ x_5 ≤
     (9223372036854775807 : Int)) ∧ True → True → List.all x pInc = List.all x pInc := by
  intros
  rfl
theorem ok_truth_incoming : SpecOK Try.prog GL 59 ct_truth_incoming.spec := Ct.okH _ Try.func59 (by kernel_rfl) (withSpec_ok noSpecs_ok ok_AllInc) hmix an_truth_incoming (hideMp (by kernel_rfl) vc_truth_incoming)

def ct_truth_talkative_1 : Ct := ⟨[.agg cNode], [.val .bool], fun _ => [], fun d => ((pTal d.1, ()), ())⟩
def an_truth_talkative_1 : PDs ct_truth_talkative_1.ps → Anns := (fun _ => {})
theorem vc_truth_talkative_1 :
    ∀ (d : List (Int × Int) × Int × Int × Bool × List ((Int × Int) × List Int × Int) × Int × Int × Int × Int × Int × (Int × Int) × Bool × Bool × Int × Int), CT.wf cNode d ∧ True → True → ∀ (b : Bool), b =
     !d.2.2.2.2.2.2.2.2.2.2.2.1 → (b = true → (b = true → b = true) ∧ True) ∧ (b = true → (b = true → b = true) ∧ True) ∧ (b = true → (b = true → b = true) ∧ True) ∧ (b = true → b = true) ∧ (bif b then
     decide (d.2.2.2.2.2.2.2.2.2.2.1.1 ≤ (0 : Int)) else false) = pTal d := by
  rintro d - -
  intro b hb
  (repeat refine ⟨fun h_ => (by first | (simp; done) | (simp [h_]; done) | (simp_all; done)), ?_⟩)
  rw [hb]
  unfold pTal nSilent nLimit
  cases d.2.2.2.2.2.2.2.2.2.2.2.1 <;> rfl
theorem ok_truth_talkative_1 : SpecOK Try.prog GL 110 ct_truth_talkative_1.spec := Ct.okH _ Try.func110 (by kernel_rfl) noSpecs_ok hmix an_truth_talkative_1 (hideMp (by kernel_rfl) vc_truth_talkative_1)

def ct_NegTal : Ct := ⟨[.agg cNode, .box 158 (.fnc 110)], [.val .bool], fun _ => [], fun d => ((!pTal d.1, ()), ((), ()))⟩
def an_NegTal : PDs ct_NegTal.ps → Anns := (fun _ => {})
theorem vc_NegTal :
    ∀ (d : List (Int × Int) × Int × Int × Bool × List ((Int × Int) × List Int × Int) × Int × Int × Int × Int × Int × (Int × Int) × Bool × Bool × Int × Int), CT.wf cNode d ∧ True ∧ True → True → (!pTal d)
     = !pTal d ∧ () = () := by
  rintro d - -
  exact ⟨rfl, rfl⟩
theorem ok_NegTal : SpecOK Try.prog GL 149 ct_NegTal.spec := Ct.okH _ Try.func149 (by kernel_rfl) (withSpec_ok noSpecs_ok ok_truth_talkative_1) hmix an_NegTal (hideMp (by kernel_rfl) vc_NegTal)

def ct_IndexTal : Ct := ⟨[.val (.sl cNode), .fn 149 1, .box 158 (.fnc 110)], [.val cI], fun _ => [], fun d => ((idxI (fun x => !pTal x) d.1, ()), ((), ()))⟩
def an_IndexTal : PDs ct_IndexTal.ps → Anns := (fun d => { loops := (fun n => match n with | 2 => some (fun S => { ι := Int, μ := fun i => (d.1.length - i).toNat, inv := fun i => 0 ≤ i ∧ i ≤ d.1.length ∧ ∀ x ∈ d.1.take i.toNat, (!pTal x) = false, keep := [0, 1, 6, 7], slots := fun i => [(8, .int .i64 i)], keepN := [1048576], names := fun i => [] }) | _ => none) })
theorem vc_IndexTal :
    ∀ (x : List (List (Int × Int) × Int × Int × Bool × List ((Int × Int) × List Int × Int) × Int × Int × Int × Int × Int × (Int × Int) × Bool × Bool × Int × Int)), (List.length x ≤ maxLen ∧ ∀ (x_1 : List
     (Int × Int) × Int × Int × Bool × List ((Int × Int) × List Int × Int) × Int × Int × Int × Int × Int × (Int × Int) × Bool × Bool × Int × Int), x_1 ∈ x → (List.length x_1.1 ≤ maxLen ∧ ∀ (x : Int × Int),
     x ∈ x_1.1 → ((0 : Int) ≤ x.1 ∧ x.1 ≤ (4294967295 : Int)) ∧ (-9223372036854775808 : Int) ≤ x.2 ∧ x.2 ≤ (9223372036854775807 : Int)) ∧ ((0 : Int) ≤ x_1.2.1 ∧ x_1.2.1 ≤ (4294967295 : Int)) ∧
     ((-9223372036854775808 : Int) ≤ x_1.2.2.1 ∧ x_1.2.2.1 ≤ (9223372036854775807 : Int)) ∧ True ∧ (List.length x_1.2.2.2.2.1 ≤ maxLen ∧ ∀ (x : (Int × Int) × List Int × Int), x ∈ x_1.2.2.2.2.1 → (((0 :
     Int) ≤ x.1.1 ∧ x.1.1 ≤ (4294967295 : Int)) ∧ (-9223372036854775808 : Int) ≤ x.1.2 ∧ x.1.2 ≤ (9223372036854775807 : Int)) ∧ (List.length x.2.1 ≤ maxLen ∧ ∀ (x_2 : Int), x_2 ∈ x.2.1 →
     (-9223372036854775808 : Int) ≤ x_2 ∧ x_2 ≤ (9223372036854775807 : Int)) ∧ (-9223372036854775808 : Int) ≤ x.2.2 ∧ x.2.2 ≤ (9223372036854775807 : Int)) ∧ ((-9223372036854775808 : Int) ≤ x_1.2.2.2.2.2.1
     ∧ x_1.2.2.2.2.2.1 ≤ (9223372036854775807 : Int)) ∧ ((0 : Int) ≤ x_1.2.2.2.2.2.2.1 ∧ x_1.2.2.2.2.2.2.1 ≤ (4294967295 : Int)) ∧ ((-9223372036854775808 : Int) ≤ x_1.2.2.2.2.2.2.2.1 ∧ x_1.2.2.2.2.2.2.2.1
     ≤ (9223372036854775807 : Int)) ∧ ((-9223372036854775808 : Int) ≤ x_1.2.2.2.2.2.2.2.2.1 ∧ x_1.2.2.2.2.2.2.2.2.1 ≤ (9223372036854775807 : Int)) ∧ ((-9223372036854775808 : Int) ≤ x_1.2.2.2.2.2.2.2.2.2.1
     ∧ x_1.2.2.2.2.2.2.2.2.2.1 ≤ (9223372036854775807 : Int)) ∧ (((-9223372036854775808 : Int) ≤ x_1.2.2.2.2.2.2.2.2.2.2.1.1 ∧ x_1.2.2.2.2.2.2.2.2.2.2.1.1 ≤ (9223372036854775807 : Int)) ∧
     (-9223372036854775808 : Int) ≤ x_1.2.2.2.2.2.2.2.2.2.2.1.2 ∧ x_1.2.2.2.2.2.2.2.2.2.2.1.2 ≤ (9223372036854775807 : Int)) ∧ True ∧ True ∧ ((-9223372036854775808 : Int) ≤ x_1.2.2.2.2.2.2.2.2.2.2.2.2.2.1
     ∧ x_1.2.2.2.2.2.2.2.2.2.2.2.2.2.1 ≤ (9223372036854775807 : Int)) ∧ (-9223372036854775808 : Int) ≤ x_1.2.2.2.2.2.2.2.2.2.2.2.2.2.2 ∧ x_1.2.2.2.2.2.2.2.2.2.2.2.2.2.2 ≤ (9223372036854775807 : Int)) ∧
     True ∧ True ∧ True → True → (∃ (x_1 : Int), ((0 : Int) ≤ x_1 ∧ x_1 ≤ (↑(List.length x) : Int) ∧ ∀ (x_2 : List (Int × Int) × Int × Int × Bool × List ((Int × Int) × List Int × Int) × Int × Int × Int ×
     Int × Int × (Int × Int) × Bool × Bool × Int × Int), x_2 ∈ List.take (Int.toNat x_1) x → (!pTal x_2) = false) ∧ x = x ∧ x = x ∧ (↑(List.length x) : Int) = (↑(List.length x) : Int) ∧ (0 : Int) = x_1 ∧
     True) ∧ ∀ (x_1 : Int), ((0 : Int) ≤ x_1 ∧ x_1 ≤ (↑(List.length x) : Int) ∧ ∀ (x_2 : List (Int × Int) × Int × Int × Bool × List ((Int × Int) × List Int × Int) × Int × Int × Int × Int × Int × (Int ×
     Int) × Bool × Bool × Int × Int), x_2 ∈ List.take (Int.toNat x_1) x → (!pTal x_2) = false) → ifP (decide (x_1 < (↑(List.length x) : Int))) ((0 : Int) ≤ x_1 ∧ x_1 < (↑(List.length x) : Int) ∧ ifP (!pTal
     (List.getD x (Int.toNat x_1) default)) (x_1 = idxI (fun (x : Node) => !pTal x) x ∧ () = ()) (∃ (x_2 : Int), ((0 : Int) ≤ x_2 ∧ x_2 ≤ (↑(List.length x) : Int) ∧ ∀ (x_3 : List (Int × Int) × Int × Int ×
     Bool × List ((Int × Int) × List Int × Int) × Int × Int × Int × Int × Int × (Int × Int) × Bool × Bool × Int × Int), x_3 ∈ List.take (Int.toNat x_2) x → (!pTal x_3) = false) ∧ Int.toNat ((↑(List.length
     x) : Int) - x_2) < Int.toNat ((↑(List.length x) : Int) - x_1) ∧ x = x ∧ x = x ∧ (↑(List.length x) : Int) = (↑(List.length x) : Int) ∧ IntKind.wrap IntKind.i64 (x_1 + (1 : Int)) = x_2 ∧ True)) ((-1 :
     Int) = idxI (fun (x : Node) => !pTal x) x ∧ () = ()) := by
  rintro l ⟨⟨hl, -⟩, -⟩ -
  simp only [maxLen] at hl
  refine ⟨⟨0, ⟨by omega, by omega, by simp⟩, (by repeat' first | exact trivial | refine ⟨trivial, ?_⟩ | refine ⟨(by with_reducible rfl), ?_⟩ | refine ⟨w64 (by omega) (by omega), ?_⟩ | refine ⟨rfl, ?_⟩)⟩, ?_⟩
  rintro j ⟨j0, j1, hj⟩
  refine ifP_split (fun hk => ?_) (fun hk => ?_)
  · have hk := of_decide_eq_true hk
    refine ⟨j0, hk, ifP_split (fun hm => ?_) (fun hm => ?_)⟩
    · exact ⟨findI_at (q := fun x => !pTal x) j0 hk hj hm, rfl⟩
    · exact ⟨j + 1, ⟨by omega, by omega, all_next (P := fun x => (!pTal x) = false) j0 hk hj hm⟩, by omega, (by repeat' first | exact trivial | refine ⟨trivial, ?_⟩ | refine ⟨(by with_reducible rfl), ?_⟩ | refine ⟨w64 (by omega) (by omega), ?_⟩ | refine ⟨rfl, ?_⟩)⟩
  · exact ⟨findI_none (q := fun x => !pTal x) (of_decide_eq_false hk) hj, rfl⟩
theorem ok_IndexTal : SpecOK Try.prog GL 183 ct_IndexTal.spec := Ct.okH _ Try.func183 (by kernel_rfl) (withSpec_ok noSpecs_ok ok_NegTal) hmix an_IndexTal (hideMp (by kernel_rfl) vc_IndexTal)

def ct_ContainsTal : Ct := ⟨[.val (.sl cNode), .fn 149 1, .box 158 (.fnc 110)], [.val .bool], fun _ => [], fun d => ((d.1.any (fun x => !pTal x), ()), ((), ()))⟩
def an_ContainsTal : PDs ct_ContainsTal.ps → Anns := (fun _ => {})
theorem vc_ContainsTal :
    ∀ (x : List (List (Int × Int) × Int × Int × Bool × List ((Int × Int) × List Int × Int) × Int × Int × Int × Int × Int × (Int × Int) × Bool × Bool × Int × Int)), (List.length x ≤ maxLen ∧ ∀ (x_1 : List
     (Int × Int) × Int × Int × Bool × List ((Int × Int) × List Int × Int) × Int × Int × Int × Int × Int × (Int × Int) × Bool × Bool × Int × Int), x_1 ∈ x → (List.length x_1.1 ≤ maxLen ∧ ∀ (x : Int × Int),
     x ∈ x_1.1 → ((0 : Int) ≤ x.1 ∧ x.1 ≤ (4294967295 : Int)) ∧ (-9223372036854775808 : Int) ≤ x.2 ∧ x.2 ≤ (9223372036854775807 : Int)) ∧ ((0 : Int) ≤ x_1.2.1 ∧ x_1.2.1 ≤ (4294967295 : Int)) ∧
     ((-9223372036854775808 : Int) ≤ x_1.2.2.1 ∧ x_1.2.2.1 ≤ (9223372036854775807 : Int)) ∧ True ∧ (List.length x_1.2.2.2.2.1 ≤ maxLen ∧ ∀ (x : (Int × Int) × List Int × Int), x ∈ x_1.2.2.2.2.1 → (((0 :
     Int) ≤ x.1.1 ∧ x.1.1 ≤ (4294967295 : Int)) ∧ (-9223372036854775808 : Int) ≤ x.1.2 ∧ x.1.2 ≤ (9223372036854775807 : Int)) ∧ (List.length x.2.1 ≤ maxLen ∧ ∀ (x_2 : Int), x_2 ∈ x.2.1 →
     (-9223372036854775808 : Int) ≤ x_2 ∧ x_2 ≤ (9223372036854775807 : Int)) ∧ (-9223372036854775808 : Int) ≤ x.2.2 ∧ x.2.2 ≤ (9223372036854775807 : Int)) ∧ ((-9223372036854775808 : Int) ≤ x_1.2.2.2.2.2.1
     ∧ x_1.2.2.2.2.2.1 ≤ (9223372036854775807 : Int)) ∧ ((0 : Int) ≤ x_1.2.2.2.2.2.2.1 ∧ x_1.2.2.2.2.2.2.1 ≤ (4294967295 : Int)) ∧ ((-9223372036854775808 : Int) ≤ x_1.2.2.2.2.2.2.2.1 ∧ x_1.2.2.2.2.2.2.2.1
     ≤ (9223372036854775807 : Int)) ∧ ((-9223372036854775808 : Int) ≤ x_1.2.2.2.2.2.2.2.2.1 ∧ x_1.2.2.2.2.2.2.2.2.1 ≤ (9223372036854775807 : Int)) ∧ ((-9223372036854775808 : Int) ≤ x_1.2.2.2.2.2.2.2.2.2.1
     ∧ x_1.2.2.2.2.2.2.2.2.2.1 ≤ (9223372036854775807 : Int)) ∧ (((-9223372036854775808 : Int) ≤ x_1.2.2.2.2.2.2.2.2.2.2.1.1 ∧ x_1.2.2.2.2.2.2.2.2.2.2.1.1 ≤ (9223372036854775807 : Int)) ∧
     (-9223372036854775808 : Int) ≤ x_1.2.2.2.2.2.2.2.2.2.2.1.2 ∧ x_1.2.2.2.2.2.2.2.2.2.2.1.2 ≤ (9223372036854775807 : Int)) ∧ True ∧ True ∧ ((-9223372036854775808 : Int) ≤ x_1.2.2.2.2.2.2.2.2.2.2.2.2.2.1
     ∧ x_1.2.2.2.2.2.2.2.2.2.2.2.2.2.1 ≤ (9223372036854775807 : Int)) ∧ (-9223372036854775808 : Int) ≤ x_1.2.2.2.2.2.2.2.2.2.2.2.2.2.2 ∧ x_1.2.2.2.2.2.2.2.2.2.2.2.2.2.2 ≤ (9223372036854775807 : Int)) ∧
     True ∧ True ∧ True → True → (decide ((0 : Int) ≤ idxI (fun (x : Node) => !pTal x) x) = List.any x fun (x : List (Int × Int) × Int × Int × Bool × List ((Int × Int) × List Int × Int) × Int × Int × Int ×
     Int × Int × (Int × Int) × Bool × Bool × Int × Int) => !pTal x) ∧ () = () := by
  rintro l - -
  exact ⟨idxI_any, rfl⟩
theorem ok_ContainsTal : SpecOK Try.prog GL 148 ct_ContainsTal.spec := Ct.okH _ Try.func148 (by kernel_rfl) (withSpec_ok noSpecs_ok ok_IndexTal) hmix an_ContainsTal (hideMp (by kernel_rfl) vc_ContainsTal)

def ct_AllTal : Ct := ⟨[.agg cSpan, .fn 110 0], [.val .bool], fun _ => [], fun d => ((d.1.1.1.all pTal, ()), ())⟩
def an_AllTal : PDs ct_AllTal.ps → Anns := (fun _ => {})
theorem vc_AllTal :
    ∀ (x : List (List (Int × Int) × Int × Int × Bool × List ((Int × Int) × List Int × Int) × Int × Int × Int × Int × Int × (Int × Int) × Bool × Bool × Int × Int)) (x_1 : List (Int × Int × Int × Int × Int
     × Int)) (x_2 : List (Int × Int × Bool × (Int × Int) × List Int × Int)) (x_3 x_4 x_5 : Int), (((List.length x ≤ maxLen ∧ ∀ (x_6 : List (Int × Int) × Int × Int × Bool × List ((Int × Int) × List Int ×
     Int) × Int × Int × Int × Int × Int × (Int × Int) × Bool × Bool × Int × Int), x_6 ∈ x → (List.length x_6.1 ≤ maxLen ∧ ∀ (x : Int × Int), x ∈ x_6.1 → ((0 : Int) ≤ x.1 ∧ x.1 ≤ (4294967295 : Int)) ∧
     (-9223372036854775808 : Int) ≤ x.2 ∧ x.2 ≤ (9223372036854775807 : Int)) ∧ ((0 : Int) ≤ x_6.2.1 ∧ x_6.2.1 ≤ (4294967295 : Int)) ∧ ((-9223372036854775808 : Int) ≤ x_6.2.2.1 ∧ x_6.2.2.1 ≤
     (9223372036854775807 : Int)) ∧ True ∧ (List.length x_6.2.2.2.2.1 ≤ maxLen ∧ ∀ (x : (Int × Int) × List Int × Int), x ∈ x_6.2.2.2.2.1 → (((0 : Int) ≤ x.1.1 ∧ x.1.1 ≤ (4294967295 : Int)) ∧
     (-9223372036854775808 : Int) ≤ x.1.2 ∧ x.1.2 ≤ (9223372036854775807 : Int)) ∧ (List.length x.2.1 ≤ maxLen ∧ ∀ (x_7 : Int), x_7 ∈ x.2.1 → (-9223372036854775808 : Int) ≤ x_7 ∧ x_7 ≤ (9223372036854775807
     : Int)) ∧ (-9223372036854775808 : Int) ≤ x.2.2 ∧ x.2.2 ≤ (9223372036854775807 : Int)) ∧ ((-9223372036854775808 : Int) ≤ x_6.2.2.2.2.2.1 ∧ x_6.2.2.2.2.2.1 ≤ (9223372036854775807 : Int)) ∧ ((0 : Int) ≤
     x_6.2.2.2.2.2.2.1 ∧ x_6.2.2.2.2.2.2.1 ≤ (4294967295 : Int)) ∧ ((-9223372036854775808 : Int) ≤ x_6.2.2.2.2.2.2.2.1 ∧ x_6.2.2.2.2.2.2.2.1 ≤ (9223372036854775807 : Int)) ∧ ((-9223372036854775808 : Int) ≤
     x_6.2.2.2.2.2.2.2.2.1 ∧ x_6.2.2.2.2.2.2.2.2.1 ≤ (9223372036854775807 : Int)) ∧ ((-9223372036854775808 : Int) ≤ x_6.2.2.2.2.2.2.2.2.2.1 ∧ x_6.2.2.2.2.2.2.2.2.2.1 ≤ (9223372036854775807 : Int)) ∧
     (((-9223372036854775808 : Int) ≤ x_6.2.2.2.2.2.2.2.2.2.2.1.1 ∧ x_6.2.2.2.2.2.2.2.2.2.2.1.1 ≤ (9223372036854775807 : Int)) ∧ (-9223372036854775808 : Int) ≤ x_6.2.2.2.2.2.2.2.2.2.2.1.2 ∧
     x_6.2.2.2.2.2.2.2.2.2.2.1.2 ≤ (9223372036854775807 : Int)) ∧ True ∧ True ∧ ((-9223372036854775808 : Int) ≤ x_6.2.2.2.2.2.2.2.2.2.2.2.2.2.1 ∧ x_6.2.2.2.2.2.2.2.2.2.2.2.2.2.1 ≤ (9223372036854775807 :
     Int)) ∧ (-9223372036854775808 : Int) ≤ x_6.2.2.2.2.2.2.2.2.2.2.2.2.2.2 ∧ x_6.2.2.2.2.2.2.2.2.2.2.2.2.2.2 ≤ (9223372036854775807 : Int)) ∧ (List.length x_1 ≤ maxLen ∧ ∀ (x : Int × Int × Int × Int × Int
     × Int), x ∈ x_1 → ((-9223372036854775808 : Int) ≤ x.1 ∧ x.1 ≤ (9223372036854775807 : Int)) ∧ ((-9223372036854775808 : Int) ≤ x.2.1 ∧ x.2.1 ≤ (9223372036854775807 : Int)) ∧ ((-9223372036854775808 :
     Int) ≤ x.2.2.1 ∧ x.2.2.1 ≤ (9223372036854775807 : Int)) ∧ ((-9223372036854775808 : Int) ≤ x.2.2.2.1 ∧ x.2.2.2.1 ≤ (9223372036854775807 : Int)) ∧ ((-9223372036854775808 : Int) ≤ x.2.2.2.2.1 ∧
     x.2.2.2.2.1 ≤ (9223372036854775807 : Int)) ∧ (-9223372036854775808 : Int) ≤ x.2.2.2.2.2 ∧ x.2.2.2.2.2 ≤ (9223372036854775807 : Int)) ∧ List.length x_2 ≤ maxLen ∧ ∀ (x : Int × Int × Bool × (Int × Int)
     × List Int × Int), x ∈ x_2 → ((-9223372036854775808 : Int) ≤ x.1 ∧ x.1 ≤ (9223372036854775807 : Int)) ∧ ((-9223372036854775808 : Int) ≤ x.2.1 ∧ x.2.1 ≤ (9223372036854775807 : Int)) ∧ True ∧ (((0 :
     Int) ≤ x.2.2.2.1.1 ∧ x.2.2.2.1.1 ≤ (4294967295 : Int)) ∧ (-9223372036854775808 : Int) ≤ x.2.2.2.1.2 ∧ x.2.2.2.1.2 ≤ (9223372036854775807 : Int)) ∧ (List.length x.2.2.2.2.1 ≤ maxLen ∧ ∀ (x_6 : Int),
     x_6 ∈ x.2.2.2.2.1 → (-9223372036854775808 : Int) ≤ x_6 ∧ x_6 ≤ (9223372036854775807 : Int)) ∧ (-9223372036854775808 : Int) ≤ x.2.2.2.2.2 ∧ x.2.2.2.2.2 ≤ (9223372036854775807 : Int)) ∧
     ((-9223372036854775808 : Int) ≤ x_3 ∧ x_3 ≤ (9223372036854775807 : Int)) ∧ ((-9223372036854775808 : Int) ≤ x_4 ∧ x_4 ≤ (9223372036854775807 : Int)) ∧ (-9223372036854775808 : Int) ≤ x_5 ∧ x_5 ≤
     (9223372036854775807 : Int)) ∧ True ∧ True → True → (!List.any x fun (x : List (Int × Int) × Int × Int × Bool × List ((Int × Int) × List Int × Int) × Int × Int × Int × Int × Int × (Int × Int) × Bool ×
     Bool × Int × Int) => !pTal x) = List.all x pTal := by
  intros
  exact any_not
theorem ok_AllTal : SpecOK Try.prog GL 99 ct_AllTal.spec := Ct.okH _ Try.func99 (by kernel_rfl) (withSpec_ok noSpecs_ok ok_ContainsTal) hmix an_AllTal (hideMp (by kernel_rfl) vc_AllTal)

def ct_truth_talkative : Ct := ⟨[.agg cSpan], [.val .bool], fun _ => [], fun d => ((d.1.1.1.all pTal, ()), ())⟩
def an_truth_talkative : PDs ct_truth_talkative.ps → Anns := (fun _ => {})
theorem vc_truth_talkative :
    ∀ (x : List (List (Int × Int) × Int × Int × Bool × List ((Int × Int) × List Int × Int) × Int × Int × Int × Int × Int × (Int × Int) × Bool × Bool × Int × Int)) (x_1 : List (Int × Int × Int × Int × Int
     × Int)) (x_2 : List (Int × Int × Bool × (Int × Int) × List Int × Int)) (x_3 x_4 x_5 : Int), (((List.length x ≤ maxLen ∧ ∀ (x_6 : List (Int × Int) × Int × Int × Bool × List ((Int × Int) × List Int ×
     Int) × Int × Int × Int × Int × Int × (Int × Int) × Bool × Bool × Int × Int), x_6 ∈ x → (List.length x_6.1 ≤ maxLen ∧ ∀ (x : Int × Int), x ∈ x_6.1 → ((0 : Int) ≤ x.1 ∧ x.1 ≤ (4294967295 : Int)) ∧
     (-9223372036854775808 : Int) ≤ x.2 ∧ x.2 ≤ (9223372036854775807 : Int)) ∧ ((0 : Int) ≤ x_6.2.1 ∧ x_6.2.1 ≤ (4294967295 : Int)) ∧ ((-9223372036854775808 : Int) ≤ x_6.2.2.1 ∧ x_6.2.2.1 ≤
     (9223372036854775807 : Int)) ∧ True ∧ (List.length x_6.2.2.2.2.1 ≤ maxLen ∧ ∀ (x : (Int × Int) × List Int × Int), x ∈ x_6.2.2.2.2.1 → (((0 : Int) ≤ x.1.1 ∧ x.1.1 ≤ (4294967295 : Int)) ∧
     (-9223372036854775808 : Int) ≤ x.1.2 ∧ x.1.2 ≤ (9223372036854775807 : Int)) ∧ (List.length x.2.1 ≤ maxLen ∧ ∀ (x_7 : Int), x_7 ∈ x.2.1 → (-9223372036854775808 : Int) ≤ x_7 ∧ x_7 ≤ (9223372036854775807
     : Int)) ∧ (-9223372036854775808 : Int) ≤ x.2.2 ∧ x.2.2 ≤ (9223372036854775807 : Int)) ∧ ((-9223372036854775808 : Int) ≤ x_6.2.2.2.2.2.1 ∧ x_6.2.2.2.2.2.1 ≤ (9223372036854775807 : Int)) ∧ ((0 : Int) ≤
     x_6.2.2.2.2.2.2.1 ∧ x_6.2.2.2.2.2.2.1 ≤ (4294967295 : Int)) ∧ ((-9223372036854775808 : Int) ≤ x_6.2.2.2.2.2.2.2.1 ∧ x_6.2.2.2.2.2.2.2.1 ≤ (9223372036854775807 : Int)) ∧ ((-9223372036854775808 : Int) ≤
     x_6.2.2.2.2.2.2.2.2.1 ∧ x_6.2.2.2.2.2.2.2.2.1 ≤ (9223372036854775807 : Int)) ∧ ((-9223372036854775808 : Int) ≤ x_6.2.2.2.2.2.2.2.2.2.1 ∧ x_6.2.2.2.2.2.2.2.2.2.1 ≤ (9223372036854775807 : Int)) ∧
     (((-9223372036854775808 : Int) ≤ x_6.2.2.2.2.2.2.2.2.2.2.1.1 ∧ x_6.2.2.2.2.2.2.2.2.2.2.1.1 ≤ (9223372036854775807 : Int)) ∧ (-9223372036854775808 : Int) ≤ x_6.2.2.2.2.2.2.2.2.2.2.1.2 ∧
     x_6.2.2.2.2.2.2.2.2.2.2.1.2 ≤ (9223372036854775807 : Int)) ∧ True ∧ True ∧ ((-9223372036854775808 : Int) ≤ x_6.2.2.2.2.2.2.2.2.2.2.2.2.2.1 ∧ x_6.2.2.2.2.2.2.2.2.2.2.2.2.2.1 ≤ (9223372036854775807 :
     Int)) ∧ (-9223372036854775808 : Int) ≤ x_6.2.2.2.2.2.2.2.2.2.2.2.2.2.2 ∧ x_6.2.2.2.2.2.2.2.2.2.2.2.2.2.2 ≤ (9223372036854775807 : Int)) ∧ (List.length x_1 ≤ maxLen ∧ ∀ (x : Int × Int × Int × Int × Int
     × Int), x ∈ x_1 → ((-9223372036854775808 : Int) ≤ x.1 ∧ x.1 ≤ (9223372036854775807 : Int)) ∧ ((-9223372036854775808 : Int) ≤ x.2.1 ∧ x.2.1 ≤ (9223372036854775807 : Int)) ∧ ((-9223372036854775808 :
     Int) ≤ x.2.2.1 ∧ x.2.2.1 ≤ (9223372036854775807 : Int)) ∧ ((-9223372036854775808 : Int) ≤ x.2.2.2.1 ∧ x.2.2.2.1 ≤ (9223372036854775807 : Int)) ∧ ((-9223372036854775808 : Int) ≤ x.2.2.2.2.1 ∧
     x.2.2.2.2.1 ≤ (9223372036854775807 : Int)) ∧ (-9223372036854775808 : Int) ≤ x.2.2.2.2.2 ∧ x.2.2.2.2.2 ≤ (9223372036854775807 : Int)) ∧ List.length x_2 ≤ maxLen ∧ ∀ (x : Int × Int × Bool × (Int × Int)
     × List Int × Int), x ∈ x_2 → ((-9223372036854775808 : Int) ≤ x.1 ∧ x.1 ≤ (9223372036854775807 : Int)) ∧ ((-9223372036854775808 : Int) ≤ x.2.1 ∧ x.2.1 ≤ (9223372036854775807 : Int)) ∧ True ∧ (((0 :
     Int) ≤ x.2.2.2.1.1 ∧ x.2.2.2.1.1 ≤ (4294967295 : Int)) ∧ (-9223372036854775808 : Int) ≤ x.2.2.2.1.2 ∧ x.2.2.2.1.2 ≤ (9223372036854775807 : Int)) ∧ (List.length x.2.2.2.2.1 ≤ maxLen ∧ ∀ (x_6 : Int),
     x_6 ∈ x.2.2.2.2.1 → (-9223372036854775808 : Int) ≤ x_6 ∧ x_6 ≤ (9223372036854775807 : Int)) ∧ (-9223372036854775808 : Int) ≤ x.2.2.2.2.2 ∧ x.2.2.2.2.2 ≤ (9223372036854775807 : Int)) ∧
     ((-9223372036854775808 : Int) ≤ x_3 ∧ x_3 ≤ (9223372036854775807 : Int)) ∧ ((-9223372036854775808 : Int) ≤ x_4 ∧ x_4 ≤ (9223372036854775807 : Int)) ∧ (-9223372036854775808 : Int) ≤ x_5 ∧ x_5 ≤
     (9223372036854775807 : Int)) ∧ True → True → List.all x pTal = List.all x pTal := by
  intros
  rfl
theorem ok_truth_talkative : SpecOK Try.prog GL 64 ct_truth_talkative.spec := Ct.okH _ Try.func64 (by kernel_rfl) (withSpec_ok noSpecs_ok ok_AllTal) hmix an_truth_talkative (hideMp (by kernel_rfl) vc_truth_talkative)

def ct_truth_steady_1 : Ct := ⟨[.agg cLink], [.val .bool], fun _ => [], fun d => ((pSte d.1, ()), ())⟩
def an_truth_steady_1 : PDs ct_truth_steady_1.ps → Anns := (fun _ => {})
theorem vc_truth_steady_1 :
    ∀ (x x_1 x_2 x_3 x_4 x_5 : Int), (((-9223372036854775808 : Int) ≤ x ∧ x ≤ (9223372036854775807 : Int)) ∧ ((-9223372036854775808 : Int) ≤ x_1 ∧ x_1 ≤ (9223372036854775807 : Int)) ∧
     ((-9223372036854775808 : Int) ≤ x_2 ∧ x_2 ≤ (9223372036854775807 : Int)) ∧ ((-9223372036854775808 : Int) ≤ x_3 ∧ x_3 ≤ (9223372036854775807 : Int)) ∧ ((-9223372036854775808 : Int) ≤ x_4 ∧ x_4 ≤
     (9223372036854775807 : Int)) ∧ (-9223372036854775808 : Int) ≤ x_5 ∧ x_5 ≤ (9223372036854775807 : Int)) ∧ True → True → decide (x_3 = (0 : Int)) = pSte (x, x_1, x_2, x_3, x_4, x_5) := by
  rintro a b c e f g - -
  rfl
theorem ok_truth_steady_1 : SpecOK Try.prog GL 108 ct_truth_steady_1.spec := Ct.okH _ Try.func108 (by kernel_rfl) noSpecs_ok hmix an_truth_steady_1 (hideMp (by kernel_rfl) vc_truth_steady_1)

def ct_NegSte : Ct := ⟨[.agg cLink, .box 101 (.fnc 108)], [.val .bool], fun _ => [], fun d => ((!pSte d.1, ()), ((), ()))⟩
def an_NegSte : PDs ct_NegSte.ps → Anns := (fun _ => {})
theorem vc_NegSte :
    ∀ (x x_1 x_2 x_3 x_4 x_5 : Int), (((-9223372036854775808 : Int) ≤ x ∧ x ≤ (9223372036854775807 : Int)) ∧ ((-9223372036854775808 : Int) ≤ x_1 ∧ x_1 ≤ (9223372036854775807 : Int)) ∧
     ((-9223372036854775808 : Int) ≤ x_2 ∧ x_2 ≤ (9223372036854775807 : Int)) ∧ ((-9223372036854775808 : Int) ≤ x_3 ∧ x_3 ≤ (9223372036854775807 : Int)) ∧ ((-9223372036854775808 : Int) ≤ x_4 ∧ x_4 ≤
     (9223372036854775807 : Int)) ∧ (-9223372036854775808 : Int) ≤ x_5 ∧ x_5 ≤ (9223372036854775807 : Int)) ∧ True ∧ True → True → (!pSte (x, x_1, x_2, x_3, x_4, x_5)) = !pSte (x, x_1, x_2, x_3, x_4, x_5)
     ∧ () = () := by
  rintro a b c e f g - -
  exact ⟨rfl, rfl⟩
theorem ok_NegSte : SpecOK Try.prog GL 154 ct_NegSte.spec := Ct.okH _ Try.func154 (by kernel_rfl) (withSpec_ok noSpecs_ok ok_truth_steady_1) hmix an_NegSte (hideMp (by kernel_rfl) vc_NegSte)

def ct_IndexSte : Ct := ⟨[.val (.sl cLink), .fn 154 1, .box 101 (.fnc 108)], [.val cI], fun _ => [], fun d => ((idxI (fun x => !pSte x) d.1, ()), ((), ()))⟩
def an_IndexSte : PDs ct_IndexSte.ps → Anns := (fun d => { loops := (fun n => match n with | 2 => some (fun S => { ι := Int, μ := fun i => (d.1.length - i).toNat, inv := fun i => 0 ≤ i ∧ i ≤ d.1.length ∧ ∀ x ∈ d.1.take i.toNat, (!pSte x) = false, keep := [0, 1, 6, 7], slots := fun i => [(8, .int .i64 i)], keepN := [1048576], names := fun i => [] }) | _ => none) })
theorem vc_IndexSte :
    ∀ (x : List (Int × Int × Int × Int × Int × Int)), (List.length x ≤ maxLen ∧ ∀ (x_1 : Int × Int × Int × Int × Int × Int), x_1 ∈ x → ((-9223372036854775808 : Int) ≤ x_1.1 ∧ x_1.1 ≤ (9223372036854775807
     : Int)) ∧ ((-9223372036854775808 : Int) ≤ x_1.2.1 ∧ x_1.2.1 ≤ (9223372036854775807 : Int)) ∧ ((-9223372036854775808 : Int) ≤ x_1.2.2.1 ∧ x_1.2.2.1 ≤ (9223372036854775807 : Int)) ∧
     ((-9223372036854775808 : Int) ≤ x_1.2.2.2.1 ∧ x_1.2.2.2.1 ≤ (9223372036854775807 : Int)) ∧ ((-9223372036854775808 : Int) ≤ x_1.2.2.2.2.1 ∧ x_1.2.2.2.2.1 ≤ (9223372036854775807 : Int)) ∧
     (-9223372036854775808 : Int) ≤ x_1.2.2.2.2.2 ∧ x_1.2.2.2.2.2 ≤ (9223372036854775807 : Int)) ∧ True ∧ True ∧ True → True → (∃ (x_1 : Int), ((0 : Int) ≤ x_1 ∧ x_1 ≤ (↑(List.length x) : Int) ∧ ∀ (x_2 :
     Int × Int × Int × Int × Int × Int), x_2 ∈ List.take (Int.toNat x_1) x → (!pSte x_2) = false) ∧ x = x ∧ x = x ∧ (↑(List.length x) : Int) = (↑(List.length x) : Int) ∧ (0 : Int) = x_1 ∧ True) ∧ ∀ (x_1 :
     Int), ((0 : Int) ≤ x_1 ∧ x_1 ≤ (↑(List.length x) : Int) ∧ ∀ (x_2 : Int × Int × Int × Int × Int × Int), x_2 ∈ List.take (Int.toNat x_1) x → (!pSte x_2) = false) → ifP (decide (x_1 < (↑(List.length x) :
     Int))) ((0 : Int) ≤ x_1 ∧ x_1 < (↑(List.length x) : Int) ∧ ifP (!pSte (List.getD x (Int.toNat x_1) default)) (x_1 = idxI (fun (x : Link) => !pSte x) x ∧ () = ()) (∃ (x_2 : Int), ((0 : Int) ≤ x_2 ∧ x_2
     ≤ (↑(List.length x) : Int) ∧ ∀ (x_3 : Int × Int × Int × Int × Int × Int), x_3 ∈ List.take (Int.toNat x_2) x → (!pSte x_3) = false) ∧ Int.toNat ((↑(List.length x) : Int) - x_2) < Int.toNat
     ((↑(List.length x) : Int) - x_1) ∧ x = x ∧ x = x ∧ (↑(List.length x) : Int) = (↑(List.length x) : Int) ∧ IntKind.wrap IntKind.i64 (x_1 + (1 : Int)) = x_2 ∧ True)) ((-1 : Int) = idxI (fun (x : Link) =>
     !pSte x) x ∧ () = ()) := by
  rintro l ⟨⟨hl, -⟩, -⟩ -
  simp only [maxLen] at hl
  refine ⟨⟨0, ⟨by omega, by omega, by simp⟩, (by repeat' first | exact trivial | refine ⟨trivial, ?_⟩ | refine ⟨(by with_reducible rfl), ?_⟩ | refine ⟨w64 (by omega) (by omega), ?_⟩ | refine ⟨rfl, ?_⟩)⟩, ?_⟩
  rintro j ⟨j0, j1, hj⟩
  refine ifP_split (fun hk => ?_) (fun hk => ?_)
  · have hk := of_decide_eq_true hk
    refine ⟨j0, hk, ifP_split (fun hm => ?_) (fun hm => ?_)⟩
    · exact ⟨findI_at (q := fun x => !pSte x) j0 hk hj hm, rfl⟩
    · exact ⟨j + 1, ⟨by omega, by omega, all_next (P := fun x => (!pSte x) = false) j0 hk hj hm⟩, by omega, (by repeat' first | exact trivial | refine ⟨trivial, ?_⟩ | refine ⟨(by with_reducible rfl), ?_⟩ | refine ⟨w64 (by omega) (by omega), ?_⟩ | refine ⟨rfl, ?_⟩)⟩
  · exact ⟨findI_none (q := fun x => !pSte x) (of_decide_eq_false hk) hj, rfl⟩
theorem ok_IndexSte : SpecOK Try.prog GL 89 ct_IndexSte.spec := Ct.okH _ Try.func89 (by kernel_rfl) (withSpec_ok noSpecs_ok ok_NegSte) hmix an_IndexSte (hideMp (by kernel_rfl) vc_IndexSte)

def ct_ContainsSte : Ct := ⟨[.val (.sl cLink), .fn 154 1, .box 101 (.fnc 108)], [.val .bool], fun _ => [], fun d => ((d.1.any (fun x => !pSte x), ()), ((), ()))⟩
def an_ContainsSte : PDs ct_ContainsSte.ps → Anns := (fun _ => {})
theorem vc_ContainsSte :
    ∀ (x : List (Int × Int × Int × Int × Int × Int)), (List.length x ≤ maxLen ∧ ∀ (x_1 : Int × Int × Int × Int × Int × Int), x_1 ∈ x → ((-9223372036854775808 : Int) ≤ x_1.1 ∧ x_1.1 ≤ (9223372036854775807
     : Int)) ∧ ((-9223372036854775808 : Int) ≤ x_1.2.1 ∧ x_1.2.1 ≤ (9223372036854775807 : Int)) ∧ ((-9223372036854775808 : Int) ≤ x_1.2.2.1 ∧ x_1.2.2.1 ≤ (9223372036854775807 : Int)) ∧
     ((-9223372036854775808 : Int) ≤ x_1.2.2.2.1 ∧ x_1.2.2.2.1 ≤ (9223372036854775807 : Int)) ∧ ((-9223372036854775808 : Int) ≤ x_1.2.2.2.2.1 ∧ x_1.2.2.2.2.1 ≤ (9223372036854775807 : Int)) ∧
     (-9223372036854775808 : Int) ≤ x_1.2.2.2.2.2 ∧ x_1.2.2.2.2.2 ≤ (9223372036854775807 : Int)) ∧ True ∧ True ∧ True → True → (decide ((0 : Int) ≤ idxI (fun (x : Link) => !pSte x) x) = List.any x fun (x :
     Int × Int × Int × Int × Int × Int) => !pSte x) ∧ () = () := by
  rintro l - -
  exact ⟨idxI_any, rfl⟩
theorem ok_ContainsSte : SpecOK Try.prog GL 49 ct_ContainsSte.spec := Ct.okH _ Try.func49 (by kernel_rfl) (withSpec_ok noSpecs_ok ok_IndexSte) hmix an_ContainsSte (hideMp (by kernel_rfl) vc_ContainsSte)

def ct_AllSte : Ct := ⟨[.agg cSpan, .fn 108 0], [.val .bool], fun _ => [], fun d => ((d.1.1.2.1.all pSte, ()), ())⟩
def an_AllSte : PDs ct_AllSte.ps → Anns := (fun _ => {})
theorem vc_AllSte :
    ∀ (x : List (List (Int × Int) × Int × Int × Bool × List ((Int × Int) × List Int × Int) × Int × Int × Int × Int × Int × (Int × Int) × Bool × Bool × Int × Int)) (x_1 : List (Int × Int × Int × Int × Int
     × Int)) (x_2 : List (Int × Int × Bool × (Int × Int) × List Int × Int)) (x_3 x_4 x_5 : Int), (((List.length x ≤ maxLen ∧ ∀ (x_6 : List (Int × Int) × Int × Int × Bool × List ((Int × Int) × List Int ×
     Int) × Int × Int × Int × Int × Int × (Int × Int) × Bool × Bool × Int × Int), x_6 ∈ x → (List.length x_6.1 ≤ maxLen ∧ ∀ (x : Int × Int), x ∈ x_6.1 → ((0 : Int) ≤ x.1 ∧ x.1 ≤ (4294967295 : Int)) ∧
     (-9223372036854775808 : Int) ≤ x.2 ∧ x.2 ≤ (9223372036854775807 : Int)) ∧ ((0 : Int) ≤ x_6.2.1 ∧ x_6.2.1 ≤ (4294967295 : Int)) ∧ ((-9223372036854775808 : Int) ≤ x_6.2.2.1 ∧ x_6.2.2.1 ≤
     (9223372036854775807 : Int)) ∧ True ∧ (List.length x_6.2.2.2.2.1 ≤ maxLen ∧ ∀ (x : (Int × Int) × List Int × Int), x ∈ x_6.2.2.2.2.1 → (((0 : Int) ≤ x.1.1 ∧ x.1.1 ≤ (4294967295 : Int)) ∧
     (-9223372036854775808 : Int) ≤ x.1.2 ∧ x.1.2 ≤ (9223372036854775807 : Int)) ∧ (List.length x.2.1 ≤ maxLen ∧ ∀ (x_7 : Int), x_7 ∈ x.2.1 → (-9223372036854775808 : Int) ≤ x_7 ∧ x_7 ≤ (9223372036854775807
     : Int)) ∧ (-9223372036854775808 : Int) ≤ x.2.2 ∧ x.2.2 ≤ (9223372036854775807 : Int)) ∧ ((-9223372036854775808 : Int) ≤ x_6.2.2.2.2.2.1 ∧ x_6.2.2.2.2.2.1 ≤ (9223372036854775807 : Int)) ∧ ((0 : Int) ≤
     x_6.2.2.2.2.2.2.1 ∧ x_6.2.2.2.2.2.2.1 ≤ (4294967295 : Int)) ∧ ((-9223372036854775808 : Int) ≤ x_6.2.2.2.2.2.2.2.1 ∧ x_6.2.2.2.2.2.2.2.1 ≤ (9223372036854775807 : Int)) ∧ ((-9223372036854775808 : Int) ≤
     x_6.2.2.2.2.2.2.2.2.1 ∧ x_6.2.2.2.2.2.2.2.2.1 ≤ (9223372036854775807 : Int)) ∧ ((-9223372036854775808 : Int) ≤ x_6.2.2.2.2.2.2.2.2.2.1 ∧ x_6.2.2.2.2.2.2.2.2.2.1 ≤ (9223372036854775807 : Int)) ∧
     (((-9223372036854775808 : Int) ≤ x_6.2.2.2.2.2.2.2.2.2.2.1.1 ∧ x_6.2.2.2.2.2.2.2.2.2.2.1.1 ≤ (9223372036854775807 : Int)) ∧ (-9223372036854775808 : Int) ≤ x_6.2.2.2.2.2.2.2.2.2.2.1.2 ∧
     x_6.2.2.2.2.2.2.2.2.2.2.1.2 ≤ (9223372036854775807 : Int)) ∧ True ∧ True ∧ ((-9223372036854775808 : Int) ≤ x_6.2.2.2.2.2.2.2.2.2.2.2.2.2.1 ∧ x_6.2.2.2.2.2.2.2.2.2.2.2.2.2.1 ≤ (9223372036854775807 :
     Int)) ∧ (-9223372036854775808 : Int) ≤ x_6.2.2.2.2.2.2.2.2.2.2.2.2.2.2 ∧ x_6.2.2.2.2.2.2.2.2.2.2.2.2.2.2 ≤ (9223372036854775807 : Int)) ∧ (List.length x_1 ≤ maxLen ∧ ∀ (x : Int × Int × Int × Int × Int
     × Int), x ∈ x_1 → ((-9223372036854775808 : Int) ≤ x.1 ∧ x.1 ≤ (9223372036854775807 : Int)) ∧ ((-9223372036854775808 : Int) ≤ x.2.1 ∧ x.2.1 ≤ (9223372036854775807 : Int)) ∧ ((-9223372036854775808 :
     Int) ≤ x.2.2.1 ∧ x.2.2.1 ≤ (9223372036854775807 : Int)) ∧ ((-9223372036854775808 : Int) ≤ x.2.2.2.1 ∧ x.2.2.2.1 ≤ (9223372036854775807 : Int)) ∧ ((-9223372036854775808 : Int) ≤ x.2.2.2.2.1 ∧
     x.2.2.2.2.1 ≤ (9223372036854775807 : Int)) ∧ (-9223372036854775808 : Int) ≤ x.2.2.2.2.2 ∧ x.2.2.2.2.2 ≤ (9223372036854775807 : Int)) ∧ List.length x_2 ≤ maxLen ∧ ∀ (x : Int × Int × Bool × (Int × Int)
     × List Int × Int), x ∈ x_2 → ((-9223372036854775808 : Int) ≤ x.1 ∧ x.1 ≤ (9223372036854775807 : Int)) ∧ ((-9223372036854775808 : Int) ≤ x.2.1 ∧ x.2.1 ≤ (9223372036854775807 : Int)) ∧ True ∧ (((0 :
     Int) ≤ x.2.2.2.1.1 ∧ x.2.2.2.1.1 ≤ (4294967295 : Int)) ∧ (-9223372036854775808 : Int) ≤ x.2.2.2.1.2 ∧ x.2.2.2.1.2 ≤ (9223372036854775807 : Int)) ∧ (List.length x.2.2.2.2.1 ≤ maxLen ∧ ∀ (x_6 : Int),
     x_6 ∈ x.2.2.2.2.1 → (-9223372036854775808 : Int) ≤ x_6 ∧ x_6 ≤ (9223372036854775807 : Int)) ∧ (-9223372036854775808 : Int) ≤ x.2.2.2.2.2 ∧ x.2.2.2.2.2 ≤ (9223372036854775807 : Int)) ∧
     ((-9223372036854775808 : Int) ≤ x_3 ∧ x_3 ≤ (9223372036854775807 : Int)) ∧ ((-9223372036854775808 : Int) ≤ x_4 ∧ x_4 ≤ (9223372036854775807 : Int)) ∧ (-9223372036854775808 : Int) ≤ x_5 ∧ x_5 ≤
     (9223372036854775807 : Int)) ∧ True ∧ True → True → (!List.any x_1 fun (x : Int × Int × Int × Int × Int × Int) => !pSte x) = List.all x_1 pSte := by
  intros
  exact any_not
theorem ok_AllSte : SpecOK Try.prog GL 107 ct_AllSte.spec := Ct.okH _ Try.func107 (by kernel_rfl) (withSpec_ok noSpecs_ok ok_ContainsSte) hmix an_AllSte (hideMp (by kernel_rfl) vc_AllSte)

def ct_truth_steady : Ct := ⟨[.agg cSpan], [.val .bool], fun _ => [], fun d => ((d.1.1.2.1.all pSte, ()), ())⟩
def an_truth_steady : PDs ct_truth_steady.ps → Anns := (fun _ => {})
theorem vc_truth_steady :
    ∀ (x : List (List (Int × Int) × Int × Int × Bool × List ((Int × Int) × List Int × Int) × Int × Int × Int × Int × Int × (Int × Int) × Bool × Bool × Int × Int)) (x_1 : List (Int × Int × Int × Int × Int
     × Int)) (x_2 : List (Int × Int × Bool × (Int × Int) × List Int × Int)) (x_3 x_4 x_5 : Int), (((List.length x ≤ maxLen ∧ ∀ (x_6 : List (Int × Int) × Int × Int × Bool × List ((Int × Int) × List Int ×
     Int) × Int × Int × Int × Int × Int × (Int × Int) × Bool × Bool × Int × Int), x_6 ∈ x → (List.length x_6.1 ≤ maxLen ∧ ∀ (x : Int × Int), x ∈ x_6.1 → ((0 : Int) ≤ x.1 ∧ x.1 ≤ (4294967295 : Int)) ∧
     (-9223372036854775808 : Int) ≤ x.2 ∧ x.2 ≤ (9223372036854775807 : Int)) ∧ ((0 : Int) ≤ x_6.2.1 ∧ x_6.2.1 ≤ (4294967295 : Int)) ∧ ((-9223372036854775808 : Int) ≤ x_6.2.2.1 ∧ x_6.2.2.1 ≤
     (9223372036854775807 : Int)) ∧ True ∧ (List.length x_6.2.2.2.2.1 ≤ maxLen ∧ ∀ (x : (Int × Int) × List Int × Int), x ∈ x_6.2.2.2.2.1 → (((0 : Int) ≤ x.1.1 ∧ x.1.1 ≤ (4294967295 : Int)) ∧
     (-9223372036854775808 : Int) ≤ x.1.2 ∧ x.1.2 ≤ (9223372036854775807 : Int)) ∧ (List.length x.2.1 ≤ maxLen ∧ ∀ (x_7 : Int), x_7 ∈ x.2.1 → (-9223372036854775808 : Int) ≤ x_7 ∧ x_7 ≤ (9223372036854775807
     : Int)) ∧ (-9223372036854775808 : Int) ≤ x.2.2 ∧ x.2.2 ≤ (9223372036854775807 : Int)) ∧ ((-9223372036854775808 : Int) ≤ x_6.2.2.2.2.2.1 ∧ x_6.2.2.2.2.2.1 ≤ (9223372036854775807 : Int)) ∧ ((0 : Int) ≤
     x_6.2.2.2.2.2.2.1 ∧ x_6.2.2.2.2.2.2.1 ≤ (4294967295 : Int)) ∧ ((-9223372036854775808 : Int) ≤ x_6.2.2.2.2.2.2.2.1 ∧ x_6.2.2.2.2.2.2.2.1 ≤ (9223372036854775807 : Int)) ∧ ((-9223372036854775808 : Int) ≤
     x_6.2.2.2.2.2.2.2.2.1 ∧ x_6.2.2.2.2.2.2.2.2.1 ≤ (9223372036854775807 : Int)) ∧ ((-9223372036854775808 : Int) ≤ x_6.2.2.2.2.2.2.2.2.2.1 ∧ x_6.2.2.2.2.2.2.2.2.2.1 ≤ (9223372036854775807 : Int)) ∧
     (((-9223372036854775808 : Int) ≤ x_6.2.2.2.2.2.2.2.2.2.2.1.1 ∧ x_6.2.2.2.2.2.2.2.2.2.2.1.1 ≤ (9223372036854775807 : Int)) ∧ (-9223372036854775808 : Int) ≤ x_6.2.2.2.2.2.2.2.2.2.2.1.2 ∧
     x_6.2.2.2.2.2.2.2.2.2.2.1.2 ≤ (9223372036854775807 : Int)) ∧ True ∧ True ∧ ((-9223372036854775808 : Int) ≤ x_6.2.2.2.2.2.2.2.2.2.2.2.2.2.1 ∧ x_6.2.2.2.2.2.2.2.2.2.2.2.2.2.1 ≤ (9223372036854775807 :
     Int)) ∧ (-9223372036854775808 : Int) ≤ x_6.2.2.2.2.2.2.2.2.2.2.2.2.2.2 ∧ x_6.2.2.2.2.2.2.2.2.2.2.2.2.2.2 ≤ (9223372036854775807 : Int)) ∧ (List.length x_1 ≤ maxLen ∧ ∀ (x : Int × Int × Int × Int × Int
     × Int), x ∈ x_1 → ((-9223372036854775808 : Int) ≤ x.1 ∧ x.1 ≤ (9223372036854775807 : Int)) ∧ ((-9223372036854775808 : Int) ≤ x.2.1 ∧ x.2.1 ≤ (9223372036854775807 : Int)) ∧ ((-9223372036854775808 :
     Int) ≤ x.2.2.1 ∧ x.2.2.1 ≤ (9223372036854775807 : Int)) ∧ ((-9223372036854775808 : Int) ≤ x.2.2.2.1 ∧ x.2.2.2.1 ≤ (9223372036854775807 : Int)) ∧ ((-9223372036854775808 : Int) ≤ x.2.2.2.2.1 ∧
     x.2.2.2.2.1 ≤ (9223372036854775807 : Int)) ∧ (-9223372036854775808 : Int) ≤ x.2.2.2.2.2 ∧ x.2.2.2.2.2 ≤ (9223372036854775807 : Int)) ∧ List.length x_2 ≤ maxLen ∧ ∀ (x : Int × Int × Bool × (Int × Int)
     × List Int × Int), x ∈ x_2 → ((-9223372036854775808 : Int) ≤ x.1 ∧ x.1 ≤ (9223372036854775807 : Int)) ∧ ((-9223372036854775808 : Int) ≤ x.2.1 ∧ x.2.1 ≤ (9223372036854775807 : Int)) ∧ True ∧ (((0 :
     Int) ≤ x.2.2.2.1.1 ∧ x.2.2.2.1.1 ≤ (4294967295 : Int)) ∧ (-9223372036854775808 : Int) ≤ x.2.2.2.1.2 ∧ x.2.2.2.1.2 ≤ (9223372036854775807 : Int)) ∧ (List.length x.2.2.2.2.1 ≤ maxLen ∧ ∀ (x_6 : Int),
     x_6 ∈ x.2.2.2.2.1 → (-9223372036854775808 : Int) ≤ x_6 ∧ x_6 ≤ (9223372036854775807 : Int)) ∧ (-9223372036854775808 : Int) ≤ x.2.2.2.2.2 ∧ x.2.2.2.2.2 ≤ (9223372036854775807 : Int)) ∧
     ((-9223372036854775808 : Int) ≤ x_3 ∧ x_3 ≤ (9223372036854775807 : Int)) ∧ ((-9223372036854775808 : Int) ≤ x_4 ∧ x_4 ≤ (9223372036854775807 : Int)) ∧ (-9223372036854775808 : Int) ≤ x_5 ∧ x_5 ≤
     (9223372036854775807 : Int)) ∧ True → True → List.all x_1 pSte = List.all x_1 pSte := by
  intros
  rfl
theorem ok_truth_steady : SpecOK Try.prog GL 62 ct_truth_steady.spec := Ct.okH _ Try.func62 (by kernel_rfl) (withSpec_ok noSpecs_ok ok_AllSte) hmix an_truth_steady (hideMp (by kernel_rfl) vc_truth_steady)

def ct_truth_lossless_1 : Ct := ⟨[.agg cLink], [.val .bool], fun _ => [], fun d => ((pLos d.1, ()), ())⟩
def an_truth_lossless_1 : PDs ct_truth_lossless_1.ps → Anns := (fun _ => {})
theorem vc_truth_lossless_1 :
    ∀ (x x_1 x_2 x_3 x_4 x_5 : Int), (((-9223372036854775808 : Int) ≤ x ∧ x ≤ (9223372036854775807 : Int)) ∧ ((-9223372036854775808 : Int) ≤ x_1 ∧ x_1 ≤ (9223372036854775807 : Int)) ∧
     ((-9223372036854775808 : Int) ≤ x_2 ∧ x_2 ≤ (9223372036854775807 : Int)) ∧ ((-9223372036854775808 : Int) ≤ x_3 ∧ x_3 ≤ (9223372036854775807 : Int)) ∧ ((-9223372036854775808 : Int) ≤ x_4 ∧ x_4 ≤
     (9223372036854775807 : Int)) ∧ (-9223372036854775808 : Int) ≤ x_5 ∧ x_5 ≤ (9223372036854775807 : Int)) ∧ True → True → decide (x_4 = (0 : Int)) = pLos (x, x_1, x_2, x_3, x_4, x_5) := by
  rintro a b c e f g - -
  rfl
theorem ok_truth_lossless_1 : SpecOK Try.prog GL 109 ct_truth_lossless_1.spec := Ct.okH _ Try.func109 (by kernel_rfl) noSpecs_ok hmix an_truth_lossless_1 (hideMp (by kernel_rfl) vc_truth_lossless_1)

def ct_NegLos : Ct := ⟨[.agg cLink, .box 101 (.fnc 109)], [.val .bool], fun _ => [], fun d => ((!pLos d.1, ()), ((), ()))⟩
def an_NegLos : PDs ct_NegLos.ps → Anns := (fun _ => {})
theorem vc_NegLos :
    ∀ (x x_1 x_2 x_3 x_4 x_5 : Int), (((-9223372036854775808 : Int) ≤ x ∧ x ≤ (9223372036854775807 : Int)) ∧ ((-9223372036854775808 : Int) ≤ x_1 ∧ x_1 ≤ (9223372036854775807 : Int)) ∧
     ((-9223372036854775808 : Int) ≤ x_2 ∧ x_2 ≤ (9223372036854775807 : Int)) ∧ ((-9223372036854775808 : Int) ≤ x_3 ∧ x_3 ≤ (9223372036854775807 : Int)) ∧ ((-9223372036854775808 : Int) ≤ x_4 ∧ x_4 ≤
     (9223372036854775807 : Int)) ∧ (-9223372036854775808 : Int) ≤ x_5 ∧ x_5 ≤ (9223372036854775807 : Int)) ∧ True ∧ True → True → (!pLos (x, x_1, x_2, x_3, x_4, x_5)) = !pLos (x, x_1, x_2, x_3, x_4, x_5)
     ∧ () = () := by
  rintro a b c e f g - -
  exact ⟨rfl, rfl⟩
theorem ok_NegLos : SpecOK Try.prog GL 154 ct_NegLos.spec := Ct.okH _ Try.func154 (by kernel_rfl) (withSpec_ok noSpecs_ok ok_truth_lossless_1) hmix an_NegLos (hideMp (by kernel_rfl) vc_NegLos)

def ct_IndexLos : Ct := ⟨[.val (.sl cLink), .fn 154 1, .box 101 (.fnc 109)], [.val cI], fun _ => [], fun d => ((idxI (fun x => !pLos x) d.1, ()), ((), ()))⟩
def an_IndexLos : PDs ct_IndexLos.ps → Anns := (fun d => { loops := (fun n => match n with | 2 => some (fun S => { ι := Int, μ := fun i => (d.1.length - i).toNat, inv := fun i => 0 ≤ i ∧ i ≤ d.1.length ∧ ∀ x ∈ d.1.take i.toNat, (!pLos x) = false, keep := [0, 1, 6, 7], slots := fun i => [(8, .int .i64 i)], keepN := [1048576], names := fun i => [] }) | _ => none) })
theorem vc_IndexLos :
    ∀ (x : List (Int × Int × Int × Int × Int × Int)), (List.length x ≤ maxLen ∧ ∀ (x_1 : Int × Int × Int × Int × Int × Int), x_1 ∈ x → ((-9223372036854775808 : Int) ≤ x_1.1 ∧ x_1.1 ≤ (9223372036854775807
     : Int)) ∧ ((-9223372036854775808 : Int) ≤ x_1.2.1 ∧ x_1.2.1 ≤ (9223372036854775807 : Int)) ∧ ((-9223372036854775808 : Int) ≤ x_1.2.2.1 ∧ x_1.2.2.1 ≤ (9223372036854775807 : Int)) ∧
     ((-9223372036854775808 : Int) ≤ x_1.2.2.2.1 ∧ x_1.2.2.2.1 ≤ (9223372036854775807 : Int)) ∧ ((-9223372036854775808 : Int) ≤ x_1.2.2.2.2.1 ∧ x_1.2.2.2.2.1 ≤ (9223372036854775807 : Int)) ∧
     (-9223372036854775808 : Int) ≤ x_1.2.2.2.2.2 ∧ x_1.2.2.2.2.2 ≤ (9223372036854775807 : Int)) ∧ True ∧ True ∧ True → True → (∃ (x_1 : Int), ((0 : Int) ≤ x_1 ∧ x_1 ≤ (↑(List.length x) : Int) ∧ ∀ (x_2 :
     Int × Int × Int × Int × Int × Int), x_2 ∈ List.take (Int.toNat x_1) x → (!pLos x_2) = false) ∧ x = x ∧ x = x ∧ (↑(List.length x) : Int) = (↑(List.length x) : Int) ∧ (0 : Int) = x_1 ∧ True) ∧ ∀ (x_1 :
     Int), ((0 : Int) ≤ x_1 ∧ x_1 ≤ (↑(List.length x) : Int) ∧ ∀ (x_2 : Int × Int × Int × Int × Int × Int), x_2 ∈ List.take (Int.toNat x_1) x → (!pLos x_2) = false) → ifP (decide (x_1 < (↑(List.length x) :
     Int))) ((0 : Int) ≤ x_1 ∧ x_1 < (↑(List.length x) : Int) ∧ ifP (!pLos (List.getD x (Int.toNat x_1) default)) (x_1 = idxI (fun (x : Link) => !pLos x) x ∧ () = ()) (∃ (x_2 : Int), ((0 : Int) ≤ x_2 ∧ x_2
     ≤ (↑(List.length x) : Int) ∧ ∀ (x_3 : Int × Int × Int × Int × Int × Int), x_3 ∈ List.take (Int.toNat x_2) x → (!pLos x_3) = false) ∧ Int.toNat ((↑(List.length x) : Int) - x_2) < Int.toNat
     ((↑(List.length x) : Int) - x_1) ∧ x = x ∧ x = x ∧ (↑(List.length x) : Int) = (↑(List.length x) : Int) ∧ IntKind.wrap IntKind.i64 (x_1 + (1 : Int)) = x_2 ∧ True)) ((-1 : Int) = idxI (fun (x : Link) =>
     !pLos x) x ∧ () = ()) := by
  rintro l ⟨⟨hl, -⟩, -⟩ -
  simp only [maxLen] at hl
  refine ⟨⟨0, ⟨by omega, by omega, by simp⟩, (by repeat' first | exact trivial | refine ⟨trivial, ?_⟩ | refine ⟨(by with_reducible rfl), ?_⟩ | refine ⟨w64 (by omega) (by omega), ?_⟩ | refine ⟨rfl, ?_⟩)⟩, ?_⟩
  rintro j ⟨j0, j1, hj⟩
  refine ifP_split (fun hk => ?_) (fun hk => ?_)
  · have hk := of_decide_eq_true hk
    refine ⟨j0, hk, ifP_split (fun hm => ?_) (fun hm => ?_)⟩
    · exact ⟨findI_at (q := fun x => !pLos x) j0 hk hj hm, rfl⟩
    · exact ⟨j + 1, ⟨by omega, by omega, all_next (P := fun x => (!pLos x) = false) j0 hk hj hm⟩, by omega, (by repeat' first | exact trivial | refine ⟨trivial, ?_⟩ | refine ⟨(by with_reducible rfl), ?_⟩ | refine ⟨w64 (by omega) (by omega), ?_⟩ | refine ⟨rfl, ?_⟩)⟩
  · exact ⟨findI_none (q := fun x => !pLos x) (of_decide_eq_false hk) hj, rfl⟩
theorem ok_IndexLos : SpecOK Try.prog GL 89 ct_IndexLos.spec := Ct.okH _ Try.func89 (by kernel_rfl) (withSpec_ok noSpecs_ok ok_NegLos) hmix an_IndexLos (hideMp (by kernel_rfl) vc_IndexLos)

def ct_ContainsLos : Ct := ⟨[.val (.sl cLink), .fn 154 1, .box 101 (.fnc 109)], [.val .bool], fun _ => [], fun d => ((d.1.any (fun x => !pLos x), ()), ((), ()))⟩
def an_ContainsLos : PDs ct_ContainsLos.ps → Anns := (fun _ => {})
theorem vc_ContainsLos :
    ∀ (x : List (Int × Int × Int × Int × Int × Int)), (List.length x ≤ maxLen ∧ ∀ (x_1 : Int × Int × Int × Int × Int × Int), x_1 ∈ x → ((-9223372036854775808 : Int) ≤ x_1.1 ∧ x_1.1 ≤ (9223372036854775807
     : Int)) ∧ ((-9223372036854775808 : Int) ≤ x_1.2.1 ∧ x_1.2.1 ≤ (9223372036854775807 : Int)) ∧ ((-9223372036854775808 : Int) ≤ x_1.2.2.1 ∧ x_1.2.2.1 ≤ (9223372036854775807 : Int)) ∧
     ((-9223372036854775808 : Int) ≤ x_1.2.2.2.1 ∧ x_1.2.2.2.1 ≤ (9223372036854775807 : Int)) ∧ ((-9223372036854775808 : Int) ≤ x_1.2.2.2.2.1 ∧ x_1.2.2.2.2.1 ≤ (9223372036854775807 : Int)) ∧
     (-9223372036854775808 : Int) ≤ x_1.2.2.2.2.2 ∧ x_1.2.2.2.2.2 ≤ (9223372036854775807 : Int)) ∧ True ∧ True ∧ True → True → (decide ((0 : Int) ≤ idxI (fun (x : Link) => !pLos x) x) = List.any x fun (x :
     Int × Int × Int × Int × Int × Int) => !pLos x) ∧ () = () := by
  rintro l - -
  exact ⟨idxI_any, rfl⟩
theorem ok_ContainsLos : SpecOK Try.prog GL 49 ct_ContainsLos.spec := Ct.okH _ Try.func49 (by kernel_rfl) (withSpec_ok noSpecs_ok ok_IndexLos) hmix an_ContainsLos (hideMp (by kernel_rfl) vc_ContainsLos)

def ct_AllLos : Ct := ⟨[.agg cSpan, .fn 109 0], [.val .bool], fun _ => [], fun d => ((d.1.1.2.1.all pLos, ()), ())⟩
def an_AllLos : PDs ct_AllLos.ps → Anns := (fun _ => {})
theorem vc_AllLos :
    ∀ (x : List (List (Int × Int) × Int × Int × Bool × List ((Int × Int) × List Int × Int) × Int × Int × Int × Int × Int × (Int × Int) × Bool × Bool × Int × Int)) (x_1 : List (Int × Int × Int × Int × Int
     × Int)) (x_2 : List (Int × Int × Bool × (Int × Int) × List Int × Int)) (x_3 x_4 x_5 : Int), (((List.length x ≤ maxLen ∧ ∀ (x_6 : List (Int × Int) × Int × Int × Bool × List ((Int × Int) × List Int ×
     Int) × Int × Int × Int × Int × Int × (Int × Int) × Bool × Bool × Int × Int), x_6 ∈ x → (List.length x_6.1 ≤ maxLen ∧ ∀ (x : Int × Int), x ∈ x_6.1 → ((0 : Int) ≤ x.1 ∧ x.1 ≤ (4294967295 : Int)) ∧
     (-9223372036854775808 : Int) ≤ x.2 ∧ x.2 ≤ (9223372036854775807 : Int)) ∧ ((0 : Int) ≤ x_6.2.1 ∧ x_6.2.1 ≤ (4294967295 : Int)) ∧ ((-9223372036854775808 : Int) ≤ x_6.2.2.1 ∧ x_6.2.2.1 ≤
     (9223372036854775807 : Int)) ∧ True ∧ (List.length x_6.2.2.2.2.1 ≤ maxLen ∧ ∀ (x : (Int × Int) × List Int × Int), x ∈ x_6.2.2.2.2.1 → (((0 : Int) ≤ x.1.1 ∧ x.1.1 ≤ (4294967295 : Int)) ∧
     (-9223372036854775808 : Int) ≤ x.1.2 ∧ x.1.2 ≤ (9223372036854775807 : Int)) ∧ (List.length x.2.1 ≤ maxLen ∧ ∀ (x_7 : Int), x_7 ∈ x.2.1 → (-9223372036854775808 : Int) ≤ x_7 ∧ x_7 ≤ (9223372036854775807
     : Int)) ∧ (-9223372036854775808 : Int) ≤ x.2.2 ∧ x.2.2 ≤ (9223372036854775807 : Int)) ∧ ((-9223372036854775808 : Int) ≤ x_6.2.2.2.2.2.1 ∧ x_6.2.2.2.2.2.1 ≤ (9223372036854775807 : Int)) ∧ ((0 : Int) ≤
     x_6.2.2.2.2.2.2.1 ∧ x_6.2.2.2.2.2.2.1 ≤ (4294967295 : Int)) ∧ ((-9223372036854775808 : Int) ≤ x_6.2.2.2.2.2.2.2.1 ∧ x_6.2.2.2.2.2.2.2.1 ≤ (9223372036854775807 : Int)) ∧ ((-9223372036854775808 : Int) ≤
     x_6.2.2.2.2.2.2.2.2.1 ∧ x_6.2.2.2.2.2.2.2.2.1 ≤ (9223372036854775807 : Int)) ∧ ((-9223372036854775808 : Int) ≤ x_6.2.2.2.2.2.2.2.2.2.1 ∧ x_6.2.2.2.2.2.2.2.2.2.1 ≤ (9223372036854775807 : Int)) ∧
     (((-9223372036854775808 : Int) ≤ x_6.2.2.2.2.2.2.2.2.2.2.1.1 ∧ x_6.2.2.2.2.2.2.2.2.2.2.1.1 ≤ (9223372036854775807 : Int)) ∧ (-9223372036854775808 : Int) ≤ x_6.2.2.2.2.2.2.2.2.2.2.1.2 ∧
     x_6.2.2.2.2.2.2.2.2.2.2.1.2 ≤ (9223372036854775807 : Int)) ∧ True ∧ True ∧ ((-9223372036854775808 : Int) ≤ x_6.2.2.2.2.2.2.2.2.2.2.2.2.2.1 ∧ x_6.2.2.2.2.2.2.2.2.2.2.2.2.2.1 ≤ (9223372036854775807 :
     Int)) ∧ (-9223372036854775808 : Int) ≤ x_6.2.2.2.2.2.2.2.2.2.2.2.2.2.2 ∧ x_6.2.2.2.2.2.2.2.2.2.2.2.2.2.2 ≤ (9223372036854775807 : Int)) ∧ (List.length x_1 ≤ maxLen ∧ ∀ (x : Int × Int × Int × Int × Int
     × Int), x ∈ x_1 → ((-9223372036854775808 : Int) ≤ x.1 ∧ x.1 ≤ (9223372036854775807 : Int)) ∧ ((-9223372036854775808 : Int) ≤ x.2.1 ∧ x.2.1 ≤ (9223372036854775807 : Int)) ∧ ((-9223372036854775808 :
     Int) ≤ x.2.2.1 ∧ x.2.2.1 ≤ (9223372036854775807 : Int)) ∧ ((-9223372036854775808 : Int) ≤ x.2.2.2.1 ∧ x.2.2.2.1 ≤ (9223372036854775807 : Int)) ∧ ((-9223372036854775808 : Int) ≤ x.2.2.2.2.1 ∧
     x.2.2.2.2.1 ≤ (9223372036854775807 : Int)) ∧ (-9223372036854775808 : Int) ≤ x.2.2.2.2.2 ∧ x.2.2.2.2.2 ≤ (9223372036854775807 : Int)) ∧ List.length x_2 ≤ maxLen ∧ ∀ (x : Int × Int × Bool × (Int × Int)
     × List Int × Int), x ∈ x_2 → ((-9223372036854775808 : Int) ≤ x.1 ∧ x.1 ≤ (9223372036854775807 : Int)) ∧ ((-9223372036854775808 : Int) ≤ x.2.1 ∧ x.2.1 ≤ (9223372036854775807 : Int)) ∧ True ∧ (((0 :
     Int) ≤ x.2.2.2.1.1 ∧ x.2.2.2.1.1 ≤ (4294967295 : Int)) ∧ (-9223372036854775808 : Int) ≤ x.2.2.2.1.2 ∧ x.2.2.2.1.2 ≤ (9223372036854775807 : Int)) ∧ (List.length x.2.2.2.2.1 ≤ maxLen ∧ ∀ (x_6 : Int),
     x_6 ∈ x.2.2.2.2.1 → (-9223372036854775808 : Int) ≤ x_6 ∧ x_6 ≤ (9223372036854775807 : Int)) ∧ (-9223372036854775808 : Int) ≤ x.2.2.2.2.2 ∧ x.2.2.2.2.2 ≤ (9223372036854775807 : Int)) ∧
     ((-9223372036854775808 : Int) ≤ x_3 ∧ x_3 ≤ (9223372036854775807 : Int)) ∧ ((-9223372036854775808 : Int) ≤ x_4 ∧ x_4 ≤ (9223372036854775807 : Int)) ∧ (-9223372036854775808 : Int) ≤ x_5 ∧ x_5 ≤
     (9223372036854775807 : Int)) ∧ True ∧ True → True → (!List.any x_1 fun (x : Int × Int × Int × Int × Int × Int) => !pLos x) = List.all x_1 pLos := by
  intros
  exact any_not
theorem ok_AllLos : SpecOK Try.prog GL 107 ct_AllLos.spec := Ct.okH _ Try.func107 (by kernel_rfl) (withSpec_ok noSpecs_ok ok_ContainsLos) hmix an_AllLos (hideMp (by kernel_rfl) vc_AllLos)

def ct_truth_lossless : Ct := ⟨[.agg cSpan], [.val .bool], fun _ => [], fun d => ((d.1.1.2.1.all pLos, ()), ())⟩
def an_truth_lossless : PDs ct_truth_lossless.ps → Anns := (fun _ => {})
theorem vc_truth_lossless :
    ∀ (x : List (List (Int × Int) × Int × Int × Bool × List ((Int × Int) × List Int × Int) × Int × Int × Int × Int × Int × (Int × Int) × Bool × Bool × Int × Int)) (x_1 : List (Int × Int × Int × Int × Int
     × Int)) (x_2 : List (Int × Int × Bool × (Int × Int) × List Int × Int)) (x_3 x_4 x_5 : Int), (((List.length x ≤ maxLen ∧ ∀ (x_6 : List (Int × Int) × Int × Int × Bool × List ((Int × Int) × List Int ×
     Int) × Int × Int × Int × Int × Int × (Int × Int) × Bool × Bool × Int × Int), x_6 ∈ x → (List.length x_6.1 ≤ maxLen ∧ ∀ (x : Int × Int), x ∈ x_6.1 → ((0 : Int) ≤ x.1 ∧ x.1 ≤ (4294967295 : Int)) ∧
     (-9223372036854775808 : Int) ≤ x.2 ∧ x.2 ≤ (9223372036854775807 : Int)) ∧ ((0 : Int) ≤ x_6.2.1 ∧ x_6.2.1 ≤ (4294967295 : Int)) ∧ ((-9223372036854775808 : Int) ≤ x_6.2.2.1 ∧ x_6.2.2.1 ≤
     (9223372036854775807 : Int)) ∧ True ∧ (List.length x_6.2.2.2.2.1 ≤ maxLen ∧ ∀ (x : (Int × Int) × List Int × Int), x ∈ x_6.2.2.2.2.1 → (((0 : Int) ≤ x.1.1 ∧ x.1.1 ≤ (4294967295 : Int)) ∧
     (-9223372036854775808 : Int) ≤ x.1.2 ∧ x.1.2 ≤ (9223372036854775807 : Int)) ∧ (List.length x.2.1 ≤ maxLen ∧ ∀ (x_7 : Int), x_7 ∈ x.2.1 → (-9223372036854775808 : Int) ≤ x_7 ∧ x_7 ≤ (9223372036854775807
     : Int)) ∧ (-9223372036854775808 : Int) ≤ x.2.2 ∧ x.2.2 ≤ (9223372036854775807 : Int)) ∧ ((-9223372036854775808 : Int) ≤ x_6.2.2.2.2.2.1 ∧ x_6.2.2.2.2.2.1 ≤ (9223372036854775807 : Int)) ∧ ((0 : Int) ≤
     x_6.2.2.2.2.2.2.1 ∧ x_6.2.2.2.2.2.2.1 ≤ (4294967295 : Int)) ∧ ((-9223372036854775808 : Int) ≤ x_6.2.2.2.2.2.2.2.1 ∧ x_6.2.2.2.2.2.2.2.1 ≤ (9223372036854775807 : Int)) ∧ ((-9223372036854775808 : Int) ≤
     x_6.2.2.2.2.2.2.2.2.1 ∧ x_6.2.2.2.2.2.2.2.2.1 ≤ (9223372036854775807 : Int)) ∧ ((-9223372036854775808 : Int) ≤ x_6.2.2.2.2.2.2.2.2.2.1 ∧ x_6.2.2.2.2.2.2.2.2.2.1 ≤ (9223372036854775807 : Int)) ∧
     (((-9223372036854775808 : Int) ≤ x_6.2.2.2.2.2.2.2.2.2.2.1.1 ∧ x_6.2.2.2.2.2.2.2.2.2.2.1.1 ≤ (9223372036854775807 : Int)) ∧ (-9223372036854775808 : Int) ≤ x_6.2.2.2.2.2.2.2.2.2.2.1.2 ∧
     x_6.2.2.2.2.2.2.2.2.2.2.1.2 ≤ (9223372036854775807 : Int)) ∧ True ∧ True ∧ ((-9223372036854775808 : Int) ≤ x_6.2.2.2.2.2.2.2.2.2.2.2.2.2.1 ∧ x_6.2.2.2.2.2.2.2.2.2.2.2.2.2.1 ≤ (9223372036854775807 :
     Int)) ∧ (-9223372036854775808 : Int) ≤ x_6.2.2.2.2.2.2.2.2.2.2.2.2.2.2 ∧ x_6.2.2.2.2.2.2.2.2.2.2.2.2.2.2 ≤ (9223372036854775807 : Int)) ∧ (List.length x_1 ≤ maxLen ∧ ∀ (x : Int × Int × Int × Int × Int
     × Int), x ∈ x_1 → ((-9223372036854775808 : Int) ≤ x.1 ∧ x.1 ≤ (9223372036854775807 : Int)) ∧ ((-9223372036854775808 : Int) ≤ x.2.1 ∧ x.2.1 ≤ (9223372036854775807 : Int)) ∧ ((-9223372036854775808 :
     Int) ≤ x.2.2.1 ∧ x.2.2.1 ≤ (9223372036854775807 : Int)) ∧ ((-9223372036854775808 : Int) ≤ x.2.2.2.1 ∧ x.2.2.2.1 ≤ (9223372036854775807 : Int)) ∧ ((-9223372036854775808 : Int) ≤ x.2.2.2.2.1 ∧
     x.2.2.2.2.1 ≤ (9223372036854775807 : Int)) ∧ (-9223372036854775808 : Int) ≤ x.2.2.2.2.2 ∧ x.2.2.2.2.2 ≤ (9223372036854775807 : Int)) ∧ List.length x_2 ≤ maxLen ∧ ∀ (x : Int × Int × Bool × (Int × Int)
     × List Int × Int), x ∈ x_2 → ((-9223372036854775808 : Int) ≤ x.1 ∧ x.1 ≤ (9223372036854775807 : Int)) ∧ ((-9223372036854775808 : Int) ≤ x.2.1 ∧ x.2.1 ≤ (9223372036854775807 : Int)) ∧ True ∧ (((0 :
     Int) ≤ x.2.2.2.1.1 ∧ x.2.2.2.1.1 ≤ (4294967295 : Int)) ∧ (-9223372036854775808 : Int) ≤ x.2.2.2.1.2 ∧ x.2.2.2.1.2 ≤ (9223372036854775807 : Int)) ∧ (List.length x.2.2.2.2.1 ≤ maxLen ∧ ∀ (x_6 : Int),
     x_6 ∈ x.2.2.2.2.1 → (-9223372036854775808 : Int) ≤ x_6 ∧ x_6 ≤ (9223372036854775807 : Int)) ∧ (-9223372036854775808 : Int) ≤ x.2.2.2.2.2 ∧ x.2.2.2.2.2 ≤ (9223372036854775807 : Int)) ∧
     ((-9223372036854775808 : Int) ≤ x_3 ∧ x_3 ≤ (9223372036854775807 : Int)) ∧ ((-9223372036854775808 : Int) ≤ x_4 ∧ x_4 ≤ (9223372036854775807 : Int)) ∧ (-9223372036854775808 : Int) ≤ x_5 ∧ x_5 ≤
     (9223372036854775807 : Int)) ∧ True → True → List.all x_1 pLos = List.all x_1 pLos := by
  intros
  rfl
theorem ok_truth_lossless : SpecOK Try.prog GL 63 ct_truth_lossless.spec := Ct.okH _ Try.func63 (by kernel_rfl) (withSpec_ok noSpecs_ok ok_AllLos) hmix an_truth_lossless (hideMp (by kernel_rfl) vc_truth_lossless)

def ct_truth_stable : Ct := ⟨[.agg cSpan], [.val .bool], fun _ => [], fun d => ((!d.1.1.2.2.any (between d.1.2.2.1 d.1.2.2.2), ()), ())⟩
def an_truth_stable : PDs ct_truth_stable.ps → Anns := (fun _ => {})
theorem vc_truth_stable :
    ∀ (x : List (List (Int × Int) × Int × Int × Bool × List ((Int × Int) × List Int × Int) × Int × Int × Int × Int × Int × (Int × Int) × Bool × Bool × Int × Int)) (x_1 : List (Int × Int × Int × Int × Int
     × Int)) (x_2 : List (Int × Int × Bool × (Int × Int) × List Int × Int)) (x_3 x_4 x_5 : Int), (((List.length x ≤ maxLen ∧ ∀ (x_6 : List (Int × Int) × Int × Int × Bool × List ((Int × Int) × List Int ×
     Int) × Int × Int × Int × Int × Int × (Int × Int) × Bool × Bool × Int × Int), x_6 ∈ x → (List.length x_6.1 ≤ maxLen ∧ ∀ (x : Int × Int), x ∈ x_6.1 → ((0 : Int) ≤ x.1 ∧ x.1 ≤ (4294967295 : Int)) ∧
     (-9223372036854775808 : Int) ≤ x.2 ∧ x.2 ≤ (9223372036854775807 : Int)) ∧ ((0 : Int) ≤ x_6.2.1 ∧ x_6.2.1 ≤ (4294967295 : Int)) ∧ ((-9223372036854775808 : Int) ≤ x_6.2.2.1 ∧ x_6.2.2.1 ≤
     (9223372036854775807 : Int)) ∧ True ∧ (List.length x_6.2.2.2.2.1 ≤ maxLen ∧ ∀ (x : (Int × Int) × List Int × Int), x ∈ x_6.2.2.2.2.1 → (((0 : Int) ≤ x.1.1 ∧ x.1.1 ≤ (4294967295 : Int)) ∧
     (-9223372036854775808 : Int) ≤ x.1.2 ∧ x.1.2 ≤ (9223372036854775807 : Int)) ∧ (List.length x.2.1 ≤ maxLen ∧ ∀ (x_7 : Int), x_7 ∈ x.2.1 → (-9223372036854775808 : Int) ≤ x_7 ∧ x_7 ≤ (9223372036854775807
     : Int)) ∧ (-9223372036854775808 : Int) ≤ x.2.2 ∧ x.2.2 ≤ (9223372036854775807 : Int)) ∧ ((-9223372036854775808 : Int) ≤ x_6.2.2.2.2.2.1 ∧ x_6.2.2.2.2.2.1 ≤ (9223372036854775807 : Int)) ∧ ((0 : Int) ≤
     x_6.2.2.2.2.2.2.1 ∧ x_6.2.2.2.2.2.2.1 ≤ (4294967295 : Int)) ∧ ((-9223372036854775808 : Int) ≤ x_6.2.2.2.2.2.2.2.1 ∧ x_6.2.2.2.2.2.2.2.1 ≤ (9223372036854775807 : Int)) ∧ ((-9223372036854775808 : Int) ≤
     x_6.2.2.2.2.2.2.2.2.1 ∧ x_6.2.2.2.2.2.2.2.2.1 ≤ (9223372036854775807 : Int)) ∧ ((-9223372036854775808 : Int) ≤ x_6.2.2.2.2.2.2.2.2.2.1 ∧ x_6.2.2.2.2.2.2.2.2.2.1 ≤ (9223372036854775807 : Int)) ∧
     (((-9223372036854775808 : Int) ≤ x_6.2.2.2.2.2.2.2.2.2.2.1.1 ∧ x_6.2.2.2.2.2.2.2.2.2.2.1.1 ≤ (9223372036854775807 : Int)) ∧ (-9223372036854775808 : Int) ≤ x_6.2.2.2.2.2.2.2.2.2.2.1.2 ∧
     x_6.2.2.2.2.2.2.2.2.2.2.1.2 ≤ (9223372036854775807 : Int)) ∧ True ∧ True ∧ ((-9223372036854775808 : Int) ≤ x_6.2.2.2.2.2.2.2.2.2.2.2.2.2.1 ∧ x_6.2.2.2.2.2.2.2.2.2.2.2.2.2.1 ≤ (9223372036854775807 :
     Int)) ∧ (-9223372036854775808 : Int) ≤ x_6.2.2.2.2.2.2.2.2.2.2.2.2.2.2 ∧ x_6.2.2.2.2.2.2.2.2.2.2.2.2.2.2 ≤ (9223372036854775807 : Int)) ∧ (List.length x_1 ≤ maxLen ∧ ∀ (x : Int × Int × Int × Int × Int
     × Int), x ∈ x_1 → ((-9223372036854775808 : Int) ≤ x.1 ∧ x.1 ≤ (9223372036854775807 : Int)) ∧ ((-9223372036854775808 : Int) ≤ x.2.1 ∧ x.2.1 ≤ (9223372036854775807 : Int)) ∧ ((-9223372036854775808 :
     Int) ≤ x.2.2.1 ∧ x.2.2.1 ≤ (9223372036854775807 : Int)) ∧ ((-9223372036854775808 : Int) ≤ x.2.2.2.1 ∧ x.2.2.2.1 ≤ (9223372036854775807 : Int)) ∧ ((-9223372036854775808 : Int) ≤ x.2.2.2.2.1 ∧
     x.2.2.2.2.1 ≤ (9223372036854775807 : Int)) ∧ (-9223372036854775808 : Int) ≤ x.2.2.2.2.2 ∧ x.2.2.2.2.2 ≤ (9223372036854775807 : Int)) ∧ List.length x_2 ≤ maxLen ∧ ∀ (x : Int × Int × Bool × (Int × Int)
     × List Int × Int), x ∈ x_2 → ((-9223372036854775808 : Int) ≤ x.1 ∧ x.1 ≤ (9223372036854775807 : Int)) ∧ ((-9223372036854775808 : Int) ≤ x.2.1 ∧ x.2.1 ≤ (9223372036854775807 : Int)) ∧ True ∧ (((0 :
     Int) ≤ x.2.2.2.1.1 ∧ x.2.2.2.1.1 ≤ (4294967295 : Int)) ∧ (-9223372036854775808 : Int) ≤ x.2.2.2.1.2 ∧ x.2.2.2.1.2 ≤ (9223372036854775807 : Int)) ∧ (List.length x.2.2.2.2.1 ≤ maxLen ∧ ∀ (x_6 : Int),
     x_6 ∈ x.2.2.2.2.1 → (-9223372036854775808 : Int) ≤ x_6 ∧ x_6 ≤ (9223372036854775807 : Int)) ∧ (-9223372036854775808 : Int) ≤ x.2.2.2.2.2 ∧ x.2.2.2.2.2 ≤ (9223372036854775807 : Int)) ∧
     ((-9223372036854775808 : Int) ≤ x_3 ∧ x_3 ≤ (9223372036854775807 : Int)) ∧ ((-9223372036854775808 : Int) ≤ x_4 ∧ x_4 ≤ (9223372036854775807 : Int)) ∧ (-9223372036854775808 : Int) ≤ x_5 ∧ x_5 ≤
     (9223372036854775807 : Int)) ∧ True → True → (!List.any x_2 (between x_4 x_5)) = !List.any x_2 (between x_4 x_5) := by
  intros
  rfl
theorem ok_truth_stable : SpecOK Try.prog GL 56 ct_truth_stable.spec := Ct.okH _ Try.func56 (by kernel_rfl) (withSpec_ok noSpecs_ok ok_topology_Changed) hmix an_truth_stable (hideMp (by kernel_rfl) vc_truth_stable)
end Go.RS

