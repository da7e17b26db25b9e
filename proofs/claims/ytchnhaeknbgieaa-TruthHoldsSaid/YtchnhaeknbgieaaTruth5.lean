/- Truth3: assumptions about spans of time. -/
import Derived.Test.YtchnhaeknbgieaaTruth2
namespace Go.RS
open Go.SX Go.Proofs
set_option maxRecDepth 100000
set_option linter.unusedVariables false

def stepTm (s t : Int) (l : List Int) (c : Change) : List Int := if s < hAt c ∧ hAt c ≤ t ∧ lastI l < hAt c then l ++ [hAt c] else l
def timesV (hs : List Change) (s t : Int) : List Int := hs.foldl (stepTm s t) [s]
theorem tm_pos {s t : Int} {l : List Int} {c : Change} (h : 0 < l.length) : 0 < (stepTm s t l c).length := by
  unfold stepTm; split
  · simp
  · exact h
theorem tm_len (s t : Int) : ∀ (hs : List Change) (l : List Int), (hs.foldl (stepTm s t) l).length ≤ l.length + hs.length ∧ (0 < l.length → 0 < (hs.foldl (stepTm s t) l).length)
  | [], l => ⟨by simp, fun h => h⟩
  | c :: hs, l => by
    have k := tm_len s t hs (stepTm s t l c)
    have e : (stepTm s t l c).length ≤ l.length + 1 := by unfold stepTm; split <;> simp
    rw [List.foldl_cons, List.length_cons]
    exact ⟨by omega, fun h => k.2 (tm_pos h)⟩
def ct_truth_span_times : Ct := ⟨[.agg cSpan], [.own 3 cI], fun d => [d.1.1.2.2.length ≤ 1000], fun d => ((timesV d.1.1.2.2 d.1.2.2.1 d.1.2.2.2, ()), ())⟩
def an_truth_span_times : PDs ct_truth_span_times.ps → Anns := (fun d => { loops := (fun n => match n with | 3 => some (fun S => { ι := Int × (List Int), qn := ⟨fun k_ => ∀ (j : Int) (l : (List Int)), k_ (j, l), fun k_ h_ i => h_ i.1 i.2, fun k_ => ∃ (j : Int) (l : (List Int)), k_ (j, l), fun k_ ⟨j, l, h_⟩ => ⟨_, h_⟩⟩, μ := fun i => (d.1.1.2.2.length - i.1).toNat, inv := fun i => 0 ≤ i.1 ∧ i.1 ≤ d.1.1.2.2.length ∧ i.2 = timesV (d.1.1.2.2.take i.1.toNat) d.1.2.2.1 d.1.2.2.2, keep := [1, 11, 12], slots := fun i => [(3, .own 524288 1), (13, .int .i64 i.1)], keepN := [32], names := fun i => [(524288, .live (.row 3 cI i.2))] }) | _ => none) })
theorem vc_truth_span_times :
    ∀ (x : List (List (Int × Int) × Int × Int × Bool × List ((Int × Int) × List Int × Int) × Int × Int × Int × Int × Int × (Int × Int) × Bool × Bool × Int × Int)) (x_1 : List (Int × Int × Int × Int × Int
     × Int)) (x_2 : List (Int × Int × Bool × (Int × Int) × List Int × Int)) (x_3 x_4 x_5 : Int), (((List.length x ≤ maxLen ∧ ∀ (x_6 : List (Int × Int) × Int × Int × Bool × List ((Int × Int) × List Int ×
     Int) × Int × Int × Int × Int × Int × (Int × Int) × Bool × Bool × Int × Int), x_6 ∈ x → (List.length x_6.1 ≤ maxLen ∧ ∀ (x : Int × Int), x ∈ x_6.1 → ((0 : Int) ≤ x.1 ∧ x.1 ≤ (4294967295 : Int)) ∧
     (-9223372036854775808 : Int) ≤ x.2 ∧ x.2 ≤ (9223372036854775807 : Int)) ∧ ((0 : Int) ≤ x_6.2.1 ∧ x_6.2.1 ≤ (4294967295 : Int)) ∧ ((-9223372036854775808 : Int) ≤ x_6.2.2.1 ∧ x_6.2.2.1 ≤
     (9223372036854775807 : Int)) ∧ True ∧ (List.length x_6.2.2.2.2.1 ≤ maxLen ∧ ∀ (x : (Int × Int) × List Int × Int), x ∈ x_6.2.2.2.2.1 → (((0 : Int) ≤ x.1.1 ∧ x.1.1 ≤ (4294967295 : Int)) ∧
     (-9223372036854775808 : Int) ≤ x.1.2 ∧ x.1.2 ≤ (9223372036854775807 : Int)) ∧ (List.length x.2.1 ≤ maxLen ∧ ∀ (x_7 : Int), x_7 ∈ x.2.1 → (-9223372036854775808 : Int) ≤ x_7 ∧ x_7 ≤ (9223372036854775807
     : Int)) ∧ (-9223372036854775808 : Int) ≤ x.2.2 ∧ x.2.2 ≤ (9223372036854775807 : Int)) ∧ ((-9223372036854775808 : Int) ≤ x_6.2.2.2.2.2.1 ∧ x_6.2.2.2.2.2.1 ≤ (9223372036854775807 : Int)) ∧ ((0 : Int) ≤
     x_6.2.2.2.2.2.2.1 ∧ x_6.2.2.2.2.2.2.1 ≤ (4294967295 : Int)) ∧ ((-9223372036854775808 : Int) ≤ x_6.2.2.2.2.2.2.2.1 ∧ x_6.2.2.2.2.2.2.2.1 ≤ (9223372036854775807 : Int)) ∧ ((-9223372036854775808 : Int) ≤
     x_6.2.2.2.2.2.2.2.2.1 ∧ x_6.2.2.2.2.2.2.2.2.1 ≤ (9223372036854775807 : Int)) ∧ ((-9223372036854775808 : Int) ≤ x_6.2.2.2.2.2.2.2.2.2.1 ∧ x_6.2.2.2.2.2.2.2.2.2.1 ≤ (9223372036854775807 : Int)) ∧
     (((-9223372036854775808 : Int) ≤ x_6.2.2.2.2.2.2.2.2.2.2.1.1 ∧ x_6.2.2.2.2.2.2.2.2.2.2.1.1 ≤ (9223372036854775807 : Int)) ∧ (-9223372036854775808 : Int) ≤ x_6.2.2.2.2.2.2.2.2.2.2.1.2 ∧
     x_6.2.2.2.2.2.2.2.2.2.2.1.2 ≤ (9223372036854775807 : Int)) ∧ True ∧ True ∧ ((-9223372036854775808 : Int) ≤ x_6.2.2.2.2.2.2.2.2.2.2.2.2.2.1 ∧ x_6.2.2.2.2.2.2.2.2.2.2.2.2.2.1 ≤ (9223372036854775807 :
     Int)) ∧ (-9223372036854775808 : Int) ≤ x_6.2.2.2.2.2.2.2.2.2.2.2.2.2.2 ∧ x_6.2.2.2.2.2.2.2.2.2.2.2.2.2.2 ≤ (9223372036854775807 : Int)) ∧ (List.length x_1 ≤ maxLen ∧ ∀ (x : Int × Int × Int × Int × Int
     × Int), x ∈ x_1 → ((-9223372036854775808 : Int) ≤ x.1 ∧ x.1 ≤ (9223372036854775807 : Int)) ∧ ((-9223372036854775808 : Int) ≤ x.2.1 ∧ x.2.1 ≤ (9223372036854775807 : Int)) ∧ ((-9223372036854775808 :
     Int) ≤ x.2.2.1 ∧ x.2.2.1 ≤ (9223372036854775807 : Int)) ∧ ((-9223372036854775808 : Int) ≤ x.2.2.2.1 ∧ x.2.2.2.1 ≤ (9223372036854775807 : Int)) ∧ ((-9223372036854775808 : Int) ≤ x.2.2.2.2.1 ∧
     x.2.2.2.2.1 ≤ (9223372036854775807 : Int)) ∧ (-9223372036854775808 : Int) ≤ x.2.2.2.2.2 ∧ x.2.2.2.2.2 ≤ (9223372036854775807 : Int)) ∧ List.length x_2 ≤ maxLen ∧ ∀ (x : Int × Int × Bool × (Int × Int)
     × List Int × Int), x ∈ x_2 → ((-9223372036854775808 : Int) ≤ x.1 ∧ x.1 ≤ (9223372036854775807 : Int)) ∧ ((-9223372036854775808 : Int) ≤ x.2.1 ∧ x.2.1 ≤ (9223372036854775807 : Int)) ∧ True ∧ (((0 :
     Int) ≤ x.2.2.2.1.1 ∧ x.2.2.2.1.1 ≤ (4294967295 : Int)) ∧ (-9223372036854775808 : Int) ≤ x.2.2.2.1.2 ∧ x.2.2.2.1.2 ≤ (9223372036854775807 : Int)) ∧ (List.length x.2.2.2.2.1 ≤ maxLen ∧ ∀ (x_6 : Int),
     x_6 ∈ x.2.2.2.2.1 → (-9223372036854775808 : Int) ≤ x_6 ∧ x_6 ≤ (9223372036854775807 : Int)) ∧ (-9223372036854775808 : Int) ≤ x.2.2.2.2.2 ∧ x.2.2.2.2.2 ≤ (9223372036854775807 : Int)) ∧
     ((-9223372036854775808 : Int) ≤ x_3 ∧ x_3 ≤ (9223372036854775807 : Int)) ∧ ((-9223372036854775808 : Int) ≤ x_4 ∧ x_4 ≤ (9223372036854775807 : Int)) ∧ (-9223372036854775808 : Int) ≤ x_5 ∧ x_5 ≤
     (9223372036854775807 : Int)) ∧ True → List.length x_2 ≤ (1000 : Nat) → (∃ (j : Int), ∃ (l : List Int), ((0 : Int) ≤ j ∧ j ≤ (↑(List.length x_2) : Int) ∧ l = timesV (List.take (Int.toNat j) x_2) x_4
     x_5) ∧ x_2 = x_2 ∧ (↑(List.length x_2) : Int) = (↑(List.length x_2) : Int) ∧ (0 : Int) = j ∧ x = x ∧ x_1 = x_1 ∧ x_2 = x_2 ∧ x_3 = x_3 ∧ x_4 = x_4 ∧ x_5 = x_5 ∧ [x_4] = l ∧ True) ∧ ∀ (j : Int) (l :
     List Int), (0 : Int) ≤ j ∧ j ≤ (↑(List.length x_2) : Int) ∧ l = timesV (List.take (Int.toNat j) x_2) x_4 x_5 → ifP (decide (j < (↑(List.length x_2) : Int))) ((0 : Int) ≤ j ∧ j < (↑(List.length x_2) :
     Int) ∧ ∀ (b : Bool), b = decide (x_4 < (List.getD x_2 (Int.toNat j) default).1) → (b = true → (b = true → b = true) ∧ True) ∧ (b = true → (b = true → b = true) ∧ True) ∧ (b = true → (b = true → b =
     true) ∧ (b = true → b = true) ∧ True) ∧ (b = true → b = true) ∧ ∀ (b_1 : Bool), (b_1 = bif b then decide ((List.getD x_2 (Int.toNat j) default).1 ≤ x_5) else false) → (b_1 = true → (b_1 = true → b_1 =
     true) ∧ True) ∧ (b_1 = true → (b_1 = true → b_1 = true) ∧ True) ∧ (b_1 = true → (b_1 = true → b_1 = true) ∧ True) ∧ (b_1 = true → (b_1 = true → b_1 = true) ∧ (b_1 = true → b_1 = true) ∧ (0 : Int) ≤
     IntKind.wrap IntKind.i64 ((↑(List.length l) : Int) - (1 : Int)) ∧ IntKind.wrap IntKind.i64 ((↑(List.length l) : Int) - (1 : Int)) < (↑(List.length l) : Int) ∧ True) ∧ (b_1 = true → (b_1 = true → b_1 =
     true) ∧ True) ∧ (b_1 = true → (b_1 = true → b_1 = true) ∧ (b_1 = true → b_1 = true) ∧ True) ∧ (b_1 = true → b_1 = true) ∧ ifP (bif b_1 then decide (List.getD l (Int.toNat (IntKind.wrap IntKind.i64
     ((↑(List.length l) : Int) - (1 : Int)))) default < (List.getD x_2 (Int.toNat j) default).1) else false) ((List.length l + List.length [(List.getD x_2 (Int.toNat j) default).1]) * (8 : Nat) ≤
     (140737488355328 : Nat) ∧ ∃ (j_1 : Int), ∃ (l_1 : List Int), ((0 : Int) ≤ j_1 ∧ j_1 ≤ (↑(List.length x_2) : Int) ∧ l_1 = timesV (List.take (Int.toNat j_1) x_2) x_4 x_5) ∧ Int.toNat ((↑(List.length
     x_2) : Int) - j_1) < Int.toNat ((↑(List.length x_2) : Int) - j) ∧ x_2 = x_2 ∧ (↑(List.length x_2) : Int) = (↑(List.length x_2) : Int) ∧ IntKind.wrap IntKind.i64 (j + (1 : Int)) = j_1 ∧ x = x ∧ x_1 =
     x_1 ∧ x_2 = x_2 ∧ x_3 = x_3 ∧ x_4 = x_4 ∧ x_5 = x_5 ∧ l ++ [(List.getD x_2 (Int.toNat j) default).1] = l_1 ∧ True) (∃ (j_1 : Int), ∃ (l_1 : List Int), ((0 : Int) ≤ j_1 ∧ j_1 ≤ (↑(List.length x_2) :
     Int) ∧ l_1 = timesV (List.take (Int.toNat j_1) x_2) x_4 x_5) ∧ Int.toNat ((↑(List.length x_2) : Int) - j_1) < Int.toNat ((↑(List.length x_2) : Int) - j) ∧ x_2 = x_2 ∧ (↑(List.length x_2) : Int) =
     (↑(List.length x_2) : Int) ∧ IntKind.wrap IntKind.i64 (j + (1 : Int)) = j_1 ∧ x = x ∧ x_1 = x_1 ∧ x_2 = x_2 ∧ x_3 = x_3 ∧ x_4 = x_4 ∧ x_5 = x_5 ∧ l = l_1 ∧ True)) (l = timesV x_2 x_4 x_5) := by
  rintro ns ls hs who s t ⟨⟨-, ⟨s0, s1⟩, ⟨t0, t1⟩⟩, -⟩ hn
  refine ⟨⟨0, _, ⟨by omega, by omega, rfl⟩, (by repeat' first | exact trivial | refine ⟨trivial, ?_⟩ | refine ⟨(by with_reducible rfl), ?_⟩ | refine ⟨w64 (by omega) (by omega), ?_⟩ | refine ⟨rfl, ?_⟩)⟩, ?_⟩
  rintro j l ⟨j0, j1, rfl⟩
  have tl := tm_len s t (hs.take j.toNat) [s]
  have hp : 0 < (timesV (hs.take j.toNat) s t).length := tl.2 (by simp)
  have hq : (timesV (hs.take j.toNat) s t).length ≤ 1 + hs.length := by
    have := tl.1
    have h2 : (hs.take j.toNat).length ≤ hs.length := by rw [List.length_take]; exact Nat.min_le_right _ _
    simp only [List.length_singleton] at this
    unfold timesV; omega
  rw [w64 (n := ((timesV (hs.take j.toNat) s t).length : Int) - 1) (by omega) (by omega), lastI_eq]
  refine ifP_split (fun hj => ?_) (fun hj => ?_)
  · have hj := of_decide_eq_true hj
    have st : timesV (hs.take (j + 1).toNat) s t = stepTm s t (timesV (hs.take j.toNat) s t) (hs.getD j.toNat default) := by
      unfold timesV; rw [take_step j0 hj, List.foldl_append]; rfl
    refine ⟨j0, hj, ?_⟩
    intro b hb
    (repeat refine ⟨fun h_ => (by first | (simp; done) | (simp [h_]; done) | (simp_all; done)), ?_⟩)
    intro b1 hb1
    (repeat refine ⟨fun h_ => (by first | exact ⟨fun _ => h_, fun _ => h_, by omega, by omega, trivial⟩ | (simp; done) | (simp [h_]; done) | (simp_all; done)), ?_⟩)
    rw [hb1, hb, band_d, band_d]
    refine ifP_split (fun h => ?_) (fun h => ?_)
    · have h := of_decide_eq_true h
      refine ⟨by simp only [List.length_singleton]; omega, j + 1, _, ⟨by omega, by omega, rfl⟩, by omega, ?_⟩
      (repeat first | refine ⟨trivial, ?_⟩ | refine ⟨(by with_reducible rfl), ?_⟩ | refine ⟨w64 (by omega) (by omega), ?_⟩)
      refine ⟨?_, trivial⟩
      rw [st]; exact (if_pos ⟨h.1.1, h.1.2, h.2⟩).symm
    · have h := of_decide_eq_false h
      refine ⟨j + 1, _, ⟨by omega, by omega, rfl⟩, by omega, ?_⟩
      (repeat first | refine ⟨trivial, ?_⟩ | refine ⟨(by with_reducible rfl), ?_⟩ | refine ⟨w64 (by omega) (by omega), ?_⟩)
      refine ⟨?_, trivial⟩
      rw [st]; exact (if_neg fun k => h ⟨⟨k.1, k.2.1⟩, k.2.2⟩).symm
  · have hj := of_decide_eq_false hj
    rw [List.take_of_length_le (by omega)]
theorem ok_truth_span_times : SpecOK Try.prog GL 103 ct_truth_span_times.spec := Ct.okH _ Try.func103 (by kernel_rfl) noSpecs_ok hmix an_truth_span_times (hideMp (by kernel_rfl) vc_truth_span_times)
def perPkt (r : Rt) : Bool := decide (1 < (r.2.1.length : Int) ∧ r.2.2 = 3)
def flowV (n : Net) (at' : Int) : Bool := (List.range n.1.length).all fun i => (routesV n i at').all fun r => !perPkt r
def ct_truth_flowwise : Ct := ⟨[.agg cSpan], [.val .bool], fun d => [okNet d.1.1], fun d => (((timesV d.1.1.2.2 d.1.2.2.1 d.1.2.2.2).all (flowV d.1.1), ()), ())⟩
def an_truth_flowwise : PDs ct_truth_flowwise.ps → Anns := (fun d => { loops := (fun n => match n with | 2 => some (fun S => { ι := Int, μ := fun i => ((timesV d.1.1.2.2 d.1.2.2.1 d.1.2.2.2).length - i).toNat, inv := fun i => 0 ≤ i ∧ i ≤ (timesV d.1.1.2.2 d.1.2.2.1 d.1.2.2.2).length ∧ ∀ x ∈ (timesV d.1.1.2.2 d.1.2.2.1 d.1.2.2.2).take i.toNat, flowV d.1.1 x = true, keep := [1, 9, 10], slots := fun i => [(11, .int .i64 i)], keepN := [32, 160], names := fun i => [] }) | 5 => some (fun S => { ι := Int × Int, qn := ⟨fun k_ => ∀ (i : Int) (a : Int), k_ (i, a), fun k_ h_ i => h_ i.1 i.2, fun k_ => ∃ (i : Int) (a : Int), k_ (i, a), fun k_ ⟨i, a, h_⟩ => ⟨_, h_⟩⟩, μ := fun i => (d.1.1.1.length - i.1).toNat, inv := fun i => i.2 = (timesV d.1.1.2.2 d.1.2.2.1 d.1.2.2.2).getD (S.i 11).toNat default ∧ 0 ≤ i.1 ∧ i.1 ≤ d.1.1.1.length ∧ ∀ k : Nat, (k : Int) < i.1 → (routesV d.1.1 k i.2).all (fun r => !perPkt r) = true, keep := [1, 9, 10, 11, 18], slots := fun i => [(4, .int .i64 i.2), (19, .int .i64 i.1)], keepN := [32, 160], names := fun i => [] }) | 8 => some (fun S => { ι := Int, μ := fun i => ((routesV d.1.1 (S.i 5) (S.i 4)).length - i).toNat, inv := fun i => 0 ≤ i ∧ i ≤ (routesV d.1.1 (S.i 5) (S.i 4)).length ∧ ∀ r ∈ (routesV d.1.1 (S.i 5) (S.i 4)).take i.toNat, perPkt r = false, keep := [1, 4, 5, 9, 10, 11, 18, 19, 26, 27], slots := fun i => [(28, .int .i64 i)], keepN := [32, 160, 432], names := fun i => [] }) | _ => none) })
theorem vc_truth_flowwise :
    ∀ (x : List (List (Int × Int) × Int × Int × Bool × List ((Int × Int) × List Int × Int) × Int × Int × Int × Int × Int × (Int × Int) × Bool × Bool × Int × Int)) (x_1 : List (Int × Int × Int × Int × Int
     × Int)) (x_2 : List (Int × Int × Bool × (Int × Int) × List Int × Int)) (x_3 x_4 x_5 : Int), (((List.length x ≤ maxLen ∧ ∀ (x_6 : List (Int × Int) × Int × Int × Bool × List ((Int × Int) × List Int ×
     Int) × Int × Int × Int × Int × Int × (Int × Int) × Bool × Bool × Int × Int), x_6 ∈ x → (List.length x_6.1 ≤ maxLen ∧ ∀ (x : Int × Int), x ∈ x_6.1 → ((0 : Int) ≤ x.1 ∧ x.1 ≤ (4294967295 : Int)) ∧
     (-9223372036854775808 : Int) ≤ x.2 ∧ x.2 ≤ (9223372036854775807 : Int)) ∧ ((0 : Int) ≤ x_6.2.1 ∧ x_6.2.1 ≤ (4294967295 : Int)) ∧ ((-9223372036854775808 : Int) ≤ x_6.2.2.1 ∧ x_6.2.2.1 ≤
     (9223372036854775807 : Int)) ∧ True ∧ (List.length x_6.2.2.2.2.1 ≤ maxLen ∧ ∀ (x : (Int × Int) × List Int × Int), x ∈ x_6.2.2.2.2.1 → (((0 : Int) ≤ x.1.1 ∧ x.1.1 ≤ (4294967295 : Int)) ∧
     (-9223372036854775808 : Int) ≤ x.1.2 ∧ x.1.2 ≤ (9223372036854775807 : Int)) ∧ (List.length x.2.1 ≤ maxLen ∧ ∀ (x_7 : Int), x_7 ∈ x.2.1 → (-9223372036854775808 : Int) ≤ x_7 ∧ x_7 ≤ (9223372036854775807
     : Int)) ∧ (-9223372036854775808 : Int) ≤ x.2.2 ∧ x.2.2 ≤ (9223372036854775807 : Int)) ∧ ((-9223372036854775808 : Int) ≤ x_6.2.2.2.2.2.1 ∧ x_6.2.2.2.2.2.1 ≤ (9223372036854775807 : Int)) ∧ ((0 : Int) ≤
     x_6.2.2.2.2.2.2.1 ∧ x_6.2.2.2.2.2.2.1 ≤ (4294967295 : Int)) ∧ ((-9223372036854775808 : Int) ≤ x_6.2.2.2.2.2.2.2.1 ∧ x_6.2.2.2.2.2.2.2.1 ≤ (9223372036854775807 : Int)) ∧ ((-9223372036854775808 : Int) ≤
     x_6.2.2.2.2.2.2.2.2.1 ∧ x_6.2.2.2.2.2.2.2.2.1 ≤ (9223372036854775807 : Int)) ∧ ((-9223372036854775808 : Int) ≤ x_6.2.2.2.2.2.2.2.2.2.1 ∧ x_6.2.2.2.2.2.2.2.2.2.1 ≤ (9223372036854775807 : Int)) ∧
     (((-9223372036854775808 : Int) ≤ x_6.2.2.2.2.2.2.2.2.2.2.1.1 ∧ x_6.2.2.2.2.2.2.2.2.2.2.1.1 ≤ (9223372036854775807 : Int)) ∧ (-9223372036854775808 : Int) ≤ x_6.2.2.2.2.2.2.2.2.2.2.1.2 ∧
     x_6.2.2.2.2.2.2.2.2.2.2.1.2 ≤ (9223372036854775807 : Int)) ∧ True ∧ True ∧ ((-9223372036854775808 : Int) ≤ x_6.2.2.2.2.2.2.2.2.2.2.2.2.2.1 ∧ x_6.2.2.2.2.2.2.2.2.2.2.2.2.2.1 ≤ (9223372036854775807 :
     Int)) ∧ (-9223372036854775808 : Int) ≤ x_6.2.2.2.2.2.2.2.2.2.2.2.2.2.2 ∧ x_6.2.2.2.2.2.2.2.2.2.2.2.2.2.2 ≤ (9223372036854775807 : Int)) ∧ (List.length x_1 ≤ maxLen ∧ ∀ (x : Int × Int × Int × Int × Int
     × Int), x ∈ x_1 → ((-9223372036854775808 : Int) ≤ x.1 ∧ x.1 ≤ (9223372036854775807 : Int)) ∧ ((-9223372036854775808 : Int) ≤ x.2.1 ∧ x.2.1 ≤ (9223372036854775807 : Int)) ∧ ((-9223372036854775808 :
     Int) ≤ x.2.2.1 ∧ x.2.2.1 ≤ (9223372036854775807 : Int)) ∧ ((-9223372036854775808 : Int) ≤ x.2.2.2.1 ∧ x.2.2.2.1 ≤ (9223372036854775807 : Int)) ∧ ((-9223372036854775808 : Int) ≤ x.2.2.2.2.1 ∧
     x.2.2.2.2.1 ≤ (9223372036854775807 : Int)) ∧ (-9223372036854775808 : Int) ≤ x.2.2.2.2.2 ∧ x.2.2.2.2.2 ≤ (9223372036854775807 : Int)) ∧ List.length x_2 ≤ maxLen ∧ ∀ (x : Int × Int × Bool × (Int × Int)
     × List Int × Int), x ∈ x_2 → ((-9223372036854775808 : Int) ≤ x.1 ∧ x.1 ≤ (9223372036854775807 : Int)) ∧ ((-9223372036854775808 : Int) ≤ x.2.1 ∧ x.2.1 ≤ (9223372036854775807 : Int)) ∧ True ∧ (((0 :
     Int) ≤ x.2.2.2.1.1 ∧ x.2.2.2.1.1 ≤ (4294967295 : Int)) ∧ (-9223372036854775808 : Int) ≤ x.2.2.2.1.2 ∧ x.2.2.2.1.2 ≤ (9223372036854775807 : Int)) ∧ (List.length x.2.2.2.2.1 ≤ maxLen ∧ ∀ (x_6 : Int),
     x_6 ∈ x.2.2.2.2.1 → (-9223372036854775808 : Int) ≤ x_6 ∧ x_6 ≤ (9223372036854775807 : Int)) ∧ (-9223372036854775808 : Int) ≤ x.2.2.2.2.2 ∧ x.2.2.2.2.2 ≤ (9223372036854775807 : Int)) ∧
     ((-9223372036854775808 : Int) ≤ x_3 ∧ x_3 ≤ (9223372036854775807 : Int)) ∧ ((-9223372036854775808 : Int) ≤ x_4 ∧ x_4 ≤ (9223372036854775807 : Int)) ∧ (-9223372036854775808 : Int) ≤ x_5 ∧ x_5 ≤
     (9223372036854775807 : Int)) ∧ True → okNet (x, x_1, x_2) → List.length x_2 ≤ (1000 : Nat) ∧ (∃ (x_6 : Int), ((0 : Int) ≤ x_6 ∧ x_6 ≤ (↑(List.length (timesV x_2 x_4 x_5)) : Int) ∧ ∀ (x_7 : Int), x_7 ∈
     List.take (Int.toNat x_6) (timesV x_2 x_4 x_5) → flowV (x, x_1, x_2) x_7 = true) ∧ (↑(List.length (timesV x_2 x_4 x_5)) : Int) = (↑(List.length (timesV x_2 x_4 x_5)) : Int) ∧ (0 : Int) = x_6 ∧ x = x ∧
     x_1 = x_1 ∧ x_2 = x_2 ∧ x_3 = x_3 ∧ x_4 = x_4 ∧ x_5 = x_5 ∧ timesV x_2 x_4 x_5 = timesV x_2 x_4 x_5 ∧ True) ∧ ∀ (x_6 : Int), ((0 : Int) ≤ x_6 ∧ x_6 ≤ (↑(List.length (timesV x_2 x_4 x_5)) : Int) ∧ ∀
     (x_7 : Int), x_7 ∈ List.take (Int.toNat x_6) (timesV x_2 x_4 x_5) → flowV (x, x_1, x_2) x_7 = true) → ifP (decide (x_6 < (↑(List.length (timesV x_2 x_4 x_5)) : Int))) ((0 : Int) ≤ x_6 ∧ x_6 <
     (↑(List.length (timesV x_2 x_4 x_5)) : Int) ∧ (∃ (i : Int), ∃ (a : Int), (a = List.getD (timesV x_2 x_4 x_5) (Int.toNat x_6) default ∧ (0 : Int) ≤ i ∧ i ≤ (↑(List.length x) : Int) ∧ ∀ (k : Nat), (↑k :
     Int) < i → (List.all (routesV (x, x_1, x_2) (↑k : Int) a) fun (r : Rt) => !perPkt r) = true) ∧ List.getD (timesV x_2 x_4 x_5) (Int.toNat x_6) default = a ∧ (↑(List.length (timesV x_2 x_4 x_5)) : Int) =
     (↑(List.length (timesV x_2 x_4 x_5)) : Int) ∧ x_6 = x_6 ∧ (↑(List.length x) : Int) = (↑(List.length x) : Int) ∧ (0 : Int) = i ∧ x = x ∧ x_1 = x_1 ∧ x_2 = x_2 ∧ x_3 = x_3 ∧ x_4 = x_4 ∧ x_5 = x_5 ∧
     timesV x_2 x_4 x_5 = timesV x_2 x_4 x_5 ∧ True) ∧ ∀ (i a : Int), (a = List.getD (timesV x_2 x_4 x_5) (Int.toNat x_6) default ∧ (0 : Int) ≤ i ∧ i ≤ (↑(List.length x) : Int) ∧ ∀ (k : Nat), (↑k : Int) <
     i → (List.all (routesV (x, x_1, x_2) (↑k : Int) a) fun (r : Rt) => !perPkt r) = true) → ifP (decide (i < (↑(List.length x) : Int))) (okNet (x, x_1, x_2) ∧ (∃ (x_7 : Int), ((0 : Int) ≤ x_7 ∧ x_7 ≤
     (↑(List.length (routesV (x, x_1, x_2) i a)) : Int) ∧ ∀ (r : Rt), r ∈ List.take (Int.toNat x_7) (routesV (x, x_1, x_2) i a) → perPkt r = false) ∧ a = a ∧ i = i ∧ (↑(List.length (timesV x_2 x_4 x_5)) :
     Int) = (↑(List.length (timesV x_2 x_4 x_5)) : Int) ∧ x_6 = x_6 ∧ (↑(List.length x) : Int) = (↑(List.length x) : Int) ∧ i = i ∧ (↑(List.length (routesV (x, x_1, x_2) i a)) : Int) = (↑(List.length
     (routesV (x, x_1, x_2) i a)) : Int) ∧ (0 : Int) = x_7 ∧ x = x ∧ x_1 = x_1 ∧ x_2 = x_2 ∧ x_3 = x_3 ∧ x_4 = x_4 ∧ x_5 = x_5 ∧ timesV x_2 x_4 x_5 = timesV x_2 x_4 x_5 ∧ routesV (x, x_1, x_2) i a =
     routesV (x, x_1, x_2) i a ∧ True) ∧ ∀ (x_7 : Int), ((0 : Int) ≤ x_7 ∧ x_7 ≤ (↑(List.length (routesV (x, x_1, x_2) i a)) : Int) ∧ ∀ (r : Rt), r ∈ List.take (Int.toNat x_7) (routesV (x, x_1, x_2) i a) →
     perPkt r = false) → ifP (decide (x_7 < (↑(List.length (routesV (x, x_1, x_2) i a)) : Int))) ((0 : Int) ≤ x_7 ∧ x_7 < (↑(List.length (routesV (x, x_1, x_2) i a)) : Int) ∧ ∀ (b : Bool), b = decide ((1 :
     Int) < (↑(List.length (List.getD (routesV (x, x_1, x_2) i a) (Int.toNat x_7) default).2.1) : Int)) → (b = true → (b = true → b = true) ∧ True) ∧ (b = true → (b = true → b = true) ∧ True) ∧ (b = true →
     b = true) ∧ ifP (bif b then decide ((List.getD (routesV (x, x_1, x_2) i a) (Int.toNat x_7) default).2.2 = (3 : Int)) else false) (false = List.all (timesV x_2 x_4 x_5) (flowV (x, x_1, x_2))) (∃ (x_8 :
     Int), ((0 : Int) ≤ x_8 ∧ x_8 ≤ (↑(List.length (routesV (x, x_1, x_2) i a)) : Int) ∧ ∀ (r : Rt), r ∈ List.take (Int.toNat x_8) (routesV (x, x_1, x_2) i a) → perPkt r = false) ∧ Int.toNat
     ((↑(List.length (routesV (x, x_1, x_2) i a)) : Int) - x_8) < Int.toNat ((↑(List.length (routesV (x, x_1, x_2) i a)) : Int) - x_7) ∧ a = a ∧ i = i ∧ (↑(List.length (timesV x_2 x_4 x_5)) : Int) =
     (↑(List.length (timesV x_2 x_4 x_5)) : Int) ∧ x_6 = x_6 ∧ (↑(List.length x) : Int) = (↑(List.length x) : Int) ∧ i = i ∧ (↑(List.length (routesV (x, x_1, x_2) i a)) : Int) = (↑(List.length (routesV (x,
     x_1, x_2) i a)) : Int) ∧ IntKind.wrap IntKind.i64 (x_7 + (1 : Int)) = x_8 ∧ x = x ∧ x_1 = x_1 ∧ x_2 = x_2 ∧ x_3 = x_3 ∧ x_4 = x_4 ∧ x_5 = x_5 ∧ timesV x_2 x_4 x_5 = timesV x_2 x_4 x_5 ∧ routesV (x,
     x_1, x_2) i a = routesV (x, x_1, x_2) i a ∧ True)) (∃ (i_1 : Int), ∃ (a_3 : Int), (a_3 = List.getD (timesV x_2 x_4 x_5) (Int.toNat x_6) default ∧ (0 : Int) ≤ i_1 ∧ i_1 ≤ (↑(List.length x) : Int) ∧ ∀
     (k : Nat), (↑k : Int) < i_1 → (List.all (routesV (x, x_1, x_2) (↑k : Int) a_3) fun (r : Rt) => !perPkt r) = true) ∧ Int.toNat ((↑(List.length x) : Int) - i_1) < Int.toNat ((↑(List.length x) : Int) - i)
     ∧ a = a_3 ∧ (↑(List.length (timesV x_2 x_4 x_5)) : Int) = (↑(List.length (timesV x_2 x_4 x_5)) : Int) ∧ x_6 = x_6 ∧ (↑(List.length x) : Int) = (↑(List.length x) : Int) ∧ IntKind.wrap IntKind.i64 (i +
     (1 : Int)) = i_1 ∧ x = x ∧ x_1 = x_1 ∧ x_2 = x_2 ∧ x_3 = x_3 ∧ x_4 = x_4 ∧ x_5 = x_5 ∧ timesV x_2 x_4 x_5 = timesV x_2 x_4 x_5 ∧ True)) (∃ (x_7 : Int), ((0 : Int) ≤ x_7 ∧ x_7 ≤ (↑(List.length (timesV
     x_2 x_4 x_5)) : Int) ∧ ∀ (x_8 : Int), x_8 ∈ List.take (Int.toNat x_7) (timesV x_2 x_4 x_5) → flowV (x, x_1, x_2) x_8 = true) ∧ Int.toNat ((↑(List.length (timesV x_2 x_4 x_5)) : Int) - x_7) < Int.toNat
     ((↑(List.length (timesV x_2 x_4 x_5)) : Int) - x_6) ∧ (↑(List.length (timesV x_2 x_4 x_5)) : Int) = (↑(List.length (timesV x_2 x_4 x_5)) : Int) ∧ IntKind.wrap IntKind.i64 (x_6 + (1 : Int)) = x_7 ∧ x =
     x ∧ x_1 = x_1 ∧ x_2 = x_2 ∧ x_3 = x_3 ∧ x_4 = x_4 ∧ x_5 = x_5 ∧ timesV x_2 x_4 x_5 = timesV x_2 x_4 x_5 ∧ True)) (true = List.all (timesV x_2 x_4 x_5) (flowV (x, x_1, x_2))) := by
  rintro ns ls hs who s t ⟨⟨⟨⟨hnl, -⟩, -⟩, -⟩, -⟩ ok
  simp only [maxLen] at hnl
  have hc := ok.c
  have tl := (tm_len s t hs [s]).1
  simp only [List.length_singleton] at tl
  have tl2 : (timesV hs s t).length ≤ 1001 := by unfold timesV; dsimp only at hc; omega
  refine ⟨hc, ⟨0, ⟨by omega, by omega, by simp⟩, (by repeat' first | exact trivial | refine ⟨trivial, ?_⟩ | refine ⟨(by with_reducible rfl), ?_⟩ | refine ⟨w64 (by omega) (by omega), ?_⟩ | refine ⟨rfl, ?_⟩)⟩, ?_⟩
  rintro j ⟨j0, j1, hJ⟩
  have allF : ∀ {x : Int}, x ∈ timesV hs s t → flowV (ns, ls, hs) x = false → false = (timesV hs s t).all (flowV (ns, ls, hs)) := fun hx h => by
    symm; rw [List.all_eq_false]; exact ⟨_, hx, by rw [h]; decide⟩
  refine ifP_split (fun hj => ?_) (fun hj => ?_)
  rotate_left
  · have hj := of_decide_eq_false hj
    rw [List.take_of_length_le (by omega)] at hJ
    symm; rw [List.all_eq_true]; exact hJ
  have hj := of_decide_eq_true hj
  have hm := getD_mem j0 hj
  have nxt := fun h => all_next j0 hj hJ h (P := fun x => flowV (ns, ls, hs) x = true)
  generalize (timesV hs s t).getD j.toNat default = a0 at hm nxt ⊢
  refine ⟨j0, hj, ⟨0, a0, ⟨rfl, by omega, by omega, fun k hk => by omega⟩, (by repeat' first | exact trivial | refine ⟨trivial, ?_⟩ | refine ⟨(by with_reducible rfl), ?_⟩ | refine ⟨w64 (by omega) (by omega), ?_⟩ | refine ⟨rfl, ?_⟩)⟩, ?_⟩
  rintro i a ⟨ea, i0, i1, hI⟩
  subst ea
  refine ifP_split (fun hi => ?_) (fun hi => ?_)
  rotate_left
  · have hi := of_decide_eq_false hi
    refine ⟨j + 1, ⟨by omega, by omega, nxt ?_⟩, by omega, (by repeat' first | exact trivial | refine ⟨trivial, ?_⟩ | refine ⟨(by with_reducible rfl), ?_⟩ | refine ⟨w64 (by omega) (by omega), ?_⟩ | refine ⟨rfl, ?_⟩)⟩
    unfold flowV
    rw [List.all_eq_true]
    intro k hk
    have hk := List.mem_range.1 hk
    dsimp only at hk
    exact hI k (by omega)
  have hi := of_decide_eq_true hi
  have tb := (routesV_ok ok i a).n
  refine ⟨ok, ⟨0, ⟨by omega, by omega, by simp⟩, (by repeat' first | exact trivial | refine ⟨trivial, ?_⟩ | refine ⟨(by with_reducible rfl), ?_⟩ | refine ⟨w64 (by omega) (by omega), ?_⟩ | refine ⟨rfl, ?_⟩)⟩, ?_⟩
  rintro q ⟨q0, q1, hQ⟩
  refine ifP_split (fun hq => ?_) (fun hq => ?_)
  rotate_left
  · have hq := of_decide_eq_false hq
    rw [List.take_of_length_le (by omega)] at hQ
    refine ⟨i + 1, a, ⟨rfl, by omega, by omega, fun k hk => ?_⟩, by omega, (by repeat' first | exact trivial | refine ⟨trivial, ?_⟩ | refine ⟨(by with_reducible rfl), ?_⟩ | refine ⟨w64 (by omega) (by omega), ?_⟩ | refine ⟨rfl, ?_⟩)⟩
    by_cases e : (k : Int) < i
    · exact hI k e
    · have : (k : Int) = i := by omega
      rw [this, List.all_eq_true]
      intro r hr
      rw [hQ r hr]; rfl
  have hq := of_decide_eq_true hq
  have hmr := getD_mem q0 hq
  have nxr := fun h => all_next q0 hq hQ h (P := fun r => perPkt r = false)
  refine ⟨q0, hq, ?_⟩
  generalize (routesV (ns, ls, hs) i a).getD q.toNat default = r at hmr nxr ⊢
  (repeat (intro (b_ : Bool) (hb_ : b_ = _); (repeat refine ⟨(by first | (simp; done) | (rw [hb_]; simp; done) | (rw [hb_]; simp; omega) | (rw [hb_]; simp; intros; omega) | (rw [hb_]; simp +contextual; done)), ?_⟩); subst hb_))
  rw [band_d]
  refine ifP_split (fun h => ?_) (fun h => ?_)
  · refine allF hm ?_
    unfold flowV
    rw [List.all_eq_false]
    refine ⟨i.toNat, List.mem_range.2 (by dsimp only; omega), ?_⟩
    rw [show ((i.toNat : Nat) : Int) = i by omega, Bool.not_eq_true, List.all_eq_false]
    refine ⟨r, hmr, ?_⟩
    have h : perPkt r = true := h
    rw [h]; decide
  · exact ⟨q + 1, ⟨by omega, by omega, nxr h⟩, by omega, (by repeat' first | exact trivial | refine ⟨trivial, ?_⟩ | refine ⟨(by with_reducible rfl), ?_⟩ | refine ⟨w64 (by omega) (by omega), ?_⟩ | refine ⟨rfl, ?_⟩)⟩
theorem ok_truth_flowwise : SpecOK Try.prog GL 60 ct_truth_flowwise.spec := Ct.okH _ Try.func60 (by kernel_rfl) (withSpec_ok (withSpec_ok (withSpec_ok noSpecs_ok ok_truth_span_times) ok_topology_Routes) ok_truth_several) hmix an_truth_flowwise (hideMp (by kernel_rfl) vc_truth_flowwise)
def oneAt (n : Net) (w : Way) (at' dst : Int) (i : Nat) : Bool := !decide (1 < ((lookR (routesV n (w.1.getD i default) at') dst).2.1.length : Int))
def singleV (n : Net) (w : Way) (at' dst : Int) : Bool := (List.range w.2.1.length).all (oneAt n w at' dst)
def ct_truth_span_single : Ct := ⟨[.agg cSpan, .agg cWay, .val cI, .val cU32], [.val .bool], fun d => [okNet d.1.1, d.2.1.2.1.length ≤ d.2.1.1.length], fun d => ((singleV d.1.1 d.2.1 d.2.2.1 d.2.2.2.1, ()), ())⟩
def an_truth_span_single : PDs ct_truth_span_single.ps → Anns := (fun d => { loops := (fun n => match n with | 2 => some (fun S => { ι := Int, μ := fun i => (d.2.1.2.1.length - i).toNat, inv := fun i => 0 ≤ i ∧ i ≤ d.2.1.2.1.length ∧ ∀ k : Nat, (k : Int) < i → oneAt d.1.1 d.2.1 d.2.2.1 d.2.2.2.1 k = true, keep := [2, 3, 4, 5, 14], slots := fun i => [(15, .int .i64 i)], keepN := [80, 96], names := fun i => [] }) | _ => none) })
theorem vc_truth_span_single :
    ∀ (x : List (List (Int × Int) × Int × Int × Bool × List ((Int × Int) × List Int × Int) × Int × Int × Int × Int × Int × (Int × Int) × Bool × Bool × Int × Int)) (x_1 : List (Int × Int × Int × Int × Int
     × Int)) (x_2 : List (Int × Int × Bool × (Int × Int) × List Int × Int)) (x_3 x_4 x_5 : Int) (x_6 x_7 : List Int) (x_8 x_9 x_10 : Int), (((List.length x ≤ maxLen ∧ ∀ (x_11 : List (Int × Int) × Int × Int
     × Bool × List ((Int × Int) × List Int × Int) × Int × Int × Int × Int × Int × (Int × Int) × Bool × Bool × Int × Int), x_11 ∈ x → (List.length x_11.1 ≤ maxLen ∧ ∀ (x : Int × Int), x ∈ x_11.1 → ((0 :
     Int) ≤ x.1 ∧ x.1 ≤ (4294967295 : Int)) ∧ (-9223372036854775808 : Int) ≤ x.2 ∧ x.2 ≤ (9223372036854775807 : Int)) ∧ ((0 : Int) ≤ x_11.2.1 ∧ x_11.2.1 ≤ (4294967295 : Int)) ∧ ((-9223372036854775808 :
     Int) ≤ x_11.2.2.1 ∧ x_11.2.2.1 ≤ (9223372036854775807 : Int)) ∧ True ∧ (List.length x_11.2.2.2.2.1 ≤ maxLen ∧ ∀ (x : (Int × Int) × List Int × Int), x ∈ x_11.2.2.2.2.1 → (((0 : Int) ≤ x.1.1 ∧ x.1.1 ≤
     (4294967295 : Int)) ∧ (-9223372036854775808 : Int) ≤ x.1.2 ∧ x.1.2 ≤ (9223372036854775807 : Int)) ∧ (List.length x.2.1 ≤ maxLen ∧ ∀ (x_12 : Int), x_12 ∈ x.2.1 → (-9223372036854775808 : Int) ≤ x_12 ∧
     x_12 ≤ (9223372036854775807 : Int)) ∧ (-9223372036854775808 : Int) ≤ x.2.2 ∧ x.2.2 ≤ (9223372036854775807 : Int)) ∧ ((-9223372036854775808 : Int) ≤ x_11.2.2.2.2.2.1 ∧ x_11.2.2.2.2.2.1 ≤
     (9223372036854775807 : Int)) ∧ ((0 : Int) ≤ x_11.2.2.2.2.2.2.1 ∧ x_11.2.2.2.2.2.2.1 ≤ (4294967295 : Int)) ∧ ((-9223372036854775808 : Int) ≤ x_11.2.2.2.2.2.2.2.1 ∧ x_11.2.2.2.2.2.2.2.1 ≤
     (9223372036854775807 : Int)) ∧ ((-9223372036854775808 : Int) ≤ x_11.2.2.2.2.2.2.2.2.1 ∧ x_11.2.2.2.2.2.2.2.2.1 ≤ (9223372036854775807 : Int)) ∧ ((-9223372036854775808 : Int) ≤ x_11.2.2.2.2.2.2.2.2.2.1
     ∧ x_11.2.2.2.2.2.2.2.2.2.1 ≤ (9223372036854775807 : Int)) ∧ (((-9223372036854775808 : Int) ≤ x_11.2.2.2.2.2.2.2.2.2.2.1.1 ∧ x_11.2.2.2.2.2.2.2.2.2.2.1.1 ≤ (9223372036854775807 : Int)) ∧
     (-9223372036854775808 : Int) ≤ x_11.2.2.2.2.2.2.2.2.2.2.1.2 ∧ x_11.2.2.2.2.2.2.2.2.2.2.1.2 ≤ (9223372036854775807 : Int)) ∧ True ∧ True ∧ ((-9223372036854775808 : Int) ≤
     x_11.2.2.2.2.2.2.2.2.2.2.2.2.2.1 ∧ x_11.2.2.2.2.2.2.2.2.2.2.2.2.2.1 ≤ (9223372036854775807 : Int)) ∧ (-9223372036854775808 : Int) ≤ x_11.2.2.2.2.2.2.2.2.2.2.2.2.2.2 ∧ x_11.2.2.2.2.2.2.2.2.2.2.2.2.2.2
     ≤ (9223372036854775807 : Int)) ∧ (List.length x_1 ≤ maxLen ∧ ∀ (x : Int × Int × Int × Int × Int × Int), x ∈ x_1 → ((-9223372036854775808 : Int) ≤ x.1 ∧ x.1 ≤ (9223372036854775807 : Int)) ∧
     ((-9223372036854775808 : Int) ≤ x.2.1 ∧ x.2.1 ≤ (9223372036854775807 : Int)) ∧ ((-9223372036854775808 : Int) ≤ x.2.2.1 ∧ x.2.2.1 ≤ (9223372036854775807 : Int)) ∧ ((-9223372036854775808 : Int) ≤
     x.2.2.2.1 ∧ x.2.2.2.1 ≤ (9223372036854775807 : Int)) ∧ ((-9223372036854775808 : Int) ≤ x.2.2.2.2.1 ∧ x.2.2.2.2.1 ≤ (9223372036854775807 : Int)) ∧ (-9223372036854775808 : Int) ≤ x.2.2.2.2.2 ∧
     x.2.2.2.2.2 ≤ (9223372036854775807 : Int)) ∧ List.length x_2 ≤ maxLen ∧ ∀ (x : Int × Int × Bool × (Int × Int) × List Int × Int), x ∈ x_2 → ((-9223372036854775808 : Int) ≤ x.1 ∧ x.1 ≤
     (9223372036854775807 : Int)) ∧ ((-9223372036854775808 : Int) ≤ x.2.1 ∧ x.2.1 ≤ (9223372036854775807 : Int)) ∧ True ∧ (((0 : Int) ≤ x.2.2.2.1.1 ∧ x.2.2.2.1.1 ≤ (4294967295 : Int)) ∧
     (-9223372036854775808 : Int) ≤ x.2.2.2.1.2 ∧ x.2.2.2.1.2 ≤ (9223372036854775807 : Int)) ∧ (List.length x.2.2.2.2.1 ≤ maxLen ∧ ∀ (x_11 : Int), x_11 ∈ x.2.2.2.2.1 → (-9223372036854775808 : Int) ≤ x_11 ∧
     x_11 ≤ (9223372036854775807 : Int)) ∧ (-9223372036854775808 : Int) ≤ x.2.2.2.2.2 ∧ x.2.2.2.2.2 ≤ (9223372036854775807 : Int)) ∧ ((-9223372036854775808 : Int) ≤ x_3 ∧ x_3 ≤ (9223372036854775807 : Int))
     ∧ ((-9223372036854775808 : Int) ≤ x_4 ∧ x_4 ≤ (9223372036854775807 : Int)) ∧ (-9223372036854775808 : Int) ≤ x_5 ∧ x_5 ≤ (9223372036854775807 : Int)) ∧ ((List.length x_6 ≤ maxLen ∧ ∀ (x : Int), x ∈ x_6
     → (-9223372036854775808 : Int) ≤ x ∧ x ≤ (9223372036854775807 : Int)) ∧ (List.length x_7 ≤ maxLen ∧ ∀ (x : Int), x ∈ x_7 → (-9223372036854775808 : Int) ≤ x ∧ x ≤ (9223372036854775807 : Int)) ∧
     (-9223372036854775808 : Int) ≤ x_8 ∧ x_8 ≤ (9223372036854775807 : Int)) ∧ ((-9223372036854775808 : Int) ≤ x_9 ∧ x_9 ≤ (9223372036854775807 : Int)) ∧ ((0 : Int) ≤ x_10 ∧ x_10 ≤ (4294967295 : Int)) ∧
     True → okNet (x, x_1, x_2) ∧ List.length x_7 ≤ List.length x_6 → (∃ (x_11 : Int), ((0 : Int) ≤ x_11 ∧ x_11 ≤ (↑(List.length x_7) : Int) ∧ ∀ (k : Nat), (↑k : Int) < x_11 → oneAt (x, x_1, x_2) (x_6,
     x_7, x_8) x_9 x_10 k = true) ∧ x_9 = x_9 ∧ x_10 = x_10 ∧ (↑(List.length x_7) : Int) = (↑(List.length x_7) : Int) ∧ (0 : Int) = x_11 ∧ x = x ∧ x_1 = x_1 ∧ x_2 = x_2 ∧ x_3 = x_3 ∧ x_4 = x_4 ∧ x_5 = x_5
     ∧ x_6 = x_6 ∧ x_7 = x_7 ∧ x_8 = x_8 ∧ True) ∧ ∀ (x_11 : Int), ((0 : Int) ≤ x_11 ∧ x_11 ≤ (↑(List.length x_7) : Int) ∧ ∀ (k : Nat), (↑k : Int) < x_11 → oneAt (x, x_1, x_2) (x_6, x_7, x_8) x_9 x_10 k =
     true) → ifP (decide (x_11 < (↑(List.length x_7) : Int))) ((0 : Int) ≤ x_11 ∧ x_11 < (↑(List.length x_6) : Int) ∧ okNet (x, x_1, x_2) ∧ sortedR (routesV (x, x_1, x_2) (List.getD x_6 (Int.toNat x_11)
     default) x_9) ∧ okL (routesV (x, x_1, x_2) (List.getD x_6 (Int.toNat x_11) default) x_9) ∧ ifP (decide ((1 : Int) < (↑(List.length (lookR (routesV (x, x_1, x_2) (List.getD x_6 (Int.toNat x_11)
     default) x_9) x_10).2.1) : Int))) (false = singleV (x, x_1, x_2) (x_6, x_7, x_8) x_9 x_10) (∃ (x_12 : Int), ((0 : Int) ≤ x_12 ∧ x_12 ≤ (↑(List.length x_7) : Int) ∧ ∀ (k : Nat), (↑k : Int) < x_12 →
     oneAt (x, x_1, x_2) (x_6, x_7, x_8) x_9 x_10 k = true) ∧ Int.toNat ((↑(List.length x_7) : Int) - x_12) < Int.toNat ((↑(List.length x_7) : Int) - x_11) ∧ x_9 = x_9 ∧ x_10 = x_10 ∧ (↑(List.length x_7) :
     Int) = (↑(List.length x_7) : Int) ∧ IntKind.wrap IntKind.i64 (x_11 + (1 : Int)) = x_12 ∧ x = x ∧ x_1 = x_1 ∧ x_2 = x_2 ∧ x_3 = x_3 ∧ x_4 = x_4 ∧ x_5 = x_5 ∧ x_6 = x_6 ∧ x_7 = x_7 ∧ x_8 = x_8 ∧ True))
     (true = singleV (x, x_1, x_2) (x_6, x_7, x_8) x_9 x_10) := by
  rintro ns ls hs who s t u v e at' dst ⟨-, ⟨⟨hu, -⟩, ⟨hv, -⟩, -⟩, -⟩ ⟨ok, hl⟩
  simp only [maxLen] at hu hv
  refine ⟨⟨0, ⟨by omega, by omega, fun k hk => by omega⟩, (by repeat' first | exact trivial | refine ⟨trivial, ?_⟩ | refine ⟨(by with_reducible rfl), ?_⟩ | refine ⟨w64 (by omega) (by omega), ?_⟩ | refine ⟨rfl, ?_⟩)⟩, ?_⟩
  rintro i ⟨i0, i1, hI⟩
  refine ifP_split (fun hi => ?_) (fun hi => ?_)
  · have hi := of_decide_eq_true hi
    have tb := routesV_ok ok (u.getD i.toNat default) at'
    refine ⟨i0, by omega, ok, tb.s, tb.okL (by decide), ifP_split (fun h => ?_) (fun h => ?_)⟩
    · unfold singleV
      symm
      rw [List.all_eq_false]
      refine ⟨i.toNat, List.mem_range.2 (by dsimp only; omega), ?_⟩
      unfold oneAt
      dsimp only
      rw [h]; decide
    · refine ⟨i + 1, ⟨by omega, by omega, fun k hk => ?_⟩, by omega, (by repeat' first | exact trivial | refine ⟨trivial, ?_⟩ | refine ⟨(by with_reducible rfl), ?_⟩ | refine ⟨w64 (by omega) (by omega), ?_⟩ | refine ⟨rfl, ?_⟩)⟩
      by_cases e : (k : Int) < i
      · exact hI k e
      · have : k = i.toNat := by omega
        subst this
        unfold oneAt
        dsimp only
        rw [h]; rfl
  · have hi := of_decide_eq_false hi
    unfold singleV
    symm
    rw [List.all_eq_true]
    intro k hk
    have hk := List.mem_range.1 hk
    dsimp only at hk
    exact hI k (by omega)
theorem ok_truth_span_single : SpecOK Try.prog GL 151 ct_truth_span_single.spec := Ct.okH _ Try.func151 (by kernel_rfl) (withSpec_ok (withSpec_ok (withSpec_ok noSpecs_ok ok_topology_Routes) ok_fib_Lookup) ok_truth_several) hmix an_truth_span_single (hideMp (by kernel_rfl) vc_truth_span_single)
/-- Reversed outside of i .. j. -/
structure RevI (xs l : List Int) (i j : Int) : Prop where
  n : l.length = xs.length
  e : ∀ k : Nat, k < xs.length → l.getD k default = if (k : Int) < i ∨ j < k then xs.getD (xs.length - 1 - k) default else xs.getD k default
def ct_slices_Reverse_263e : Ct := ⟨[.row 3 cI], [], fun d => [], fun d => ((), (d.1.reverse, ()))⟩
def an_slices_Reverse_263e : PDs ct_slices_Reverse_263e.ps → Anns := (fun d => { loops := (fun n => match n with | 1 => some (fun S => { ι := Int × Int × (List Int), qn := ⟨fun k_ => ∀ (i : Int) (j : Int) (l : (List Int)), k_ (i, j, l), fun k_ h_ i => h_ i.1 i.2.1 i.2.2, fun k_ => ∃ (i : Int) (j : Int) (l : (List Int)), k_ (i, j, l), fun k_ ⟨i, j, l, h_⟩ => ⟨_, h_⟩⟩, μ := fun i => (i.2.1 - i.1).toNat, inv := fun i => 0 ≤ i.1 ∧ i.1 + i.2.1 + 1 = d.1.length ∧ i.1 ≤ i.2.1 + 1 ∧ RevI d.1 i.2.2 i.1 i.2.1, keep := [0], slots := fun i => [(2, .int .i64 i.1), (3, .int .i64 i.2.1)], names := fun i => [(1048576, .live (.row 3 cI i.2.2))] }) | _ => none) })
theorem vc_slices_Reverse_263e :
    ∀ (x : List Int), (List.length x ≤ maxLen ∧ ∀ (x_1 : Int), x_1 ∈ x → (-9223372036854775808 : Int) ≤ x_1 ∧ x_1 ≤ (9223372036854775807 : Int)) ∧ True → True → (∃ (i : Int), ∃ (j : Int), ∃ (l : List
     Int), ((0 : Int) ≤ i ∧ i + j + (1 : Int) = (↑(List.length x) : Int) ∧ i ≤ j + (1 : Int) ∧ RevI x l i j) ∧ (0 : Int) = i ∧ IntKind.wrap IntKind.i64 ((↑(List.length x) : Int) - (1 : Int)) = j ∧ x = l ∧
     True) ∧ ∀ (i j : Int) (l : List Int), (0 : Int) ≤ i ∧ i + j + (1 : Int) = (↑(List.length x) : Int) ∧ i ≤ j + (1 : Int) ∧ RevI x l i j → ifP (decide (i < j)) ((0 : Int) ≤ j ∧ j < (↑(List.length l) :
     Int) ∧ (0 : Int) ≤ i ∧ i < (↑(List.length l) : Int) ∧ (0 : Int) ≤ i ∧ i < (↑(List.length l) : Int) ∧ (0 : Int) ≤ j ∧ j < (↑(List.length (List.set l (Int.toNat i) (List.getD l (Int.toNat j) default)))
     : Int) ∧ ∃ (i_1 : Int), ∃ (j_1 : Int), ∃ (l_1 : List Int), ((0 : Int) ≤ i_1 ∧ i_1 + j_1 + (1 : Int) = (↑(List.length x) : Int) ∧ i_1 ≤ j_1 + (1 : Int) ∧ RevI x l_1 i_1 j_1) ∧ Int.toNat (j_1 - i_1) <
     Int.toNat (j - i) ∧ IntKind.wrap IntKind.i64 (i + (1 : Int)) = i_1 ∧ IntKind.wrap IntKind.i64 (j - (1 : Int)) = j_1 ∧ List.set (List.set l (Int.toNat i) (List.getD l (Int.toNat j) default)) (Int.toNat
     j) (List.getD l (Int.toNat i) default) = l_1 ∧ True) (l = List.reverse x) := by
  rintro x ⟨⟨hl, -⟩, -⟩ -
  simp only [maxLen] at hl
  refine ⟨⟨0, (x.length : Int) - 1, x, ⟨by omega, by omega, by omega, rfl, fun k hk => by rw [if_neg (by omega)]⟩, (by repeat' first | exact trivial | refine ⟨trivial, ?_⟩ | refine ⟨(by with_reducible rfl), ?_⟩ | refine ⟨w64 (by omega) (by omega), ?_⟩ | refine ⟨rfl, ?_⟩)⟩, ?_⟩
  rintro i j l ⟨i0, ij, i1, hn, he⟩
  refine ifP_split (fun h => ?_) (fun h => ?_)
  · have h := of_decide_eq_true h
    refine ⟨by omega, by omega, by omega, by omega, by omega, by omega, by omega, by rw [List.length_set]; omega, i + 1, j - 1, _, ⟨by omega, by omega, by omega, ?_⟩, by omega, (by repeat' first | exact trivial | refine ⟨trivial, ?_⟩ | refine ⟨(by with_reducible rfl), ?_⟩ | refine ⟨w64 (by omega) (by omega), ?_⟩ | refine ⟨rfl, ?_⟩)⟩
    refine ⟨by rw [List.length_set, List.length_set]; exact hn, fun k hk => ?_⟩
    by_cases kj : j.toNat = k
    · subst kj
      rw [getD_set (by rw [List.length_set]; omega), he _ (by omega), if_neg (by omega), if_pos (by omega)]
      rw [show x.length - 1 - j.toNat = i.toNat by omega]
    · rw [getD_setne kj]
      by_cases ki : i.toNat = k
      · subst ki
        rw [getD_set (by omega), he _ (by omega), if_neg (by omega), if_pos (by omega)]
        rw [show x.length - 1 - i.toNat = j.toNat by omega]
      · rw [getD_setne ki, he k hk]
        by_cases q : (k : Int) < i ∨ j < k
        · rw [if_pos q, if_pos (by omega)]
        · rw [if_neg q, if_neg (by omega)]
  · have h := of_decide_eq_false h
    refine List.ext_getElem (by rw [List.length_reverse]; exact hn) fun k h1 h2 => ?_
    have e := he k (by omega)
    rw [List.getD_eq_getElem?_getD, List.getElem?_eq_getElem h1, Option.getD_some] at e
    rw [e, List.getElem_reverse]
    split
    · rw [List.getD_eq_getElem?_getD, List.getElem?_eq_getElem (by omega), Option.getD_some]
    · rw [List.getD_eq_getElem?_getD, List.getElem?_eq_getElem (by omega), Option.getD_some]
      congr 1; omega
theorem ok_slices_Reverse_263e : SpecOK Try.prog GL 152 ct_slices_Reverse_263e.spec := Ct.okH _ Try.func152 (by kernel_rfl) noSpecs_ok hmix an_slices_Reverse_263e (hideMp (by kernel_rfl) vc_slices_Reverse_263e)

def ct_slices_Equal_263e : Ct := ⟨[.val (.sl cI), .val (.sl cI)], [.val .bool], fun d => [], fun d => ((decide (d.1 = d.2.1), ()), ())⟩
def an_slices_Equal_263e : PDs ct_slices_Equal_263e.ps → Anns := (fun d => { loops := (fun n => match n with | 4 => some (fun S => { ι := Int, μ := fun i => (d.1.length - i).toNat, inv := fun i => 0 ≤ i ∧ i ≤ d.1.length ∧ d.1.take i.toNat = d.2.1.take i.toNat, keep := [0, 1, 12], slots := fun i => [(13, .int .i64 i)], names := fun i => [] }) | _ => none) })
theorem vc_slices_Equal_263e :
    ∀ (x x_1 : List Int), (List.length x ≤ maxLen ∧ ∀ (x_2 : Int), x_2 ∈ x → (-9223372036854775808 : Int) ≤ x_2 ∧ x_2 ≤ (9223372036854775807 : Int)) ∧ (List.length x_1 ≤ maxLen ∧ ∀ (x : Int), x ∈ x_1 →
     (-9223372036854775808 : Int) ≤ x ∧ x ≤ (9223372036854775807 : Int)) ∧ True → True → ifP (!decide ((↑(List.length x) : Int) = (↑(List.length x_1) : Int))) (false = decide (x = x_1)) ((∃ (x_2 : Int),
     ((0 : Int) ≤ x_2 ∧ x_2 ≤ (↑(List.length x) : Int) ∧ List.take (Int.toNat x_2) x = List.take (Int.toNat x_2) x_1) ∧ x = x ∧ x_1 = x_1 ∧ (↑(List.length x) : Int) = (↑(List.length x) : Int) ∧ (0 : Int) =
     x_2 ∧ True) ∧ ∀ (x_2 : Int), (0 : Int) ≤ x_2 ∧ x_2 ≤ (↑(List.length x) : Int) ∧ List.take (Int.toNat x_2) x = List.take (Int.toNat x_2) x_1 → ifP (decide (x_2 < (↑(List.length x) : Int))) ((0 : Int) ≤
     x_2 ∧ x_2 < (↑(List.length x) : Int) ∧ (0 : Int) ≤ x_2 ∧ x_2 < (↑(List.length x_1) : Int) ∧ ifP (!decide (List.getD x (Int.toNat x_2) default = List.getD x_1 (Int.toNat x_2) default)) (false = decide
     (x = x_1)) (∃ (x_3 : Int), ((0 : Int) ≤ x_3 ∧ x_3 ≤ (↑(List.length x) : Int) ∧ List.take (Int.toNat x_3) x = List.take (Int.toNat x_3) x_1) ∧ Int.toNat ((↑(List.length x) : Int) - x_3) < Int.toNat
     ((↑(List.length x) : Int) - x_2) ∧ x = x ∧ x_1 = x_1 ∧ (↑(List.length x) : Int) = (↑(List.length x) : Int) ∧ IntKind.wrap IntKind.i64 (x_2 + (1 : Int)) = x_3 ∧ True)) (true = decide (x = x_1))) := by
  rintro x y ⟨⟨hl, -⟩, ⟨hm, -⟩, -⟩ -
  simp only [maxLen] at hl hm
  refine ifP_split (fun h => ?_) (fun h => ?_)
  · have h := nd_t h
    symm; apply decide_eq_false
    rintro rfl; exact h rfl
  have h := nd_f h
  refine ⟨⟨0, ⟨by omega, by omega, by simp⟩, (by repeat' first | exact trivial | refine ⟨trivial, ?_⟩ | refine ⟨(by with_reducible rfl), ?_⟩ | refine ⟨w64 (by omega) (by omega), ?_⟩ | refine ⟨rfl, ?_⟩)⟩, ?_⟩
  rintro j ⟨j0, j1, hj⟩
  refine ifP_split (fun hk => ?_) (fun hk => ?_)
  · have hk := of_decide_eq_true hk
    refine ⟨j0, hk, j0, by omega, ifP_split (fun q => ?_) (fun q => ?_)⟩
    · have q := nd_t q
      symm; apply decide_eq_false
      rintro rfl; exact q rfl
    · exact ⟨j + 1, ⟨by omega, by omega, take_same j0 hk (by omega) hj (nd_f q)⟩, by omega, (by repeat' first | exact trivial | refine ⟨trivial, ?_⟩ | refine ⟨(by with_reducible rfl), ?_⟩ | refine ⟨w64 (by omega) (by omega), ?_⟩ | refine ⟨rfl, ?_⟩)⟩
  · have hk := of_decide_eq_false hk
    rw [List.take_of_length_le (by omega), List.take_of_length_le (by omega)] at hj
    rw [hj]; simp
theorem ok_slices_Equal_263e : SpecOK Try.prog GL 153 ct_slices_Equal_263e.spec := Ct.okH _ Try.func153 (by kernel_rfl) noSpecs_ok hmix an_slices_Equal_263e (hideMp (by kernel_rfl) vc_slices_Equal_263e)
end Go.RS


/- Truth4: packets that go back the way they came; all assumptions. -/
namespace Go.RS
open Go.SX Go.Proofs
set_option maxRecDepth 100000
set_option linter.unusedVariables false

/-- What holds of a way all along. -/
structure WI (n : Net) (w : Way) : Prop where
  l : w.1.length = w.2.1.length + 1
  m : w.2.1.length ≤ 255
  r : ∀ x ∈ w.1, 0 ≤ x ∧ x < n.1.length
theorem WI.step {n : Net} (W : WN n) {at' : Int} {k : Key} {w : Way} (h : WI n w) : WI n (stepW n at' k w) := by
  have hl := h.l
  have hr := h.r _ (lastI_mem (ns := w.1) (by omega))
  have lm := look_mem (l := routesV n (lastI w.1) at') (a := k.2.1)
  have nx := W.x (lastI w.1) at' hr.1 hr.2
  unfold stepW stepR1
  split
  · exact ⟨h.l, h.m, h.r⟩
  split
  · exact ⟨h.l, h.m, h.r⟩
  split
  · exact ⟨h.l, h.m, h.r⟩
  rename_i h2
  split
  · exact ⟨h.l, h.m, h.r⟩
  split
  · exact ⟨h.l, h.m, h.r⟩
  rename_i h4
  have hok : lookB (routesV n (lastI w.1) at') k.2.1 = true := by
    cases hh : lookB (routesV n (lastI w.1) at') k.2.1
    · exact absurd (.inl hh) h2
    · rfl
  have pr := pick_range (r := lookR (routesV n (lastI w.1) at') k.2.1) (seed := nSeed (n.1.getD (lastI w.1).toNat default)) (k := k) (by
    have : ¬ (lookR (routesV n (lastI w.1) at') k.2.1).2.1.length = 0 := fun e => h2 (.inr e)
    omega)
  have ho := nx _ (lm hok) _ (getD_mem pr.1 pr.2)
  refine ⟨by dsimp only; rw [List.length_append, List.length_append, hl]; rfl, by dsimp only; rw [List.length_append, List.length_singleton]; omega, fun x hx => ?_⟩
  rcases List.mem_append.1 hx with hx | hx
  · exact h.r x hx
  · rw [List.mem_singleton.1 hx]; exact ho
theorem WI.run {n : Net} (W : WN n) {at' : Int} {k : Key} : ∀ (f : Nat) {w : Way}, WI n w → WI n (runW n at' k f w)
  | 0, w, h => h
  | f + 1, w, h => by
    rw [runW]
    split
    · exact WI.run W f (h.step W)
    · exact h
theorem trace_wi {n : Net} (W : WN n) {at' who : Int} {k : Key} (w0 : 0 ≤ who) (w1 : who < n.1.length) : WI n (traceV n at' who k) :=
  WI.run W 257 ⟨rfl, Nat.zero_le _, fun x hx => by rw [List.mem_singleton.1 hx]; exact ⟨w0, w1⟩⟩
def kTo (a b : Int) : Key := (a, b, 0, 0, 0)
def backAt (n : Net) (at' home x : Int) (there : Way) (i : Nat) : Bool :=
  decide ((traceV n at' (there.1.getD i default) (kTo x home)).2.2 = 1) && (singleV n (traceV n at' (there.1.getD i default) (kTo x home)) at' home && decide (there.2.1.take i = (traceV n at' (there.1.getD i default) (kTo x home)).2.1.reverse))
def backAll (n : Net) (at' home x : Int) (there : Way) : Bool := (List.range (there.1.length - 1)).all fun i => backAt n at' home x there (i + 1)
def backV (n : Net) (at' who home x : Int) : Bool :=
  !decide ((traceV n at' who (kTo home x)).2.2 = 4) && (singleV n (traceV n at' who (kTo home x)) at' x && backAll n at' home x (traceV n at' who (kTo home x)))
def ct_truth_span_back : Ct := ⟨[.agg cSpan, .val cI, .val cU32, .val cU32], [.val .bool], fun d => [WN d.1.1, 0 ≤ d.1.2.1, d.1.2.1 < d.1.1.1.length], fun d => ((backV d.1.1 d.2.1 d.1.2.1 d.2.2.1 d.2.2.2.1, ()), ())⟩
def an_truth_span_back : PDs ct_truth_span_back.ps → Anns := (fun d => { loops := (fun n => match n with | 5 => some (fun S => { ι := Int, μ := fun i => ((S.c cWay 160).1.length - i).toNat, inv := fun i => 1 ≤ i ∧ ∀ k : Nat, 1 ≤ k → (k : Int) < i → backAt d.1.1 d.2.1 d.2.2.1 d.2.2.2.1 (S.c cWay 160) k = true, keep := [1, 2, 3, 4, 9], slots := fun i => [(10, .int .i64 i)], keepN := [80, 160], names := fun i => [] }) | _ => none) })
theorem vc_truth_span_back :
    ∀ (x : List (List (Int × Int) × Int × Int × Bool × List ((Int × Int) × List Int × Int) × Int × Int × Int × Int × Int × (Int × Int) × Bool × Bool × Int × Int)) (x_1 : List (Int × Int × Int × Int × Int
     × Int)) (x_2 : List (Int × Int × Bool × (Int × Int) × List Int × Int)) (x_3 x_4 x_5 x_6 x_7 x_8 : Int), (((List.length x ≤ maxLen ∧ ∀ (x_9 : List (Int × Int) × Int × Int × Bool × List ((Int × Int) ×
     List Int × Int) × Int × Int × Int × Int × Int × (Int × Int) × Bool × Bool × Int × Int), x_9 ∈ x → (List.length x_9.1 ≤ maxLen ∧ ∀ (x : Int × Int), x ∈ x_9.1 → ((0 : Int) ≤ x.1 ∧ x.1 ≤ (4294967295 :
     Int)) ∧ (-9223372036854775808 : Int) ≤ x.2 ∧ x.2 ≤ (9223372036854775807 : Int)) ∧ ((0 : Int) ≤ x_9.2.1 ∧ x_9.2.1 ≤ (4294967295 : Int)) ∧ ((-9223372036854775808 : Int) ≤ x_9.2.2.1 ∧ x_9.2.2.1 ≤
     (9223372036854775807 : Int)) ∧ True ∧ (List.length x_9.2.2.2.2.1 ≤ maxLen ∧ ∀ (x : (Int × Int) × List Int × Int), x ∈ x_9.2.2.2.2.1 → (((0 : Int) ≤ x.1.1 ∧ x.1.1 ≤ (4294967295 : Int)) ∧
     (-9223372036854775808 : Int) ≤ x.1.2 ∧ x.1.2 ≤ (9223372036854775807 : Int)) ∧ (List.length x.2.1 ≤ maxLen ∧ ∀ (x_10 : Int), x_10 ∈ x.2.1 → (-9223372036854775808 : Int) ≤ x_10 ∧ x_10 ≤
     (9223372036854775807 : Int)) ∧ (-9223372036854775808 : Int) ≤ x.2.2 ∧ x.2.2 ≤ (9223372036854775807 : Int)) ∧ ((-9223372036854775808 : Int) ≤ x_9.2.2.2.2.2.1 ∧ x_9.2.2.2.2.2.1 ≤ (9223372036854775807 :
     Int)) ∧ ((0 : Int) ≤ x_9.2.2.2.2.2.2.1 ∧ x_9.2.2.2.2.2.2.1 ≤ (4294967295 : Int)) ∧ ((-9223372036854775808 : Int) ≤ x_9.2.2.2.2.2.2.2.1 ∧ x_9.2.2.2.2.2.2.2.1 ≤ (9223372036854775807 : Int)) ∧
     ((-9223372036854775808 : Int) ≤ x_9.2.2.2.2.2.2.2.2.1 ∧ x_9.2.2.2.2.2.2.2.2.1 ≤ (9223372036854775807 : Int)) ∧ ((-9223372036854775808 : Int) ≤ x_9.2.2.2.2.2.2.2.2.2.1 ∧ x_9.2.2.2.2.2.2.2.2.2.1 ≤
     (9223372036854775807 : Int)) ∧ (((-9223372036854775808 : Int) ≤ x_9.2.2.2.2.2.2.2.2.2.2.1.1 ∧ x_9.2.2.2.2.2.2.2.2.2.2.1.1 ≤ (9223372036854775807 : Int)) ∧ (-9223372036854775808 : Int) ≤
     x_9.2.2.2.2.2.2.2.2.2.2.1.2 ∧ x_9.2.2.2.2.2.2.2.2.2.2.1.2 ≤ (9223372036854775807 : Int)) ∧ True ∧ True ∧ ((-9223372036854775808 : Int) ≤ x_9.2.2.2.2.2.2.2.2.2.2.2.2.2.1 ∧
     x_9.2.2.2.2.2.2.2.2.2.2.2.2.2.1 ≤ (9223372036854775807 : Int)) ∧ (-9223372036854775808 : Int) ≤ x_9.2.2.2.2.2.2.2.2.2.2.2.2.2.2 ∧ x_9.2.2.2.2.2.2.2.2.2.2.2.2.2.2 ≤ (9223372036854775807 : Int)) ∧
     (List.length x_1 ≤ maxLen ∧ ∀ (x : Int × Int × Int × Int × Int × Int), x ∈ x_1 → ((-9223372036854775808 : Int) ≤ x.1 ∧ x.1 ≤ (9223372036854775807 : Int)) ∧ ((-9223372036854775808 : Int) ≤ x.2.1 ∧
     x.2.1 ≤ (9223372036854775807 : Int)) ∧ ((-9223372036854775808 : Int) ≤ x.2.2.1 ∧ x.2.2.1 ≤ (9223372036854775807 : Int)) ∧ ((-9223372036854775808 : Int) ≤ x.2.2.2.1 ∧ x.2.2.2.1 ≤ (9223372036854775807 :
     Int)) ∧ ((-9223372036854775808 : Int) ≤ x.2.2.2.2.1 ∧ x.2.2.2.2.1 ≤ (9223372036854775807 : Int)) ∧ (-9223372036854775808 : Int) ≤ x.2.2.2.2.2 ∧ x.2.2.2.2.2 ≤ (9223372036854775807 : Int)) ∧ List.length
     x_2 ≤ maxLen ∧ ∀ (x : Int × Int × Bool × (Int × Int) × List Int × Int), x ∈ x_2 → ((-9223372036854775808 : Int) ≤ x.1 ∧ x.1 ≤ (9223372036854775807 : Int)) ∧ ((-9223372036854775808 : Int) ≤ x.2.1 ∧
     x.2.1 ≤ (9223372036854775807 : Int)) ∧ True ∧ (((0 : Int) ≤ x.2.2.2.1.1 ∧ x.2.2.2.1.1 ≤ (4294967295 : Int)) ∧ (-9223372036854775808 : Int) ≤ x.2.2.2.1.2 ∧ x.2.2.2.1.2 ≤ (9223372036854775807 : Int)) ∧
     (List.length x.2.2.2.2.1 ≤ maxLen ∧ ∀ (x_9 : Int), x_9 ∈ x.2.2.2.2.1 → (-9223372036854775808 : Int) ≤ x_9 ∧ x_9 ≤ (9223372036854775807 : Int)) ∧ (-9223372036854775808 : Int) ≤ x.2.2.2.2.2 ∧
     x.2.2.2.2.2 ≤ (9223372036854775807 : Int)) ∧ ((-9223372036854775808 : Int) ≤ x_3 ∧ x_3 ≤ (9223372036854775807 : Int)) ∧ ((-9223372036854775808 : Int) ≤ x_4 ∧ x_4 ≤ (9223372036854775807 : Int)) ∧
     (-9223372036854775808 : Int) ≤ x_5 ∧ x_5 ≤ (9223372036854775807 : Int)) ∧ ((-9223372036854775808 : Int) ≤ x_6 ∧ x_6 ≤ (9223372036854775807 : Int)) ∧ ((0 : Int) ≤ x_7 ∧ x_7 ≤ (4294967295 : Int)) ∧ ((0
     : Int) ≤ x_8 ∧ x_8 ≤ (4294967295 : Int)) ∧ True → WN (x, x_1, x_2) ∧ (0 : Int) ≤ x_3 ∧ x_3 + (1 : Int) ≤ (↑(List.length x) : Int) → WN (x, x_1, x_2) ∧ (0 : Int) ≤ x_3 ∧ x_3 < (↑(List.length x) : Int)
     ∧ ∀ (x_9 x_10 : List Int) (x_11 : Int), (x_9, x_10, x_11) = traceV (x, x_1, x_2) x_6 x_3 (x_7, x_8, (0 : Int), (0 : Int), (0 : Int)) → ∀ (b : Bool), b = decide (x_11 = (4 : Int)) → ((!b) = true →
     ((!b) = true → (!b) = true) ∧ ((!b) = true → (!b) = true) ∧ ((!b) = true → (!b) = true) ∧ ((!b) = true → (!b) = true) ∧ okNet (x, x_1, x_2) ∧ List.length x_10 ≤ List.length x_9 ∧ True) ∧ ((!b) = true
     → ((!b) = true → (!b) = true) ∧ True) ∧ (b = false → (!b) = true) ∧ ifP (bif b then true else !singleV (x, x_1, x_2) (x_9, x_10, x_11) x_6 x_8) (false = backV (x, x_1, x_2) x_6 x_3 x_7 x_8) ((∃ (x_12
     : Int), ((1 : Int) ≤ x_12 ∧ ∀ (k : Nat), (1 : Nat) ≤ k → (↑k : Int) < x_12 → backAt (x, x_1, x_2) x_6 x_7 x_8 (x_9, x_10, x_11) k = true) ∧ x_6 = x_6 ∧ x_7 = x_7 ∧ x_8 = x_8 ∧ (1 : Int) = x_12 ∧ x = x
     ∧ x_1 = x_1 ∧ x_2 = x_2 ∧ x_3 = x_3 ∧ x_4 = x_4 ∧ x_5 = x_5 ∧ x_9 = x_9 ∧ x_10 = x_10 ∧ x_11 = x_11 ∧ True) ∧ ∀ (x_12 : Int), ((1 : Int) ≤ x_12 ∧ ∀ (k : Nat), (1 : Nat) ≤ k → (↑k : Int) < x_12 →
     backAt (x, x_1, x_2) x_6 x_7 x_8 (x_9, x_10, x_11) k = true) → ifP (decide (x_12 < (↑(List.length x_9) : Int))) ((0 : Int) ≤ x_12 ∧ x_12 < (↑(List.length x_9) : Int) ∧ WN (x, x_1, x_2) ∧ (0 : Int) ≤
     List.getD x_9 (Int.toNat x_12) default ∧ List.getD x_9 (Int.toNat x_12) default < (↑(List.length x) : Int) ∧ ∀ (x_13 x_14 : List Int) (x_15 : Int), (x_13, x_14, x_15) = traceV (x, x_1, x_2) x_6
     (List.getD x_9 (Int.toNat x_12) default) (x_8, x_7, (0 : Int), (0 : Int), (0 : Int)) → (↑(List.length x_14) : Int) ≤ (1099511627776 : Int) ∧ ∀ (b : Bool), b = !decide (x_15 = (1 : Int)) → ((!b) = true
     → ((!b) = true → (!b) = true) ∧ ((!b) = true → (!b) = true) ∧ ((!b) = true → (!b) = true) ∧ ((!b) = true → (!b) = true) ∧ okNet (x, x_1, x_2) ∧ List.length x_14 ≤ List.length x_13 ∧ True) ∧ ((!b) =
     true → ((!b) = true → (!b) = true) ∧ True) ∧ (b = false → (!b) = true) ∧ ∀ (b_1 : Bool), (b_1 = bif b then true else !singleV (x, x_1, x_2) (x_13, x_14, x_15) x_6 x_7) → ((!b_1) = true → ((!b_1) =
     true → (!b_1) = true) ∧ True) ∧ ((!b_1) = true → ((!b_1) = true → (!b_1) = true) ∧ ((!b_1) = true → (!b_1) = true) ∧ (0 : Int) ≤ (0 : Int) ∧ (0 : Int) ≤ x_12 ∧ x_12 ≤ (↑(List.length x_10) : Int) ∧
     True) ∧ ((!b_1) = true → ((!b_1) = true → (!b_1) = true) ∧ ((!b_1) = true → (!b_1) = true) ∧ True) ∧ ((!b_1) = true → ((!b_1) = true → (!b_1) = true) ∧ True) ∧ (b_1 = false → (!b_1) = true) ∧ ifP (bif
     b_1 then true else !decide (subL x_10 (Int.toNat (0 : Int)) (Int.toNat x_12) = List.reverse x_14)) (false = backV (x, x_1, x_2) x_6 x_3 x_7 x_8) (∃ (x_16 : Int), ((1 : Int) ≤ x_16 ∧ ∀ (k : Nat), (1 :
     Nat) ≤ k → (↑k : Int) < x_16 → backAt (x, x_1, x_2) x_6 x_7 x_8 (x_9, x_10, x_11) k = true) ∧ Int.toNat ((↑(List.length x_9) : Int) - x_16) < Int.toNat ((↑(List.length x_9) : Int) - x_12) ∧ x_6 = x_6
     ∧ x_7 = x_7 ∧ x_8 = x_8 ∧ IntKind.wrap IntKind.i64 (x_12 + (1 : Int)) = x_16 ∧ x = x ∧ x_1 = x_1 ∧ x_2 = x_2 ∧ x_3 = x_3 ∧ x_4 = x_4 ∧ x_5 = x_5 ∧ x_9 = x_9 ∧ x_10 = x_10 ∧ x_11 = x_11 ∧ True)) (true
     = backV (x, x_1, x_2) x_6 x_3 x_7 x_8)) := by
  rintro ns ls hs who s t at' home x - ⟨W, w0, w1⟩
  have w1 : who < (ns.length : Int) := by omega
  refine ⟨W, w0, w1, ?_⟩
  rintro u v e ht
  have I := trace_wi W (at' := at') (who := who) (k := (home, x, 0, 0, 0)) w0 w1
  rw [← ht] at I
  have eV : backV (ns, ls, hs) at' who home x = (!decide (e = 4) && (singleV (ns, ls, hs) (u, v, e) at' x && backAll (ns, ls, hs) at' home x (u, v, e))) := by
    unfold backV kTo; rw [← ht]
  have hl := I.l
  have hm := I.m
  dsimp only at hl hm
  intro b hb
  (repeat refine ⟨fun h_ => (by first | exact ⟨fun _ => h_, fun _ => h_, fun _ => h_, fun _ => h_, W.o, by omega, trivial⟩ | (simp; done) | (simp [h_]; done) | (simp_all; done)), ?_⟩)
  refine ifP_or (fun ho => ?_) (fun h1 h2 => ?_)
  · rw [eV]
    rcases ho with h | h
    · rw [hb] at h; rw [h]; rfl
    · have h : singleV (ns, ls, hs) (u, v, e) at' x = false := by simpa using h
      rw [h]; simp
  have hs1 : singleV (ns, ls, hs) (u, v, e) at' x = true := by simpa using h2
  have e4 : decide (e = 4) = false := hb.symm.trans h1
  rw [e4, hs1] at eV
  have eV : backV (ns, ls, hs) at' who home x = backAll (ns, ls, hs) at' home x (u, v, e) := eV
  rw [eV]
  refine ⟨⟨1, ⟨by omega, fun k k1 k2 => by omega⟩, (by repeat' first | exact trivial | refine ⟨trivial, ?_⟩ | refine ⟨(by with_reducible rfl), ?_⟩ | refine ⟨w64 (by omega) (by omega), ?_⟩ | refine ⟨rfl, ?_⟩)⟩, ?_⟩
  rintro i ⟨i1, hI⟩
  refine ifP_split (fun hi => ?_) (fun hi => ?_)
  rotate_left
  · have hi := of_decide_eq_false hi
    unfold backAll
    symm; rw [List.all_eq_true]
    intro k hk
    have hk := List.mem_range.1 hk
    dsimp only at hk
    exact hI (k + 1) (by omega) (by omega)
  have hi := of_decide_eq_true hi
  have hr := I.r _ (getD_mem (xs := u) (i := i) (by omega) hi)
  refine ⟨by omega, hi, W, hr.1, hr.2, ?_⟩
  rintro u2 v2 e2 ht2
  have I2 := trace_wi W (at' := at') (who := u.getD i.toNat default) (k := (x, home, 0, 0, 0)) hr.1 hr.2
  rw [← ht2] at I2
  have hl2 := I2.l
  have hm2 := I2.m
  dsimp only at hl2 hm2
  have eA : backAt (ns, ls, hs) at' home x (u, v, e) i.toNat = (decide (e2 = 1) && (singleV (ns, ls, hs) (u2, v2, e2) at' home && decide (v.take i.toNat = v2.reverse))) := by
    unfold backAt kTo; dsimp only; rw [← ht2]
  refine ⟨by omega, ?_⟩
  intro b3 hb3
  (repeat refine ⟨fun h_ => (by first | exact ⟨fun _ => h_, fun _ => h_, fun _ => h_, fun _ => h_, W.o, by omega, trivial⟩ | (simp; done) | (simp [h_]; done) | (simp_all; done)), ?_⟩)
  intro b4 hb4
  (repeat refine ⟨fun h_ => (by first | exact ⟨fun _ => h_, fun _ => h_, by omega, by omega, by omega, trivial⟩ | (simp; done) | (simp [h_]; done) | (simp_all; done)), ?_⟩)
  have eSub : subL v (Int.toNat (0 : Int)) i.toNat = v.take i.toNat := by simp [subL]
  have tot : (bif b4 then true else !decide (subL v (Int.toNat (0 : Int)) i.toNat = v2.reverse)) = !backAt (ns, ls, hs) at' home x (u, v, e) i.toNat := by
    rw [hb4, hb3, eA, eSub]
    cases decide (e2 = 1) <;> cases singleV (ns, ls, hs) (u2, v2, e2) at' home <;> cases decide (v.take i.toNat = v2.reverse) <;> rfl
  rw [tot]
  refine ifP_split (fun h => ?_) (fun h => ?_)
  · unfold backAll
    symm; rw [List.all_eq_false]
    refine ⟨i.toNat - 1, List.mem_range.2 (by dsimp only; omega), ?_⟩
    rw [show i.toNat - 1 + 1 = i.toNat by omega]
    have h : backAt (ns, ls, hs) at' home x (u, v, e) i.toNat = false := by simpa using h
    rw [h]; decide
  · have h : backAt (ns, ls, hs) at' home x (u, v, e) i.toNat = true := by simpa using h
    refine ⟨i + 1, ⟨by omega, fun k k1 k2 => ?_⟩, by omega, (by repeat' first | exact trivial | refine ⟨trivial, ?_⟩ | refine ⟨(by with_reducible rfl), ?_⟩ | refine ⟨w64 (by omega) (by omega), ?_⟩ | refine ⟨rfl, ?_⟩)⟩
    by_cases q : (k : Int) < i
    · exact hI k k1 q
    · have : k = i.toNat := by omega
      rw [this]; exact h
theorem ok_truth_span_back : SpecOK Try.prog GL 106 ct_truth_span_back.spec := Ct.okH _ Try.func106 (by kernel_rfl) (withSpec_ok (withSpec_ok (withSpec_ok (withSpec_ok (withSpec_ok noSpecs_ok (Ct.named ok_truth_Trace)) ok_truth_span_single) ok_slices_Clone_263e) ok_slices_Reverse_263e) ok_slices_Equal_263e) hmix an_truth_span_back (hideMp (by kernel_rfl) vc_truth_span_back)

def ct_truth_symmetric_1 : Ct := ⟨[.val cU32, .box 110 cSpan, .box 3 cI, .box 24 cU32], [.val .bool], fun d => [WN d.2.1.1, 0 ≤ d.2.1.2.1, d.2.1.2.1 < d.2.1.1.1.length], fun d => ((!backV d.2.1.1 d.2.2.1 d.2.1.2.1 d.2.2.2.1 d.1, ()), (d.2.1, d.2.2.1, d.2.2.2.1, ()))⟩
def an_truth_symmetric_1 : PDs ct_truth_symmetric_1.ps → Anns := (fun _ => {})
theorem vc_truth_symmetric_1 :
    ∀ (x : Int) (x_1 : List (List (Int × Int) × Int × Int × Bool × List ((Int × Int) × List Int × Int) × Int × Int × Int × Int × Int × (Int × Int) × Bool × Bool × Int × Int)) (x_2 : List (Int × Int × Int
     × Int × Int × Int)) (x_3 : List (Int × Int × Bool × (Int × Int) × List Int × Int)) (x_4 x_5 x_6 x_7 x_8 : Int), ((0 : Int) ≤ x ∧ x ≤ (4294967295 : Int)) ∧ (((List.length x_1 ≤ maxLen ∧ ∀ (x : List
     (Int × Int) × Int × Int × Bool × List ((Int × Int) × List Int × Int) × Int × Int × Int × Int × Int × (Int × Int) × Bool × Bool × Int × Int), x ∈ x_1 → (List.length x.1 ≤ maxLen ∧ ∀ (x_9 : Int × Int),
     x_9 ∈ x.1 → ((0 : Int) ≤ x_9.1 ∧ x_9.1 ≤ (4294967295 : Int)) ∧ (-9223372036854775808 : Int) ≤ x_9.2 ∧ x_9.2 ≤ (9223372036854775807 : Int)) ∧ ((0 : Int) ≤ x.2.1 ∧ x.2.1 ≤ (4294967295 : Int)) ∧
     ((-9223372036854775808 : Int) ≤ x.2.2.1 ∧ x.2.2.1 ≤ (9223372036854775807 : Int)) ∧ True ∧ (List.length x.2.2.2.2.1 ≤ maxLen ∧ ∀ (x_9 : (Int × Int) × List Int × Int), x_9 ∈ x.2.2.2.2.1 → (((0 : Int) ≤
     x_9.1.1 ∧ x_9.1.1 ≤ (4294967295 : Int)) ∧ (-9223372036854775808 : Int) ≤ x_9.1.2 ∧ x_9.1.2 ≤ (9223372036854775807 : Int)) ∧ (List.length x_9.2.1 ≤ maxLen ∧ ∀ (x : Int), x ∈ x_9.2.1 →
     (-9223372036854775808 : Int) ≤ x ∧ x ≤ (9223372036854775807 : Int)) ∧ (-9223372036854775808 : Int) ≤ x_9.2.2 ∧ x_9.2.2 ≤ (9223372036854775807 : Int)) ∧ ((-9223372036854775808 : Int) ≤ x.2.2.2.2.2.1 ∧
     x.2.2.2.2.2.1 ≤ (9223372036854775807 : Int)) ∧ ((0 : Int) ≤ x.2.2.2.2.2.2.1 ∧ x.2.2.2.2.2.2.1 ≤ (4294967295 : Int)) ∧ ((-9223372036854775808 : Int) ≤ x.2.2.2.2.2.2.2.1 ∧ x.2.2.2.2.2.2.2.1 ≤
     (9223372036854775807 : Int)) ∧ ((-9223372036854775808 : Int) ≤ x.2.2.2.2.2.2.2.2.1 ∧ x.2.2.2.2.2.2.2.2.1 ≤ (9223372036854775807 : Int)) ∧ ((-9223372036854775808 : Int) ≤ x.2.2.2.2.2.2.2.2.2.1 ∧
     x.2.2.2.2.2.2.2.2.2.1 ≤ (9223372036854775807 : Int)) ∧ (((-9223372036854775808 : Int) ≤ x.2.2.2.2.2.2.2.2.2.2.1.1 ∧ x.2.2.2.2.2.2.2.2.2.2.1.1 ≤ (9223372036854775807 : Int)) ∧ (-9223372036854775808 :
     Int) ≤ x.2.2.2.2.2.2.2.2.2.2.1.2 ∧ x.2.2.2.2.2.2.2.2.2.2.1.2 ≤ (9223372036854775807 : Int)) ∧ True ∧ True ∧ ((-9223372036854775808 : Int) ≤ x.2.2.2.2.2.2.2.2.2.2.2.2.2.1 ∧
     x.2.2.2.2.2.2.2.2.2.2.2.2.2.1 ≤ (9223372036854775807 : Int)) ∧ (-9223372036854775808 : Int) ≤ x.2.2.2.2.2.2.2.2.2.2.2.2.2.2 ∧ x.2.2.2.2.2.2.2.2.2.2.2.2.2.2 ≤ (9223372036854775807 : Int)) ∧
     (List.length x_2 ≤ maxLen ∧ ∀ (x : Int × Int × Int × Int × Int × Int), x ∈ x_2 → ((-9223372036854775808 : Int) ≤ x.1 ∧ x.1 ≤ (9223372036854775807 : Int)) ∧ ((-9223372036854775808 : Int) ≤ x.2.1 ∧
     x.2.1 ≤ (9223372036854775807 : Int)) ∧ ((-9223372036854775808 : Int) ≤ x.2.2.1 ∧ x.2.2.1 ≤ (9223372036854775807 : Int)) ∧ ((-9223372036854775808 : Int) ≤ x.2.2.2.1 ∧ x.2.2.2.1 ≤ (9223372036854775807 :
     Int)) ∧ ((-9223372036854775808 : Int) ≤ x.2.2.2.2.1 ∧ x.2.2.2.2.1 ≤ (9223372036854775807 : Int)) ∧ (-9223372036854775808 : Int) ≤ x.2.2.2.2.2 ∧ x.2.2.2.2.2 ≤ (9223372036854775807 : Int)) ∧ List.length
     x_3 ≤ maxLen ∧ ∀ (x : Int × Int × Bool × (Int × Int) × List Int × Int), x ∈ x_3 → ((-9223372036854775808 : Int) ≤ x.1 ∧ x.1 ≤ (9223372036854775807 : Int)) ∧ ((-9223372036854775808 : Int) ≤ x.2.1 ∧
     x.2.1 ≤ (9223372036854775807 : Int)) ∧ True ∧ (((0 : Int) ≤ x.2.2.2.1.1 ∧ x.2.2.2.1.1 ≤ (4294967295 : Int)) ∧ (-9223372036854775808 : Int) ≤ x.2.2.2.1.2 ∧ x.2.2.2.1.2 ≤ (9223372036854775807 : Int)) ∧
     (List.length x.2.2.2.2.1 ≤ maxLen ∧ ∀ (x_9 : Int), x_9 ∈ x.2.2.2.2.1 → (-9223372036854775808 : Int) ≤ x_9 ∧ x_9 ≤ (9223372036854775807 : Int)) ∧ (-9223372036854775808 : Int) ≤ x.2.2.2.2.2 ∧
     x.2.2.2.2.2 ≤ (9223372036854775807 : Int)) ∧ ((-9223372036854775808 : Int) ≤ x_4 ∧ x_4 ≤ (9223372036854775807 : Int)) ∧ ((-9223372036854775808 : Int) ≤ x_5 ∧ x_5 ≤ (9223372036854775807 : Int)) ∧
     (-9223372036854775808 : Int) ≤ x_6 ∧ x_6 ≤ (9223372036854775807 : Int)) ∧ ((-9223372036854775808 : Int) ≤ x_7 ∧ x_7 ≤ (9223372036854775807 : Int)) ∧ ((0 : Int) ≤ x_8 ∧ x_8 ≤ (4294967295 : Int)) ∧ True
     → WN (x_1, x_2, x_3) ∧ (0 : Int) ≤ x_4 ∧ x_4 + (1 : Int) ≤ (↑(List.length x_1) : Int) → WN (x_1, x_2, x_3) ∧ (0 : Int) ≤ x_4 ∧ x_4 < (↑(List.length x_1) : Int) ∧ (!backV (x_1, x_2, x_3) x_7 x_4 x_8 x)
     = !backV (x_1, x_2, x_3) x_7 x_4 x_8 x ∧ ((x_1, x_2, x_3), x_4, x_5, x_6) = ((x_1, x_2, x_3), x_4, x_5, x_6) ∧ x_7 = x_7 ∧ x_8 = x_8 := by
  rintro a ns ls hs who s t at' home - ⟨W, w0, w1⟩
  refine ⟨W, w0, by show who < (ns.length : Int); omega, ?_⟩
  (repeat refine ⟨rfl, ?_⟩)
  rfl
theorem ok_truth_symmetric_1 : SpecOK Try.prog GL 105 ct_truth_symmetric_1.spec := Ct.okH _ Try.func105 (by kernel_rfl) (withSpec_ok noSpecs_ok ok_truth_span_back) hmix an_truth_symmetric_1 (hideMp (by kernel_rfl) vc_truth_symmetric_1)

def ct_IndexBack : Ct := ⟨[.val (.sl cU32), .fn 105 3, .box 110 cSpan, .box 3 cI, .box 24 cU32], [.val cI], fun d => [WN d.2.2.1.1, 0 ≤ d.2.2.1.2.1, d.2.2.1.2.1 < d.2.2.1.1.1.length], fun d => ((idxI (fun a => !backV d.2.2.1.1 d.2.2.2.1 d.2.2.1.2.1 d.2.2.2.2.1 a) d.1, ()), (d.2.2.1, d.2.2.2.1, d.2.2.2.2.1, ()))⟩
def an_IndexBack : PDs ct_IndexBack.ps → Anns := (fun d => { loops := (fun n => match n with | 2 => some (fun S => { ι := Int, μ := fun i => (d.1.length - i).toNat, inv := fun i => 0 ≤ i ∧ i ≤ d.1.length ∧ ∀ a ∈ d.1.take i.toNat, (!backV d.2.2.1.1 d.2.2.2.1 d.2.2.1.2.1 d.2.2.2.2.1 a) = false, keep := [0, 1, 6, 7], slots := fun i => [(8, .int .i64 i)], keepN := [1048576, 1048577, 1048578], names := fun i => [] }) | _ => none) })
theorem vc_IndexBack :
    ∀ (x : List Int) (x_1 : List (List (Int × Int) × Int × Int × Bool × List ((Int × Int) × List Int × Int) × Int × Int × Int × Int × Int × (Int × Int) × Bool × Bool × Int × Int)) (x_2 : List (Int × Int ×
     Int × Int × Int × Int)) (x_3 : List (Int × Int × Bool × (Int × Int) × List Int × Int)) (x_4 x_5 x_6 x_7 x_8 : Int), (List.length x ≤ maxLen ∧ ∀ (x_9 : Int), x_9 ∈ x → (0 : Int) ≤ x_9 ∧ x_9 ≤
     (4294967295 : Int)) ∧ True ∧ (((List.length x_1 ≤ maxLen ∧ ∀ (x : List (Int × Int) × Int × Int × Bool × List ((Int × Int) × List Int × Int) × Int × Int × Int × Int × Int × (Int × Int) × Bool × Bool ×
     Int × Int), x ∈ x_1 → (List.length x.1 ≤ maxLen ∧ ∀ (x_9 : Int × Int), x_9 ∈ x.1 → ((0 : Int) ≤ x_9.1 ∧ x_9.1 ≤ (4294967295 : Int)) ∧ (-9223372036854775808 : Int) ≤ x_9.2 ∧ x_9.2 ≤
     (9223372036854775807 : Int)) ∧ ((0 : Int) ≤ x.2.1 ∧ x.2.1 ≤ (4294967295 : Int)) ∧ ((-9223372036854775808 : Int) ≤ x.2.2.1 ∧ x.2.2.1 ≤ (9223372036854775807 : Int)) ∧ True ∧ (List.length x.2.2.2.2.1 ≤
     maxLen ∧ ∀ (x_9 : (Int × Int) × List Int × Int), x_9 ∈ x.2.2.2.2.1 → (((0 : Int) ≤ x_9.1.1 ∧ x_9.1.1 ≤ (4294967295 : Int)) ∧ (-9223372036854775808 : Int) ≤ x_9.1.2 ∧ x_9.1.2 ≤ (9223372036854775807 :
     Int)) ∧ (List.length x_9.2.1 ≤ maxLen ∧ ∀ (x : Int), x ∈ x_9.2.1 → (-9223372036854775808 : Int) ≤ x ∧ x ≤ (9223372036854775807 : Int)) ∧ (-9223372036854775808 : Int) ≤ x_9.2.2 ∧ x_9.2.2 ≤
     (9223372036854775807 : Int)) ∧ ((-9223372036854775808 : Int) ≤ x.2.2.2.2.2.1 ∧ x.2.2.2.2.2.1 ≤ (9223372036854775807 : Int)) ∧ ((0 : Int) ≤ x.2.2.2.2.2.2.1 ∧ x.2.2.2.2.2.2.1 ≤ (4294967295 : Int)) ∧
     ((-9223372036854775808 : Int) ≤ x.2.2.2.2.2.2.2.1 ∧ x.2.2.2.2.2.2.2.1 ≤ (9223372036854775807 : Int)) ∧ ((-9223372036854775808 : Int) ≤ x.2.2.2.2.2.2.2.2.1 ∧ x.2.2.2.2.2.2.2.2.1 ≤ (9223372036854775807
     : Int)) ∧ ((-9223372036854775808 : Int) ≤ x.2.2.2.2.2.2.2.2.2.1 ∧ x.2.2.2.2.2.2.2.2.2.1 ≤ (9223372036854775807 : Int)) ∧ (((-9223372036854775808 : Int) ≤ x.2.2.2.2.2.2.2.2.2.2.1.1 ∧
     x.2.2.2.2.2.2.2.2.2.2.1.1 ≤ (9223372036854775807 : Int)) ∧ (-9223372036854775808 : Int) ≤ x.2.2.2.2.2.2.2.2.2.2.1.2 ∧ x.2.2.2.2.2.2.2.2.2.2.1.2 ≤ (9223372036854775807 : Int)) ∧ True ∧ True ∧
     ((-9223372036854775808 : Int) ≤ x.2.2.2.2.2.2.2.2.2.2.2.2.2.1 ∧ x.2.2.2.2.2.2.2.2.2.2.2.2.2.1 ≤ (9223372036854775807 : Int)) ∧ (-9223372036854775808 : Int) ≤ x.2.2.2.2.2.2.2.2.2.2.2.2.2.2 ∧
     x.2.2.2.2.2.2.2.2.2.2.2.2.2.2 ≤ (9223372036854775807 : Int)) ∧ (List.length x_2 ≤ maxLen ∧ ∀ (x : Int × Int × Int × Int × Int × Int), x ∈ x_2 → ((-9223372036854775808 : Int) ≤ x.1 ∧ x.1 ≤
     (9223372036854775807 : Int)) ∧ ((-9223372036854775808 : Int) ≤ x.2.1 ∧ x.2.1 ≤ (9223372036854775807 : Int)) ∧ ((-9223372036854775808 : Int) ≤ x.2.2.1 ∧ x.2.2.1 ≤ (9223372036854775807 : Int)) ∧
     ((-9223372036854775808 : Int) ≤ x.2.2.2.1 ∧ x.2.2.2.1 ≤ (9223372036854775807 : Int)) ∧ ((-9223372036854775808 : Int) ≤ x.2.2.2.2.1 ∧ x.2.2.2.2.1 ≤ (9223372036854775807 : Int)) ∧ (-9223372036854775808
     : Int) ≤ x.2.2.2.2.2 ∧ x.2.2.2.2.2 ≤ (9223372036854775807 : Int)) ∧ List.length x_3 ≤ maxLen ∧ ∀ (x : Int × Int × Bool × (Int × Int) × List Int × Int), x ∈ x_3 → ((-9223372036854775808 : Int) ≤ x.1 ∧
     x.1 ≤ (9223372036854775807 : Int)) ∧ ((-9223372036854775808 : Int) ≤ x.2.1 ∧ x.2.1 ≤ (9223372036854775807 : Int)) ∧ True ∧ (((0 : Int) ≤ x.2.2.2.1.1 ∧ x.2.2.2.1.1 ≤ (4294967295 : Int)) ∧
     (-9223372036854775808 : Int) ≤ x.2.2.2.1.2 ∧ x.2.2.2.1.2 ≤ (9223372036854775807 : Int)) ∧ (List.length x.2.2.2.2.1 ≤ maxLen ∧ ∀ (x_9 : Int), x_9 ∈ x.2.2.2.2.1 → (-9223372036854775808 : Int) ≤ x_9 ∧
     x_9 ≤ (9223372036854775807 : Int)) ∧ (-9223372036854775808 : Int) ≤ x.2.2.2.2.2 ∧ x.2.2.2.2.2 ≤ (9223372036854775807 : Int)) ∧ ((-9223372036854775808 : Int) ≤ x_4 ∧ x_4 ≤ (9223372036854775807 : Int))
     ∧ ((-9223372036854775808 : Int) ≤ x_5 ∧ x_5 ≤ (9223372036854775807 : Int)) ∧ (-9223372036854775808 : Int) ≤ x_6 ∧ x_6 ≤ (9223372036854775807 : Int)) ∧ ((-9223372036854775808 : Int) ≤ x_7 ∧ x_7 ≤
     (9223372036854775807 : Int)) ∧ ((0 : Int) ≤ x_8 ∧ x_8 ≤ (4294967295 : Int)) ∧ True → WN (x_1, x_2, x_3) ∧ (0 : Int) ≤ x_4 ∧ x_4 + (1 : Int) ≤ (↑(List.length x_1) : Int) → (∃ (x_9 : Int), ((0 : Int) ≤
     x_9 ∧ x_9 ≤ (↑(List.length x) : Int) ∧ ∀ (a : Int), a ∈ List.take (Int.toNat x_9) x → (!backV (x_1, x_2, x_3) x_7 x_4 x_8 a) = false) ∧ x = x ∧ x = x ∧ (↑(List.length x) : Int) = (↑(List.length x) :
     Int) ∧ (0 : Int) = x_9 ∧ x_1 = x_1 ∧ x_2 = x_2 ∧ x_3 = x_3 ∧ x_4 = x_4 ∧ x_5 = x_5 ∧ x_6 = x_6 ∧ x_7 = x_7 ∧ x_8 = x_8 ∧ True) ∧ ∀ (x_9 : Int), ((0 : Int) ≤ x_9 ∧ x_9 ≤ (↑(List.length x) : Int) ∧ ∀ (a
     : Int), a ∈ List.take (Int.toNat x_9) x → (!backV (x_1, x_2, x_3) x_7 x_4 x_8 a) = false) → ifP (decide (x_9 < (↑(List.length x) : Int))) ((0 : Int) ≤ x_9 ∧ x_9 < (↑(List.length x) : Int) ∧ WN (x_1,
     x_2, x_3) ∧ (0 : Int) ≤ x_4 ∧ x_4 < (↑(List.length x_1) : Int) ∧ ifP (!backV (x_1, x_2, x_3) x_7 x_4 x_8 (List.getD x (Int.toNat x_9) default)) (x_9 = idxI (fun (a : Int) => !backV (x_1, x_2, x_3) x_7
     x_4 x_8 a) x ∧ ((x_1, x_2, x_3), x_4, x_5, x_6) = ((x_1, x_2, x_3), x_4, x_5, x_6) ∧ x_7 = x_7 ∧ x_8 = x_8) (∃ (x_10 : Int), ((0 : Int) ≤ x_10 ∧ x_10 ≤ (↑(List.length x) : Int) ∧ ∀ (a : Int), a ∈
     List.take (Int.toNat x_10) x → (!backV (x_1, x_2, x_3) x_7 x_4 x_8 a) = false) ∧ Int.toNat ((↑(List.length x) : Int) - x_10) < Int.toNat ((↑(List.length x) : Int) - x_9) ∧ x = x ∧ x = x ∧
     (↑(List.length x) : Int) = (↑(List.length x) : Int) ∧ IntKind.wrap IntKind.i64 (x_9 + (1 : Int)) = x_10 ∧ x_1 = x_1 ∧ x_2 = x_2 ∧ x_3 = x_3 ∧ x_4 = x_4 ∧ x_5 = x_5 ∧ x_6 = x_6 ∧ x_7 = x_7 ∧ x_8 = x_8
     ∧ True)) ((-1 : Int) = idxI (fun (a : Int) => !backV (x_1, x_2, x_3) x_7 x_4 x_8 a) x ∧ ((x_1, x_2, x_3), x_4, x_5, x_6) = ((x_1, x_2, x_3), x_4, x_5, x_6) ∧ x_7 = x_7 ∧ x_8 = x_8) := by
  rintro l ns ls hs who s t at' home ⟨⟨hl, -⟩, -⟩ ⟨W, w0, w1⟩
  simp only [maxLen] at hl
  have w1 : who < (ns.length : Int) := by omega
  refine ⟨⟨0, ⟨by omega, by omega, by simp⟩, (by repeat' first | exact trivial | refine ⟨trivial, ?_⟩ | refine ⟨(by with_reducible rfl), ?_⟩ | refine ⟨w64 (by omega) (by omega), ?_⟩ | refine ⟨rfl, ?_⟩)⟩, ?_⟩
  rintro j ⟨j0, j1, hj⟩
  refine ifP_split (fun hk => ?_) (fun hk => ?_)
  · have hk := of_decide_eq_true hk
    refine ⟨j0, hk, W, w0, w1, ifP_split (fun hm => ?_) (fun hm => ?_)⟩
    · refine ⟨findI_at (q := fun a => !backV (ns, ls, hs) at' who home a) j0 hk hj hm, ?_⟩
      (repeat refine ⟨rfl, ?_⟩)
      rfl
    · exact ⟨j + 1, ⟨by omega, by omega, all_next (P := fun a => (!backV (ns, ls, hs) at' who home a) = false) j0 hk hj hm⟩, by omega, (by repeat' first | exact trivial | refine ⟨trivial, ?_⟩ | refine ⟨(by with_reducible rfl), ?_⟩ | refine ⟨w64 (by omega) (by omega), ?_⟩ | refine ⟨rfl, ?_⟩)⟩
  · refine ⟨findI_none (q := fun a => !backV (ns, ls, hs) at' who home a) (of_decide_eq_false hk) hj, ?_⟩
    (repeat refine ⟨rfl, ?_⟩)
    rfl
theorem ok_IndexBack : SpecOK Try.prog GL 150 ct_IndexBack.spec := Ct.okH _ Try.func150 (by kernel_rfl) (withSpec_ok noSpecs_ok ok_truth_symmetric_1) hmix an_IndexBack (hideMp (by kernel_rfl) vc_IndexBack)

def ct_ContainsBack : Ct := ⟨[.val (.sl cU32), .fn 105 3, .box 110 cSpan, .box 3 cI, .box 24 cU32], [.val .bool], fun d => [WN d.2.2.1.1, 0 ≤ d.2.2.1.2.1, d.2.2.1.2.1 < d.2.2.1.1.1.length], fun d => ((d.1.any (fun a => !backV d.2.2.1.1 d.2.2.2.1 d.2.2.1.2.1 d.2.2.2.2.1 a), ()), (d.2.2.1, d.2.2.2.1, d.2.2.2.2.1, ()))⟩
def an_ContainsBack : PDs ct_ContainsBack.ps → Anns := (fun _ => {})
theorem vc_ContainsBack :
    ∀ (x : List Int) (x_1 : List (List (Int × Int) × Int × Int × Bool × List ((Int × Int) × List Int × Int) × Int × Int × Int × Int × Int × (Int × Int) × Bool × Bool × Int × Int)) (x_2 : List (Int × Int ×
     Int × Int × Int × Int)) (x_3 : List (Int × Int × Bool × (Int × Int) × List Int × Int)) (x_4 x_5 x_6 x_7 x_8 : Int), (List.length x ≤ maxLen ∧ ∀ (x_9 : Int), x_9 ∈ x → (0 : Int) ≤ x_9 ∧ x_9 ≤
     (4294967295 : Int)) ∧ True ∧ (((List.length x_1 ≤ maxLen ∧ ∀ (x : List (Int × Int) × Int × Int × Bool × List ((Int × Int) × List Int × Int) × Int × Int × Int × Int × Int × (Int × Int) × Bool × Bool ×
     Int × Int), x ∈ x_1 → (List.length x.1 ≤ maxLen ∧ ∀ (x_9 : Int × Int), x_9 ∈ x.1 → ((0 : Int) ≤ x_9.1 ∧ x_9.1 ≤ (4294967295 : Int)) ∧ (-9223372036854775808 : Int) ≤ x_9.2 ∧ x_9.2 ≤
     (9223372036854775807 : Int)) ∧ ((0 : Int) ≤ x.2.1 ∧ x.2.1 ≤ (4294967295 : Int)) ∧ ((-9223372036854775808 : Int) ≤ x.2.2.1 ∧ x.2.2.1 ≤ (9223372036854775807 : Int)) ∧ True ∧ (List.length x.2.2.2.2.1 ≤
     maxLen ∧ ∀ (x_9 : (Int × Int) × List Int × Int), x_9 ∈ x.2.2.2.2.1 → (((0 : Int) ≤ x_9.1.1 ∧ x_9.1.1 ≤ (4294967295 : Int)) ∧ (-9223372036854775808 : Int) ≤ x_9.1.2 ∧ x_9.1.2 ≤ (9223372036854775807 :
     Int)) ∧ (List.length x_9.2.1 ≤ maxLen ∧ ∀ (x : Int), x ∈ x_9.2.1 → (-9223372036854775808 : Int) ≤ x ∧ x ≤ (9223372036854775807 : Int)) ∧ (-9223372036854775808 : Int) ≤ x_9.2.2 ∧ x_9.2.2 ≤
     (9223372036854775807 : Int)) ∧ ((-9223372036854775808 : Int) ≤ x.2.2.2.2.2.1 ∧ x.2.2.2.2.2.1 ≤ (9223372036854775807 : Int)) ∧ ((0 : Int) ≤ x.2.2.2.2.2.2.1 ∧ x.2.2.2.2.2.2.1 ≤ (4294967295 : Int)) ∧
     ((-9223372036854775808 : Int) ≤ x.2.2.2.2.2.2.2.1 ∧ x.2.2.2.2.2.2.2.1 ≤ (9223372036854775807 : Int)) ∧ ((-9223372036854775808 : Int) ≤ x.2.2.2.2.2.2.2.2.1 ∧ x.2.2.2.2.2.2.2.2.1 ≤ (9223372036854775807
     : Int)) ∧ ((-9223372036854775808 : Int) ≤ x.2.2.2.2.2.2.2.2.2.1 ∧ x.2.2.2.2.2.2.2.2.2.1 ≤ (9223372036854775807 : Int)) ∧ (((-9223372036854775808 : Int) ≤ x.2.2.2.2.2.2.2.2.2.2.1.1 ∧
     x.2.2.2.2.2.2.2.2.2.2.1.1 ≤ (9223372036854775807 : Int)) ∧ (-9223372036854775808 : Int) ≤ x.2.2.2.2.2.2.2.2.2.2.1.2 ∧ x.2.2.2.2.2.2.2.2.2.2.1.2 ≤ (9223372036854775807 : Int)) ∧ True ∧ True ∧
     ((-9223372036854775808 : Int) ≤ x.2.2.2.2.2.2.2.2.2.2.2.2.2.1 ∧ x.2.2.2.2.2.2.2.2.2.2.2.2.2.1 ≤ (9223372036854775807 : Int)) ∧ (-9223372036854775808 : Int) ≤ x.2.2.2.2.2.2.2.2.2.2.2.2.2.2 ∧
     x.2.2.2.2.2.2.2.2.2.2.2.2.2.2 ≤ (9223372036854775807 : Int)) ∧ (List.length x_2 ≤ maxLen ∧ ∀ (x : Int × Int × Int × Int × Int × Int), x ∈ x_2 → ((-9223372036854775808 : Int) ≤ x.1 ∧ x.1 ≤
     (9223372036854775807 : Int)) ∧ ((-9223372036854775808 : Int) ≤ x.2.1 ∧ x.2.1 ≤ (9223372036854775807 : Int)) ∧ ((-9223372036854775808 : Int) ≤ x.2.2.1 ∧ x.2.2.1 ≤ (9223372036854775807 : Int)) ∧
     ((-9223372036854775808 : Int) ≤ x.2.2.2.1 ∧ x.2.2.2.1 ≤ (9223372036854775807 : Int)) ∧ ((-9223372036854775808 : Int) ≤ x.2.2.2.2.1 ∧ x.2.2.2.2.1 ≤ (9223372036854775807 : Int)) ∧ (-9223372036854775808
     : Int) ≤ x.2.2.2.2.2 ∧ x.2.2.2.2.2 ≤ (9223372036854775807 : Int)) ∧ List.length x_3 ≤ maxLen ∧ ∀ (x : Int × Int × Bool × (Int × Int) × List Int × Int), x ∈ x_3 → ((-9223372036854775808 : Int) ≤ x.1 ∧
     x.1 ≤ (9223372036854775807 : Int)) ∧ ((-9223372036854775808 : Int) ≤ x.2.1 ∧ x.2.1 ≤ (9223372036854775807 : Int)) ∧ True ∧ (((0 : Int) ≤ x.2.2.2.1.1 ∧ x.2.2.2.1.1 ≤ (4294967295 : Int)) ∧
     (-9223372036854775808 : Int) ≤ x.2.2.2.1.2 ∧ x.2.2.2.1.2 ≤ (9223372036854775807 : Int)) ∧ (List.length x.2.2.2.2.1 ≤ maxLen ∧ ∀ (x_9 : Int), x_9 ∈ x.2.2.2.2.1 → (-9223372036854775808 : Int) ≤ x_9 ∧
     x_9 ≤ (9223372036854775807 : Int)) ∧ (-9223372036854775808 : Int) ≤ x.2.2.2.2.2 ∧ x.2.2.2.2.2 ≤ (9223372036854775807 : Int)) ∧ ((-9223372036854775808 : Int) ≤ x_4 ∧ x_4 ≤ (9223372036854775807 : Int))
     ∧ ((-9223372036854775808 : Int) ≤ x_5 ∧ x_5 ≤ (9223372036854775807 : Int)) ∧ (-9223372036854775808 : Int) ≤ x_6 ∧ x_6 ≤ (9223372036854775807 : Int)) ∧ ((-9223372036854775808 : Int) ≤ x_7 ∧ x_7 ≤
     (9223372036854775807 : Int)) ∧ ((0 : Int) ≤ x_8 ∧ x_8 ≤ (4294967295 : Int)) ∧ True → WN (x_1, x_2, x_3) ∧ (0 : Int) ≤ x_4 ∧ x_4 + (1 : Int) ≤ (↑(List.length x_1) : Int) → WN (x_1, x_2, x_3) ∧ (0 :
     Int) ≤ x_4 ∧ x_4 < (↑(List.length x_1) : Int) ∧ (decide ((0 : Int) ≤ idxI (fun (a : Int) => !backV (x_1, x_2, x_3) x_7 x_4 x_8 a) x) = List.any x fun (a : Int) => !backV (x_1, x_2, x_3) x_7 x_4 x_8 a) ∧
     ((x_1, x_2, x_3), x_4, x_5, x_6) = ((x_1, x_2, x_3), x_4, x_5, x_6) ∧ x_7 = x_7 ∧ x_8 = x_8 := by
  rintro l ns ls hs who s t at' home - ⟨W, w0, w1⟩
  refine ⟨W, w0, by show who < (ns.length : Int); omega, idxI_any, ?_⟩
  (repeat refine ⟨rfl, ?_⟩)
  rfl
theorem ok_ContainsBack : SpecOK Try.prog GL 104 ct_ContainsBack.spec := Ct.okH _ Try.func104 (by kernel_rfl) (withSpec_ok noSpecs_ok ok_IndexBack) hmix an_ContainsBack (hideMp (by kernel_rfl) vc_ContainsBack)
def homeA (n : Net) (who : Int) : Int := ((nPorts (n.1.getD who.toNat default)).getD 0 default).1
def symU (n : Net) (at' who : Int) (u : Nat) : Bool := decide ((u : Int) = who) || (adrs (n.1.getD u default)).all (backV n at' who (homeA n who))
def symAt (n : Net) (who at' : Int) : Bool := (List.range n.1.length).all (symU n at' who)
def symV (n : Net) (who s t : Int) : Bool := decide (0 ≤ who ∧ who < n.1.length ∧ 0 < (nPorts (n.1.getD who.toNat default)).length) && (timesV n.2.2 s t).all (symAt n who)
def ct_truth_symmetric : Ct := ⟨[.agg cSpan], [.val .bool], fun d => [WN d.1.1, ∀ x ∈ d.1.1.1, (nPorts x).length ≤ 100000], fun d => ((symV d.1.1 d.1.2.1 d.1.2.2.1 d.1.2.2.2, ()), ())⟩
def an_truth_symmetric : PDs ct_truth_symmetric.ps → Anns := (fun d => { loops := (fun n => match n with | 5 => some (fun S => { ι := Int, μ := fun i => ((timesV d.1.1.2.2 d.1.2.2.1 d.1.2.2.2).length - i).toNat, inv := fun i => 0 ≤ i ∧ i ≤ (timesV d.1.1.2.2 d.1.2.2.1 d.1.2.2.2).length ∧ ∀ x ∈ (timesV d.1.1.2.2 d.1.2.2.1 d.1.2.2.2).take i.toNat, symAt d.1.1 d.1.2.1 x = true, keep := [1, 3, 47, 48], slots := fun i => [(49, .int .i64 i)], keepN := [32, 768], names := fun i => [(64, .live (.cells 24 [.int .u32 (homeA d.1.1 d.1.2.1)]))] }) | 8 => some (fun S => { ι := Int × Int, qn := ⟨fun k_ => ∀ (u : Int) (a : Int), k_ (u, a), fun k_ h_ i => h_ i.1 i.2, fun k_ => ∃ (u : Int) (a : Int), k_ (u, a), fun k_ ⟨u, a, h_⟩ => ⟨_, h_⟩⟩, μ := fun i => (d.1.1.1.length - i.1).toNat, inv := fun i => i.2 = (timesV d.1.1.2.2 d.1.2.2.1 d.1.2.2.2).getD (S.i 49).toNat default ∧ 0 ≤ i.1 ∧ i.1 ≤ d.1.1.1.length ∧ ∀ k : Nat, (k : Int) < i.1 → symU d.1.1 i.2 d.1.2.1 k = true, keep := [1, 3, 5, 47, 48, 49, 55, 56], slots := fun i => [(57, .int .i64 i.1)], keepN := [32, 64, 768], names := fun i => [(96, .live (.cells 3 [.int .i64 i.2]))] }) | 13 => some (fun S => { ι := Int × (List Int), qn := ⟨fun k_ => ∀ (q : Int) (l : (List Int)), k_ (q, l), fun k_ h_ i => h_ i.1 i.2, fun k_ => ∃ (q : Int) (l : (List Int)), k_ (q, l), fun k_ ⟨q, l, h_⟩ => ⟨_, h_⟩⟩, μ := fun i => ((nPorts (d.1.1.1.getD (S.i 57).toNat default)).length - i.1).toNat, inv := fun i => 0 ≤ i.1 ∧ i.1 ≤ (nPorts (d.1.1.1.getD (S.i 57).toNat default)).length ∧ i.2 = (pAddrs (d.1.1.1.getD (S.i 57).toNat default)).take i.1.toNat, keep := [1, 3, 5, 7, 47, 48, 49, 55, 56, 57, 67, 68], slots := fun i => [(8, .own 524288 1), (69, .int .i64 i.1)], keepN := [32, 64, 96, 128, 768], names := fun i => [(524288, .live (.row 24 cU32 i.2))] }) | _ => none) })
theorem vc_truth_symmetric :
    ∀ (x : List (List (Int × Int) × Int × Int × Bool × List ((Int × Int) × List Int × Int) × Int × Int × Int × Int × Int × (Int × Int) × Bool × Bool × Int × Int)) (x_1 : List (Int × Int × Int × Int × Int
     × Int)) (x_2 : List (Int × Int × Bool × (Int × Int) × List Int × Int)) (x_3 x_4 x_5 : Int), (((List.length x ≤ maxLen ∧ ∀ (x_6 : List (Int × Int) × Int × Int × Bool × List ((Int × Int) × List Int ×
     Int) × Int × Int × Int × Int × Int × (Int × Int) × Bool × Bool × Int × Int), x_6 ∈ x → (List.length x_6.1 ≤ maxLen ∧ ∀ (x : Int × Int), x ∈ x_6.1 → ((0 : Int) ≤ x.1 ∧ x.1 ≤ (4294967295 : Int)) ∧
     (-9223372036854775808 : Int) ≤ x.2 ∧ x.2 ≤ (9223372036854775807 : Int)) ∧ ((0 : Int) ≤ x_6.2.1 ∧ x_6.2.1 ≤ (4294967295 : Int)) ∧ ((-9223372036854775808 : Int) ≤ x_6.2.2.1 ∧ x_6.2.2.1 ≤
     (9223372036854775807 : Int)) ∧ True ∧ (List.length x_6.2.2.2.2.1 ≤ maxLen ∧ ∀ (x : (Int × Int) × List Int × Int), x ∈ x_6.2.2.2.2.1 → (((0 : Int) ≤ x.1.1 ∧ x.1.1 ≤ (4294967295 : Int)) ∧
     (-9223372036854775808 : Int) ≤ x.1.2 ∧ x.1.2 ≤ (9223372036854775807 : Int)) ∧ (List.length x.2.1 ≤ maxLen ∧ ∀ (x_7 : Int), x_7 ∈ x.2.1 → (-9223372036854775808 : Int) ≤ x_7 ∧ x_7 ≤ (9223372036854775807
     : Int)) ∧ (-9223372036854775808 : Int) ≤ x.2.2 ∧ x.2.2 ≤ (9223372036854775807 : Int)) ∧ ((-9223372036854775808 : Int) ≤ x_6.2.2.2.2.2.1 ∧ x_6.2.2.2.2.2.1 ≤ (9223372036854775807 : Int)) ∧ ((0 : Int) ≤
     x_6.2.2.2.2.2.2.1 ∧ x_6.2.2.2.2.2.2.1 ≤ (4294967295 : Int)) ∧ ((-9223372036854775808 : Int) ≤ x_6.2.2.2.2.2.2.2.1 ∧ x_6.2.2.2.2.2.2.2.1 ≤ (9223372036854775807 : Int)) ∧ ((-9223372036854775808 : Int) ≤
     x_6.2.2.2.2.2.2.2.2.1 ∧ x_6.2.2.2.2.2.2.2.2.1 ≤ (9223372036854775807 : Int)) ∧ ((-9223372036854775808 : Int) ≤ x_6.2.2.2.2.2.2.2.2.2.1 ∧ x_6.2.2.2.2.2.2.2.2.2.1 ≤ (9223372036854775807 : Int)) ∧
     (((-9223372036854775808 : Int) ≤ x_6.2.2.2.2.2.2.2.2.2.2.1.1 ∧ x_6.2.2.2.2.2.2.2.2.2.2.1.1 ≤ (9223372036854775807 : Int)) ∧ (-9223372036854775808 : Int) ≤ x_6.2.2.2.2.2.2.2.2.2.2.1.2 ∧
     x_6.2.2.2.2.2.2.2.2.2.2.1.2 ≤ (9223372036854775807 : Int)) ∧ True ∧ True ∧ ((-9223372036854775808 : Int) ≤ x_6.2.2.2.2.2.2.2.2.2.2.2.2.2.1 ∧ x_6.2.2.2.2.2.2.2.2.2.2.2.2.2.1 ≤ (9223372036854775807 :
     Int)) ∧ (-9223372036854775808 : Int) ≤ x_6.2.2.2.2.2.2.2.2.2.2.2.2.2.2 ∧ x_6.2.2.2.2.2.2.2.2.2.2.2.2.2.2 ≤ (9223372036854775807 : Int)) ∧ (List.length x_1 ≤ maxLen ∧ ∀ (x : Int × Int × Int × Int × Int
     × Int), x ∈ x_1 → ((-9223372036854775808 : Int) ≤ x.1 ∧ x.1 ≤ (9223372036854775807 : Int)) ∧ ((-9223372036854775808 : Int) ≤ x.2.1 ∧ x.2.1 ≤ (9223372036854775807 : Int)) ∧ ((-9223372036854775808 :
     Int) ≤ x.2.2.1 ∧ x.2.2.1 ≤ (9223372036854775807 : Int)) ∧ ((-9223372036854775808 : Int) ≤ x.2.2.2.1 ∧ x.2.2.2.1 ≤ (9223372036854775807 : Int)) ∧ ((-9223372036854775808 : Int) ≤ x.2.2.2.2.1 ∧
     x.2.2.2.2.1 ≤ (9223372036854775807 : Int)) ∧ (-9223372036854775808 : Int) ≤ x.2.2.2.2.2 ∧ x.2.2.2.2.2 ≤ (9223372036854775807 : Int)) ∧ List.length x_2 ≤ maxLen ∧ ∀ (x : Int × Int × Bool × (Int × Int)
     × List Int × Int), x ∈ x_2 → ((-9223372036854775808 : Int) ≤ x.1 ∧ x.1 ≤ (9223372036854775807 : Int)) ∧ ((-9223372036854775808 : Int) ≤ x.2.1 ∧ x.2.1 ≤ (9223372036854775807 : Int)) ∧ True ∧ (((0 :
     Int) ≤ x.2.2.2.1.1 ∧ x.2.2.2.1.1 ≤ (4294967295 : Int)) ∧ (-9223372036854775808 : Int) ≤ x.2.2.2.1.2 ∧ x.2.2.2.1.2 ≤ (9223372036854775807 : Int)) ∧ (List.length x.2.2.2.2.1 ≤ maxLen ∧ ∀ (x_6 : Int),
     x_6 ∈ x.2.2.2.2.1 → (-9223372036854775808 : Int) ≤ x_6 ∧ x_6 ≤ (9223372036854775807 : Int)) ∧ (-9223372036854775808 : Int) ≤ x.2.2.2.2.2 ∧ x.2.2.2.2.2 ≤ (9223372036854775807 : Int)) ∧
     ((-9223372036854775808 : Int) ≤ x_3 ∧ x_3 ≤ (9223372036854775807 : Int)) ∧ ((-9223372036854775808 : Int) ≤ x_4 ∧ x_4 ≤ (9223372036854775807 : Int)) ∧ (-9223372036854775808 : Int) ≤ x_5 ∧ x_5 ≤
     (9223372036854775807 : Int)) ∧ True → (WN (x, x_1, x_2) ∧ ∀ (x_6 : List (Int × Int) × Int × Int × Bool × List ((Int × Int) × List Int × Int) × Int × Int × Int × Int × Int × (Int × Int) × Bool × Bool ×
     Int × Int), x_6 ∈ x → List.length (nPorts x_6) ≤ (100000 : Nat)) → ∀ (b : Bool), b = decide (x_3 < (0 : Int)) → ((!b) = true → ((!b) = true → (!b) = true) ∧ True) ∧ ((!b) = true → ((!b) = true → (!b)
     = true) ∧ True) ∧ ((!b) = true → ((!b) = true → (!b) = true) ∧ True) ∧ ((!b) = true → ((!b) = true → (!b) = true) ∧ True) ∧ ((!b) = true → ((!b) = true → (!b) = true) ∧ ((!b) = true → (!b) = true) ∧
     True) ∧ (b = false → (!b) = true) ∧ ∀ (b_1 : Bool), (b_1 = bif b then true else decide ((↑(List.length x) : Int) ≤ x_3)) → ((!b_1) = true → ((!b_1) = true → (!b_1) = true) ∧ True) ∧ ((!b_1) = true →
     ((!b_1) = true → (!b_1) = true) ∧ True) ∧ ((!b_1) = true → ((!b_1) = true → (!b_1) = true) ∧ True) ∧ ((!b_1) = true → ((!b_1) = true → (!b_1) = true) ∧ ((!b_1) = true → (!b_1) = true) ∧ (0 : Int) ≤
     x_3 ∧ x_3 < (↑(List.length x) : Int) ∧ True) ∧ ((!b_1) = true → ((!b_1) = true → (!b_1) = true) ∧ True) ∧ ((!b_1) = true → ((!b_1) = true → (!b_1) = true) ∧ True) ∧ ((!b_1) = true → ((!b_1) = true →
     (!b_1) = true) ∧ True) ∧ ((!b_1) = true → ((!b_1) = true → (!b_1) = true) ∧ True) ∧ (b_1 = false → (!b_1) = true) ∧ ifP (bif b_1 then true else decide ((↑(List.length (List.getD x (Int.toNat x_3)
     default).1) : Int) = (0 : Int))) (false = symV (x, x_1, x_2) x_3 x_4 x_5) ((0 : Int) ≤ x_3 ∧ x_3 < (↑(List.length x) : Int) ∧ (0 : Int) ≤ (0 : Int) ∧ (0 : Int) < (↑(List.length (List.getD x (Int.toNat
     x_3) default).1) : Int) ∧ List.length x_2 ≤ (1000 : Nat) ∧ (∃ (x_6 : Int), ((0 : Int) ≤ x_6 ∧ x_6 ≤ (↑(List.length (timesV x_2 x_4 x_5)) : Int) ∧ ∀ (x_7 : Int), x_7 ∈ List.take (Int.toNat x_6) (timesV
     x_2 x_4 x_5) → symAt (x, x_1, x_2) x_3 x_7 = true) ∧ (↑(List.length (timesV x_2 x_4 x_5)) : Int) = (↑(List.length (timesV x_2 x_4 x_5)) : Int) ∧ (0 : Int) = x_6 ∧ x = x ∧ x_1 = x_1 ∧ x_2 = x_2 ∧ x_3 =
     x_3 ∧ x_4 = x_4 ∧ x_5 = x_5 ∧ timesV x_2 x_4 x_5 = timesV x_2 x_4 x_5 ∧ (List.getD (List.getD x (Int.toNat x_3) default).1 (Int.toNat (0 : Int)) default).1 = homeA (x, x_1, x_2) x_3 ∧ True) ∧ ∀ (x_6 :
     Int), ((0 : Int) ≤ x_6 ∧ x_6 ≤ (↑(List.length (timesV x_2 x_4 x_5)) : Int) ∧ ∀ (x_7 : Int), x_7 ∈ List.take (Int.toNat x_6) (timesV x_2 x_4 x_5) → symAt (x, x_1, x_2) x_3 x_7 = true) → ifP (decide
     (x_6 < (↑(List.length (timesV x_2 x_4 x_5)) : Int))) ((0 : Int) ≤ x_6 ∧ x_6 < (↑(List.length (timesV x_2 x_4 x_5)) : Int) ∧ (∃ (u : Int), ∃ (a : Int), (a = List.getD (timesV x_2 x_4 x_5) (Int.toNat
     x_6) default ∧ (0 : Int) ≤ u ∧ u ≤ (↑(List.length x) : Int) ∧ ∀ (k : Nat), (↑k : Int) < u → symU (x, x_1, x_2) a x_3 k = true) ∧ (↑(List.length (timesV x_2 x_4 x_5)) : Int) = (↑(List.length (timesV
     x_2 x_4 x_5)) : Int) ∧ x_6 = x_6 ∧ x = x ∧ (↑(List.length x) : Int) = (↑(List.length x) : Int) ∧ (0 : Int) = u ∧ x = x ∧ x_1 = x_1 ∧ x_2 = x_2 ∧ x_3 = x_3 ∧ x_4 = x_4 ∧ x_5 = x_5 ∧ homeA (x, x_1, x_2)
     x_3 = homeA (x, x_1, x_2) x_3 ∧ timesV x_2 x_4 x_5 = timesV x_2 x_4 x_5 ∧ List.getD (timesV x_2 x_4 x_5) (Int.toNat x_6) default = a ∧ True) ∧ ∀ (u a : Int), (a = List.getD (timesV x_2 x_4 x_5)
     (Int.toNat x_6) default ∧ (0 : Int) ≤ u ∧ u ≤ (↑(List.length x) : Int) ∧ ∀ (k : Nat), (↑k : Int) < u → symU (x, x_1, x_2) a x_3 k = true) → ifP (decide (u < (↑(List.length x) : Int))) ((0 : Int) ≤ u ∧
     u < (↑(List.length x) : Int) ∧ ifP (decide (u = x_3)) (∃ (u_1 : Int), ∃ (a_2 : Int), (a_2 = List.getD (timesV x_2 x_4 x_5) (Int.toNat x_6) default ∧ (0 : Int) ≤ u_1 ∧ u_1 ≤ (↑(List.length x) : Int) ∧
     ∀ (k : Nat), (↑k : Int) < u_1 → symU (x, x_1, x_2) a_2 x_3 k = true) ∧ Int.toNat ((↑(List.length x) : Int) - u_1) < Int.toNat ((↑(List.length x) : Int) - u) ∧ (↑(List.length (timesV x_2 x_4 x_5)) :
     Int) = (↑(List.length (timesV x_2 x_4 x_5)) : Int) ∧ x_6 = x_6 ∧ x = x ∧ (↑(List.length x) : Int) = (↑(List.length x) : Int) ∧ IntKind.wrap IntKind.i64 (u + (1 : Int)) = u_1 ∧ x = x ∧ x_1 = x_1 ∧ x_2
     = x_2 ∧ x_3 = x_3 ∧ x_4 = x_4 ∧ x_5 = x_5 ∧ homeA (x, x_1, x_2) x_3 = homeA (x, x_1, x_2) x_3 ∧ timesV x_2 x_4 x_5 = timesV x_2 x_4 x_5 ∧ a = a_2 ∧ True) ((∃ (q : Int), ∃ (l : List Int), ((0 : Int) ≤
     q ∧ q ≤ (↑(List.length (nPorts (List.getD x (Int.toNat u) default))) : Int) ∧ l = List.take (Int.toNat q) (pAddrs (List.getD x (Int.toNat u) default))) ∧ (↑(List.length (timesV x_2 x_4 x_5)) : Int) =
     (↑(List.length (timesV x_2 x_4 x_5)) : Int) ∧ x_6 = x_6 ∧ x = x ∧ (↑(List.length x) : Int) = (↑(List.length x) : Int) ∧ u = u ∧ (List.getD x (Int.toNat u) default).1 = (List.getD x (Int.toNat u)
     default).1 ∧ (↑(List.length (List.getD x (Int.toNat u) default).1) : Int) = (↑(List.length (List.getD x (Int.toNat u) default).1) : Int) ∧ (0 : Int) = q ∧ x = x ∧ x_1 = x_1 ∧ x_2 = x_2 ∧ x_3 = x_3 ∧
     x_4 = x_4 ∧ x_5 = x_5 ∧ homeA (x, x_1, x_2) x_3 = homeA (x, x_1, x_2) x_3 ∧ a = a ∧ (List.getD x (Int.toNat u) default).1 = (List.getD x (Int.toNat u) default).1 ∧ (List.getD x (Int.toNat u)
     default).2.1 = (List.getD x (Int.toNat u) default).2.1 ∧ (List.getD x (Int.toNat u) default).2.2.1 = (List.getD x (Int.toNat u) default).2.2.1 ∧ (List.getD x (Int.toNat u) default).2.2.2.1 =
     (List.getD x (Int.toNat u) default).2.2.2.1 ∧ (List.getD x (Int.toNat u) default).2.2.2.2.1 = (List.getD x (Int.toNat u) default).2.2.2.2.1 ∧ (List.getD x (Int.toNat u) default).2.2.2.2.2.1 =
     (List.getD x (Int.toNat u) default).2.2.2.2.2.1 ∧ (List.getD x (Int.toNat u) default).2.2.2.2.2.2.1 = (List.getD x (Int.toNat u) default).2.2.2.2.2.2.1 ∧ (List.getD x (Int.toNat u)
     default).2.2.2.2.2.2.2.1 = (List.getD x (Int.toNat u) default).2.2.2.2.2.2.2.1 ∧ (List.getD x (Int.toNat u) default).2.2.2.2.2.2.2.2.1 = (List.getD x (Int.toNat u) default).2.2.2.2.2.2.2.2.1 ∧
     (List.getD x (Int.toNat u) default).2.2.2.2.2.2.2.2.2.1 = (List.getD x (Int.toNat u) default).2.2.2.2.2.2.2.2.2.1 ∧ (List.getD x (Int.toNat u) default).2.2.2.2.2.2.2.2.2.2.1.1 = (List.getD x
     (Int.toNat u) default).2.2.2.2.2.2.2.2.2.2.1.1 ∧ (List.getD x (Int.toNat u) default).2.2.2.2.2.2.2.2.2.2.1.2 = (List.getD x (Int.toNat u) default).2.2.2.2.2.2.2.2.2.2.1.2 ∧ (List.getD x (Int.toNat u)
     default).2.2.2.2.2.2.2.2.2.2.2.1 = (List.getD x (Int.toNat u) default).2.2.2.2.2.2.2.2.2.2.2.1 ∧ (List.getD x (Int.toNat u) default).2.2.2.2.2.2.2.2.2.2.2.2.1 = (List.getD x (Int.toNat u)
     default).2.2.2.2.2.2.2.2.2.2.2.2.1 ∧ (List.getD x (Int.toNat u) default).2.2.2.2.2.2.2.2.2.2.2.2.2.1 = (List.getD x (Int.toNat u) default).2.2.2.2.2.2.2.2.2.2.2.2.2.1 ∧ (List.getD x (Int.toNat u)
     default).2.2.2.2.2.2.2.2.2.2.2.2.2.2 = (List.getD x (Int.toNat u) default).2.2.2.2.2.2.2.2.2.2.2.2.2.2 ∧ timesV x_2 x_4 x_5 = timesV x_2 x_4 x_5 ∧ l = ([] : List Int) ∧ True) ∧ ∀ (q : Int) (l : List
     Int), (0 : Int) ≤ q ∧ q ≤ (↑(List.length (nPorts (List.getD x (Int.toNat u) default))) : Int) ∧ l = List.take (Int.toNat q) (pAddrs (List.getD x (Int.toNat u) default)) → ifP (decide (q <
     (↑(List.length (List.getD x (Int.toNat u) default).1) : Int))) ((0 : Int) ≤ q ∧ q < (↑(List.length (List.getD x (Int.toNat u) default).1) : Int) ∧ (List.length l + List.length [(List.getD (List.getD x
     (Int.toNat u) default).1 (Int.toNat q) default).1]) * (4 : Nat) ≤ (140737488355328 : Nat) ∧ ∃ (q_1 : Int), ∃ (l_1 : List Int), ((0 : Int) ≤ q_1 ∧ q_1 ≤ (↑(List.length (nPorts (List.getD x (Int.toNat
     u) default))) : Int) ∧ l_1 = List.take (Int.toNat q_1) (pAddrs (List.getD x (Int.toNat u) default))) ∧ Int.toNat ((↑(List.length (nPorts (List.getD x (Int.toNat u) default))) : Int) - q_1) < Int.toNat
     ((↑(List.length (nPorts (List.getD x (Int.toNat u) default))) : Int) - q) ∧ (↑(List.length (timesV x_2 x_4 x_5)) : Int) = (↑(List.length (timesV x_2 x_4 x_5)) : Int) ∧ x_6 = x_6 ∧ x = x ∧
     (↑(List.length x) : Int) = (↑(List.length x) : Int) ∧ u = u ∧ (List.getD x (Int.toNat u) default).1 = (List.getD x (Int.toNat u) default).1 ∧ (↑(List.length (List.getD x (Int.toNat u) default).1) :
     Int) = (↑(List.length (List.getD x (Int.toNat u) default).1) : Int) ∧ IntKind.wrap IntKind.i64 (q + (1 : Int)) = q_1 ∧ x = x ∧ x_1 = x_1 ∧ x_2 = x_2 ∧ x_3 = x_3 ∧ x_4 = x_4 ∧ x_5 = x_5 ∧ homeA (x,
     x_1, x_2) x_3 = homeA (x, x_1, x_2) x_3 ∧ a = a ∧ (List.getD x (Int.toNat u) default).1 = (List.getD x (Int.toNat u) default).1 ∧ (List.getD x (Int.toNat u) default).2.1 = (List.getD x (Int.toNat u)
     default).2.1 ∧ (List.getD x (Int.toNat u) default).2.2.1 = (List.getD x (Int.toNat u) default).2.2.1 ∧ (List.getD x (Int.toNat u) default).2.2.2.1 = (List.getD x (Int.toNat u) default).2.2.2.1 ∧
     (List.getD x (Int.toNat u) default).2.2.2.2.1 = (List.getD x (Int.toNat u) default).2.2.2.2.1 ∧ (List.getD x (Int.toNat u) default).2.2.2.2.2.1 = (List.getD x (Int.toNat u) default).2.2.2.2.2.1 ∧
     (List.getD x (Int.toNat u) default).2.2.2.2.2.2.1 = (List.getD x (Int.toNat u) default).2.2.2.2.2.2.1 ∧ (List.getD x (Int.toNat u) default).2.2.2.2.2.2.2.1 = (List.getD x (Int.toNat u)
     default).2.2.2.2.2.2.2.1 ∧ (List.getD x (Int.toNat u) default).2.2.2.2.2.2.2.2.1 = (List.getD x (Int.toNat u) default).2.2.2.2.2.2.2.2.1 ∧ (List.getD x (Int.toNat u) default).2.2.2.2.2.2.2.2.2.1 =
     (List.getD x (Int.toNat u) default).2.2.2.2.2.2.2.2.2.1 ∧ (List.getD x (Int.toNat u) default).2.2.2.2.2.2.2.2.2.2.1.1 = (List.getD x (Int.toNat u) default).2.2.2.2.2.2.2.2.2.2.1.1 ∧ (List.getD x
     (Int.toNat u) default).2.2.2.2.2.2.2.2.2.2.1.2 = (List.getD x (Int.toNat u) default).2.2.2.2.2.2.2.2.2.2.1.2 ∧ (List.getD x (Int.toNat u) default).2.2.2.2.2.2.2.2.2.2.2.1 = (List.getD x (Int.toNat u)
     default).2.2.2.2.2.2.2.2.2.2.2.1 ∧ (List.getD x (Int.toNat u) default).2.2.2.2.2.2.2.2.2.2.2.2.1 = (List.getD x (Int.toNat u) default).2.2.2.2.2.2.2.2.2.2.2.2.1 ∧ (List.getD x (Int.toNat u)
     default).2.2.2.2.2.2.2.2.2.2.2.2.2.1 = (List.getD x (Int.toNat u) default).2.2.2.2.2.2.2.2.2.2.2.2.2.1 ∧ (List.getD x (Int.toNat u) default).2.2.2.2.2.2.2.2.2.2.2.2.2.2 = (List.getD x (Int.toNat u)
     default).2.2.2.2.2.2.2.2.2.2.2.2.2.2 ∧ timesV x_2 x_4 x_5 = timesV x_2 x_4 x_5 ∧ l ++ [(List.getD (List.getD x (Int.toNat u) default).1 (Int.toNat q) default).1] = l_1 ∧ True) (ifP (!decide
     ((List.getD x (Int.toNat u) default).2.1 = (0 : Int))) ((List.length l + List.length [(List.getD x (Int.toNat u) default).2.1]) * (4 : Nat) ≤ (140737488355328 : Nat) ∧ WN (x, x_1, x_2) ∧ (0 : Int) ≤
     x_3 ∧ x_3 < (↑(List.length x) : Int) ∧ ifP (List.any (l ++ [(List.getD x (Int.toNat u) default).2.1]) fun (a_3 : Int) => !backV (x, x_1, x_2) a x_3 (homeA (x, x_1, x_2) x_3) a_3) (false = symV (x, x_1,
     x_2) x_3 x_4 x_5) (∃ (u_1 : Int), ∃ (a_3 : Int), (a_3 = List.getD (timesV x_2 x_4 x_5) (Int.toNat x_6) default ∧ (0 : Int) ≤ u_1 ∧ u_1 ≤ (↑(List.length x) : Int) ∧ ∀ (k : Nat), (↑k : Int) < u_1 → symU
     (x, x_1, x_2) a_3 x_3 k = true) ∧ Int.toNat ((↑(List.length x) : Int) - u_1) < Int.toNat ((↑(List.length x) : Int) - u) ∧ (↑(List.length (timesV x_2 x_4 x_5)) : Int) = (↑(List.length (timesV x_2 x_4
     x_5)) : Int) ∧ x_6 = x_6 ∧ x = x ∧ (↑(List.length x) : Int) = (↑(List.length x) : Int) ∧ IntKind.wrap IntKind.i64 (u + (1 : Int)) = u_1 ∧ x = x ∧ x_1 = x_1 ∧ x_2 = x_2 ∧ x_3 = x_3 ∧ x_4 = x_4 ∧ x_5 =
     x_5 ∧ homeA (x, x_1, x_2) x_3 = homeA (x, x_1, x_2) x_3 ∧ timesV x_2 x_4 x_5 = timesV x_2 x_4 x_5 ∧ a = a_3 ∧ True)) (WN (x, x_1, x_2) ∧ (0 : Int) ≤ x_3 ∧ x_3 < (↑(List.length x) : Int) ∧ ifP
     (List.any l fun (a_3 : Int) => !backV (x, x_1, x_2) a x_3 (homeA (x, x_1, x_2) x_3) a_3) (false = symV (x, x_1, x_2) x_3 x_4 x_5) (∃ (u_1 : Int), ∃ (a_3 : Int), (a_3 = List.getD (timesV x_2 x_4 x_5)
     (Int.toNat x_6) default ∧ (0 : Int) ≤ u_1 ∧ u_1 ≤ (↑(List.length x) : Int) ∧ ∀ (k : Nat), (↑k : Int) < u_1 → symU (x, x_1, x_2) a_3 x_3 k = true) ∧ Int.toNat ((↑(List.length x) : Int) - u_1) <
     Int.toNat ((↑(List.length x) : Int) - u) ∧ (↑(List.length (timesV x_2 x_4 x_5)) : Int) = (↑(List.length (timesV x_2 x_4 x_5)) : Int) ∧ x_6 = x_6 ∧ x = x ∧ (↑(List.length x) : Int) = (↑(List.length x)
     : Int) ∧ IntKind.wrap IntKind.i64 (u + (1 : Int)) = u_1 ∧ x = x ∧ x_1 = x_1 ∧ x_2 = x_2 ∧ x_3 = x_3 ∧ x_4 = x_4 ∧ x_5 = x_5 ∧ homeA (x, x_1, x_2) x_3 = homeA (x, x_1, x_2) x_3 ∧ timesV x_2 x_4 x_5 =
     timesV x_2 x_4 x_5 ∧ a = a_3 ∧ True))))) (∃ (x_7 : Int), ((0 : Int) ≤ x_7 ∧ x_7 ≤ (↑(List.length (timesV x_2 x_4 x_5)) : Int) ∧ ∀ (x_8 : Int), x_8 ∈ List.take (Int.toNat x_7) (timesV x_2 x_4 x_5) →
     symAt (x, x_1, x_2) x_3 x_8 = true) ∧ Int.toNat ((↑(List.length (timesV x_2 x_4 x_5)) : Int) - x_7) < Int.toNat ((↑(List.length (timesV x_2 x_4 x_5)) : Int) - x_6) ∧ (↑(List.length (timesV x_2 x_4
     x_5)) : Int) = (↑(List.length (timesV x_2 x_4 x_5)) : Int) ∧ IntKind.wrap IntKind.i64 (x_6 + (1 : Int)) = x_7 ∧ x = x ∧ x_1 = x_1 ∧ x_2 = x_2 ∧ x_3 = x_3 ∧ x_4 = x_4 ∧ x_5 = x_5 ∧ timesV x_2 x_4 x_5 =
     timesV x_2 x_4 x_5 ∧ homeA (x, x_1, x_2) x_3 = homeA (x, x_1, x_2) x_3 ∧ True)) (true = symV (x, x_1, x_2) x_3 x_4 x_5)) := by
  rintro ns ls hs who s t ⟨⟨⟨⟨hnl, -⟩, -⟩, -⟩, -⟩ ⟨W, hp⟩
  simp only [maxLen] at hnl
  have hc := W.o.c
  have tl := (tm_len s t hs [s]).1
  simp only [List.length_singleton] at tl
  have tl2 : (timesV hs s t).length ≤ 1001 := by unfold timesV; dsimp only at hc; omega
  intro b hb
  (repeat refine ⟨fun h_ => (by first | (simp; done) | (simp [h_]; done) | (simp_all; done)), ?_⟩)
  intro b1 hb1
  rw [hb, bor_d] at hb1
  (repeat refine ⟨fun h_ => (by first | exact ⟨fun _ => h_, fun _ => h_, by rw [hb1] at h_; have := nd_t h_; omega, by rw [hb1] at h_; have := nd_t h_; omega, trivial⟩ | (simp; done) | (simp [h_]; done) | (simp_all; done)), ?_⟩)
  rw [hb1, bor_d]
  rw [show (ns.getD who.toNat default).1 = nPorts (ns.getD who.toNat default) from rfl]
  refine ifP_split (fun h => ?_) (fun h => ?_)
  · have h := of_decide_eq_true h
    unfold symV
    rw [decide_eq_false (by dsimp only; omega)]; rfl
  have h := of_decide_eq_false h
  have w0 : 0 ≤ who := by omega
  have w1 : who < (ns.length : Int) := by omega
  have eV : symV (ns, ls, hs) who s t = (timesV hs s t).all (symAt (ns, ls, hs) who) := by
    unfold symV
    rw [decide_eq_true (by dsimp only; omega)]; rfl
  rw [eV]
  have allF : ∀ {x : Int}, x ∈ timesV hs s t → symAt (ns, ls, hs) who x = false → false = (timesV hs s t).all (symAt (ns, ls, hs) who) := fun hx h => by
    symm; rw [List.all_eq_false]; exact ⟨_, hx, by rw [h]; decide⟩
  refine ⟨w0, w1, by omega, by omega, hc, ⟨0, ⟨by omega, by omega, by simp⟩, (by repeat' first | exact trivial | refine ⟨trivial, ?_⟩ | refine ⟨(by with_reducible rfl), ?_⟩ | refine ⟨w64 (by omega) (by omega), ?_⟩ | refine ⟨rfl, ?_⟩)⟩, ?_⟩
  rintro j ⟨j0, j1, hJ⟩
  refine ifP_split (fun hj => ?_) (fun hj => ?_)
  rotate_left
  · have hj := of_decide_eq_false hj
    rw [List.take_of_length_le (by omega)] at hJ
    symm; rw [List.all_eq_true]; exact hJ
  have hj := of_decide_eq_true hj
  have hm := getD_mem j0 hj
  have nxt := fun h => all_next j0 hj hJ h (P := fun x => symAt (ns, ls, hs) who x = true)
  generalize (timesV hs s t).getD j.toNat default = a0 at hm nxt ⊢
  refine ⟨j0, hj, ⟨0, a0, ⟨rfl, by omega, by omega, fun k hk => by omega⟩, (by repeat' first | exact trivial | refine ⟨trivial, ?_⟩ | refine ⟨(by with_reducible rfl), ?_⟩ | refine ⟨w64 (by omega) (by omega), ?_⟩ | refine ⟨rfl, ?_⟩)⟩, ?_⟩
  rintro i a ⟨ea, i0, i1, hI⟩
  subst ea
  refine ifP_split (fun hi => ?_) (fun hi => ?_)
  rotate_left
  · have hi := of_decide_eq_false hi
    refine ⟨j + 1, ⟨by omega, by omega, nxt ?_⟩, by omega, (by repeat' first | exact trivial | refine ⟨trivial, ?_⟩ | refine ⟨(by with_reducible rfl), ?_⟩ | refine ⟨w64 (by omega) (by omega), ?_⟩ | refine ⟨rfl, ?_⟩)⟩
    unfold symAt
    rw [List.all_eq_true]
    intro k hk
    have hk := List.mem_range.1 hk
    dsimp only at hk
    exact hI k (by omega)
  have hi := of_decide_eq_true hi
  have ei : ((i.toNat : Nat) : Int) = i := by omega
  have inext : symU (ns, ls, hs) a who i.toNat = true → ∀ k : Nat, (k : Int) < i + 1 → symU (ns, ls, hs) a who k = true := fun h k hk => by
    by_cases e : (k : Int) < i
    · exact hI k e
    · have : k = i.toNat := by omega
      rw [this]; exact h
  refine ⟨i0, hi, ifP_split (fun h2 => ?_) (fun h2 => ?_)⟩
  · have h2 := of_decide_eq_true h2
    refine ⟨i + 1, a, ⟨rfl, by omega, by omega, inext ?_⟩, by omega, (by repeat' first | exact trivial | refine ⟨trivial, ?_⟩ | refine ⟨(by with_reducible rfl), ?_⟩ | refine ⟨w64 (by omega) (by omega), ?_⟩ | refine ⟨rfl, ?_⟩)⟩
    unfold symU
    rw [ei, decide_eq_true h2]; rfl
  have h2 := of_decide_eq_false h2
  have hpx := hp _ (getD_mem i0 hi)
  have eU : symU (ns, ls, hs) a who i.toNat = (adrs (ns.getD i.toNat default)).all (backV (ns, ls, hs) a who (homeA (ns, ls, hs) who)) := by
    unfold symU
    rw [ei, decide_eq_false h2]; rfl
  rw [eU] at inext
  have bad : (adrs (ns.getD i.toNat default)).all (backV (ns, ls, hs) a who (homeA (ns, ls, hs) who)) = false → symAt (ns, ls, hs) who a = false := fun h => by
    unfold symAt
    rw [List.all_eq_false]
    exact ⟨i.toNat, List.mem_range.2 (by dsimp only; omega), by rw [eU, h]; decide⟩
  rw [show (ns.getD i.toNat default).1 = nPorts (ns.getD i.toNat default) from rfl, show (ns.getD i.toNat default).2.1 = nLoop (ns.getD i.toNat default) from rfl]
  generalize ns.getD i.toNat default = X at hpx inext bad ⊢
  have hlen : (pAddrs X).length = (nPorts X).length := by simp [pAddrs]
  refine ⟨⟨0, [], ⟨by omega, by omega, rfl⟩, (by repeat' first | exact trivial | refine ⟨trivial, ?_⟩ | refine ⟨(by with_reducible rfl), ?_⟩ | refine ⟨w64 (by omega) (by omega), ?_⟩ | refine ⟨rfl, ?_⟩)⟩, ?_⟩
  rintro q l ⟨q0, q1, rfl⟩
  refine ifP_split (fun hq => ?_) (fun hq => ?_)
  · have hq := of_decide_eq_true hq
    refine ⟨q0, hq, by simp only [List.length_take, List.length_cons, List.length_nil]; omega, q + 1, _, ⟨by omega, by omega, rfl⟩, by omega, ?_⟩
    (repeat first | refine ⟨trivial, ?_⟩ | refine ⟨(by with_reducible rfl), ?_⟩ | refine ⟨w64 (by omega) (by omega), ?_⟩)
    refine ⟨?_, trivial⟩
    rw [take_step q0 (by rw [hlen]; exact hq)]
    unfold pAddrs
    rw [List.getD_eq_getElem?_getD, List.getD_eq_getElem?_getD, List.getElem?_map, List.getElem?_eq_getElem (by omega)]
    rfl
  have hq := of_decide_eq_false hq
  rw [List.take_of_length_le (by omega)]
  have fin : ∀ L : List Int, adrs X = L → ifP (L.any fun y => !backV (ns, ls, hs) a who (homeA (ns, ls, hs) who) y) (symAt (ns, ls, hs) who a = false) (∀ k : Nat, (k : Int) < i + 1 → symU (ns, ls, hs) a who k = true) := fun L hL => by
    have e := any_not (p := backV (ns, ls, hs) a who (homeA (ns, ls, hs) who)) (l := L)
    refine ifP_split (fun h => bad ?_) (fun h => inext ?_)
    · rw [hL, ← e, h]; rfl
    · rw [hL, ← e, h]; rfl
  refine ifP_split (fun h3 => ?_) (fun h3 => ?_)
  · have h3 := nd_t h3
    have f := fin _ (show adrs X = pAddrs X ++ [nLoop X] by unfold adrs; rw [if_neg h3])
    refine ⟨by simp only [List.length_cons, List.length_nil]; omega, W, w0, w1, ?_⟩
    have f := ifP_iff.1 f
    exact ifP_split (fun h => allF hm (f.1 h)) (fun h => ⟨i + 1, a, ⟨rfl, by omega, by omega, f.2 h⟩, by omega, (by repeat' first | exact trivial | refine ⟨trivial, ?_⟩ | refine ⟨(by with_reducible rfl), ?_⟩ | refine ⟨w64 (by omega) (by omega), ?_⟩ | refine ⟨rfl, ?_⟩)⟩)
  · have h3 := nd_f h3
    have f := fin _ (show adrs X = pAddrs X by unfold adrs; rw [if_pos h3, List.append_nil])
    have f := ifP_iff.1 f
    exact ⟨W, w0, w1, ifP_split (fun h => allF hm (f.1 h)) (fun h => ⟨i + 1, a, ⟨rfl, by omega, by omega, f.2 h⟩, by omega, (by repeat' first | exact trivial | refine ⟨trivial, ?_⟩ | refine ⟨(by with_reducible rfl), ?_⟩ | refine ⟨w64 (by omega) (by omega), ?_⟩ | refine ⟨rfl, ?_⟩)⟩)⟩
theorem ok_truth_symmetric : SpecOK Try.prog GL 61 ct_truth_symmetric.spec := Ct.okH _ Try.func61 (by kernel_rfl) (withSpec_ok (withSpec_ok noSpecs_ok ok_truth_span_times) ok_ContainsBack) hmix an_truth_symmetric (hideMp (by kernel_rfl) vc_truth_symmetric)
end Go.RS


/- Truth5: which assumptions hold. -/
namespace Go.RS
open Go.SX Go.Proofs
set_option maxRecDepth 100000
set_option linter.unusedVariables false

def bitOn (a i : Int) : Bool := decide (bits .and .i64 (shrI .i64 a i) 1 = 1)
def spanV (n : Net) (who s t : Int) : List Bool :=
  [!n.2.2.any (between s t), n.1.all pVis, n.1.all pUns, n.1.all pInc, (timesV n.2.2 s t).all (flowV n), symV n who s t, n.2.1.all pSte, n.2.1.all pLos, n.1.all pTal]
/-- All assumptions of a set. -/
def bitsOK (a : Int) : Int → List Bool → Bool
  | _, [] => true
  | i, b :: r => (!bitOn a i || b) && bitsOK a (i + 1) r
def holdsV (n : Net) (a who s t : Int) : Bool := !(decide (a < 0) || decide (512 ≤ a) || decide (t < s)) && bitsOK a 0 (spanV n who s t)
theorem bits_bad {a i : Int} {b : Bool} {r : List Bool} (h1 : bitOn a i = true) (h2 : (!b) = true) : false = bitsOK a i (b :: r) := by
  rw [bitsOK, h1]; cases b
  · rfl
  · cases h2
theorem bits_go {a i j : Int} (hj : i + 1 = j) {b : Bool} {r : List Bool} (h : bitOn a i = false ∨ (!b) = false) : bitsOK a i (b :: r) = bitsOK a j r := by
  rw [bitsOK, hj]
  rcases h with h | h
  · rw [h]; rfl
  · cases b
    · cases h
    · rw [Bool.or_true, Bool.true_and]
def ct_truth_Holds : Ct := ⟨[.agg cNet, .val cI, .val cI, .val cI, .val cI], [.val .bool], fun d => [WN d.1, ∀ x ∈ d.1.1, (nPorts x).length ≤ 100000], fun d => ((holdsV d.1 d.2.1 d.2.2.1 d.2.2.2.1 d.2.2.2.2.1, ()), ())⟩
def an_truth_Holds : PDs ct_truth_Holds.ps → Anns := (fun d => { unr := fun n => match n with | 6 => 10 | _ => 0 })
theorem vc_truth_Holds :
    ∀ (x : List (List (Int × Int) × Int × Int × Bool × List ((Int × Int) × List Int × Int) × Int × Int × Int × Int × Int × (Int × Int) × Bool × Bool × Int × Int)) (x_1 : List (Int × Int × Int × Int × Int
     × Int)) (x_2 : List (Int × Int × Bool × (Int × Int) × List Int × Int)) (x_3 x_4 x_5 x_6 : Int), ((List.length x ≤ maxLen ∧ ∀ (x_7 : List (Int × Int) × Int × Int × Bool × List ((Int × Int) × List Int ×
     Int) × Int × Int × Int × Int × Int × (Int × Int) × Bool × Bool × Int × Int), x_7 ∈ x → (List.length x_7.1 ≤ maxLen ∧ ∀ (x : Int × Int), x ∈ x_7.1 → ((0 : Int) ≤ x.1 ∧ x.1 ≤ (4294967295 : Int)) ∧
     (-9223372036854775808 : Int) ≤ x.2 ∧ x.2 ≤ (9223372036854775807 : Int)) ∧ ((0 : Int) ≤ x_7.2.1 ∧ x_7.2.1 ≤ (4294967295 : Int)) ∧ ((-9223372036854775808 : Int) ≤ x_7.2.2.1 ∧ x_7.2.2.1 ≤
     (9223372036854775807 : Int)) ∧ True ∧ (List.length x_7.2.2.2.2.1 ≤ maxLen ∧ ∀ (x : (Int × Int) × List Int × Int), x ∈ x_7.2.2.2.2.1 → (((0 : Int) ≤ x.1.1 ∧ x.1.1 ≤ (4294967295 : Int)) ∧
     (-9223372036854775808 : Int) ≤ x.1.2 ∧ x.1.2 ≤ (9223372036854775807 : Int)) ∧ (List.length x.2.1 ≤ maxLen ∧ ∀ (x_8 : Int), x_8 ∈ x.2.1 → (-9223372036854775808 : Int) ≤ x_8 ∧ x_8 ≤ (9223372036854775807
     : Int)) ∧ (-9223372036854775808 : Int) ≤ x.2.2 ∧ x.2.2 ≤ (9223372036854775807 : Int)) ∧ ((-9223372036854775808 : Int) ≤ x_7.2.2.2.2.2.1 ∧ x_7.2.2.2.2.2.1 ≤ (9223372036854775807 : Int)) ∧ ((0 : Int) ≤
     x_7.2.2.2.2.2.2.1 ∧ x_7.2.2.2.2.2.2.1 ≤ (4294967295 : Int)) ∧ ((-9223372036854775808 : Int) ≤ x_7.2.2.2.2.2.2.2.1 ∧ x_7.2.2.2.2.2.2.2.1 ≤ (9223372036854775807 : Int)) ∧ ((-9223372036854775808 : Int) ≤
     x_7.2.2.2.2.2.2.2.2.1 ∧ x_7.2.2.2.2.2.2.2.2.1 ≤ (9223372036854775807 : Int)) ∧ ((-9223372036854775808 : Int) ≤ x_7.2.2.2.2.2.2.2.2.2.1 ∧ x_7.2.2.2.2.2.2.2.2.2.1 ≤ (9223372036854775807 : Int)) ∧
     (((-9223372036854775808 : Int) ≤ x_7.2.2.2.2.2.2.2.2.2.2.1.1 ∧ x_7.2.2.2.2.2.2.2.2.2.2.1.1 ≤ (9223372036854775807 : Int)) ∧ (-9223372036854775808 : Int) ≤ x_7.2.2.2.2.2.2.2.2.2.2.1.2 ∧
     x_7.2.2.2.2.2.2.2.2.2.2.1.2 ≤ (9223372036854775807 : Int)) ∧ True ∧ True ∧ ((-9223372036854775808 : Int) ≤ x_7.2.2.2.2.2.2.2.2.2.2.2.2.2.1 ∧ x_7.2.2.2.2.2.2.2.2.2.2.2.2.2.1 ≤ (9223372036854775807 :
     Int)) ∧ (-9223372036854775808 : Int) ≤ x_7.2.2.2.2.2.2.2.2.2.2.2.2.2.2 ∧ x_7.2.2.2.2.2.2.2.2.2.2.2.2.2.2 ≤ (9223372036854775807 : Int)) ∧ (List.length x_1 ≤ maxLen ∧ ∀ (x : Int × Int × Int × Int × Int
     × Int), x ∈ x_1 → ((-9223372036854775808 : Int) ≤ x.1 ∧ x.1 ≤ (9223372036854775807 : Int)) ∧ ((-9223372036854775808 : Int) ≤ x.2.1 ∧ x.2.1 ≤ (9223372036854775807 : Int)) ∧ ((-9223372036854775808 :
     Int) ≤ x.2.2.1 ∧ x.2.2.1 ≤ (9223372036854775807 : Int)) ∧ ((-9223372036854775808 : Int) ≤ x.2.2.2.1 ∧ x.2.2.2.1 ≤ (9223372036854775807 : Int)) ∧ ((-9223372036854775808 : Int) ≤ x.2.2.2.2.1 ∧
     x.2.2.2.2.1 ≤ (9223372036854775807 : Int)) ∧ (-9223372036854775808 : Int) ≤ x.2.2.2.2.2 ∧ x.2.2.2.2.2 ≤ (9223372036854775807 : Int)) ∧ List.length x_2 ≤ maxLen ∧ ∀ (x : Int × Int × Bool × (Int × Int)
     × List Int × Int), x ∈ x_2 → ((-9223372036854775808 : Int) ≤ x.1 ∧ x.1 ≤ (9223372036854775807 : Int)) ∧ ((-9223372036854775808 : Int) ≤ x.2.1 ∧ x.2.1 ≤ (9223372036854775807 : Int)) ∧ True ∧ (((0 :
     Int) ≤ x.2.2.2.1.1 ∧ x.2.2.2.1.1 ≤ (4294967295 : Int)) ∧ (-9223372036854775808 : Int) ≤ x.2.2.2.1.2 ∧ x.2.2.2.1.2 ≤ (9223372036854775807 : Int)) ∧ (List.length x.2.2.2.2.1 ≤ maxLen ∧ ∀ (x_7 : Int),
     x_7 ∈ x.2.2.2.2.1 → (-9223372036854775808 : Int) ≤ x_7 ∧ x_7 ≤ (9223372036854775807 : Int)) ∧ (-9223372036854775808 : Int) ≤ x.2.2.2.2.2 ∧ x.2.2.2.2.2 ≤ (9223372036854775807 : Int)) ∧
     ((-9223372036854775808 : Int) ≤ x_3 ∧ x_3 ≤ (9223372036854775807 : Int)) ∧ ((-9223372036854775808 : Int) ≤ x_4 ∧ x_4 ≤ (9223372036854775807 : Int)) ∧ ((-9223372036854775808 : Int) ≤ x_5 ∧ x_5 ≤
     (9223372036854775807 : Int)) ∧ ((-9223372036854775808 : Int) ≤ x_6 ∧ x_6 ≤ (9223372036854775807 : Int)) ∧ True → (WN (x, x_1, x_2) ∧ ∀ (x_7 : List (Int × Int) × Int × Int × Bool × List ((Int × Int) ×
     List Int × Int) × Int × Int × Int × Int × Int × (Int × Int) × Bool × Bool × Int × Int), x_7 ∈ x → List.length (nPorts x_7) ≤ (100000 : Nat)) → ∀ (b : Bool), b = decide (x_3 < (0 : Int)) → ((!b) = true
     → ((!b) = true → (!b) = true) ∧ True) ∧ (b = false → (!b) = true) ∧ ∀ (b_1 : Bool), (b_1 = bif b then true else decide ((512 : Int) ≤ x_3)) → ((!b_1) = true → ((!b_1) = true → (!b_1) = true) ∧ ((!b_1)
     = true → (!b_1) = true) ∧ True) ∧ (b_1 = false → (!b_1) = true) ∧ ifP (bif b_1 then true else decide (x_6 < x_5)) (false = holdsV (x, x_1, x_2) x_3 x_4 x_5 x_6) ((0 : Int) ≤ (0 : Int) ∧ ∀ (b : Bool),
     b = decide (bits BinOp.and IntKind.i64 (shrI IntKind.i64 x_3 (0 : Int)) (1 : Int) = (1 : Int)) → (b = true → (b = true → b = true) ∧ (b = true → b = true) ∧ True) ∧ (b = true → (b = true → b = true) ∧
     True) ∧ (b = true → b = true) ∧ ifP (bif b then !!List.any x_2 (between x_5 x_6) else false) (false = holdsV (x, x_1, x_2) x_3 x_4 x_5 x_6) ((0 : Int) ≤ IntKind.wrap IntKind.i64 ((0 : Int) + (1 :
     Int)) ∧ ∀ (b : Bool), b = decide (bits BinOp.and IntKind.i64 (shrI IntKind.i64 x_3 (IntKind.wrap IntKind.i64 ((0 : Int) + (1 : Int)))) (1 : Int) = (1 : Int)) → (b = true → (b = true → b = true) ∧ (b =
     true → b = true) ∧ True) ∧ (b = true → (b = true → b = true) ∧ True) ∧ (b = true → b = true) ∧ ifP (bif b then !List.all x pVis else false) (false = holdsV (x, x_1, x_2) x_3 x_4 x_5 x_6) ((0 : Int) ≤
     IntKind.wrap IntKind.i64 (IntKind.wrap IntKind.i64 ((0 : Int) + (1 : Int)) + (1 : Int)) ∧ ∀ (b : Bool), b = decide (bits BinOp.and IntKind.i64 (shrI IntKind.i64 x_3 (IntKind.wrap IntKind.i64
     (IntKind.wrap IntKind.i64 ((0 : Int) + (1 : Int)) + (1 : Int)))) (1 : Int) = (1 : Int)) → (b = true → (b = true → b = true) ∧ (b = true → b = true) ∧ True) ∧ (b = true → (b = true → b = true) ∧ True)
     ∧ (b = true → b = true) ∧ ifP (bif b then !List.all x pUns else false) (false = holdsV (x, x_1, x_2) x_3 x_4 x_5 x_6) ((0 : Int) ≤ IntKind.wrap IntKind.i64 (IntKind.wrap IntKind.i64 (IntKind.wrap
     IntKind.i64 ((0 : Int) + (1 : Int)) + (1 : Int)) + (1 : Int)) ∧ ∀ (b : Bool), b = decide (bits BinOp.and IntKind.i64 (shrI IntKind.i64 x_3 (IntKind.wrap IntKind.i64 (IntKind.wrap IntKind.i64
     (IntKind.wrap IntKind.i64 ((0 : Int) + (1 : Int)) + (1 : Int)) + (1 : Int)))) (1 : Int) = (1 : Int)) → (b = true → (b = true → b = true) ∧ (b = true → b = true) ∧ True) ∧ (b = true → (b = true → b =
     true) ∧ True) ∧ (b = true → b = true) ∧ ifP (bif b then !List.all x pInc else false) (false = holdsV (x, x_1, x_2) x_3 x_4 x_5 x_6) ((0 : Int) ≤ IntKind.wrap IntKind.i64 (IntKind.wrap IntKind.i64
     (IntKind.wrap IntKind.i64 (IntKind.wrap IntKind.i64 ((0 : Int) + (1 : Int)) + (1 : Int)) + (1 : Int)) + (1 : Int)) ∧ ∀ (b : Bool), b = decide (bits BinOp.and IntKind.i64 (shrI IntKind.i64 x_3
     (IntKind.wrap IntKind.i64 (IntKind.wrap IntKind.i64 (IntKind.wrap IntKind.i64 (IntKind.wrap IntKind.i64 ((0 : Int) + (1 : Int)) + (1 : Int)) + (1 : Int)) + (1 : Int)))) (1 : Int) = (1 : Int)) → (b =
     true → (b = true → b = true) ∧ (b = true → b = true) ∧ okNet (x, x_1, x_2) ∧ True) ∧ (b = true → (b = true → b = true) ∧ True) ∧ (b = true → b = true) ∧ ifP (bif b then !List.all (timesV x_2 x_5 x_6)
     (flowV (x, x_1, x_2)) else false) (false = holdsV (x, x_1, x_2) x_3 x_4 x_5 x_6) ((0 : Int) ≤ IntKind.wrap IntKind.i64 (IntKind.wrap IntKind.i64 (IntKind.wrap IntKind.i64 (IntKind.wrap IntKind.i64
     (IntKind.wrap IntKind.i64 ((0 : Int) + (1 : Int)) + (1 : Int)) + (1 : Int)) + (1 : Int)) + (1 : Int)) ∧ ∀ (b : Bool), b = decide (bits BinOp.and IntKind.i64 (shrI IntKind.i64 x_3 (IntKind.wrap
     IntKind.i64 (IntKind.wrap IntKind.i64 (IntKind.wrap IntKind.i64 (IntKind.wrap IntKind.i64 (IntKind.wrap IntKind.i64 ((0 : Int) + (1 : Int)) + (1 : Int)) + (1 : Int)) + (1 : Int)) + (1 : Int)))) (1 :
     Int) = (1 : Int)) → (b = true → (b = true → b = true) ∧ (b = true → b = true) ∧ WN (x, x_1, x_2) ∧ (∀ (x_7 : List (Int × Int) × Int × Int × Bool × List ((Int × Int) × List Int × Int) × Int × Int × Int
     × Int × Int × (Int × Int) × Bool × Bool × Int × Int), x_7 ∈ x → List.length (nPorts x_7) ≤ (100000 : Nat)) ∧ True) ∧ (b = true → (b = true → b = true) ∧ True) ∧ (b = true → b = true) ∧ ifP (bif b then
     !symV (x, x_1, x_2) x_4 x_5 x_6 else false) (false = holdsV (x, x_1, x_2) x_3 x_4 x_5 x_6) ((0 : Int) ≤ IntKind.wrap IntKind.i64 (IntKind.wrap IntKind.i64 (IntKind.wrap IntKind.i64 (IntKind.wrap
     IntKind.i64 (IntKind.wrap IntKind.i64 (IntKind.wrap IntKind.i64 ((0 : Int) + (1 : Int)) + (1 : Int)) + (1 : Int)) + (1 : Int)) + (1 : Int)) + (1 : Int)) ∧ ∀ (b : Bool), b = decide (bits BinOp.and
     IntKind.i64 (shrI IntKind.i64 x_3 (IntKind.wrap IntKind.i64 (IntKind.wrap IntKind.i64 (IntKind.wrap IntKind.i64 (IntKind.wrap IntKind.i64 (IntKind.wrap IntKind.i64 (IntKind.wrap IntKind.i64 ((0 : Int)
     + (1 : Int)) + (1 : Int)) + (1 : Int)) + (1 : Int)) + (1 : Int)) + (1 : Int)))) (1 : Int) = (1 : Int)) → (b = true → (b = true → b = true) ∧ (b = true → b = true) ∧ True) ∧ (b = true → (b = true → b =
     true) ∧ True) ∧ (b = true → b = true) ∧ ifP (bif b then !List.all x_1 pSte else false) (false = holdsV (x, x_1, x_2) x_3 x_4 x_5 x_6) ((0 : Int) ≤ IntKind.wrap IntKind.i64 (IntKind.wrap IntKind.i64
     (IntKind.wrap IntKind.i64 (IntKind.wrap IntKind.i64 (IntKind.wrap IntKind.i64 (IntKind.wrap IntKind.i64 (IntKind.wrap IntKind.i64 ((0 : Int) + (1 : Int)) + (1 : Int)) + (1 : Int)) + (1 : Int)) + (1 :
     Int)) + (1 : Int)) + (1 : Int)) ∧ ∀ (b : Bool), b = decide (bits BinOp.and IntKind.i64 (shrI IntKind.i64 x_3 (IntKind.wrap IntKind.i64 (IntKind.wrap IntKind.i64 (IntKind.wrap IntKind.i64 (IntKind.wrap
     IntKind.i64 (IntKind.wrap IntKind.i64 (IntKind.wrap IntKind.i64 (IntKind.wrap IntKind.i64 ((0 : Int) + (1 : Int)) + (1 : Int)) + (1 : Int)) + (1 : Int)) + (1 : Int)) + (1 : Int)) + (1 : Int)))) (1 :
     Int) = (1 : Int)) → (b = true → (b = true → b = true) ∧ (b = true → b = true) ∧ True) ∧ (b = true → (b = true → b = true) ∧ True) ∧ (b = true → b = true) ∧ ifP (bif b then !List.all x_1 pLos else
     false) (false = holdsV (x, x_1, x_2) x_3 x_4 x_5 x_6) ((0 : Int) ≤ IntKind.wrap IntKind.i64 (IntKind.wrap IntKind.i64 (IntKind.wrap IntKind.i64 (IntKind.wrap IntKind.i64 (IntKind.wrap IntKind.i64
     (IntKind.wrap IntKind.i64 (IntKind.wrap IntKind.i64 (IntKind.wrap IntKind.i64 ((0 : Int) + (1 : Int)) + (1 : Int)) + (1 : Int)) + (1 : Int)) + (1 : Int)) + (1 : Int)) + (1 : Int)) + (1 : Int)) ∧ ∀ (b
     : Bool), b = decide (bits BinOp.and IntKind.i64 (shrI IntKind.i64 x_3 (IntKind.wrap IntKind.i64 (IntKind.wrap IntKind.i64 (IntKind.wrap IntKind.i64 (IntKind.wrap IntKind.i64 (IntKind.wrap IntKind.i64
     (IntKind.wrap IntKind.i64 (IntKind.wrap IntKind.i64 (IntKind.wrap IntKind.i64 ((0 : Int) + (1 : Int)) + (1 : Int)) + (1 : Int)) + (1 : Int)) + (1 : Int)) + (1 : Int)) + (1 : Int)) + (1 : Int)))) (1 :
     Int) = (1 : Int)) → (b = true → (b = true → b = true) ∧ (b = true → b = true) ∧ True) ∧ (b = true → (b = true → b = true) ∧ True) ∧ (b = true → b = true) ∧ ifP (bif b then !List.all x pTal else false)
     (false = holdsV (x, x_1, x_2) x_3 x_4 x_5 x_6) (true = holdsV (x, x_1, x_2) x_3 x_4 x_5 x_6)))))))))) := by
  rintro ns ls hs a who s t - ⟨W, hp⟩
  simp only [show IntKind.wrap IntKind.i64 ((0 : Int) + 1) = 1 by decide, show IntKind.wrap IntKind.i64 ((1 : Int) + 1) = 2 by decide, show IntKind.wrap IntKind.i64 ((2 : Int) + 1) = 3 by decide, show IntKind.wrap IntKind.i64 ((3 : Int) + 1) = 4 by decide, show IntKind.wrap IntKind.i64 ((4 : Int) + 1) = 5 by decide, show IntKind.wrap IntKind.i64 ((5 : Int) + 1) = 6 by decide, show IntKind.wrap IntKind.i64 ((6 : Int) + 1) = 7 by decide, show IntKind.wrap IntKind.i64 ((7 : Int) + 1) = 8 by decide]
  intro b hb
  (repeat refine ⟨fun h_ => (by first | (simp; done) | (simp [h_]; done) | (simp_all; done)), ?_⟩)
  intro b1 hb1
  (repeat refine ⟨fun h_ => (by first | (simp; done) | (simp [h_]; done) | (simp_all; done)), ?_⟩)
  rw [hb1, hb]
  have tot : (bif (bif decide (a < 0) then true else decide (512 ≤ a)) then true else decide (t < s)) = (decide (a < 0) || decide (512 ≤ a) || decide (t < s)) := by
    cases decide (a < 0) <;> cases decide (512 ≤ a) <;> rfl
  rw [tot]
  refine ifP_split (fun h => ?_) (fun h => ?_)
  · unfold holdsV; rw [h]; rfl
  have e0 : holdsV (ns, ls, hs) a who s t = bitsOK a 0 (spanV (ns, ls, hs) who s t) := by unfold holdsV; rw [h]; rfl
  rw [e0]
  unfold spanV
  clear e0 h tot hb hb1
  refine ⟨by decide, ?_⟩
  intro c0 hc0
  have hc0 : c0 = bitOn a 0 := hc0
  (repeat refine ⟨fun h_ => (by first | ((repeat refine ⟨fun _ => h_, ?_⟩); first | exact ⟨W.o, trivial⟩ | exact ⟨W, hp, trivial⟩) | (simp; done) | (simp [h_]; done) | (simp_all; done)), ?_⟩)
  rw [hc0]
  refine ifP_and (fun h1 h2 => bits_bad h1 h2) (fun h => ?_)
  rw [bits_go (j := 1) rfl h]
  refine ⟨by decide, ?_⟩
  intro c1 hc1
  have hc1 : c1 = bitOn a 1 := hc1
  (repeat refine ⟨fun h_ => (by first | ((repeat refine ⟨fun _ => h_, ?_⟩); first | exact ⟨W.o, trivial⟩ | exact ⟨W, hp, trivial⟩) | (simp; done) | (simp [h_]; done) | (simp_all; done)), ?_⟩)
  rw [hc1]
  refine ifP_and (fun h1 h2 => bits_bad h1 h2) (fun h => ?_)
  rw [bits_go (j := 2) rfl h]
  refine ⟨by decide, ?_⟩
  intro c2 hc2
  have hc2 : c2 = bitOn a 2 := hc2
  (repeat refine ⟨fun h_ => (by first | ((repeat refine ⟨fun _ => h_, ?_⟩); first | exact ⟨W.o, trivial⟩ | exact ⟨W, hp, trivial⟩) | (simp; done) | (simp [h_]; done) | (simp_all; done)), ?_⟩)
  rw [hc2]
  refine ifP_and (fun h1 h2 => bits_bad h1 h2) (fun h => ?_)
  rw [bits_go (j := 3) rfl h]
  refine ⟨by decide, ?_⟩
  intro c3 hc3
  have hc3 : c3 = bitOn a 3 := hc3
  (repeat refine ⟨fun h_ => (by first | ((repeat refine ⟨fun _ => h_, ?_⟩); first | exact ⟨W.o, trivial⟩ | exact ⟨W, hp, trivial⟩) | (simp; done) | (simp [h_]; done) | (simp_all; done)), ?_⟩)
  rw [hc3]
  refine ifP_and (fun h1 h2 => bits_bad h1 h2) (fun h => ?_)
  rw [bits_go (j := 4) rfl h]
  refine ⟨by decide, ?_⟩
  intro c4 hc4
  have hc4 : c4 = bitOn a 4 := hc4
  (repeat refine ⟨fun h_ => (by first | ((repeat refine ⟨fun _ => h_, ?_⟩); first | exact ⟨W.o, trivial⟩ | exact ⟨W, hp, trivial⟩) | (simp; done) | (simp [h_]; done) | (simp_all; done)), ?_⟩)
  rw [hc4]
  refine ifP_and (fun h1 h2 => bits_bad h1 h2) (fun h => ?_)
  rw [bits_go (j := 5) rfl h]
  refine ⟨by decide, ?_⟩
  intro c5 hc5
  have hc5 : c5 = bitOn a 5 := hc5
  (repeat refine ⟨fun h_ => (by first | ((repeat refine ⟨fun _ => h_, ?_⟩); first | exact ⟨W.o, trivial⟩ | exact ⟨W, hp, trivial⟩) | (simp; done) | (simp [h_]; done) | (simp_all; done)), ?_⟩)
  rw [hc5]
  refine ifP_and (fun h1 h2 => bits_bad h1 h2) (fun h => ?_)
  rw [bits_go (j := 6) rfl h]
  refine ⟨by decide, ?_⟩
  intro c6 hc6
  have hc6 : c6 = bitOn a 6 := hc6
  (repeat refine ⟨fun h_ => (by first | ((repeat refine ⟨fun _ => h_, ?_⟩); first | exact ⟨W.o, trivial⟩ | exact ⟨W, hp, trivial⟩) | (simp; done) | (simp [h_]; done) | (simp_all; done)), ?_⟩)
  rw [hc6]
  refine ifP_and (fun h1 h2 => bits_bad h1 h2) (fun h => ?_)
  rw [bits_go (j := 7) rfl h]
  refine ⟨by decide, ?_⟩
  intro c7 hc7
  have hc7 : c7 = bitOn a 7 := hc7
  (repeat refine ⟨fun h_ => (by first | ((repeat refine ⟨fun _ => h_, ?_⟩); first | exact ⟨W.o, trivial⟩ | exact ⟨W, hp, trivial⟩) | (simp; done) | (simp [h_]; done) | (simp_all; done)), ?_⟩)
  rw [hc7]
  refine ifP_and (fun h1 h2 => bits_bad h1 h2) (fun h => ?_)
  rw [bits_go (j := 8) rfl h]
  refine ⟨by decide, ?_⟩
  intro c8 hc8
  have hc8 : c8 = bitOn a 8 := hc8
  (repeat refine ⟨fun h_ => (by first | ((repeat refine ⟨fun _ => h_, ?_⟩); first | exact ⟨W.o, trivial⟩ | exact ⟨W, hp, trivial⟩) | (simp; done) | (simp [h_]; done) | (simp_all; done)), ?_⟩)
  rw [hc8]
  refine ifP_and (fun h1 h2 => bits_bad h1 h2) (fun h => ?_)
  rw [bits_go (j := 9) rfl h]
  rfl
theorem ok_truth_Holds : SpecOK Try.prog GL 25 ct_truth_Holds.spec := Ct.okH _ Try.func25 (by kernel_rfl) (withConc_ok (withSpec_ok (withSpec_ok (withSpec_ok (withSpec_ok (withSpec_ok (withSpec_ok (withSpec_ok (withSpec_ok (withSpec_ok noSpecs_ok ok_truth_stable) ok_truth_visible) ok_truth_unspoofed) ok_truth_incoming) ok_truth_flowwise) ok_truth_symmetric) ok_truth_steady) ok_truth_lossless) ok_truth_talkative) (d := 36)) hmix an_truth_Holds (hideMp (by kernel_rfl) vc_truth_Holds)
end Go.RS

