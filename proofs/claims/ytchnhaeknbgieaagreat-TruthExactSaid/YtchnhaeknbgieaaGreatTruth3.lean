/- Topo2: networks: the program's check of all, finding, and routes at a time. -/
import Derived.Test.YtchnhaeknbgieaaGreatTopod
import Derived.Test.YtchnhaeknbgieaaGreatReply
namespace Go.RS
open Go.SX Go.Proofs
set_option maxRecDepth 100000
set_option linter.unusedVariables false

def idxI {α : Type} (q : α → Bool) (l : List α) : Int := if l.findIdx q < l.length then (l.findIdx q : Int) else -1
theorem idxI_any {α : Type} {q : α → Bool} {l : List α} : decide (0 ≤ idxI q l) = l.any q := by
  unfold idxI
  cases h : l.any q with
  | true =>
    rw [if_pos (List.findIdx_lt_length_of_exists (by simpa using h))]
    exact decide_eq_true (by omega)
  | false =>
    have : l.findIdx q = l.length := List.findIdx_eq_length_of_false (by simpa using h)
    rw [if_neg (by omega)]; rfl
def ct_topology_changed : Ct := ⟨[.val (.sl cRt), .agg cChange], [.own 79 cRt], fun d => [sortedR d.1, okL d.1, ((hRoute d.2.1).2.1.length : Int) ≤ 1099511627776], fun d => ((chV d.1 d.2.1, ()), ())⟩
def an_topology_changed : PDs ct_topology_changed.ps → Anns := (fun _ => {})
theorem vc_topology_changed : ∀ (x : List ((Int × Int) × List Int × Int)) (d : Int × Int × Bool × (Int × Int) × List Int × Int), (x.length <= maxLen /\ ∀ (x1 : (Int × Int) × List Int × Int), x1 ∈ x -> ((0 <= x1.1.1 /\ x1.1.1 <= 4294967295) /\ R64 x1.1.2) /\ (x1.2.1.length <= maxLen /\ ∀ (x : Int), x ∈ x1.2.1 -> R64 x) /\ R64 x1.2.2) /\ CT.wf cChange d /\ True -> sortedR x /\ okL x /\ ((List.length (hRoute d).2.1) : Int) <= 1099511627776 -> ifP d.2.2.1 (sortedR x /\ okL x /\ removeL x d.2.2.2.1 = chV x d) (sortedR x /\ okL x /\ (d.2.2.2.2.1.length : Int) <= 1099511627776 /\ putL x d.2.2.2 = chV x d) := by
  rintro l c - ⟨hs, hl, hx⟩
  unfold chV
  rw [show c.2.2.1 = hRem c from rfl]
  refine ifP_split (fun h => ⟨hs, hl, ?_⟩) (fun h => ⟨hs, hl, hx, ?_⟩)
  · rw [if_pos h]; rfl
  · rw [if_neg (by rw [h]; decide)]; rfl
theorem ok_topology_changed : SpecOK Tryz.prog GL 77 ct_topology_changed.spec := Ct.okH _ Tryz.func77 (by kernel_rfl) (withSpec_ok (withSpec_ok noSpecs_ok ok_fib_Put) ok_fib_Remove) hmix an_topology_changed (hideMp (by kernel_rfl) vc_topology_changed)
def ct_topology_Find : Ct := ⟨[.agg cNet, .val cU32], [.val cI, .val .bool], fun d => [], fun d => ((findV d.1 d.2.1, findB d.1 d.2.1, ()), ())⟩
def an_topology_Find : PDs ct_topology_Find.ps → Anns := (fun d => { loops := (fun n => match n with | 2 => some (fun S => { ι := Int, μ := fun i => (d.1.1.length - i).toNat, inv := fun i => 0 ≤ i ∧ i ≤ d.1.1.length ∧ ∀ x ∈ d.1.1.take i.toNat, ownsA x d.2.1 = false, keep := [1, 3, 9, 10], slots := fun i => [(11, .int .i64 i)], keepN := [48], names := fun i => [] }) | _ => none) })
theorem vc_topology_Find : ∀ (x : List Node) (x1 : List Link) (x2 : List Change) (x3 : Int), ((x.length <= maxLen /\ ∀ (x4 : Node), x4 ∈ x -> CT.wf cNode x4) /\ (x1.length <= maxLen /\ ∀ (x : Link), x ∈ x1 -> CT.wf cLink x) /\ x2.length <= maxLen /\ ∀ (x : Change), x ∈ x2 -> CT.wf cChange x) /\ (0 <= x3 /\ x3 <= 4294967295) /\ True -> True -> (∃ (x4 : Int), (0 <= x4 /\ x4 <= (x.length : Int) /\ ∀ (x5 : List (Int × Int) × Int × Int × Bool × List ((Int × Int) × List Int × Int) × Int × Int × Int × Int × Int × (Int × Int) × Bool × Bool × Int × Int), x5 ∈ List.take x4.toNat x -> ownsA x5 x3 = false) /\ x3 = x3 /\ x = x /\ (x.length : Int) = (x.length : Int) /\ (0 : Int) = x4 /\ x = x /\ x1 = x1 /\ x2 = x2 /\ True) /\ ∀ (x4 : Int), (0 <= x4 /\ x4 <= (x.length : Int) /\ ∀ (x5 : List (Int × Int) × Int × Int × Bool × List ((Int × Int) × List Int × Int) × Int × Int × Int × Int × Int × (Int × Int) ×
 Bool × Bool × Int × Int), x5 ∈ List.take x4.toNat x -> ownsA x5 x3 = false) -> ifP (decide (x4 < (x.length : Int))) (0 <= x4 /\ x4 < (x.length : Int) /\ ifP (ownsA (x.getD x4.toNat default) x3) (x4 = findV (x, x1, x2) x3 /\ true = findB (x, x1, x2) x3) (∃ (x5 : Int), (0 <= x5 /\ x5 <= (x.length : Int) /\ ∀ (x6 : List (Int × Int) × Int × Int × Bool × List ((Int × Int) × List Int × Int) × Int × Int × Int × Int × Int × (Int × Int) × Bool × Bool × Int × Int), x6 ∈ List.take x5.toNat x -> ownsA x6 x3 = false) /\ Int.toNat ((x.length : Int) - x5) < Int.toNat ((x.length : Int) - x4) /\ x3 = x3 /\ x = x /\ (x.length : Int) = (x.length : Int) /\ IntKind.wrap .i64 (x4 + (1 : Int)) = x5 /\ x = x /\ x1 = x1 /\ x2 = x2 /\ True)) ((0 : Int) = findV (x, x1, x2) x3 /\ false = findB (x, x1, x2) x3) := by
  rintro ns ls hs a ⟨⟨⟨hnl, -⟩, -⟩, -⟩ -
  simp only [maxLen] at hnl
  refine ⟨⟨0, ⟨by omega, by omega, by simp⟩, (by repeat' first | exact trivial | refine ⟨trivial, ?_⟩ | refine ⟨(by with_reducible rfl), ?_⟩ | refine ⟨w64 (by omega) (by omega), ?_⟩ | refine ⟨rfl, ?_⟩)⟩, ?_⟩
  rintro i ⟨i0, i1, hI⟩
  refine ifP_split (fun hi => ?_) (fun hi => ?_)
  · have hi := of_decide_eq_true hi
    refine ⟨i0, hi, ifP_split (fun hm => ?_) (fun hm => ?_)⟩
    · have e := findI_at (q := fun x => ownsA x a) i0 hi hI hm
      unfold findV findB findI
      by_cases k : ns.findIdx (fun x => ownsA x a) < ns.length
      · rw [if_pos k] at e
        dsimp only
        rw [if_pos k, decide_eq_true k]
        exact ⟨e, rfl⟩
      · rw [if_neg k] at e; omega
    · exact ⟨i + 1, ⟨by omega, by omega, all_next i0 hi hI hm⟩, by omega, (by repeat' first | exact trivial | refine ⟨trivial, ?_⟩ | refine ⟨(by with_reducible rfl), ?_⟩ | refine ⟨w64 (by omega) (by omega), ?_⟩ | refine ⟨rfl, ?_⟩)⟩
  · have e := findI_none (q := fun x => ownsA x a) (of_decide_eq_false hi) hI
    unfold findV findB findI
    by_cases k : ns.findIdx (fun x => ownsA x a) < ns.length
    · rw [if_pos k] at e; omega
    · dsimp only
      rw [if_neg k, decide_eq_false k]
      exact ⟨rfl, rfl⟩
theorem ok_topology_Find : SpecOK Tryz.prog GL 48 ct_topology_Find.spec := Ct.okH _ Tryz.func48 (by kernel_rfl) (withSpec_ok noSpecs_ok ok_node_Owns) hmix an_topology_Find (hideMp (by kernel_rfl) vc_topology_Find)

def ct_CloneRt : Ct := ⟨[.val (.sl cRt)], [.own 79 cRt], fun d => [(d.1.length : Int) ≤ 134217728], fun d => ((d.1, ()), ())⟩
def an_CloneRt : PDs ct_CloneRt.ps → Anns := (fun _ => {})
theorem vc_CloneRt : ∀ (x : List ((Int × Int) × List Int × Int)), (x.length <= maxLen /\ ∀ (x1 : (Int × Int) × List Int × Int), x1 ∈ x -> ((0 <= x1.1.1 /\ x1.1.1 <= 4294967295) /\ R64 x1.1.2) /\ (x1.2.1.length <= maxLen /\ ∀ (x : Int), x ∈ x1.2.1 -> R64 x) /\ R64 x1.2.2) /\ True -> (x.length : Int) <= 134217728 -> ∀ (x1 : Bool), (x1 = true -> x.length = (0 : Nat)) -> ifP x1 (([] : List ((Int × Int) × List Int × Int)) = x) (((0 : Nat) + x.length) * (48 : Nat) <= (140737488355328 : Nat) /\ x = x) := by
  rintro x ⟨⟨hl, -⟩, -⟩ h b hb
  refine ifP_split (fun h1 => ?_) (fun h1 => ⟨by omega, by simp⟩)
  have := hb h1
  exact (List.eq_nil_of_length_eq_zero this).symm
theorem ok_CloneRt : SpecOK Tryz.prog GL 75 ct_CloneRt.spec := Ct.okH _ Tryz.func75 (by kernel_rfl) noSpecs_ok hmix an_CloneRt (hideMp (by kernel_rfl) vc_CloneRt)

def ct_topology_Routes : Ct := ⟨[.agg cNet, .val cI, .val cI], [.own 79 cRt], fun d => [okNet d.1], fun d => ((routesV d.1 d.2.1 d.2.2.1, ()), ())⟩
def an_topology_Routes : PDs ct_topology_Routes.ps → Anns := (fun d => { loops := (fun n => match n with | 5 => some (fun S => { ι := Int, μ := fun i => ((nRoutes (d.1.1.getD d.2.1.toNat default)).length - i).toNat, inv := fun i => 0 ≤ i ∧ i ≤ (nRoutes (d.1.1.getD d.2.1.toNat default)).length, keep := [1, 2, 3, 7, 26, 27], slots := fun i => [(28, .int .i64 i)], keepN := [64, 416], names := fun i => [] }) | 10 => some (fun S => { ι := Int × (List Rt), qn := ⟨fun k_ => ∀ (j : Int) (t : (List Rt)), k_ (j, t), fun k_ h_ i => h_ i.1 i.2, fun k_ => ∃ (j : Int) (t : (List Rt)), k_ (j, t), fun k_ ⟨j, t, h_⟩ => ⟨_, h_⟩⟩, μ := fun i => (d.1.2.2.length - i.1).toNat, inv := fun i => 0 ≤ i.1 ∧ i.1 ≤ d.1.2.2.length ∧ i.2 = routesK d.1 d.2.1 d.2.2.1 i.1, keep := [1, 2, 3, 42, 43], slots := fun i => [(7, .own 524288 4), (44, .int .i64 i.1)], keepN := [64], names := fun i => [(524288, .live (.row 79 cRt i.2))] }) | _ => none) })
theorem vc_topology_Routes : ∀ (x : List Node) (x1 : List Link) (x2 : List Change) (x3 x4 : Int), ((x.length <= maxLen /\ ∀ (x5 : Node), x5 ∈ x -> CT.wf cNode x5) /\ (x1.length <= maxLen /\ ∀ (x : Link), x ∈ x1 -> CT.wf cLink x) /\ x2.length <= maxLen /\ ∀ (x : Change), x ∈ x2 -> CT.wf cChange x) /\ R64 x3 /\ R64 x4 /\ True -> okNet (x, x1, x2) -> ifP (!decide (0 <= x3 /\ x3 <= IntKind.wrap .i64 ((x.length : Int) - (1 : Int)))) (([] : List ((Int × Int) × List Int × Int)) = routesV (x, x1, x2) x3 x4) (0 <= x3 /\ x3 < (x.length : Int) /\ ((List.length (x.getD x3.toNat default).2.2.2.2.1) : Int) <= 134217728 /\ (∃ (x5 : Int), (0 <= x5 /\ x5 <= ((List.length (nRoutes (x.getD x3.toNat default))) : Int)) /\ x3 = x3 /\ x4 = x4 /\ ((List.length (x.getD x3.toNat default).2.2.2.2.1) : Int) = ((List.length (x.getD x3.toNat default).2.2.2.2.1) : Int) /\ (0 : Int) = x5 /\ x = x /\ x1 = x1 /\ x2 = x2
 /\ (x.getD x3.toNat default).2.2.2.2.1 = (x.getD x3.toNat default).2.2.2.2.1 /\ True) /\ ∀ (x5 : Int), 0 <= x5 /\ x5 <= ((List.length (nRoutes (x.getD x3.toNat default))) : Int) -> ifP (decide (x5 < ((List.length (x.getD x3.toNat default).2.2.2.2.1) : Int))) (0 <= x5 /\ x5 < ((List.length (x.getD x3.toNat default).2.2.2.2.1) : Int) /\ ((List.length (List.getD (x.getD x3.toNat default).2.2.2.2.1 x5.toNat default).2.1) : Int) <= 1099511627776 /\ 0 <= x5 /\ x5 < ((List.length (x.getD x3.toNat default).2.2.2.2.1) : Int) /\ ∃ (x6 : Int), (0 <= x6 /\ x6 <= ((List.length (nRoutes (x.getD x3.toNat default))) : Int)) /\ Int.toNat (((List.length (nRoutes (x.getD x3.toNat default))) : Int) - x6) < Int.toNat (((List.length (nRoutes (x.getD x3.toNat default))) : Int) - x5) /\ x3 = x3 /\ x4 = x4 /\ ((List.length (x.getD x3.toNat default).2.2.2.2.1) : Int) = ((List.length (x.getD x3.toNat
 default).2.2.2.2.1) : Int) /\ IntKind.wrap .i64 (x5 + (1 : Int)) = x6 /\ x = x /\ x1 = x1 /\ x2 = x2 /\ List.set (x.getD x3.toNat default).2.2.2.2.1 x5.toNat (List.getD (x.getD x3.toNat default).2.2.2.2.1 x5.toNat default) = (x.getD x3.toNat default).2.2.2.2.1 /\ True) ((∃ (j : Int) (t : List Rt), (0 <= j /\ j <= (x2.length : Int) /\ t = routesK (x, x1, x2) x3 x4 j) /\ x3 = x3 /\ x4 = x4 /\ x2 = x2 /\ (x2.length : Int) = (x2.length : Int) /\ (0 : Int) = j /\ x = x /\ x1 = x1 /\ x2 = x2 /\ (x.getD x3.toNat default).2.2.2.2.1 = t /\ True) /\ ∀ (j : Int) (t : List Rt), 0 <= j /\ j <= (x2.length : Int) /\ t = routesK (x, x1, x2) x3 x4 j -> ifP (decide (j < (x2.length : Int))) (0 <= j /\ j < (x2.length : Int) /\ ∀ (b : Bool), b = decide ((x2.getD j.toNat default).2.1 = x3) -> (b -> (b -> b) /\ True) /\ (b -> (b -> b) /\ (b -> b) /\ True) /\ (b -> b) /\ ifP (bif b then decide ((x2.getD j.toNat
 default).1 <= x4) else false) (sortedR t /\ okL t /\ ((List.length (x2.getD j.toNat default).2.2.2.2.1) : Int) <= 1099511627776 /\ ∃ (j_1 : Int) (t_1 : List Rt), (0 <= j_1 /\ j_1 <= (x2.length : Int) /\ t_1 = routesK (x, x1, x2) x3 x4 j_1) /\ Int.toNat ((x2.length : Int) - j_1) < Int.toNat ((x2.length : Int) - j) /\ x3 = x3 /\ x4 = x4 /\ x2 = x2 /\ (x2.length : Int) = (x2.length : Int) /\ IntKind.wrap .i64 (j + (1 : Int)) = j_1 /\ x = x /\ x1 = x1 /\ x2 = x2 /\ chV t (x2.getD j.toNat default) = t_1 /\ True) (∃ (j_1 : Int) (t_1 : List Rt), (0 <= j_1 /\ j_1 <= (x2.length : Int) /\ t_1 = routesK (x, x1, x2) x3 x4 j_1) /\ Int.toNat ((x2.length : Int) - j_1) < Int.toNat ((x2.length : Int) - j) /\ x3 = x3 /\ x4 = x4 /\ x2 = x2 /\ (x2.length : Int) = (x2.length : Int) /\ IntKind.wrap .i64 (j + (1 : Int)) = j_1 /\ x = x /\ x1 = x1 /\ x2 = x2 /\ t = t_1 /\ True)) (t = routesV (x, x1, x2) x3 x4)))
 := by
  rintro ns ls hs who at' ⟨⟨⟨hnl, -⟩, -, ⟨hhl, -⟩⟩, -⟩ ok
  simp only [maxLen] at hnl hhl
  rw [w64 (n := (ns.length : Int) - 1) (by omega) (by omega)]
  refine ifP_split (fun h => ?_) (fun h => ?_)
  · have h := nd_t h
    unfold routesV
    rw [if_pos (by show who < 0 ∨ (ns.length : Int) ≤ who; omega)]
  have h := nd_f h
  have hm := getD_mem (xs := ns) h.1 (by omega)
  have hr := ok.t _ hm
  have eR : (ns.getD who.toNat default).2.2.2.2.1 = nRoutes (ns.getD who.toNat default) := rfl
  rw [eR]
  have r1 := hr.2.1
  refine ⟨h.1, by omega, by omega, ⟨0, ⟨by omega, by omega⟩, (by repeat' first | exact trivial | refine ⟨trivial, ?_⟩ | refine ⟨(by with_reducible rfl), ?_⟩ | refine ⟨w64 (by omega) (by omega), ?_⟩ | refine ⟨rfl, ?_⟩)⟩, ?_⟩
  rintro j ⟨j0, j1⟩
  refine ifP_split (fun hj => ?_) (fun hj => ?_)
  · have hj := of_decide_eq_true hj
    refine ⟨j0, hj, hr.2.2 _ (getD_mem j0 hj), j0, hj, j + 1, ⟨by omega, by omega⟩, by omega, ?_⟩
    (repeat first | refine ⟨trivial, ?_⟩ | refine ⟨(by with_reducible rfl), ?_⟩ | refine ⟨w64 (by omega) (by omega), ?_⟩)
    exact ⟨set_getD j0 hj, trivial⟩
  refine ⟨⟨0, _, ⟨by omega, by omega, rfl⟩, (by repeat' first | exact trivial | refine ⟨trivial, ?_⟩ | refine ⟨(by with_reducible rfl), ?_⟩ | refine ⟨w64 (by omega) (by omega), ?_⟩ | refine ⟨rfl, ?_⟩)⟩, ?_⟩
  clear hj j0 j1
  rintro j t ⟨j0, j1, rfl⟩
  have hok := routesK_ok ok (at' := at') h.1 (by show who < (ns.length : Int); omega) j.toNat (by show j.toNat ≤ hs.length; omega)
  rw [show ((j.toNat : Nat) : Int) = j by omega] at hok
  have hc := ok.c
  refine ifP_split (fun hj => ?_) (fun hj => ?_)
  · have hj := of_decide_eq_true hj
    have st := routesK_next (n := (ns, ls, hs)) (who := who) (at' := at') j0 hj
    refine ⟨j0, hj, ?_⟩
    (repeat (intro (b_ : Bool) (hb_ : b_ = _); (repeat refine ⟨(by first | (simp; done) | (rw [hb_]; simp; done) | (rw [hb_]; simp; omega) | (rw [hb_]; simp; intros; omega) | (rw [hb_]; simp +contextual; done)), ?_⟩); subst hb_))
    rw [band_d]
    refine ifP_split (fun q => ?_) (fun q => ?_)
    · have q := of_decide_eq_true q
      refine ⟨hok.s, hok.okL (by dsimp only at hc; omega), ok.s _ (getD_mem j0 hj), j + 1, _, ⟨by omega, by omega, rfl⟩, by omega, ?_⟩
      (repeat first | refine ⟨trivial, ?_⟩ | refine ⟨(by with_reducible rfl), ?_⟩ | refine ⟨w64 (by omega) (by omega), ?_⟩)
      refine ⟨?_, trivial⟩
      rw [st]; exact (if_pos q).symm
    · have q := of_decide_eq_false q
      refine ⟨j + 1, _, ⟨by omega, by omega, rfl⟩, by omega, ?_⟩
      (repeat first | refine ⟨trivial, ?_⟩ | refine ⟨(by with_reducible rfl), ?_⟩ | refine ⟨w64 (by omega) (by omega), ?_⟩)
      refine ⟨?_, trivial⟩
      rw [st]; exact (if_neg q).symm
  · have hj := of_decide_eq_false hj
    unfold routesV
    rw [if_neg (by show ¬ (who < 0 ∨ (ns.length : Int) ≤ who); omega), show j = (hs.length : Int) by omega]
theorem ok_topology_Routes : SpecOK Tryz.prog GL 35 ct_topology_Routes.spec := Ct.okH _ Tryz.func35 (by kernel_rfl) (withSpec_ok (withSpec_ok (withSpec_ok (withSpec_ok noSpecs_ok ok_topology_within) ok_CloneRt) ok_slices_Clone_263e) ok_topology_changed) hmix an_topology_Routes (hideMp (by kernel_rfl) vc_topology_Routes)

def ct_topology_Changed_1 : Ct := ⟨[.agg cChange, .box 3 cI, .box 3 cI], [.val .bool], fun _ => [], fun d => ((between d.2.1 d.2.2.1 d.1, ()), (d.2.1, d.2.2.1, ()))⟩
def an_topology_Changed_1 : PDs ct_topology_Changed_1.ps → Anns := (fun _ => {})
theorem vc_topology_Changed_1 : ∀ (d : Int × Int × Bool × (Int × Int) × List Int × Int) (x x1 : Int), CT.wf cChange d /\ R64 x /\ R64 x1 /\ True -> True -> ∀ (b : Bool), b = decide (x < d.1) -> (b -> (b -> b) /\ True) /\ (b -> (b -> b) /\ (b -> b) /\ True) /\ (b -> b) /\ (bif b then decide (d.1 <= x1) else false) = between x x1 d /\ x = x /\ x1 = x1 := by
  rintro c s t - -
  intro b hb
  (repeat refine ⟨(by first | (simp; done) | (rw [hb]; simp; done) | (rw [hb]; unfold between hAt; exact band_d)), ?_⟩)
  rfl
theorem ok_topology_Changed_1 : SpecOK Tryz.prog GL 118 ct_topology_Changed_1.spec := Ct.okH _ Tryz.func118 (by kernel_rfl) noSpecs_ok hmix an_topology_Changed_1 (hideMp (by kernel_rfl) vc_topology_Changed_1)

def ct_IndexCh : Ct := ⟨[.val (.sl cChange), .fn 118 2, .box 3 cI, .box 3 cI], [.val cI], fun _ => [], fun d => ((idxI (between d.2.2.1 d.2.2.2.1) d.1, ()), (d.2.2.1, d.2.2.2.1, ()))⟩
def an_IndexCh : PDs ct_IndexCh.ps → Anns := (fun d => { loops := (fun n => match n with | 2 => some (fun S => { ι := Int, μ := fun i => (d.1.length - i).toNat, inv := fun i => 0 ≤ i ∧ i ≤ d.1.length ∧ ∀ x ∈ d.1.take i.toNat, between d.2.2.1 d.2.2.2.1 x = false, keep := [0, 1, 6, 7], slots := fun i => [(8, .int .i64 i)], keepN := [1048576, 1048577], names := fun i => [] }) | _ => none) })
theorem vc_IndexCh : ∀ (x : List Change) (x1 x2 : Int), (x.length <= maxLen /\ ∀ (x3 : Change), x3 ∈ x -> CT.wf cChange x3) /\ True /\ R64 x1 /\ R64 x2 /\ True -> True -> (∃ (x3 : Int), (0 <= x3 /\ x3 <= (x.length : Int) /\ ∀ (x4 : Int × Int × Bool × (Int × Int) × List Int × Int), x4 ∈ List.take x3.toNat x -> between x1 x2 x4 = false) /\ x = x /\ x = x /\ (x.length : Int) = (x.length : Int) /\ (0 : Int) = x3 /\ x1 = x1 /\ x2 = x2 /\ True) /\ ∀ (x3 : Int), (0 <= x3 /\ x3 <= (x.length : Int) /\ ∀ (x4 : Int × Int × Bool × (Int × Int) × List Int × Int), x4 ∈ List.take x3.toNat x -> between x1 x2 x4 = false) -> ifP (decide (x3 < (x.length : Int))) (0 <= x3 /\ x3 < (x.length : Int) /\ ifP (between x1 x2 (x.getD x3.toNat default)) (x3 = idxI (between x1 x2) x /\ x1 = x1 /\ x2 = x2) (∃ (x4 : Int), (0 <= x4 /\ x4 <= (x.length : Int) /\ ∀ (x5 : Int × Int × Bool × (Int × Int) × List Int × Int), x5 ∈
 List.take x4.toNat x -> between x1 x2 x5 = false) /\ Int.toNat ((x.length : Int) - x4) < Int.toNat ((x.length : Int) - x3) /\ x = x /\ x = x /\ (x.length : Int) = (x.length : Int) /\ IntKind.wrap .i64 (x3 + (1 : Int)) = x4 /\ x1 = x1 /\ x2 = x2 /\ True)) ((-1 : Int) = idxI (between x1 x2) x /\ x1 = x1 /\ x2 = x2) := by
  rintro l s t ⟨⟨hl, -⟩, -⟩ -
  simp only [maxLen] at hl
  refine ⟨⟨0, ⟨by omega, by omega, by simp⟩, (by repeat' first | exact trivial | refine ⟨trivial, ?_⟩ | refine ⟨(by with_reducible rfl), ?_⟩ | refine ⟨w64 (by omega) (by omega), ?_⟩ | refine ⟨rfl, ?_⟩)⟩, ?_⟩
  rintro j ⟨j0, j1, hj⟩
  refine ifP_split (fun hk => ?_) (fun hk => ?_)
  · have hk := of_decide_eq_true hk
    refine ⟨j0, hk, ifP_split (fun hm => ?_) (fun hm => ?_)⟩
    · exact ⟨findI_at j0 hk hj hm, rfl, rfl⟩
    · exact ⟨j + 1, ⟨by omega, by omega, all_next j0 hk hj hm⟩, by omega, (by repeat' first | exact trivial | refine ⟨trivial, ?_⟩ | refine ⟨(by with_reducible rfl), ?_⟩ | refine ⟨w64 (by omega) (by omega), ?_⟩ | refine ⟨rfl, ?_⟩)⟩
  · exact ⟨findI_none (of_decide_eq_false hk) hj, rfl, rfl⟩
theorem ok_IndexCh : SpecOK Tryz.prog GL 135 ct_IndexCh.spec := Ct.okH _ Tryz.func135 (by kernel_rfl) (withSpec_ok noSpecs_ok ok_topology_Changed_1) hmix an_IndexCh (hideMp (by kernel_rfl) vc_IndexCh)

def ct_ContainsCh : Ct := ⟨[.val (.sl cChange), .fn 118 2, .box 3 cI, .box 3 cI], [.val .bool], fun _ => [], fun d => ((d.1.any (between d.2.2.1 d.2.2.2.1), ()), (d.2.2.1, d.2.2.2.1, ()))⟩
def an_ContainsCh : PDs ct_ContainsCh.ps → Anns := (fun _ => {})
theorem vc_ContainsCh : ∀ (x : List Change) (x1 x2 : Int), (x.length <= maxLen /\ ∀ (x3 : Change), x3 ∈ x -> CT.wf cChange x3) /\ True /\ R64 x1 /\ R64 x2 /\ True -> True -> decide (0 <= idxI (between x1 x2) x) = List.any x (between x1 x2) /\ x1 = x1 /\ x2 = x2 := by
  rintro l s t - -
  exact ⟨idxI_any, rfl, rfl⟩
theorem ok_ContainsCh : SpecOK Tryz.prog GL 117 ct_ContainsCh.spec := Ct.okH _ Tryz.func117 (by kernel_rfl) (withSpec_ok noSpecs_ok ok_IndexCh) hmix an_ContainsCh (hideMp (by kernel_rfl) vc_ContainsCh)

def ct_topology_Changed : Ct := ⟨[.agg cNet, .val cI, .val cI], [.val .bool], fun _ => [], fun d => ((d.1.2.2.any (between d.2.1 d.2.2.1), ()), ())⟩
def an_topology_Changed : PDs ct_topology_Changed.ps → Anns := (fun _ => {})
theorem vc_topology_Changed : ∀ (x : List Node) (x1 : List Link) (x2 : List Change) (x3 x4 : Int), ((x.length <= maxLen /\ ∀ (x5 : Node), x5 ∈ x -> CT.wf cNode x5) /\ (x1.length <= maxLen /\ ∀ (x : Link), x ∈ x1 -> CT.wf cLink x) /\ x2.length <= maxLen /\ ∀ (x : Change), x ∈ x2 -> CT.wf cChange x) /\ R64 x3 /\ R64 x4 /\ True -> True -> List.any x2 (between x3 x4) = List.any x2 (between x3 x4) := by
  rintro ns ls hs s t - -
  rfl
theorem ok_topology_Changed : SpecOK Tryz.prog GL 89 ct_topology_Changed.spec := Ct.okH _ Tryz.func89 (by kernel_rfl) (withSpec_ok noSpecs_ok ok_ContainsCh) hmix an_topology_Changed (hideMp (by kernel_rfl) vc_topology_Changed)
end Go.RS


/- Truth1: who has an address; the way of a packet. -/
namespace Go.RS
open Go.SX Go.Proofs
set_option maxRecDepth 100000
set_option linter.unusedVariables false

abbrev cWay : CT := .pair (.sl cI) (.pair (.sl cI) cI)
abbrev Way : Type := List Int × List Int × Int
def sameV (n : Net) (a b : Int) : Bool := findB n a && findB n b && decide (findV n a = findV n b)
def joinsL (i k : Int) (l : Link) : Bool := (decide (lA l = i) && decide (lB l = k)) || (decide (lA l = k) && decide (lB l = i))
def joinedV (n : Net) (a b : Int) : Bool := findB n a && findB n b && n.2.1.any (joinsL (findV n a) (findV n b))
def ownerV (n : Net) (a : Int) : Int := if findB n a = true then nOwner (n.1.getD (findV n a).toNat default) else 0
theorem find_in (n : Net) (a : Int) (h : findB n a = true) : 0 ≤ findV n a ∧ findV n a < n.1.length := by
  unfold findB at h
  have h := of_decide_eq_true h
  unfold findV
  rw [if_pos h]; omega
def ct_truth_Same : Ct := ⟨[.agg cNet, .val cU32, .val cU32], [.val .bool], fun _ => [], fun d => ((sameV d.1 d.2.1 d.2.2.1, ()), ())⟩
def an_truth_Same : PDs ct_truth_Same.ps → Anns := (fun _ => {})
theorem vc_truth_Same : ∀ (x : List Node) (x1 : List Link) (x2 : List Change) (x3 x4 : Int), ((x.length <= maxLen /\ ∀ (x5 : Node), x5 ∈ x -> CT.wf cNode x5) /\ (x1.length <= maxLen /\ ∀ (x : Link), x ∈ x1 -> CT.wf cLink x) /\ x2.length <= maxLen /\ ∀ (x : Change), x ∈ x2 -> CT.wf cChange x) /\ (0 <= x3 /\ x3 <= 4294967295) /\ (0 <= x4 /\ x4 <= 4294967295) /\ True -> True -> ∀ (b : Bool), b = findB (x, x1, x2) x3 -> (b -> b) /\ ∀ (b1 : Bool), (b1 = bif b then findB (x, x1, x2) x4 else false) -> (b1 -> (b1 -> b1) /\ (b1 -> b1) /\ True) /\ (b1 -> b1) /\ (bif b1 then decide (findV (x, x1, x2) x3 = findV (x, x1, x2) x4) else false) = sameV (x, x1, x2) x3 x4 := by
  rintro ns ls hs a b - -
  intro b1 hb1
  (repeat refine ⟨fun h_ => (by first | (simp; done) | (simp [h_]; done) | (simp_all; done)), ?_⟩)
  intro b2 hb2
  (repeat refine ⟨fun h_ => (by first | (simp; done) | (simp [h_]; done) | (simp_all; done)), ?_⟩)
  rw [hb2, hb1]
  unfold sameV
  cases findB (ns, ls, hs) a <;> cases findB (ns, ls, hs) b <;> rfl
theorem ok_truth_Same : SpecOK Tryz.prog GL 19 ct_truth_Same.spec := Ct.okH _ Tryz.func19 (by kernel_rfl) (withSpec_ok noSpecs_ok ok_topology_Find) hmix an_truth_Same (hideMp (by kernel_rfl) vc_truth_Same)

def ct_truth_Joined_1 : Ct := ⟨[.agg cLink, .box 3 cI, .box 3 cI], [.val .bool], fun _ => [], fun d => ((joinsL d.2.1 d.2.2.1 d.1, ()), (d.2.1, d.2.2.1, ()))⟩
def an_truth_Joined_1 : PDs ct_truth_Joined_1.ps → Anns := (fun _ => {})
theorem vc_truth_Joined_1 : ∀ (x x1 x2 x3 x4 x5 x6 x7 : Int), (R64 x /\ R64 x1 /\ R64 x2 /\ R64 x3 /\ R64 x4 /\ R64 x5) /\ R64 x6 /\ R64 x7 /\ True -> True -> ∀ (b : Bool), b = decide (x = x6) -> (b -> (b -> b) /\ True) /\ (b -> (b -> b) /\ (b -> b) /\ True) /\ (b -> b) /\ ∀ (b1 : Bool), (b1 = bif b then decide (x1 = x7) else false) -> ((!b1) -> ((!b1) -> (!b1)) /\ True) /\ ((!b1) -> ((!b1) -> (!b1)) /\ ((!b1) -> (!b1)) /\ True) /\ ((!b1) -> ((!b1) -> (!b1)) /\ True) /\ ∀ (b : Bool), b = decide (x = x7) -> ((!b1 && b) -> ((!b1 && b) -> (!b1 && b)) /\ True) /\ ((!b1 && b) -> ((!b1 && b) -> (!b1 && b)) /\ ((!b1 && b) -> (!b1 && b)) /\ True) /\ ((!b1) -> ((!b1) -> (!b1)) /\ (b -> (!b1 && b)) /\ True) /\ (b1 = false -> (!b1)) /\ (bif b1 then true else bif b then decide (x1 = x6) else false) = joinsL x6 x7 (x, x1, x2, x3, x4, x5) /\ x6 = x6 /\ x7 = x7 := by
  rintro a b c e f g i k - -
  intro b1 hb1
  (repeat refine ⟨fun h_ => (by first | (simp; done) | (simp [h_]; done) | (simp_all; done)), ?_⟩)
  intro b2 hb2
  (repeat refine ⟨fun h_ => (by first | (simp; done) | (simp [h_]; done) | (simp_all; done)), ?_⟩)
  intro b3 hb3
  (repeat refine ⟨fun h_ => (by first | (simp; done) | (simp [h_]; done) | (simp_all; done)), ?_⟩)
  refine ⟨?_, rfl, rfl⟩
  rw [hb3, hb2, hb1]
  unfold joinsL lA lB
  dsimp only
  cases decide (a = i) <;> cases decide (b = k) <;> cases decide (a = k) <;> cases decide (b = i) <;> rfl
theorem ok_truth_Joined_1 : SpecOK Tryz.prog GL 51 ct_truth_Joined_1.spec := Ct.okH _ Tryz.func51 (by kernel_rfl) noSpecs_ok hmix an_truth_Joined_1 (hideMp (by kernel_rfl) vc_truth_Joined_1)

def ct_IndexJoin : Ct := ⟨[.val (.sl cLink), .fn 51 2, .box 3 cI, .box 3 cI], [.val cI], fun _ => [], fun d => ((idxI (joinsL d.2.2.1 d.2.2.2.1) d.1, ()), (d.2.2.1, d.2.2.2.1, ()))⟩
def an_IndexJoin : PDs ct_IndexJoin.ps → Anns := (fun d => { loops := (fun n => match n with | 2 => some (fun S => { ι := Int, μ := fun i => (d.1.length - i).toNat, inv := fun i => 0 ≤ i ∧ i ≤ d.1.length ∧ ∀ x ∈ d.1.take i.toNat, joinsL d.2.2.1 d.2.2.2.1 x = false, keep := [0, 1, 6, 7], slots := fun i => [(8, .int .i64 i)], keepN := [1048576, 1048577], names := fun i => [] }) | _ => none) })
theorem vc_IndexJoin : ∀ (x : List Link) (x1 x2 : Int), (x.length <= maxLen /\ ∀ (x3 : Link), x3 ∈ x -> CT.wf cLink x3) /\ True /\ R64 x1 /\ R64 x2 /\ True -> True -> (∃ (x3 : Int), (0 <= x3 /\ x3 <= (x.length : Int) /\ ∀ (x4 : Int × Int × Int × Int × Int × Int), x4 ∈ List.take x3.toNat x -> joinsL x1 x2 x4 = false) /\ x = x /\ x = x /\ (x.length : Int) = (x.length : Int) /\ (0 : Int) = x3 /\ x1 = x1 /\ x2 = x2 /\ True) /\ ∀ (x3 : Int), (0 <= x3 /\ x3 <= (x.length : Int) /\ ∀ (x4 : Int × Int × Int × Int × Int × Int), x4 ∈ List.take x3.toNat x -> joinsL x1 x2 x4 = false) -> ifP (decide (x3 < (x.length : Int))) (0 <= x3 /\ x3 < (x.length : Int) /\ ifP (joinsL x1 x2 (x.getD x3.toNat default)) (x3 = idxI (joinsL x1 x2) x /\ x1 = x1 /\ x2 = x2) (∃ (x4 : Int), (0 <= x4 /\ x4 <= (x.length : Int) /\ ∀ (x5 : Int × Int × Int × Int × Int × Int), x5 ∈ List.take x4.toNat x -> joinsL x1 x2 x5 = false)
 /\ Int.toNat ((x.length : Int) - x4) < Int.toNat ((x.length : Int) - x3) /\ x = x /\ x = x /\ (x.length : Int) = (x.length : Int) /\ IntKind.wrap .i64 (x3 + (1 : Int)) = x4 /\ x1 = x1 /\ x2 = x2 /\ True)) ((-1 : Int) = idxI (joinsL x1 x2) x /\ x1 = x1 /\ x2 = x2) := by
  rintro l s t ⟨⟨hl, -⟩, -⟩ -
  simp only [maxLen] at hl
  refine ⟨⟨0, ⟨by omega, by omega, by simp⟩, (by repeat' first | exact trivial | refine ⟨trivial, ?_⟩ | refine ⟨(by with_reducible rfl), ?_⟩ | refine ⟨w64 (by omega) (by omega), ?_⟩ | refine ⟨rfl, ?_⟩)⟩, ?_⟩
  rintro j ⟨j0, j1, hj⟩
  refine ifP_split (fun hk => ?_) (fun hk => ?_)
  · have hk := of_decide_eq_true hk
    refine ⟨j0, hk, ifP_split (fun hm => ?_) (fun hm => ?_)⟩
    · exact ⟨findI_at j0 hk hj hm, rfl, rfl⟩
    · exact ⟨j + 1, ⟨by omega, by omega, all_next j0 hk hj hm⟩, by omega, (by repeat' first | exact trivial | refine ⟨trivial, ?_⟩ | refine ⟨(by with_reducible rfl), ?_⟩ | refine ⟨w64 (by omega) (by omega), ?_⟩ | refine ⟨rfl, ?_⟩)⟩
  · exact ⟨findI_none (of_decide_eq_false hk) hj, rfl, rfl⟩
theorem ok_IndexJoin : SpecOK Tryz.prog GL 88 ct_IndexJoin.spec := Ct.okH _ Tryz.func88 (by kernel_rfl) (withSpec_ok noSpecs_ok ok_truth_Joined_1) hmix an_IndexJoin (hideMp (by kernel_rfl) vc_IndexJoin)

def ct_ContainsJoin : Ct := ⟨[.val (.sl cLink), .fn 51 2, .box 3 cI, .box 3 cI], [.val .bool], fun _ => [], fun d => ((d.1.any (joinsL d.2.2.1 d.2.2.2.1), ()), (d.2.2.1, d.2.2.2.1, ()))⟩
def an_ContainsJoin : PDs ct_ContainsJoin.ps → Anns := (fun _ => {})
theorem vc_ContainsJoin : ∀ (x : List Link) (x1 x2 : Int), (x.length <= maxLen /\ ∀ (x3 : Link), x3 ∈ x -> CT.wf cLink x3) /\ True /\ R64 x1 /\ R64 x2 /\ True -> True -> decide (0 <= idxI (joinsL x1 x2) x) = List.any x (joinsL x1 x2) /\ x1 = x1 /\ x2 = x2 := by
  rintro l s t - -
  exact ⟨idxI_any, rfl, rfl⟩
theorem ok_ContainsJoin : SpecOK Tryz.prog GL 50 ct_ContainsJoin.spec := Ct.okH _ Tryz.func50 (by kernel_rfl) (withSpec_ok noSpecs_ok ok_IndexJoin) hmix an_ContainsJoin (hideMp (by kernel_rfl) vc_ContainsJoin)

def ct_truth_Joined : Ct := ⟨[.agg cNet, .val cU32, .val cU32], [.val .bool], fun _ => [], fun d => ((joinedV d.1 d.2.1 d.2.2.1, ()), ())⟩
def an_truth_Joined : PDs ct_truth_Joined.ps → Anns := (fun _ => {})
theorem vc_truth_Joined : ∀ (x : List Node) (x1 : List Link) (x2 : List Change) (x3 x4 : Int), ((x.length <= maxLen /\ ∀ (x5 : Node), x5 ∈ x -> CT.wf cNode x5) /\ (x1.length <= maxLen /\ ∀ (x : Link), x ∈ x1 -> CT.wf cLink x) /\ x2.length <= maxLen /\ ∀ (x : Change), x ∈ x2 -> CT.wf cChange x) /\ (0 <= x3 /\ x3 <= 4294967295) /\ (0 <= x4 /\ x4 <= 4294967295) /\ True -> True -> ∀ (b : Bool), b = findB (x, x1, x2) x3 -> (b -> b) /\ ∀ (b1 : Bool), (b1 = bif b then findB (x, x1, x2) x4 else false) -> (b1 -> (b1 -> b1) /\ True) /\ ifP b1 ((b1 -> b1) /\ (b1 -> b1) /\ (bif b1 then List.any x1 (joinsL (findV (x, x1, x2) x3) (findV (x, x1, x2) x4)) else false) = joinedV (x, x1, x2) x3 x4) ((b1 -> false = true) /\ (bif b1 then false else false) = joinedV (x, x1, x2) x3 x4) := by
  rintro ns ls hs a b - -
  intro b1 hb1
  (repeat refine ⟨fun h_ => (by first | (simp; done) | (simp [h_]; done) | (simp_all; done)), ?_⟩)
  intro b2 hb2
  (repeat refine ⟨fun h_ => (by first | (simp; done) | (simp [h_]; done) | (simp_all; done)), ?_⟩)
  have e : joinedV (ns, ls, hs) a b = (b2 && ls.any (joinsL (findV (ns, ls, hs) a) (findV (ns, ls, hs) b))) := by
    rw [hb2, hb1]; unfold joinedV; cases findB (ns, ls, hs) a <;> rfl
  rw [e]
  refine ifP_split (fun h => ?_) (fun h => ?_)
  · (repeat refine ⟨fun h_ => (by first | (simp; done) | (simp [h_]; done) | (simp_all; done)), ?_⟩)
    rw [h]; rfl
  · refine ⟨by simp [h], ?_⟩
    rw [h]; rfl
theorem ok_truth_Joined : SpecOK Tryz.prog GL 21 ct_truth_Joined.spec := Ct.okH _ Tryz.func21 (by kernel_rfl) (withSpec_ok (withSpec_ok noSpecs_ok ok_topology_Find) ok_ContainsJoin) hmix an_truth_Joined (hideMp (by kernel_rfl) vc_truth_Joined)

def ct_truth_Owner : Ct := ⟨[.agg cNet, .val cU32], [.val cI, .val .bool], fun _ => [], fun d => ((ownerV d.1 d.2.1, findB d.1 d.2.1, ()), ())⟩
def an_truth_Owner : PDs ct_truth_Owner.ps → Anns := (fun _ => {})
theorem vc_truth_Owner : ∀ (x : List Node) (x1 : List Link) (x2 : List Change) (x3 : Int), ((x.length <= maxLen /\ ∀ (x4 : Node), x4 ∈ x -> CT.wf cNode x4) /\ (x1.length <= maxLen /\ ∀ (x : Link), x ∈ x1 -> CT.wf cLink x) /\ x2.length <= maxLen /\ ∀ (x : Change), x ∈ x2 -> CT.wf cChange x) /\ (0 <= x3 /\ x3 <= 4294967295) /\ True -> True -> ifP (!findB (x, x1, x2) x3) ((0 : Int) = ownerV (x, x1, x2) x3 /\ false = findB (x, x1, x2) x3) (0 <= findV (x, x1, x2) x3 /\ findV (x, x1, x2) x3 < (x.length : Int) /\ (x.getD (Int.toNat (findV (x, x1, x2) x3)) default).2.2.1 = ownerV (x, x1, x2) x3 /\ true = findB (x, x1, x2) x3) := by
  rintro ns ls hs a - -
  unfold ownerV
  refine ifP_split (fun h => ?_) (fun h => ?_)
  · have h : findB (ns, ls, hs) a = false := by simpa using h
    rw [h]; exact ⟨rfl, rfl⟩
  · have h : findB (ns, ls, hs) a = true := by simpa using h
    have k := find_in _ _ h
    rw [if_pos h, h]
    exact ⟨k.1, k.2, rfl, rfl⟩
theorem ok_truth_Owner : SpecOK Tryz.prog GL 23 ct_truth_Owner.spec := Ct.okH _ Tryz.func23 (by kernel_rfl) (withSpec_ok noSpecs_ok ok_topology_Find) hmix an_truth_Owner (hideMp (by kernel_rfl) vc_truth_Owner)

def ct_truth_several : Ct := ⟨[.agg cRt], [.val .bool], fun _ => [], fun d => ((decide (1 < (d.1.2.1.length : Int)), ()), ())⟩
def an_truth_several : PDs ct_truth_several.ps → Anns := (fun _ => {})
theorem vc_truth_several : ∀ (x x1 : Int) (x2 : List Int) (x3 : Int), (((0 <= x /\ x <= 4294967295) /\ R64 x1) /\ (x2.length <= maxLen /\ ∀ (x : Int), x ∈ x2 -> R64 x) /\ R64 x3) /\ True -> True -> decide (1 < (x2.length : Int)) = decide (1 < (x2.length : Int)) := by
  rintro a b c e - -
  rfl
theorem ok_truth_several : SpecOK Tryz.prog GL 37 ct_truth_several.spec := Ct.okH _ Tryz.func37 (by kernel_rfl) noSpecs_ok hmix an_truth_several (hideMp (by kernel_rfl) vc_truth_several)
def lastI (l : List Int) : Int := l.getD (l.length - 1) default
def pickV (r : Rt) (seed : Int) (k : Key) : Int := if 1 < r.2.1.length then (choose r.2.2 seed k 0 r.2.1.length).1 else 0
def stepR1 (n : Net) (k : Key) (here : Int) (x : Node) (r : Rt) (ok : Bool) (w : Way) : Way :=
  if ownsA x k.2.1 = true then (w.1, w.2.1, 1)
  else if nHost x = true ∧ 0 < w.2.1.length then (w.1, w.2.1, 5)
  else if ok = false ∨ r.2.1.length = 0 then (w.1, w.2.1, 2)
  else if 1 < r.2.1.length ∧ r.2.2 = 3 then (w.1, w.2.1, 4)
  else if 255 ≤ w.2.1.length then (w.1, w.2.1, 3)
  else (w.1 ++ [otherV n.2.1 (r.2.1.getD (pickV r (nSeed x) k).toNat default) here], w.2.1 ++ [r.2.1.getD (pickV r (nSeed x) k).toNat default], 0)
def stepW (n : Net) (at' : Int) (k : Key) (w : Way) : Way :=
  stepR1 n k (lastI w.1) (n.1.getD (lastI w.1).toNat default) (lookR (routesV n (lastI w.1) at') k.2.1) (lookB (routesV n (lastI w.1) at') k.2.1) w
def runW (n : Net) (at' : Int) (k : Key) : Nat → Way → Way
  | 0, w => w
  | f + 1, w => if w.2.2 = 0 then runW n at' k f (stepW n at' k w) else w
def traceV (n : Net) (at' who : Int) (k : Key) : Way := runW n at' k 257 ([who], [], 0)
structure WN (n : Net) : Prop where
  o : okNet n
  x : ∀ who at' : Int, 0 ≤ who → who < n.1.length → ∀ r ∈ routesV n who at', ∀ k ∈ r.2.1, 0 ≤ otherV n.2.1 k who ∧ otherV n.2.1 k who < n.1.length
structure TI (n : Net) (at' who : Int) (k : Key) (w : Way) : Prop where
  l : w.1.length = w.2.1.length + 1
  m : w.2.1.length ≤ 255
  r : ∀ x ∈ w.1, 0 ≤ x ∧ x < n.1.length
  e : runW n at' k (257 - w.2.1.length) w = traceV n at' who k
theorem runW_end {n : Net} {at' : Int} {k : Key} {w : Way} (h : w.2.2 ≠ 0) : ∀ f, runW n at' k f w = w
  | 0 => rfl
  | f + 1 => by rw [runW, if_neg h]
theorem TI.done {n : Net} {at' who : Int} {k : Key} {w : Way} (h : TI n at' who k w) (he : w.2.2 ≠ 0) : w = traceV n at' who k := by
  rw [← h.e, runW_end he]
theorem TI.start {n : Net} {at' who : Int} {k : Key} (w0 : 0 ≤ who) (w1 : who < n.1.length) : TI n at' who k ([who], [], 0) :=
  ⟨rfl, Nat.zero_le _, fun x hx => by rw [List.mem_singleton.1 hx]; exact ⟨w0, w1⟩, rfl⟩
theorem TI.stop {n : Net} {at' who : Int} {k : Key} {ns ls : List Int} (h : TI n at' who k (ns, ls, 0)) {e : Int} (he : e ≠ 0) (hs : stepW n at' k (ns, ls, 0) = (ns, ls, e)) : TI n at' who k (ns, ls, e) := by
  refine ⟨h.l, h.m, h.r, ?_⟩
  have hm := h.m
  have k1 := h.e
  dsimp only at k1 hm ⊢
  rw [show 257 - ls.length = (256 - ls.length) + 1 by omega, runW, if_pos rfl, hs, runW_end he] at k1
  rw [runW_end he]; exact k1
theorem TI.go {n : Net} {at' who : Int} {k : Key} {ns ls : List Int} (h : TI n at' who k (ns, ls, 0)) (hl : ls.length < 255) {o l : Int} (ho : 0 ≤ o ∧ o < n.1.length) (hs : stepW n at' k (ns, ls, 0) = (ns ++ [o], ls ++ [l], 0)) : TI n at' who k (ns ++ [o], ls ++ [l], 0) := by
  have hll := h.l
  have k1 := h.e
  dsimp only at k1 hll
  refine ⟨by dsimp only; rw [List.length_append, List.length_append, hll]; rfl, by dsimp only; rw [List.length_append, List.length_singleton]; omega, fun x hx => ?_, ?_⟩
  · rcases List.mem_append.1 hx with hx | hx
    · exact h.r x hx
    · rw [List.mem_singleton.1 hx]; exact ho
  · dsimp only
    rw [show 257 - ls.length = (256 - ls.length) + 1 by omega, runW, if_pos rfl, hs] at k1
    rw [List.length_append, List.length_singleton, show 257 - (ls.length + 1) = 256 - ls.length by omega]; exact k1
theorem lastI_eq {ns : List Int} : ns.getD ((ns.length : Int) - 1).toNat default = lastI ns := by
  unfold lastI; rw [show ((ns.length : Int) - 1).toNat = ns.length - 1 by omega]
theorem lastI_mem {ns : List Int} (h : 0 < ns.length) : lastI ns ∈ ns := by
  unfold lastI; exact getD_memN (by omega)
theorem choose_range {way seed c n : Int} {k : Key} (hn : 1 ≤ n) (hc : 0 ≤ c) : 0 ≤ (choose way seed k c n).1 ∧ (choose way seed k c n).1 < n := by
  have hr : ∀ k, 0 ≤ (hash seed k).tmod n ∧ (hash seed k).tmod n < n := fun k => ⟨tmod_lo (hash_range _ _).1, tmod_hi (hash_range _ _).1 (by omega)⟩
  unfold choose
  split
  · exact ⟨Int.le_refl _, by dsimp only; omega⟩
  · dsimp only
    split
    · exact hr _
    · split
      · exact hr _
      · exact ⟨tmod_lo hc, tmod_hi hc (by omega)⟩
theorem pick_range {r : Rt} {seed : Int} {k : Key} (h : 0 < r.2.1.length) : 0 ≤ pickV r seed k ∧ pickV r seed k < r.2.1.length := by
  unfold pickV
  split
  · exact choose_range (by omega) (by omega)
  · omega
theorem look_mem {l : List Rt} {a : Int} (h : lookB l a = true) : lookR l a ∈ l := by
  rw [lookB_iff] at h
  exact (lookR_is (of_decide_eq_true h)).1
def ct_truth_Trace : Ct := ⟨[.agg cNet, .val cI, .val cI, .agg cKey], [.agg cWay], fun d => [WN d.1, 0 ≤ d.2.2.1, d.2.2.1 < d.1.1.length], fun d => ((traceV d.1 d.2.1 d.2.2.1 d.2.2.2.1, ()), ())⟩
def an_truth_Trace : PDs ct_truth_Trace.ps → Anns := (fun d => { loops := (fun n => match n with | 2 => some (fun S => { ι := (List Int) × (List Int) × Int, qn := ⟨fun k_ => ∀ (ns : (List Int)) (ls : (List Int)) (e : Int), k_ (ns, ls, e), fun k_ h_ i => h_ i.1 i.2.1 i.2.2, fun k_ => ∃ (ns : (List Int)) (ls : (List Int)) (e : Int), k_ (ns, ls, e), fun k_ ⟨ns, ls, e, h_⟩ => ⟨_, h_⟩⟩, μ := fun i => 2 * (255 - i.2.1.length) + (if i.2.2 = 0 then 1 else 0), inv := fun i => TI d.1 d.2.1 d.2.2.1 d.2.2.2.1 (i.1, i.2.1, i.2.2), keep := [1, 4, 7, 8, 9], slots := fun i => [], keepN := [80, 128, 144], names := fun i => [(160, .live (.cells 41 [.own 524288 1, .own 524289 1, .int .i64 i.2.2])), (524288, .live (.row 3 cI i.1)), (524289, .live (.row 3 cI i.2.1))] }) | _ => none) })
theorem vc_truth_Trace : ∀ (x : List Node) (x1 : List Link) (x2 : List Change) (x3 x4 x5 x6 x7 x8 x9 : Int), ((x.length <= maxLen /\ ∀ (x10 : Node), x10 ∈ x -> CT.wf cNode x10) /\ (x1.length <= maxLen /\ ∀ (x : Link), x ∈ x1 -> CT.wf cLink x) /\ x2.length <= maxLen /\ ∀ (x : Change), x ∈ x2 -> CT.wf cChange x) /\ R64 x3 /\ R64 x4 /\ ((0 <= x5 /\ x5 <= 4294967295) /\ (0 <= x6 /\ x6 <= 4294967295) /\ R64 x7 /\ R64 x8 /\ R64 x9) /\ True -> WN (x, x1, x2) /\ 0 <= x4 /\ x4 + 1 <= (x.length : Int) -> (∃ (ns : List Int) (ls : List Int), ∃ (e : Int), TI (x, x1, x2) x3 x4 (x5, x6, x7, x8, x9) (ns, ls, e) /\ x3 = x3 /\ x = x /\ x1 = x1 /\ x2 = x2 /\ x5 = x5 /\ x6 = x6 /\ x7 = x7 /\ x8 = x8 /\ x9 = x9 /\ (0 : Int) = 0 /\ (0 : Int) = e /\ [x4] = ns /\ ls = ([] : List Int) /\ True) /\ ∀ (ns ls : List Int) (e : Int), TI (x, x1, x2) x3 x4 (x5, x6, x7, x8, x9) (ns, ls, e) -> ifP (decide (e = 0)) (0 <=
 IntKind.wrap .i64 ((ns.length : Int) - (1 : Int)) /\ IntKind.wrap .i64 ((ns.length : Int) - (1 : Int)) < (ns.length : Int) /\ 0 <= ns.getD (Int.toNat (IntKind.wrap .i64 ((ns.length : Int) - (1 : Int)))) default /\ ns.getD (Int.toNat (IntKind.wrap .i64 ((ns.length : Int) - (1 : Int)))) default < (x.length : Int) /\ okNet (x, x1, x2) /\ sortedR (routesV (x, x1, x2) (ns.getD (Int.toNat (IntKind.wrap .i64 ((ns.length : Int) - (1 : Int)))) default) x3) /\ okL (routesV (x, x1, x2) (ns.getD (Int.toNat (IntKind.wrap .i64 ((ns.length : Int) - (1 : Int)))) default) x3) /\ ifP (ownsA (x.getD (Int.toNat (ns.getD (Int.toNat (IntKind.wrap .i64 ((ns.length : Int) - (1 : Int)))) default)) default) x6) (∃ (ns1 : List Int) (ls_1 : List Int), ∃ (e_1 : Int), TI (x, x1, x2) x3 x4 (x5, x6, x7, x8, x9) (ns1, ls_1, e_1) /\ (((2 : Nat) * ((255 : Nat) - ls_1.length) + if e_1 = 0 then (1 : Nat) else (0 : Nat)) <
 (2 : Nat) * ((255 : Nat) - ls.length) + if e = 0 then (1 : Nat) else (0 : Nat)) /\ x3 = x3 /\ x = x /\ x1 = x1 /\ x2 = x2 /\ x5 = x5 /\ x6 = x6 /\ x7 = x7 /\ x8 = x8 /\ x9 = x9 /\ (0 : Int) = 0 /\ (1 : Int) = e_1 /\ ns = ns1 /\ ls = ls_1 /\ True) (∀ (b : Bool), b = (x.getD (Int.toNat (ns.getD (Int.toNat (IntKind.wrap .i64 ((ns.length : Int) - (1 : Int)))) default)) default).2.2.2.1 -> (b -> (b -> b) /\ True) /\ (b -> (b -> b) /\ True) /\ (b -> (b -> b) /\ True) /\ (b -> b) /\ ifP (bif b then decide (0 < (ls.length : Int)) else false) (∃ (ns1 : List Int) (ls_1 : List Int), ∃ (e_1 : Int), TI (x, x1, x2) x3 x4 (x5, x6, x7, x8, x9) (ns1, ls_1, e_1) /\ (((2 : Nat) * ((255 : Nat) - ls_1.length) + if e_1 = 0 then (1 : Nat) else (0 : Nat)) < (2 : Nat) * ((255 : Nat) - ls.length) + if e = 0 then (1 : Nat) else (0 : Nat)) /\ x3 = x3 /\ x = x /\ x1 = x1 /\ x2 = x2 /\ x5 = x5 /\ x6 = x6 /\ x7 = x7
 /\ x8 = x8 /\ x9 = x9 /\ (0 : Int) = 0 /\ (5 : Int) = e_1 /\ ns = ns1 /\ ls = ls_1 /\ True) (∀ (b : Bool), b = !lookB (routesV (x, x1, x2) (ns.getD (Int.toNat (IntKind.wrap .i64 ((ns.length : Int) - (1 : Int)))) default) x3) x6 -> ((!b) -> ((!b) -> (!b)) /\ True) /\ ((!b) -> ((!b) -> (!b)) /\ True) /\ ((!b) -> ((!b) -> (!b)) /\ True) /\ (b = false -> (!b)) /\ ifP (bif b then true else decide (((List.length (lookR (routesV (x, x1, x2) (ns.getD (Int.toNat (IntKind.wrap .i64 ((ns.length : Int) - (1 : Int)))) default) x3) x6).2.1) : Int) = 0)) (∃ (ns1 : List Int) (ls_1 : List Int), ∃ (e_1 : Int), TI (x, x1, x2) x3 x4 (x5, x6, x7, x8, x9) (ns1, ls_1, e_1) /\ (((2 : Nat) * ((255 : Nat) - ls_1.length) + if e_1 = 0 then (1 : Nat) else (0 : Nat)) < (2 : Nat) * ((255 : Nat) - ls.length) + if e = 0 then (1 : Nat) else (0 : Nat)) /\ x3 = x3 /\ x = x /\ x1 = x1 /\ x2 = x2 /\ x5 = x5 /\ x6 = x6 /\ x7
 = x7 /\ x8 = x8 /\ x9 = x9 /\ (0 : Int) = 0 /\ (2 : Int) = e_1 /\ ns = ns1 /\ ls = ls_1 /\ True) (∀ (b : Bool), b = decide (1 < ((List.length (lookR (routesV (x, x1, x2) (ns.getD (Int.toNat (IntKind.wrap .i64 ((ns.length : Int) - (1 : Int)))) default) x3) x6).2.1) : Int)) -> (b -> (b -> b) /\ True) /\ (b -> (b -> b) /\ True) /\ (b -> b) /\ ifP (bif b then decide ((lookR (routesV (x, x1, x2) (ns.getD (Int.toNat (IntKind.wrap .i64 ((ns.length : Int) - (1 : Int)))) default) x3) x6).2.2 = 3) else false) (∃ (ns1 : List Int) (ls_1 : List Int), ∃ (e_1 : Int), TI (x, x1, x2) x3 x4 (x5, x6, x7, x8, x9) (ns1, ls_1, e_1) /\ (((2 : Nat) * ((255 : Nat) - ls_1.length) + if e_1 = 0 then (1 : Nat) else (0 : Nat)) < (2 : Nat) * ((255 : Nat) - ls.length) + if e = 0 then (1 : Nat) else (0 : Nat)) /\ x3 = x3 /\ x = x /\ x1 = x1 /\ x2 = x2 /\ x5 = x5 /\ x6 = x6 /\ x7 = x7 /\ x8 = x8 /\ x9 = x9 /\ (0 : Int) =
 0 /\ (4 : Int) = e_1 /\ ns = ns1 /\ ls = ls_1 /\ True) (ifP (decide (255 <= (ls.length : Int))) (∃ (ns1 : List Int) (ls_1 : List Int), ∃ (e_1 : Int), TI (x, x1, x2) x3 x4 (x5, x6, x7, x8, x9) (ns1, ls_1, e_1) /\ (((2 : Nat) * ((255 : Nat) - ls_1.length) + if e_1 = 0 then (1 : Nat) else (0 : Nat)) < (2 : Nat) * ((255 : Nat) - ls.length) + if e = 0 then (1 : Nat) else (0 : Nat)) /\ x3 = x3 /\ x = x /\ x1 = x1 /\ x2 = x2 /\ x5 = x5 /\ x6 = x6 /\ x7 = x7 /\ x8 = x8 /\ x9 = x9 /\ (0 : Int) = 0 /\ (3 : Int) = e_1 /\ ns = ns1 /\ ls = ls_1 /\ True) (ifP (decide (1 < ((List.length (lookR (routesV (x, x1, x2) (ns.getD (Int.toNat (IntKind.wrap .i64 ((ns.length : Int) - (1 : Int)))) default) x3) x6).2.1) : Int))) (0 <= (choose (lookR (routesV (x, x1, x2) (ns.getD (Int.toNat (IntKind.wrap .i64 ((ns.length : Int) - (1 : Int)))) default) x3) x6).2.2 (x.getD (Int.toNat (ns.getD (Int.toNat (IntKind.wrap
 .i64 ((ns.length : Int) - (1 : Int)))) default)) default).2.2.2.2.2.2.2.2.2.2.2.2.2.2 (x5, x6, x7, x8, x9) (0 : Int) ((List.length (lookR (routesV (x, x1, x2) (ns.getD (Int.toNat (IntKind.wrap .i64 ((ns.length : Int) - (1 : Int)))) default) x3) x6).2.1) : Int)).1 /\ (choose (lookR (routesV (x, x1, x2) (ns.getD (Int.toNat (IntKind.wrap .i64 ((ns.length : Int) - (1 : Int)))) default) x3) x6).2.2 (x.getD (Int.toNat (ns.getD (Int.toNat (IntKind.wrap .i64 ((ns.length : Int) - (1 : Int)))) default)) default).2.2.2.2.2.2.2.2.2.2.2.2.2.2 (x5, x6, x7, x8, x9) (0 : Int) ((List.length (lookR (routesV (x, x1, x2) (ns.getD (Int.toNat (IntKind.wrap .i64 ((ns.length : Int) - (1 : Int)))) default) x3) x6).2.1) : Int)).1 < ((List.length (lookR (routesV (x, x1, x2) (ns.getD (Int.toNat (IntKind.wrap .i64 ((ns.length : Int) - (1 : Int)))) default) x3) x6).2.1) : Int) /\ (ls.length + List.length [List.getD
 (lookR (routesV (x, x1, x2) (ns.getD (Int.toNat (IntKind.wrap .i64 ((ns.length : Int) - (1 : Int)))) default) x3) x6).2.1 (Int.toNat (choose (lookR (routesV (x, x1, x2) (ns.getD (Int.toNat (IntKind.wrap .i64 ((ns.length : Int) - (1 : Int)))) default) x3) x6).2.2 (x.getD (Int.toNat (ns.getD (Int.toNat (IntKind.wrap .i64 ((ns.length : Int) - (1 : Int)))) default)) default).2.2.2.2.2.2.2.2.2.2.2.2.2.2 (x5, x6, x7, x8, x9) (0 : Int) ((List.length (lookR (routesV (x, x1, x2) (ns.getD (Int.toNat (IntKind.wrap .i64 ((ns.length : Int) - (1 : Int)))) default) x3) x6).2.1) : Int)).1) default]) * (8 : Nat) <= (140737488355328 : Nat) /\ 0 <= (choose (lookR (routesV (x, x1, x2) (ns.getD (Int.toNat (IntKind.wrap .i64 ((ns.length : Int) - (1 : Int)))) default) x3) x6).2.2 (x.getD (Int.toNat (ns.getD (Int.toNat (IntKind.wrap .i64 ((ns.length : Int) - (1 : Int)))) default))
 default).2.2.2.2.2.2.2.2.2.2.2.2.2.2 (x5, x6, x7, x8, x9) (0 : Int) ((List.length (lookR (routesV (x, x1, x2) (ns.getD (Int.toNat (IntKind.wrap .i64 ((ns.length : Int) - (1 : Int)))) default) x3) x6).2.1) : Int)).1 /\ (choose (lookR (routesV (x, x1, x2) (ns.getD (Int.toNat (IntKind.wrap .i64 ((ns.length : Int) - (1 : Int)))) default) x3) x6).2.2 (x.getD (Int.toNat (ns.getD (Int.toNat (IntKind.wrap .i64 ((ns.length : Int) - (1 : Int)))) default)) default).2.2.2.2.2.2.2.2.2.2.2.2.2.2 (x5, x6, x7, x8, x9) (0 : Int) ((List.length (lookR (routesV (x, x1, x2) (ns.getD (Int.toNat (IntKind.wrap .i64 ((ns.length : Int) - (1 : Int)))) default) x3) x6).2.1) : Int)).1 < ((List.length (lookR (routesV (x, x1, x2) (ns.getD (Int.toNat (IntKind.wrap .i64 ((ns.length : Int) - (1 : Int)))) default) x3) x6).2.1) : Int) /\ (ns.length + List.length [otherV x1 (List.getD (lookR (routesV (x, x1, x2) (ns.getD
 (Int.toNat (IntKind.wrap .i64 ((ns.length : Int) - (1 : Int)))) default) x3) x6).2.1 (Int.toNat (choose (lookR (routesV (x, x1, x2) (ns.getD (Int.toNat (IntKind.wrap .i64 ((ns.length : Int) - (1 : Int)))) default) x3) x6).2.2 (x.getD (Int.toNat (ns.getD (Int.toNat (IntKind.wrap .i64 ((ns.length : Int) - (1 : Int)))) default)) default).2.2.2.2.2.2.2.2.2.2.2.2.2.2 (x5, x6, x7, x8, x9) (0 : Int) ((List.length (lookR (routesV (x, x1, x2) (ns.getD (Int.toNat (IntKind.wrap .i64 ((ns.length : Int) - (1 : Int)))) default) x3) x6).2.1) : Int)).1) default) (ns.getD (Int.toNat (IntKind.wrap .i64 ((ns.length : Int) - (1 : Int)))) default)]) * (8 : Nat) <= (140737488355328 : Nat) /\ ∃ (ns1 : List Int) (ls_1 : List Int), ∃ (e_1 : Int), TI (x, x1, x2) x3 x4 (x5, x6, x7, x8, x9) (ns1, ls_1, e_1) /\ (((2 : Nat) * ((255 : Nat) - ls_1.length) + if e_1 = 0 then (1 : Nat) else (0 : Nat)) < (2 : Nat) * ((255
 : Nat) - ls.length) + if e = 0 then (1 : Nat) else (0 : Nat)) /\ x3 = x3 /\ x = x /\ x1 = x1 /\ x2 = x2 /\ x5 = x5 /\ x6 = x6 /\ x7 = x7 /\ x8 = x8 /\ x9 = x9 /\ (0 : Int) = 0 /\ e = e_1 /\ ns ++ [otherV x1 (List.getD (lookR (routesV (x, x1, x2) (ns.getD (Int.toNat (IntKind.wrap .i64 ((ns.length : Int) - (1 : Int)))) default) x3) x6).2.1 (Int.toNat (choose (lookR (routesV (x, x1, x2) (ns.getD (Int.toNat (IntKind.wrap .i64 ((ns.length : Int) - (1 : Int)))) default) x3) x6).2.2 (x.getD (Int.toNat (ns.getD (Int.toNat (IntKind.wrap .i64 ((ns.length : Int) - (1 : Int)))) default)) default).2.2.2.2.2.2.2.2.2.2.2.2.2.2 (x5, x6, x7, x8, x9) (0 : Int) ((List.length (lookR (routesV (x, x1, x2) (ns.getD (Int.toNat (IntKind.wrap .i64 ((ns.length : Int) - (1 : Int)))) default) x3) x6).2.1) : Int)).1) default) (ns.getD (Int.toNat (IntKind.wrap .i64 ((ns.length : Int) - (1 : Int)))) default)] = ns1 /\
 ls ++ [List.getD (lookR (routesV (x, x1, x2) (ns.getD (Int.toNat (IntKind.wrap .i64 ((ns.length : Int) - (1 : Int)))) default) x3) x6).2.1 (Int.toNat (choose (lookR (routesV (x, x1, x2) (ns.getD (Int.toNat (IntKind.wrap .i64 ((ns.length : Int) - (1 : Int)))) default) x3) x6).2.2 (x.getD (Int.toNat (ns.getD (Int.toNat (IntKind.wrap .i64 ((ns.length : Int) - (1 : Int)))) default)) default).2.2.2.2.2.2.2.2.2.2.2.2.2.2 (x5, x6, x7, x8, x9) (0 : Int) ((List.length (lookR (routesV (x, x1, x2) (ns.getD (Int.toNat (IntKind.wrap .i64 ((ns.length : Int) - (1 : Int)))) default) x3) x6).2.1) : Int)).1) default] = ls_1 /\ True) ((0 : Int) <= 0 /\ 0 < ((List.length (lookR (routesV (x, x1, x2) (ns.getD (Int.toNat (IntKind.wrap .i64 ((ns.length : Int) - (1 : Int)))) default) x3) x6).2.1) : Int) /\ (ls.length + List.length [List.getD (lookR (routesV (x, x1, x2) (ns.getD (Int.toNat (IntKind.wrap .i64
 ((ns.length : Int) - (1 : Int)))) default) x3) x6).2.1 (Int.toNat (0 : Int)) default]) * (8 : Nat) <= (140737488355328 : Nat) /\ (0 : Int) <= 0 /\ 0 < ((List.length (lookR (routesV (x, x1, x2) (ns.getD (Int.toNat (IntKind.wrap .i64 ((ns.length : Int) - (1 : Int)))) default) x3) x6).2.1) : Int) /\ (ns.length + List.length [otherV x1 (List.getD (lookR (routesV (x, x1, x2) (ns.getD (Int.toNat (IntKind.wrap .i64 ((ns.length : Int) - (1 : Int)))) default) x3) x6).2.1 (Int.toNat (0 : Int)) default) (ns.getD (Int.toNat (IntKind.wrap .i64 ((ns.length : Int) - (1 : Int)))) default)]) * (8 : Nat) <= (140737488355328 : Nat) /\ ∃ (ns1 : List Int) (ls_1 : List Int), ∃ (e_1 : Int), TI (x, x1, x2) x3 x4 (x5, x6, x7, x8, x9) (ns1, ls_1, e_1) /\ (((2 : Nat) * ((255 : Nat) - ls_1.length) + if e_1 = 0 then (1 : Nat) else (0 : Nat)) < (2 : Nat) * ((255 : Nat) - ls.length) + if e = 0 then (1 : Nat) else (0 :
 Nat)) /\ x3 = x3 /\ x = x /\ x1 = x1 /\ x2 = x2 /\ x5 = x5 /\ x6 = x6 /\ x7 = x7 /\ x8 = x8 /\ x9 = x9 /\ (0 : Int) = 0 /\ e = e_1 /\ ns ++ [otherV x1 (List.getD (lookR (routesV (x, x1, x2) (ns.getD (Int.toNat (IntKind.wrap .i64 ((ns.length : Int) - (1 : Int)))) default) x3) x6).2.1 (Int.toNat (0 : Int)) default) (ns.getD (Int.toNat (IntKind.wrap .i64 ((ns.length : Int) - (1 : Int)))) default)] = ns1 /\ ls ++ [List.getD (lookR (routesV (x, x1, x2) (ns.getD (Int.toNat (IntKind.wrap .i64 ((ns.length : Int) - (1 : Int)))) default) x3) x6).2.1 (Int.toNat (0 : Int)) default] = ls_1 /\ True))))))) ((ns, ls, e) = traceV (x, x1, x2) x3 x4 (x5, x6, x7, x8, x9)) := by
  rintro ns0 ls0 hs at' who a b c e f - ⟨W, w0, w1⟩
  refine ⟨⟨_, _, _, TI.start w0 (by show who < (ns0.length : Int); omega), (by repeat' first | exact trivial | refine ⟨trivial, ?_⟩ | refine ⟨(by with_reducible rfl), ?_⟩ | refine ⟨w64 (by omega) (by omega), ?_⟩ | refine ⟨rfl, ?_⟩)⟩, ?_⟩
  rintro ns ls e1 I
  refine ifP_split (fun h => ?_) (fun h => I.done (of_decide_eq_false h))
  have h := of_decide_eq_true h
  subst h
  have hl := I.l
  have hm := I.m
  dsimp only at hl hm
  rw [w64 (n := (ns.length : Int) - 1) (by omega) (by omega), lastI_eq]
  have hr := I.r _ (lastI_mem (ns := ns) (by omega))
  have eS : stepW (ns0, ls0, hs) at' (a, b, c, e, f) (ns, ls, 0) = stepR1 (ns0, ls0, hs) (a, b, c, e, f) (lastI ns) (ns0.getD (lastI ns).toNat default) (lookR (routesV (ns0, ls0, hs) (lastI ns) at') b) (lookB (routesV (ns0, ls0, hs) (lastI ns) at') b) (ns, ls, 0) := rfl
  have tb := routesV_ok W.o (lastI ns) at'
  have nx := W.x (lastI ns) at' hr.1 hr.2
  have lm := look_mem (l := routesV (ns0, ls0, hs) (lastI ns) at') (a := b)
  generalize lastI ns = q at *
  generalize routesV (ns0, ls0, hs) q at' = T at *
  generalize lookR T b = r at *
  generalize lookB T b = ok at *
  generalize ns0.getD q.toNat default = X at *
  unfold stepR1 at eS
  refine ⟨by omega, by omega, hr.1, hr.2, W.o, tb.s, tb.okL (by decide), ?_⟩
  refine ifP_split (fun h => ?_) (fun h => ?_)
  · rw [if_pos h] at eS
    exact ⟨_, _, _, I.stop (by decide) eS, by simp, (by repeat' first | exact trivial | refine ⟨trivial, ?_⟩ | refine ⟨(by with_reducible rfl), ?_⟩ | refine ⟨w64 (by omega) (by omega), ?_⟩ | refine ⟨rfl, ?_⟩)⟩
  rw [if_neg (by rw [h]; decide)] at eS
  (repeat (intro (b_ : Bool) (hb_ : b_ = _); (repeat refine ⟨(by first | (simp; done) | (rw [hb_]; simp; done) | (rw [hb_]; simp; omega) | (rw [hb_]; simp; intros; omega) | (rw [hb_]; simp +contextual; done)), ?_⟩); subst hb_))
  refine ifP_split (fun h1 => ?_) (fun h1 => ?_)
  · have h1 : nHost X = true ∧ 0 < ls.length := by
      rw [show X.2.2.2.1 = nHost X from rfl] at h1
      cases hh : nHost X <;> rw [hh] at h1
      · cases h1
      · exact ⟨rfl, by have := of_decide_eq_true h1; omega⟩
    rw [if_pos h1] at eS
    exact ⟨_, _, _, I.stop (by decide) eS, by simp, (by repeat' first | exact trivial | refine ⟨trivial, ?_⟩ | refine ⟨(by with_reducible rfl), ?_⟩ | refine ⟨w64 (by omega) (by omega), ?_⟩ | refine ⟨rfl, ?_⟩)⟩
  have h1 : ¬ (nHost X = true ∧ 0 < ls.length) := by
    rintro ⟨k1, k2⟩
    rw [show X.2.2.2.1 = nHost X from rfl, k1, cond_true, decide_eq_true (by omega)] at h1
    cases h1
  rw [if_neg h1] at eS
  (repeat (intro (b_ : Bool) (hb_ : b_ = _); (repeat refine ⟨(by first | (simp; done) | (rw [hb_]; simp; done) | (rw [hb_]; simp; omega) | (rw [hb_]; simp; intros; omega) | (rw [hb_]; simp +contextual; done)), ?_⟩); subst hb_))
  refine ifP_split (fun h2 => ?_) (fun h2 => ?_)
  · have h2 : ok = false ∨ r.2.1.length = 0 := by
      cases ok
      · exact .inl rfl
      · exact .inr (by have := of_decide_eq_true h2; omega)
    rw [if_pos h2] at eS
    exact ⟨_, _, _, I.stop (by decide) eS, by simp, (by repeat' first | exact trivial | refine ⟨trivial, ?_⟩ | refine ⟨(by with_reducible rfl), ?_⟩ | refine ⟨w64 (by omega) (by omega), ?_⟩ | refine ⟨rfl, ?_⟩)⟩
  have h2 : ¬ (ok = false ∨ r.2.1.length = 0) := by
    rintro (k | k)
    · rw [k] at h2; cases h2
    · rw [decide_eq_true (show (r.2.1.length : Int) = 0 by omega)] at h2
      cases ok <;> cases h2
  rw [if_neg h2] at eS
  (repeat (intro (b_ : Bool) (hb_ : b_ = _); (repeat refine ⟨(by first | (simp; done) | (rw [hb_]; simp; done) | (rw [hb_]; simp; omega) | (rw [hb_]; simp; intros; omega) | (rw [hb_]; simp +contextual; done)), ?_⟩); subst hb_))
  rw [band_d]
  refine ifP_split (fun h3 => ?_) (fun h3 => ?_)
  · have h3 := of_decide_eq_true h3
    rw [if_pos (show 1 < r.2.1.length ∧ r.2.2 = 3 from ⟨by omega, h3.2⟩)] at eS
    exact ⟨_, _, _, I.stop (by decide) eS, by simp, (by repeat' first | exact trivial | refine ⟨trivial, ?_⟩ | refine ⟨(by with_reducible rfl), ?_⟩ | refine ⟨w64 (by omega) (by omega), ?_⟩ | refine ⟨rfl, ?_⟩)⟩
  have h3 := of_decide_eq_false h3
  rw [if_neg (show ¬ (1 < r.2.1.length ∧ r.2.2 = 3) from fun k => h3 ⟨by omega, k.2⟩)] at eS
  refine ifP_split (fun h4 => ?_) (fun h4 => ?_)
  · have h4 := of_decide_eq_true h4
    rw [if_pos (show 255 ≤ ls.length by omega)] at eS
    exact ⟨_, _, _, I.stop (by decide) eS, by simp, (by repeat' first | exact trivial | refine ⟨trivial, ?_⟩ | refine ⟨(by with_reducible rfl), ?_⟩ | refine ⟨w64 (by omega) (by omega), ?_⟩ | refine ⟨rfl, ?_⟩)⟩
  have h4 := of_decide_eq_false h4
  rw [if_neg (show ¬ 255 ≤ ls.length by omega)] at eS
  have hok : ok = true := by
    cases ok
    · exact absurd (.inl rfl) h2
    · rfl
  have hlen : 0 < r.2.1.length := by
    have : ¬ r.2.1.length = 0 := fun k => h2 (.inr k)
    omega
  have pr := pick_range (r := r) (seed := nSeed X) (k := (a, b, c, e, f)) hlen
  have nk := nx r (lm hok) _ (getD_mem pr.1 pr.2)
  have goal := I.go (by omega) nk eS
  unfold pickV at goal pr
  refine ifP_split (fun h5 => ?_) (fun h5 => ?_)
  · have h5 := of_decide_eq_true h5
    rw [if_pos (show 1 < r.2.1.length by omega)] at goal pr
    exact ⟨pr.1, pr.2, by simp only [List.length_singleton]; omega, pr.1, pr.2, by simp only [List.length_singleton]; omega, _, _, _, goal, Nat.add_lt_add_right (by simp only [List.length_append, List.length_singleton]; omega) _, (by repeat' first | exact trivial | refine ⟨trivial, ?_⟩ | refine ⟨(by with_reducible rfl), ?_⟩ | refine ⟨w64 (by omega) (by omega), ?_⟩ | refine ⟨rfl, ?_⟩)⟩
  · have h5 := of_decide_eq_false h5
    rw [if_neg (show ¬ 1 < r.2.1.length by omega)] at goal pr
    exact ⟨pr.1, pr.2, by simp only [List.length_singleton]; omega, pr.1, pr.2, by simp only [List.length_singleton]; omega, _, _, _, goal, Nat.add_lt_add_right (by simp only [List.length_append, List.length_singleton]; omega) _, (by repeat' first | exact trivial | refine ⟨trivial, ?_⟩ | refine ⟨(by with_reducible rfl), ?_⟩ | refine ⟨w64 (by omega) (by omega), ?_⟩ | refine ⟨rfl, ?_⟩)⟩
theorem ok_truth_Trace : SpecOK Tryz.prog GL 9 ct_truth_Trace.spec := Ct.okH _ Tryz.func9 (by kernel_rfl) (withSpec_ok (withSpec_ok (withSpec_ok (withSpec_ok (withSpec_ok (withSpec_ok noSpecs_ok ok_topology_Routes) ok_fib_Lookup) ok_node_Owns) ok_truth_several) ok_balance_Choose) ok_topology_Other) hmix an_truth_Trace (hideMp (by kernel_rfl) vc_truth_Trace)
end Go.RS


/- Truth2: what is so of all nodes and all links. -/
namespace Go.RS
open Go.SX Go.Proofs
set_option maxRecDepth 100000
set_option linter.unusedVariables false

abbrev cSpan : CT := .pair cNet (.pair cI (.pair cI cI))
def pVis (x : Node) : Bool := !nOpaque x
def pUns (x : Node) : Bool := !decide (nSource x = 4)
def pInc (x : Node) : Bool := decide (nSource x = 1)
def pTal (x : Node) : Bool := !nSilent x && decide ((nLimit x).1 ≤ 0)
def pSte (l : Link) : Bool := decide (lJitter l = 0)
def pLos (l : Link) : Bool := decide (lLoss l = 0)
theorem any_not {α : Type} {p : α → Bool} {l : List α} : (!l.any fun x => !p x) = l.all p := by
  induction l with
  | nil => rfl
  | cons x l ih => rw [List.any_cons, List.all_cons, Bool.not_or, ih, Bool.not_not]
def ct_truth_visible_1 : Ct := ⟨[.agg cNode], [.val .bool], fun _ => [], fun d => ((pVis d.1, ()), ())⟩
def an_truth_visible_1 : PDs ct_truth_visible_1.ps → Anns := (fun _ => {})
theorem vc_truth_visible_1 : ∀ (d : List (Int × Int) × Int × Int × Bool × List ((Int × Int) × List Int × Int) × Int × Int × Int × Int × Int × (Int × Int) × Bool × Bool × Int × Int), CT.wf cNode d /\ True -> True -> (!d.2.2.2.2.2.2.2.2.2.2.2.2.1) = pVis d := by
  rintro d - -
  rfl
theorem ok_truth_visible_1 : SpecOK Tryz.prog GL 91 ct_truth_visible_1.spec := Ct.okH _ Tryz.func91 (by kernel_rfl) noSpecs_ok hmix an_truth_visible_1 (hideMp (by kernel_rfl) vc_truth_visible_1)

def ct_NegVis : Ct := ⟨[.agg cNode, .box 133 (.fnc 91)], [.val .bool], fun _ => [], fun d => ((!pVis d.1, ()), ((), ()))⟩
def an_NegVis : PDs ct_NegVis.ps → Anns := (fun _ => {})
theorem vc_NegVis : ∀ (d : List (Int × Int) × Int × Int × Bool × List ((Int × Int) × List Int × Int) × Int × Int × Int × Int × Int × (Int × Int) × Bool × Bool × Int × Int), CT.wf cNode d /\ True /\ True -> True -> (!pVis d) = !pVis d /\ () = () := by
  rintro d - -
  exact ⟨rfl, rfl⟩
theorem ok_NegVis : SpecOK Tryz.prog GL 120 ct_NegVis.spec := Ct.okH _ Tryz.func120 (by kernel_rfl) (withSpec_ok noSpecs_ok ok_truth_visible_1) hmix an_NegVis (hideMp (by kernel_rfl) vc_NegVis)

def ct_IndexVis : Ct := ⟨[.val (.sl cNode), .fn 120 1, .box 133 (.fnc 91)], [.val cI], fun _ => [], fun d => ((idxI (fun x => !pVis x) d.1, ()), ((), ()))⟩
def an_IndexVis : PDs ct_IndexVis.ps → Anns := (fun d => { loops := (fun n => match n with | 2 => some (fun S => { ι := Int, μ := fun i => (d.1.length - i).toNat, inv := fun i => 0 ≤ i ∧ i ≤ d.1.length ∧ ∀ x ∈ d.1.take i.toNat, (!pVis x) = false, keep := [0, 1, 6, 7], slots := fun i => [(8, .int .i64 i)], keepN := [1048576], names := fun i => [] }) | _ => none) })
theorem vc_IndexVis : ∀ (x : List Node), (x.length <= maxLen /\ ∀ (x1 : Node), x1 ∈ x -> CT.wf cNode x1) /\ True /\ True /\ True -> True -> (∃ (x1 : Int), (0 <= x1 /\ x1 <= (x.length : Int) /\ ∀ (x2 : List (Int × Int) × Int × Int × Bool × List ((Int × Int) × List Int × Int) × Int × Int × Int × Int × Int × (Int × Int) × Bool × Bool × Int × Int), x2 ∈ List.take x1.toNat x -> (!pVis x2) = false) /\ x = x /\ x = x /\ (x.length : Int) = (x.length : Int) /\ (0 : Int) = x1 /\ True) /\ ∀ (x1 : Int), (0 <= x1 /\ x1 <= (x.length : Int) /\ ∀ (x2 : List (Int × Int) × Int × Int × Bool × List ((Int × Int) × List Int × Int) × Int × Int × Int × Int × Int × (Int × Int) × Bool × Bool × Int × Int), x2 ∈ List.take x1.toNat x -> (!pVis x2) = false) -> ifP (decide (x1 < (x.length : Int))) (0 <= x1 /\ x1 < (x.length : Int) /\ ifP (!pVis (x.getD x1.toNat default)) (x1 = idxI (fun (x : Node) => !pVis x) x /\ () =
 ()) (∃ (x2 : Int), (0 <= x2 /\ x2 <= (x.length : Int) /\ ∀ (x3 : List (Int × Int) × Int × Int × Bool × List ((Int × Int) × List Int × Int) × Int × Int × Int × Int × Int × (Int × Int) × Bool × Bool × Int × Int), x3 ∈ List.take x2.toNat x -> (!pVis x3) = false) /\ Int.toNat ((x.length : Int) - x2) < Int.toNat ((x.length : Int) - x1) /\ x = x /\ x = x /\ (x.length : Int) = (x.length : Int) /\ IntKind.wrap .i64 (x1 + (1 : Int)) = x2 /\ True)) ((-1 : Int) = idxI (fun (x : Node) => !pVis x) x /\ () = ()) := by
  rintro l ⟨⟨hl, -⟩, -⟩ -
  simp only [maxLen] at hl
  refine ⟨⟨0, ⟨by omega, by omega, by simp⟩, (by repeat' first | exact trivial | refine ⟨trivial, ?_⟩ | refine ⟨(by with_reducible rfl), ?_⟩ | refine ⟨w64 (by omega) (by omega), ?_⟩ | refine ⟨rfl, ?_⟩)⟩, ?_⟩
  rintro j ⟨j0, j1, hj⟩
  refine ifP_split (fun hk => ?_) (fun hk => ?_)
  · have hk := of_decide_eq_true hk
    refine ⟨j0, hk, ifP_split (fun hm => ?_) (fun hm => ?_)⟩
    · exact ⟨findI_at (q := fun x => !pVis x) j0 hk hj hm, rfl⟩
    · exact ⟨j + 1, ⟨by omega, by omega, all_next (P := fun x => (!pVis x) = false) j0 hk hj hm⟩, by omega, (by repeat' first | exact trivial | refine ⟨trivial, ?_⟩ | refine ⟨(by with_reducible rfl), ?_⟩ | refine ⟨w64 (by omega) (by omega), ?_⟩ | refine ⟨rfl, ?_⟩)⟩
  · exact ⟨findI_none (q := fun x => !pVis x) (of_decide_eq_false hk) hj, rfl⟩
theorem ok_IndexVis : SpecOK Tryz.prog GL 136 ct_IndexVis.spec := Ct.okH _ Tryz.func136 (by kernel_rfl) (withSpec_ok noSpecs_ok ok_NegVis) hmix an_IndexVis (hideMp (by kernel_rfl) vc_IndexVis)

def ct_ContainsVis : Ct := ⟨[.val (.sl cNode), .fn 120 1, .box 133 (.fnc 91)], [.val .bool], fun _ => [], fun d => ((d.1.any (fun x => !pVis x), ()), ((), ()))⟩
def an_ContainsVis : PDs ct_ContainsVis.ps → Anns := (fun _ => {})
theorem vc_ContainsVis : ∀ (x : List Node), (x.length <= maxLen /\ ∀ (x1 : Node), x1 ∈ x -> CT.wf cNode x1) /\ True /\ True /\ True -> True -> (decide (0 <= idxI (fun (x : Node) => !pVis x) x) = List.any x fun (x : List (Int × Int) × Int × Int × Bool × List ((Int × Int) × List Int × Int) × Int × Int × Int × Int × Int × (Int × Int) × Bool × Bool × Int × Int) => !pVis x) /\ () = () := by
  rintro l - -
  exact ⟨idxI_any, rfl⟩
theorem ok_ContainsVis : SpecOK Tryz.prog GL 119 ct_ContainsVis.spec := Ct.okH _ Tryz.func119 (by kernel_rfl) (withSpec_ok noSpecs_ok ok_IndexVis) hmix an_ContainsVis (hideMp (by kernel_rfl) vc_ContainsVis)

def ct_AllVis : Ct := ⟨[.agg cSpan, .fn 91 0], [.val .bool], fun _ => [], fun d => ((d.1.1.1.all pVis, ()), ())⟩
def an_AllVis : PDs ct_AllVis.ps → Anns := (fun _ => {})
theorem vc_AllVis : ∀ (x : List Node) (x1 : List Link) (x2 : List Change) (x3 x4 x5 : Int), (((x.length <= maxLen /\ ∀ (x6 : Node), x6 ∈ x -> CT.wf cNode x6) /\ (x1.length <= maxLen /\ ∀ (x : Link), x ∈ x1 -> CT.wf cLink x) /\ x2.length <= maxLen /\ ∀ (x : Change), x ∈ x2 -> CT.wf cChange x) /\ R64 x3 /\ R64 x4 /\ R64 x5) /\ True /\ True -> True -> (!List.any x fun (x : List (Int × Int) × Int × Int × Bool × List ((Int × Int) × List Int × Int) × Int × Int × Int × Int × Int × (Int × Int) × Bool × Bool × Int × Int) => !pVis x) = List.all x pVis := by
  intros
  exact any_not
theorem ok_AllVis : SpecOK Tryz.prog GL 90 ct_AllVis.spec := Ct.okH _ Tryz.func90 (by kernel_rfl) (withSpec_ok noSpecs_ok ok_ContainsVis) hmix an_AllVis (hideMp (by kernel_rfl) vc_AllVis)

def ct_truth_visible : Ct := ⟨[.agg cSpan], [.val .bool], fun _ => [], fun d => ((d.1.1.1.all pVis, ()), ())⟩
def an_truth_visible : PDs ct_truth_visible.ps → Anns := (fun _ => {})
theorem vc_truth_visible : ∀ (x : List Node) (x1 : List Link) (x2 : List Change) (x3 x4 x5 : Int), (((x.length <= maxLen /\ ∀ (x6 : Node), x6 ∈ x -> CT.wf cNode x6) /\ (x1.length <= maxLen /\ ∀ (x : Link), x ∈ x1 -> CT.wf cLink x) /\ x2.length <= maxLen /\ ∀ (x : Change), x ∈ x2 -> CT.wf cChange x) /\ R64 x3 /\ R64 x4 /\ R64 x5) /\ True -> True -> List.all x pVis = List.all x pVis := by
  intros
  rfl
theorem ok_truth_visible : SpecOK Tryz.prog GL 54 ct_truth_visible.spec := Ct.okH _ Tryz.func54 (by kernel_rfl) (withSpec_ok noSpecs_ok ok_AllVis) hmix an_truth_visible (hideMp (by kernel_rfl) vc_truth_visible)

def ct_truth_unspoofed_1 : Ct := ⟨[.agg cNode], [.val .bool], fun _ => [], fun d => ((pUns d.1, ()), ())⟩
def an_truth_unspoofed_1 : PDs ct_truth_unspoofed_1.ps → Anns := (fun _ => {})
theorem vc_truth_unspoofed_1 : ∀ (d : List (Int × Int) × Int × Int × Bool × List ((Int × Int) × List Int × Int) × Int × Int × Int × Int × Int × (Int × Int) × Bool × Bool × Int × Int), CT.wf cNode d /\ True -> True -> (!decide (d.2.2.2.2.2.1 = 4)) = pUns d := by
  rintro d - -
  rfl
theorem ok_truth_unspoofed_1 : SpecOK Tryz.prog GL 92 ct_truth_unspoofed_1.spec := Ct.okH _ Tryz.func92 (by kernel_rfl) noSpecs_ok hmix an_truth_unspoofed_1 (hideMp (by kernel_rfl) vc_truth_unspoofed_1)

def ct_NegUns : Ct := ⟨[.agg cNode, .box 133 (.fnc 92)], [.val .bool], fun _ => [], fun d => ((!pUns d.1, ()), ((), ()))⟩
def an_NegUns : PDs ct_NegUns.ps → Anns := (fun _ => {})
theorem vc_NegUns : ∀ (d : List (Int × Int) × Int × Int × Bool × List ((Int × Int) × List Int × Int) × Int × Int × Int × Int × Int × (Int × Int) × Bool × Bool × Int × Int), CT.wf cNode d /\ True /\ True -> True -> (!pUns d) = !pUns d /\ () = () := by
  rintro d - -
  exact ⟨rfl, rfl⟩
theorem ok_NegUns : SpecOK Tryz.prog GL 120 ct_NegUns.spec := Ct.okH _ Tryz.func120 (by kernel_rfl) (withSpec_ok noSpecs_ok ok_truth_unspoofed_1) hmix an_NegUns (hideMp (by kernel_rfl) vc_NegUns)

def ct_IndexUns : Ct := ⟨[.val (.sl cNode), .fn 120 1, .box 133 (.fnc 92)], [.val cI], fun _ => [], fun d => ((idxI (fun x => !pUns x) d.1, ()), ((), ()))⟩
def an_IndexUns : PDs ct_IndexUns.ps → Anns := (fun d => { loops := (fun n => match n with | 2 => some (fun S => { ι := Int, μ := fun i => (d.1.length - i).toNat, inv := fun i => 0 ≤ i ∧ i ≤ d.1.length ∧ ∀ x ∈ d.1.take i.toNat, (!pUns x) = false, keep := [0, 1, 6, 7], slots := fun i => [(8, .int .i64 i)], keepN := [1048576], names := fun i => [] }) | _ => none) })
theorem vc_IndexUns : ∀ (x : List Node), (x.length <= maxLen /\ ∀ (x1 : Node), x1 ∈ x -> CT.wf cNode x1) /\ True /\ True /\ True -> True -> (∃ (x1 : Int), (0 <= x1 /\ x1 <= (x.length : Int) /\ ∀ (x2 : List (Int × Int) × Int × Int × Bool × List ((Int × Int) × List Int × Int) × Int × Int × Int × Int × Int × (Int × Int) × Bool × Bool × Int × Int), x2 ∈ List.take x1.toNat x -> (!pUns x2) = false) /\ x = x /\ x = x /\ (x.length : Int) = (x.length : Int) /\ (0 : Int) = x1 /\ True) /\ ∀ (x1 : Int), (0 <= x1 /\ x1 <= (x.length : Int) /\ ∀ (x2 : List (Int × Int) × Int × Int × Bool × List ((Int × Int) × List Int × Int) × Int × Int × Int × Int × Int × (Int × Int) × Bool × Bool × Int × Int), x2 ∈ List.take x1.toNat x -> (!pUns x2) = false) -> ifP (decide (x1 < (x.length : Int))) (0 <= x1 /\ x1 < (x.length : Int) /\ ifP (!pUns (x.getD x1.toNat default)) (x1 = idxI (fun (x : Node) => !pUns x) x /\ () =
 ()) (∃ (x2 : Int), (0 <= x2 /\ x2 <= (x.length : Int) /\ ∀ (x3 : List (Int × Int) × Int × Int × Bool × List ((Int × Int) × List Int × Int) × Int × Int × Int × Int × Int × (Int × Int) × Bool × Bool × Int × Int), x3 ∈ List.take x2.toNat x -> (!pUns x3) = false) /\ Int.toNat ((x.length : Int) - x2) < Int.toNat ((x.length : Int) - x1) /\ x = x /\ x = x /\ (x.length : Int) = (x.length : Int) /\ IntKind.wrap .i64 (x1 + (1 : Int)) = x2 /\ True)) ((-1 : Int) = idxI (fun (x : Node) => !pUns x) x /\ () = ()) := by
  rintro l ⟨⟨hl, -⟩, -⟩ -
  simp only [maxLen] at hl
  refine ⟨⟨0, ⟨by omega, by omega, by simp⟩, (by repeat' first | exact trivial | refine ⟨trivial, ?_⟩ | refine ⟨(by with_reducible rfl), ?_⟩ | refine ⟨w64 (by omega) (by omega), ?_⟩ | refine ⟨rfl, ?_⟩)⟩, ?_⟩
  rintro j ⟨j0, j1, hj⟩
  refine ifP_split (fun hk => ?_) (fun hk => ?_)
  · have hk := of_decide_eq_true hk
    refine ⟨j0, hk, ifP_split (fun hm => ?_) (fun hm => ?_)⟩
    · exact ⟨findI_at (q := fun x => !pUns x) j0 hk hj hm, rfl⟩
    · exact ⟨j + 1, ⟨by omega, by omega, all_next (P := fun x => (!pUns x) = false) j0 hk hj hm⟩, by omega, (by repeat' first | exact trivial | refine ⟨trivial, ?_⟩ | refine ⟨(by with_reducible rfl), ?_⟩ | refine ⟨w64 (by omega) (by omega), ?_⟩ | refine ⟨rfl, ?_⟩)⟩
  · exact ⟨findI_none (q := fun x => !pUns x) (of_decide_eq_false hk) hj, rfl⟩
theorem ok_IndexUns : SpecOK Tryz.prog GL 136 ct_IndexUns.spec := Ct.okH _ Tryz.func136 (by kernel_rfl) (withSpec_ok noSpecs_ok ok_NegUns) hmix an_IndexUns (hideMp (by kernel_rfl) vc_IndexUns)

def ct_ContainsUns : Ct := ⟨[.val (.sl cNode), .fn 120 1, .box 133 (.fnc 92)], [.val .bool], fun _ => [], fun d => ((d.1.any (fun x => !pUns x), ()), ((), ()))⟩
def an_ContainsUns : PDs ct_ContainsUns.ps → Anns := (fun _ => {})
theorem vc_ContainsUns : ∀ (x : List Node), (x.length <= maxLen /\ ∀ (x1 : Node), x1 ∈ x -> CT.wf cNode x1) /\ True /\ True /\ True -> True -> (decide (0 <= idxI (fun (x : Node) => !pUns x) x) = List.any x fun (x : List (Int × Int) × Int × Int × Bool × List ((Int × Int) × List Int × Int) × Int × Int × Int × Int × Int × (Int × Int) × Bool × Bool × Int × Int) => !pUns x) /\ () = () := by
  rintro l - -
  exact ⟨idxI_any, rfl⟩
theorem ok_ContainsUns : SpecOK Tryz.prog GL 119 ct_ContainsUns.spec := Ct.okH _ Tryz.func119 (by kernel_rfl) (withSpec_ok noSpecs_ok ok_IndexUns) hmix an_ContainsUns (hideMp (by kernel_rfl) vc_ContainsUns)

def ct_AllUns : Ct := ⟨[.agg cSpan, .fn 92 0], [.val .bool], fun _ => [], fun d => ((d.1.1.1.all pUns, ()), ())⟩
def an_AllUns : PDs ct_AllUns.ps → Anns := (fun _ => {})
theorem vc_AllUns : ∀ (x : List Node) (x1 : List Link) (x2 : List Change) (x3 x4 x5 : Int), (((x.length <= maxLen /\ ∀ (x6 : Node), x6 ∈ x -> CT.wf cNode x6) /\ (x1.length <= maxLen /\ ∀ (x : Link), x ∈ x1 -> CT.wf cLink x) /\ x2.length <= maxLen /\ ∀ (x : Change), x ∈ x2 -> CT.wf cChange x) /\ R64 x3 /\ R64 x4 /\ R64 x5) /\ True /\ True -> True -> (!List.any x fun (x : List (Int × Int) × Int × Int × Bool × List ((Int × Int) × List Int × Int) × Int × Int × Int × Int × Int × (Int × Int) × Bool × Bool × Int × Int) => !pUns x) = List.all x pUns := by
  intros
  exact any_not
theorem ok_AllUns : SpecOK Tryz.prog GL 90 ct_AllUns.spec := Ct.okH _ Tryz.func90 (by kernel_rfl) (withSpec_ok noSpecs_ok ok_ContainsUns) hmix an_AllUns (hideMp (by kernel_rfl) vc_AllUns)

def ct_truth_unspoofed : Ct := ⟨[.agg cSpan], [.val .bool], fun _ => [], fun d => ((d.1.1.1.all pUns, ()), ())⟩
def an_truth_unspoofed : PDs ct_truth_unspoofed.ps → Anns := (fun _ => {})
theorem vc_truth_unspoofed : ∀ (x : List Node) (x1 : List Link) (x2 : List Change) (x3 x4 x5 : Int), (((x.length <= maxLen /\ ∀ (x6 : Node), x6 ∈ x -> CT.wf cNode x6) /\ (x1.length <= maxLen /\ ∀ (x : Link), x ∈ x1 -> CT.wf cLink x) /\ x2.length <= maxLen /\ ∀ (x : Change), x ∈ x2 -> CT.wf cChange x) /\ R64 x3 /\ R64 x4 /\ R64 x5) /\ True -> True -> List.all x pUns = List.all x pUns := by
  intros
  rfl
theorem ok_truth_unspoofed : SpecOK Tryz.prog GL 55 ct_truth_unspoofed.spec := Ct.okH _ Tryz.func55 (by kernel_rfl) (withSpec_ok noSpecs_ok ok_AllUns) hmix an_truth_unspoofed (hideMp (by kernel_rfl) vc_truth_unspoofed)

def ct_truth_incoming_1 : Ct := ⟨[.agg cNode], [.val .bool], fun _ => [], fun d => ((pInc d.1, ()), ())⟩
def an_truth_incoming_1 : PDs ct_truth_incoming_1.ps → Anns := (fun _ => {})
theorem vc_truth_incoming_1 : ∀ (d : List (Int × Int) × Int × Int × Bool × List ((Int × Int) × List Int × Int) × Int × Int × Int × Int × Int × (Int × Int) × Bool × Bool × Int × Int), CT.wf cNode d /\ True -> True -> decide (d.2.2.2.2.2.1 = 1) = pInc d := by
  rintro d - -
  rfl
theorem ok_truth_incoming_1 : SpecOK Tryz.prog GL 93 ct_truth_incoming_1.spec := Ct.okH _ Tryz.func93 (by kernel_rfl) noSpecs_ok hmix an_truth_incoming_1 (hideMp (by kernel_rfl) vc_truth_incoming_1)

def ct_NegInc : Ct := ⟨[.agg cNode, .box 133 (.fnc 93)], [.val .bool], fun _ => [], fun d => ((!pInc d.1, ()), ((), ()))⟩
def an_NegInc : PDs ct_NegInc.ps → Anns := (fun _ => {})
theorem vc_NegInc : ∀ (d : List (Int × Int) × Int × Int × Bool × List ((Int × Int) × List Int × Int) × Int × Int × Int × Int × Int × (Int × Int) × Bool × Bool × Int × Int), CT.wf cNode d /\ True /\ True -> True -> (!pInc d) = !pInc d /\ () = () := by
  rintro d - -
  exact ⟨rfl, rfl⟩
theorem ok_NegInc : SpecOK Tryz.prog GL 120 ct_NegInc.spec := Ct.okH _ Tryz.func120 (by kernel_rfl) (withSpec_ok noSpecs_ok ok_truth_incoming_1) hmix an_NegInc (hideMp (by kernel_rfl) vc_NegInc)

def ct_IndexInc : Ct := ⟨[.val (.sl cNode), .fn 120 1, .box 133 (.fnc 93)], [.val cI], fun _ => [], fun d => ((idxI (fun x => !pInc x) d.1, ()), ((), ()))⟩
def an_IndexInc : PDs ct_IndexInc.ps → Anns := (fun d => { loops := (fun n => match n with | 2 => some (fun S => { ι := Int, μ := fun i => (d.1.length - i).toNat, inv := fun i => 0 ≤ i ∧ i ≤ d.1.length ∧ ∀ x ∈ d.1.take i.toNat, (!pInc x) = false, keep := [0, 1, 6, 7], slots := fun i => [(8, .int .i64 i)], keepN := [1048576], names := fun i => [] }) | _ => none) })
theorem vc_IndexInc : ∀ (x : List Node), (x.length <= maxLen /\ ∀ (x1 : Node), x1 ∈ x -> CT.wf cNode x1) /\ True /\ True /\ True -> True -> (∃ (x1 : Int), (0 <= x1 /\ x1 <= (x.length : Int) /\ ∀ (x2 : List (Int × Int) × Int × Int × Bool × List ((Int × Int) × List Int × Int) × Int × Int × Int × Int × Int × (Int × Int) × Bool × Bool × Int × Int), x2 ∈ List.take x1.toNat x -> (!pInc x2) = false) /\ x = x /\ x = x /\ (x.length : Int) = (x.length : Int) /\ (0 : Int) = x1 /\ True) /\ ∀ (x1 : Int), (0 <= x1 /\ x1 <= (x.length : Int) /\ ∀ (x2 : List (Int × Int) × Int × Int × Bool × List ((Int × Int) × List Int × Int) × Int × Int × Int × Int × Int × (Int × Int) × Bool × Bool × Int × Int), x2 ∈ List.take x1.toNat x -> (!pInc x2) = false) -> ifP (decide (x1 < (x.length : Int))) (0 <= x1 /\ x1 < (x.length : Int) /\ ifP (!pInc (x.getD x1.toNat default)) (x1 = idxI (fun (x : Node) => !pInc x) x /\ () =
 ()) (∃ (x2 : Int), (0 <= x2 /\ x2 <= (x.length : Int) /\ ∀ (x3 : List (Int × Int) × Int × Int × Bool × List ((Int × Int) × List Int × Int) × Int × Int × Int × Int × Int × (Int × Int) × Bool × Bool × Int × Int), x3 ∈ List.take x2.toNat x -> (!pInc x3) = false) /\ Int.toNat ((x.length : Int) - x2) < Int.toNat ((x.length : Int) - x1) /\ x = x /\ x = x /\ (x.length : Int) = (x.length : Int) /\ IntKind.wrap .i64 (x1 + (1 : Int)) = x2 /\ True)) ((-1 : Int) = idxI (fun (x : Node) => !pInc x) x /\ () = ()) := by
  rintro l ⟨⟨hl, -⟩, -⟩ -
  simp only [maxLen] at hl
  refine ⟨⟨0, ⟨by omega, by omega, by simp⟩, (by repeat' first | exact trivial | refine ⟨trivial, ?_⟩ | refine ⟨(by with_reducible rfl), ?_⟩ | refine ⟨w64 (by omega) (by omega), ?_⟩ | refine ⟨rfl, ?_⟩)⟩, ?_⟩
  rintro j ⟨j0, j1, hj⟩
  refine ifP_split (fun hk => ?_) (fun hk => ?_)
  · have hk := of_decide_eq_true hk
    refine ⟨j0, hk, ifP_split (fun hm => ?_) (fun hm => ?_)⟩
    · exact ⟨findI_at (q := fun x => !pInc x) j0 hk hj hm, rfl⟩
    · exact ⟨j + 1, ⟨by omega, by omega, all_next (P := fun x => (!pInc x) = false) j0 hk hj hm⟩, by omega, (by repeat' first | exact trivial | refine ⟨trivial, ?_⟩ | refine ⟨(by with_reducible rfl), ?_⟩ | refine ⟨w64 (by omega) (by omega), ?_⟩ | refine ⟨rfl, ?_⟩)⟩
  · exact ⟨findI_none (q := fun x => !pInc x) (of_decide_eq_false hk) hj, rfl⟩
theorem ok_IndexInc : SpecOK Tryz.prog GL 136 ct_IndexInc.spec := Ct.okH _ Tryz.func136 (by kernel_rfl) (withSpec_ok noSpecs_ok ok_NegInc) hmix an_IndexInc (hideMp (by kernel_rfl) vc_IndexInc)

def ct_ContainsInc : Ct := ⟨[.val (.sl cNode), .fn 120 1, .box 133 (.fnc 93)], [.val .bool], fun _ => [], fun d => ((d.1.any (fun x => !pInc x), ()), ((), ()))⟩
def an_ContainsInc : PDs ct_ContainsInc.ps → Anns := (fun _ => {})
theorem vc_ContainsInc : ∀ (x : List Node), (x.length <= maxLen /\ ∀ (x1 : Node), x1 ∈ x -> CT.wf cNode x1) /\ True /\ True /\ True -> True -> (decide (0 <= idxI (fun (x : Node) => !pInc x) x) = List.any x fun (x : List (Int × Int) × Int × Int × Bool × List ((Int × Int) × List Int × Int) × Int × Int × Int × Int × Int × (Int × Int) × Bool × Bool × Int × Int) => !pInc x) /\ () = () := by
  rintro l - -
  exact ⟨idxI_any, rfl⟩
theorem ok_ContainsInc : SpecOK Tryz.prog GL 119 ct_ContainsInc.spec := Ct.okH _ Tryz.func119 (by kernel_rfl) (withSpec_ok noSpecs_ok ok_IndexInc) hmix an_ContainsInc (hideMp (by kernel_rfl) vc_ContainsInc)

def ct_AllInc : Ct := ⟨[.agg cSpan, .fn 93 0], [.val .bool], fun _ => [], fun d => ((d.1.1.1.all pInc, ()), ())⟩
def an_AllInc : PDs ct_AllInc.ps → Anns := (fun _ => {})
theorem vc_AllInc : ∀ (x : List Node) (x1 : List Link) (x2 : List Change) (x3 x4 x5 : Int), (((x.length <= maxLen /\ ∀ (x6 : Node), x6 ∈ x -> CT.wf cNode x6) /\ (x1.length <= maxLen /\ ∀ (x : Link), x ∈ x1 -> CT.wf cLink x) /\ x2.length <= maxLen /\ ∀ (x : Change), x ∈ x2 -> CT.wf cChange x) /\ R64 x3 /\ R64 x4 /\ R64 x5) /\ True /\ True -> True -> (!List.any x fun (x : List (Int × Int) × Int × Int × Bool × List ((Int × Int) × List Int × Int) × Int × Int × Int × Int × Int × (Int × Int) × Bool × Bool × Int × Int) => !pInc x) = List.all x pInc := by
  intros
  exact any_not
theorem ok_AllInc : SpecOK Tryz.prog GL 90 ct_AllInc.spec := Ct.okH _ Tryz.func90 (by kernel_rfl) (withSpec_ok noSpecs_ok ok_ContainsInc) hmix an_AllInc (hideMp (by kernel_rfl) vc_AllInc)

def ct_truth_incoming : Ct := ⟨[.agg cSpan], [.val .bool], fun _ => [], fun d => ((d.1.1.1.all pInc, ()), ())⟩
def an_truth_incoming : PDs ct_truth_incoming.ps → Anns := (fun _ => {})
theorem vc_truth_incoming : ∀ (x : List Node) (x1 : List Link) (x2 : List Change) (x3 x4 x5 : Int), (((x.length <= maxLen /\ ∀ (x6 : Node), x6 ∈ x -> CT.wf cNode x6) /\ (x1.length <= maxLen /\ ∀ (x : Link), x ∈ x1 -> CT.wf cLink x) /\ x2.length <= maxLen /\ ∀ (x : Change), x ∈ x2 -> CT.wf cChange x) /\ R64 x3 /\ R64 x4 /\ R64 x5) /\ True -> True -> List.all x pInc = List.all x pInc := by
  intros
  rfl
theorem ok_truth_incoming : SpecOK Tryz.prog GL 56 ct_truth_incoming.spec := Ct.okH _ Tryz.func56 (by kernel_rfl) (withSpec_ok noSpecs_ok ok_AllInc) hmix an_truth_incoming (hideMp (by kernel_rfl) vc_truth_incoming)

def ct_truth_talkative_1 : Ct := ⟨[.agg cNode], [.val .bool], fun _ => [], fun d => ((pTal d.1, ()), ())⟩
def an_truth_talkative_1 : PDs ct_truth_talkative_1.ps → Anns := (fun _ => {})
theorem vc_truth_talkative_1 : ∀ (d : List (Int × Int) × Int × Int × Bool × List ((Int × Int) × List Int × Int) × Int × Int × Int × Int × Int × (Int × Int) × Bool × Bool × Int × Int), CT.wf cNode d /\ True -> True -> ∀ (b : Bool), b = !d.2.2.2.2.2.2.2.2.2.2.2.1 -> (b -> (b -> b) /\ True) /\ (b -> (b -> b) /\ True) /\ (b -> (b -> b) /\ True) /\ (b -> b) /\ (bif b then decide (d.2.2.2.2.2.2.2.2.2.2.1.1 <= 0) else false) = pTal d := by
  rintro d - -
  intro b hb
  (repeat refine ⟨fun h_ => (by first | (simp; done) | (simp [h_]; done) | (simp_all; done)), ?_⟩)
  rw [hb]
  unfold pTal nSilent nLimit
  cases d.2.2.2.2.2.2.2.2.2.2.2.1 <;> rfl
theorem ok_truth_talkative_1 : SpecOK Tryz.prog GL 101 ct_truth_talkative_1.spec := Ct.okH _ Tryz.func101 (by kernel_rfl) noSpecs_ok hmix an_truth_talkative_1 (hideMp (by kernel_rfl) vc_truth_talkative_1)

def ct_NegTal : Ct := ⟨[.agg cNode, .box 133 (.fnc 101)], [.val .bool], fun _ => [], fun d => ((!pTal d.1, ()), ((), ()))⟩
def an_NegTal : PDs ct_NegTal.ps → Anns := (fun _ => {})
theorem vc_NegTal : ∀ (d : List (Int × Int) × Int × Int × Bool × List ((Int × Int) × List Int × Int) × Int × Int × Int × Int × Int × (Int × Int) × Bool × Bool × Int × Int), CT.wf cNode d /\ True /\ True -> True -> (!pTal d) = !pTal d /\ () = () := by
  rintro d - -
  exact ⟨rfl, rfl⟩
theorem ok_NegTal : SpecOK Tryz.prog GL 120 ct_NegTal.spec := Ct.okH _ Tryz.func120 (by kernel_rfl) (withSpec_ok noSpecs_ok ok_truth_talkative_1) hmix an_NegTal (hideMp (by kernel_rfl) vc_NegTal)

def ct_IndexTal : Ct := ⟨[.val (.sl cNode), .fn 120 1, .box 133 (.fnc 101)], [.val cI], fun _ => [], fun d => ((idxI (fun x => !pTal x) d.1, ()), ((), ()))⟩
def an_IndexTal : PDs ct_IndexTal.ps → Anns := (fun d => { loops := (fun n => match n with | 2 => some (fun S => { ι := Int, μ := fun i => (d.1.length - i).toNat, inv := fun i => 0 ≤ i ∧ i ≤ d.1.length ∧ ∀ x ∈ d.1.take i.toNat, (!pTal x) = false, keep := [0, 1, 6, 7], slots := fun i => [(8, .int .i64 i)], keepN := [1048576], names := fun i => [] }) | _ => none) })
theorem vc_IndexTal : ∀ (x : List Node), (x.length <= maxLen /\ ∀ (x1 : Node), x1 ∈ x -> CT.wf cNode x1) /\ True /\ True /\ True -> True -> (∃ (x1 : Int), (0 <= x1 /\ x1 <= (x.length : Int) /\ ∀ (x2 : List (Int × Int) × Int × Int × Bool × List ((Int × Int) × List Int × Int) × Int × Int × Int × Int × Int × (Int × Int) × Bool × Bool × Int × Int), x2 ∈ List.take x1.toNat x -> (!pTal x2) = false) /\ x = x /\ x = x /\ (x.length : Int) = (x.length : Int) /\ (0 : Int) = x1 /\ True) /\ ∀ (x1 : Int), (0 <= x1 /\ x1 <= (x.length : Int) /\ ∀ (x2 : List (Int × Int) × Int × Int × Bool × List ((Int × Int) × List Int × Int) × Int × Int × Int × Int × Int × (Int × Int) × Bool × Bool × Int × Int), x2 ∈ List.take x1.toNat x -> (!pTal x2) = false) -> ifP (decide (x1 < (x.length : Int))) (0 <= x1 /\ x1 < (x.length : Int) /\ ifP (!pTal (x.getD x1.toNat default)) (x1 = idxI (fun (x : Node) => !pTal x) x /\ () =
 ()) (∃ (x2 : Int), (0 <= x2 /\ x2 <= (x.length : Int) /\ ∀ (x3 : List (Int × Int) × Int × Int × Bool × List ((Int × Int) × List Int × Int) × Int × Int × Int × Int × Int × (Int × Int) × Bool × Bool × Int × Int), x3 ∈ List.take x2.toNat x -> (!pTal x3) = false) /\ Int.toNat ((x.length : Int) - x2) < Int.toNat ((x.length : Int) - x1) /\ x = x /\ x = x /\ (x.length : Int) = (x.length : Int) /\ IntKind.wrap .i64 (x1 + (1 : Int)) = x2 /\ True)) ((-1 : Int) = idxI (fun (x : Node) => !pTal x) x /\ () = ()) := by
  rintro l ⟨⟨hl, -⟩, -⟩ -
  simp only [maxLen] at hl
  refine ⟨⟨0, ⟨by omega, by omega, by simp⟩, (by repeat' first | exact trivial | refine ⟨trivial, ?_⟩ | refine ⟨(by with_reducible rfl), ?_⟩ | refine ⟨w64 (by omega) (by omega), ?_⟩ | refine ⟨rfl, ?_⟩)⟩, ?_⟩
  rintro j ⟨j0, j1, hj⟩
  refine ifP_split (fun hk => ?_) (fun hk => ?_)
  · have hk := of_decide_eq_true hk
    refine ⟨j0, hk, ifP_split (fun hm => ?_) (fun hm => ?_)⟩
    · exact ⟨findI_at (q := fun x => !pTal x) j0 hk hj hm, rfl⟩
    · exact ⟨j + 1, ⟨by omega, by omega, all_next (P := fun x => (!pTal x) = false) j0 hk hj hm⟩, by omega, (by repeat' first | exact trivial | refine ⟨trivial, ?_⟩ | refine ⟨(by with_reducible rfl), ?_⟩ | refine ⟨w64 (by omega) (by omega), ?_⟩ | refine ⟨rfl, ?_⟩)⟩
  · exact ⟨findI_none (q := fun x => !pTal x) (of_decide_eq_false hk) hj, rfl⟩
theorem ok_IndexTal : SpecOK Tryz.prog GL 136 ct_IndexTal.spec := Ct.okH _ Tryz.func136 (by kernel_rfl) (withSpec_ok noSpecs_ok ok_NegTal) hmix an_IndexTal (hideMp (by kernel_rfl) vc_IndexTal)

def ct_ContainsTal : Ct := ⟨[.val (.sl cNode), .fn 120 1, .box 133 (.fnc 101)], [.val .bool], fun _ => [], fun d => ((d.1.any (fun x => !pTal x), ()), ((), ()))⟩
def an_ContainsTal : PDs ct_ContainsTal.ps → Anns := (fun _ => {})
theorem vc_ContainsTal : ∀ (x : List Node), (x.length <= maxLen /\ ∀ (x1 : Node), x1 ∈ x -> CT.wf cNode x1) /\ True /\ True /\ True -> True -> (decide (0 <= idxI (fun (x : Node) => !pTal x) x) = List.any x fun (x : List (Int × Int) × Int × Int × Bool × List ((Int × Int) × List Int × Int) × Int × Int × Int × Int × Int × (Int × Int) × Bool × Bool × Int × Int) => !pTal x) /\ () = () := by
  rintro l - -
  exact ⟨idxI_any, rfl⟩
theorem ok_ContainsTal : SpecOK Tryz.prog GL 119 ct_ContainsTal.spec := Ct.okH _ Tryz.func119 (by kernel_rfl) (withSpec_ok noSpecs_ok ok_IndexTal) hmix an_ContainsTal (hideMp (by kernel_rfl) vc_ContainsTal)

def ct_AllTal : Ct := ⟨[.agg cSpan, .fn 101 0], [.val .bool], fun _ => [], fun d => ((d.1.1.1.all pTal, ()), ())⟩
def an_AllTal : PDs ct_AllTal.ps → Anns := (fun _ => {})
theorem vc_AllTal : ∀ (x : List Node) (x1 : List Link) (x2 : List Change) (x3 x4 x5 : Int), (((x.length <= maxLen /\ ∀ (x6 : Node), x6 ∈ x -> CT.wf cNode x6) /\ (x1.length <= maxLen /\ ∀ (x : Link), x ∈ x1 -> CT.wf cLink x) /\ x2.length <= maxLen /\ ∀ (x : Change), x ∈ x2 -> CT.wf cChange x) /\ R64 x3 /\ R64 x4 /\ R64 x5) /\ True /\ True -> True -> (!List.any x fun (x : List (Int × Int) × Int × Int × Bool × List ((Int × Int) × List Int × Int) × Int × Int × Int × Int × Int × (Int × Int) × Bool × Bool × Int × Int) => !pTal x) = List.all x pTal := by
  intros
  exact any_not
theorem ok_AllTal : SpecOK Tryz.prog GL 90 ct_AllTal.spec := Ct.okH _ Tryz.func90 (by kernel_rfl) (withSpec_ok noSpecs_ok ok_ContainsTal) hmix an_AllTal (hideMp (by kernel_rfl) vc_AllTal)

def ct_truth_talkative : Ct := ⟨[.agg cSpan], [.val .bool], fun _ => [], fun d => ((d.1.1.1.all pTal, ()), ())⟩
def an_truth_talkative : PDs ct_truth_talkative.ps → Anns := (fun _ => {})
theorem vc_truth_talkative : ∀ (x : List Node) (x1 : List Link) (x2 : List Change) (x3 x4 x5 : Int), (((x.length <= maxLen /\ ∀ (x6 : Node), x6 ∈ x -> CT.wf cNode x6) /\ (x1.length <= maxLen /\ ∀ (x : Link), x ∈ x1 -> CT.wf cLink x) /\ x2.length <= maxLen /\ ∀ (x : Change), x ∈ x2 -> CT.wf cChange x) /\ R64 x3 /\ R64 x4 /\ R64 x5) /\ True -> True -> List.all x pTal = List.all x pTal := by
  intros
  rfl
theorem ok_truth_talkative : SpecOK Tryz.prog GL 61 ct_truth_talkative.spec := Ct.okH _ Tryz.func61 (by kernel_rfl) (withSpec_ok noSpecs_ok ok_AllTal) hmix an_truth_talkative (hideMp (by kernel_rfl) vc_truth_talkative)

def ct_truth_steady_1 : Ct := ⟨[.agg cLink], [.val .bool], fun _ => [], fun d => ((pSte d.1, ()), ())⟩
def an_truth_steady_1 : PDs ct_truth_steady_1.ps → Anns := (fun _ => {})
theorem vc_truth_steady_1 : ∀ (x x1 x2 x3 x4 x5 : Int), (R64 x /\ R64 x1 /\ R64 x2 /\ R64 x3 /\ R64 x4 /\ R64 x5) /\ True -> True -> decide (x3 = 0) = pSte (x, x1, x2, x3, x4, x5) := by
  rintro a b c e f g - -
  rfl
theorem ok_truth_steady_1 : SpecOK Tryz.prog GL 99 ct_truth_steady_1.spec := Ct.okH _ Tryz.func99 (by kernel_rfl) noSpecs_ok hmix an_truth_steady_1 (hideMp (by kernel_rfl) vc_truth_steady_1)

def ct_NegSte : Ct := ⟨[.agg cLink, .box 100 (.fnc 99)], [.val .bool], fun _ => [], fun d => ((!pSte d.1, ()), ((), ()))⟩
def an_NegSte : PDs ct_NegSte.ps → Anns := (fun _ => {})
theorem vc_NegSte : ∀ (x x1 x2 x3 x4 x5 : Int), (R64 x /\ R64 x1 /\ R64 x2 /\ R64 x3 /\ R64 x4 /\ R64 x5) /\ True /\ True -> True -> (!pSte (x, x1, x2, x3, x4, x5)) = !pSte (x, x1, x2, x3, x4, x5) /\ () = () := by
  rintro a b c e f g - -
  exact ⟨rfl, rfl⟩
theorem ok_NegSte : SpecOK Tryz.prog GL 125 ct_NegSte.spec := Ct.okH _ Tryz.func125 (by kernel_rfl) (withSpec_ok noSpecs_ok ok_truth_steady_1) hmix an_NegSte (hideMp (by kernel_rfl) vc_NegSte)

def ct_IndexSte : Ct := ⟨[.val (.sl cLink), .fn 125 1, .box 100 (.fnc 99)], [.val cI], fun _ => [], fun d => ((idxI (fun x => !pSte x) d.1, ()), ((), ()))⟩
def an_IndexSte : PDs ct_IndexSte.ps → Anns := (fun d => { loops := (fun n => match n with | 2 => some (fun S => { ι := Int, μ := fun i => (d.1.length - i).toNat, inv := fun i => 0 ≤ i ∧ i ≤ d.1.length ∧ ∀ x ∈ d.1.take i.toNat, (!pSte x) = false, keep := [0, 1, 6, 7], slots := fun i => [(8, .int .i64 i)], keepN := [1048576], names := fun i => [] }) | _ => none) })
theorem vc_IndexSte : ∀ (x : List Link), (x.length <= maxLen /\ ∀ (x1 : Link), x1 ∈ x -> CT.wf cLink x1) /\ True /\ True /\ True -> True -> (∃ (x1 : Int), (0 <= x1 /\ x1 <= (x.length : Int) /\ ∀ (x2 : Int × Int × Int × Int × Int × Int), x2 ∈ List.take x1.toNat x -> (!pSte x2) = false) /\ x = x /\ x = x /\ (x.length : Int) = (x.length : Int) /\ (0 : Int) = x1 /\ True) /\ ∀ (x1 : Int), (0 <= x1 /\ x1 <= (x.length : Int) /\ ∀ (x2 : Int × Int × Int × Int × Int × Int), x2 ∈ List.take x1.toNat x -> (!pSte x2) = false) -> ifP (decide (x1 < (x.length : Int))) (0 <= x1 /\ x1 < (x.length : Int) /\ ifP (!pSte (x.getD x1.toNat default)) (x1 = idxI (fun (x : Link) => !pSte x) x /\ () = ()) (∃ (x2 : Int), (0 <= x2 /\ x2 <= (x.length : Int) /\ ∀ (x3 : Int × Int × Int × Int × Int × Int), x3 ∈ List.take x2.toNat x -> (!pSte x3) = false) /\ Int.toNat ((x.length : Int) - x2) < Int.toNat ((x.length : Int) -
 x1) /\ x = x /\ x = x /\ (x.length : Int) = (x.length : Int) /\ IntKind.wrap .i64 (x1 + (1 : Int)) = x2 /\ True)) ((-1 : Int) = idxI (fun (x : Link) => !pSte x) x /\ () = ()) := by
  rintro l ⟨⟨hl, -⟩, -⟩ -
  simp only [maxLen] at hl
  refine ⟨⟨0, ⟨by omega, by omega, by simp⟩, (by repeat' first | exact trivial | refine ⟨trivial, ?_⟩ | refine ⟨(by with_reducible rfl), ?_⟩ | refine ⟨w64 (by omega) (by omega), ?_⟩ | refine ⟨rfl, ?_⟩)⟩, ?_⟩
  rintro j ⟨j0, j1, hj⟩
  refine ifP_split (fun hk => ?_) (fun hk => ?_)
  · have hk := of_decide_eq_true hk
    refine ⟨j0, hk, ifP_split (fun hm => ?_) (fun hm => ?_)⟩
    · exact ⟨findI_at (q := fun x => !pSte x) j0 hk hj hm, rfl⟩
    · exact ⟨j + 1, ⟨by omega, by omega, all_next (P := fun x => (!pSte x) = false) j0 hk hj hm⟩, by omega, (by repeat' first | exact trivial | refine ⟨trivial, ?_⟩ | refine ⟨(by with_reducible rfl), ?_⟩ | refine ⟨w64 (by omega) (by omega), ?_⟩ | refine ⟨rfl, ?_⟩)⟩
  · exact ⟨findI_none (q := fun x => !pSte x) (of_decide_eq_false hk) hj, rfl⟩
theorem ok_IndexSte : SpecOK Tryz.prog GL 88 ct_IndexSte.spec := Ct.okH _ Tryz.func88 (by kernel_rfl) (withSpec_ok noSpecs_ok ok_NegSte) hmix an_IndexSte (hideMp (by kernel_rfl) vc_IndexSte)

def ct_ContainsSte : Ct := ⟨[.val (.sl cLink), .fn 125 1, .box 100 (.fnc 99)], [.val .bool], fun _ => [], fun d => ((d.1.any (fun x => !pSte x), ()), ((), ()))⟩
def an_ContainsSte : PDs ct_ContainsSte.ps → Anns := (fun _ => {})
theorem vc_ContainsSte : ∀ (x : List Link), (x.length <= maxLen /\ ∀ (x1 : Link), x1 ∈ x -> CT.wf cLink x1) /\ True /\ True /\ True -> True -> (decide (0 <= idxI (fun (x : Link) => !pSte x) x) = List.any x fun (x : Int × Int × Int × Int × Int × Int) => !pSte x) /\ () = () := by
  rintro l - -
  exact ⟨idxI_any, rfl⟩
theorem ok_ContainsSte : SpecOK Tryz.prog GL 50 ct_ContainsSte.spec := Ct.okH _ Tryz.func50 (by kernel_rfl) (withSpec_ok noSpecs_ok ok_IndexSte) hmix an_ContainsSte (hideMp (by kernel_rfl) vc_ContainsSte)

def ct_AllSte : Ct := ⟨[.agg cSpan, .fn 99 0], [.val .bool], fun _ => [], fun d => ((d.1.1.2.1.all pSte, ()), ())⟩
def an_AllSte : PDs ct_AllSte.ps → Anns := (fun _ => {})
theorem vc_AllSte : ∀ (x : List Node) (x1 : List Link) (x2 : List Change) (x3 x4 x5 : Int), (((x.length <= maxLen /\ ∀ (x6 : Node), x6 ∈ x -> CT.wf cNode x6) /\ (x1.length <= maxLen /\ ∀ (x : Link), x ∈ x1 -> CT.wf cLink x) /\ x2.length <= maxLen /\ ∀ (x : Change), x ∈ x2 -> CT.wf cChange x) /\ R64 x3 /\ R64 x4 /\ R64 x5) /\ True /\ True -> True -> (!List.any x1 fun (x : Int × Int × Int × Int × Int × Int) => !pSte x) = List.all x1 pSte := by
  intros
  exact any_not
theorem ok_AllSte : SpecOK Tryz.prog GL 98 ct_AllSte.spec := Ct.okH _ Tryz.func98 (by kernel_rfl) (withSpec_ok noSpecs_ok ok_ContainsSte) hmix an_AllSte (hideMp (by kernel_rfl) vc_AllSte)

def ct_truth_steady : Ct := ⟨[.agg cSpan], [.val .bool], fun _ => [], fun d => ((d.1.1.2.1.all pSte, ()), ())⟩
def an_truth_steady : PDs ct_truth_steady.ps → Anns := (fun _ => {})
theorem vc_truth_steady : ∀ (x : List Node) (x1 : List Link) (x2 : List Change) (x3 x4 x5 : Int), (((x.length <= maxLen /\ ∀ (x6 : Node), x6 ∈ x -> CT.wf cNode x6) /\ (x1.length <= maxLen /\ ∀ (x : Link), x ∈ x1 -> CT.wf cLink x) /\ x2.length <= maxLen /\ ∀ (x : Change), x ∈ x2 -> CT.wf cChange x) /\ R64 x3 /\ R64 x4 /\ R64 x5) /\ True -> True -> List.all x1 pSte = List.all x1 pSte := by
  intros
  rfl
theorem ok_truth_steady : SpecOK Tryz.prog GL 59 ct_truth_steady.spec := Ct.okH _ Tryz.func59 (by kernel_rfl) (withSpec_ok noSpecs_ok ok_AllSte) hmix an_truth_steady (hideMp (by kernel_rfl) vc_truth_steady)

def ct_truth_lossless_1 : Ct := ⟨[.agg cLink], [.val .bool], fun _ => [], fun d => ((pLos d.1, ()), ())⟩
def an_truth_lossless_1 : PDs ct_truth_lossless_1.ps → Anns := (fun _ => {})
theorem vc_truth_lossless_1 : ∀ (x x1 x2 x3 x4 x5 : Int), (R64 x /\ R64 x1 /\ R64 x2 /\ R64 x3 /\ R64 x4 /\ R64 x5) /\ True -> True -> decide (x4 = 0) = pLos (x, x1, x2, x3, x4, x5) := by
  rintro a b c e f g - -
  rfl
theorem ok_truth_lossless_1 : SpecOK Tryz.prog GL 100 ct_truth_lossless_1.spec := Ct.okH _ Tryz.func100 (by kernel_rfl) noSpecs_ok hmix an_truth_lossless_1 (hideMp (by kernel_rfl) vc_truth_lossless_1)

def ct_NegLos : Ct := ⟨[.agg cLink, .box 100 (.fnc 100)], [.val .bool], fun _ => [], fun d => ((!pLos d.1, ()), ((), ()))⟩
def an_NegLos : PDs ct_NegLos.ps → Anns := (fun _ => {})
theorem vc_NegLos : ∀ (x x1 x2 x3 x4 x5 : Int), (R64 x /\ R64 x1 /\ R64 x2 /\ R64 x3 /\ R64 x4 /\ R64 x5) /\ True /\ True -> True -> (!pLos (x, x1, x2, x3, x4, x5)) = !pLos (x, x1, x2, x3, x4, x5) /\ () = () := by
  rintro a b c e f g - -
  exact ⟨rfl, rfl⟩
theorem ok_NegLos : SpecOK Tryz.prog GL 125 ct_NegLos.spec := Ct.okH _ Tryz.func125 (by kernel_rfl) (withSpec_ok noSpecs_ok ok_truth_lossless_1) hmix an_NegLos (hideMp (by kernel_rfl) vc_NegLos)

def ct_IndexLos : Ct := ⟨[.val (.sl cLink), .fn 125 1, .box 100 (.fnc 100)], [.val cI], fun _ => [], fun d => ((idxI (fun x => !pLos x) d.1, ()), ((), ()))⟩
def an_IndexLos : PDs ct_IndexLos.ps → Anns := (fun d => { loops := (fun n => match n with | 2 => some (fun S => { ι := Int, μ := fun i => (d.1.length - i).toNat, inv := fun i => 0 ≤ i ∧ i ≤ d.1.length ∧ ∀ x ∈ d.1.take i.toNat, (!pLos x) = false, keep := [0, 1, 6, 7], slots := fun i => [(8, .int .i64 i)], keepN := [1048576], names := fun i => [] }) | _ => none) })
theorem vc_IndexLos : ∀ (x : List Link), (x.length <= maxLen /\ ∀ (x1 : Link), x1 ∈ x -> CT.wf cLink x1) /\ True /\ True /\ True -> True -> (∃ (x1 : Int), (0 <= x1 /\ x1 <= (x.length : Int) /\ ∀ (x2 : Int × Int × Int × Int × Int × Int), x2 ∈ List.take x1.toNat x -> (!pLos x2) = false) /\ x = x /\ x = x /\ (x.length : Int) = (x.length : Int) /\ (0 : Int) = x1 /\ True) /\ ∀ (x1 : Int), (0 <= x1 /\ x1 <= (x.length : Int) /\ ∀ (x2 : Int × Int × Int × Int × Int × Int), x2 ∈ List.take x1.toNat x -> (!pLos x2) = false) -> ifP (decide (x1 < (x.length : Int))) (0 <= x1 /\ x1 < (x.length : Int) /\ ifP (!pLos (x.getD x1.toNat default)) (x1 = idxI (fun (x : Link) => !pLos x) x /\ () = ()) (∃ (x2 : Int), (0 <= x2 /\ x2 <= (x.length : Int) /\ ∀ (x3 : Int × Int × Int × Int × Int × Int), x3 ∈ List.take x2.toNat x -> (!pLos x3) = false) /\ Int.toNat ((x.length : Int) - x2) < Int.toNat ((x.length : Int) -
 x1) /\ x = x /\ x = x /\ (x.length : Int) = (x.length : Int) /\ IntKind.wrap .i64 (x1 + (1 : Int)) = x2 /\ True)) ((-1 : Int) = idxI (fun (x : Link) => !pLos x) x /\ () = ()) := by
  rintro l ⟨⟨hl, -⟩, -⟩ -
  simp only [maxLen] at hl
  refine ⟨⟨0, ⟨by omega, by omega, by simp⟩, (by repeat' first | exact trivial | refine ⟨trivial, ?_⟩ | refine ⟨(by with_reducible rfl), ?_⟩ | refine ⟨w64 (by omega) (by omega), ?_⟩ | refine ⟨rfl, ?_⟩)⟩, ?_⟩
  rintro j ⟨j0, j1, hj⟩
  refine ifP_split (fun hk => ?_) (fun hk => ?_)
  · have hk := of_decide_eq_true hk
    refine ⟨j0, hk, ifP_split (fun hm => ?_) (fun hm => ?_)⟩
    · exact ⟨findI_at (q := fun x => !pLos x) j0 hk hj hm, rfl⟩
    · exact ⟨j + 1, ⟨by omega, by omega, all_next (P := fun x => (!pLos x) = false) j0 hk hj hm⟩, by omega, (by repeat' first | exact trivial | refine ⟨trivial, ?_⟩ | refine ⟨(by with_reducible rfl), ?_⟩ | refine ⟨w64 (by omega) (by omega), ?_⟩ | refine ⟨rfl, ?_⟩)⟩
  · exact ⟨findI_none (q := fun x => !pLos x) (of_decide_eq_false hk) hj, rfl⟩
theorem ok_IndexLos : SpecOK Tryz.prog GL 88 ct_IndexLos.spec := Ct.okH _ Tryz.func88 (by kernel_rfl) (withSpec_ok noSpecs_ok ok_NegLos) hmix an_IndexLos (hideMp (by kernel_rfl) vc_IndexLos)

def ct_ContainsLos : Ct := ⟨[.val (.sl cLink), .fn 125 1, .box 100 (.fnc 100)], [.val .bool], fun _ => [], fun d => ((d.1.any (fun x => !pLos x), ()), ((), ()))⟩
def an_ContainsLos : PDs ct_ContainsLos.ps → Anns := (fun _ => {})
theorem vc_ContainsLos : ∀ (x : List Link), (x.length <= maxLen /\ ∀ (x1 : Link), x1 ∈ x -> CT.wf cLink x1) /\ True /\ True /\ True -> True -> (decide (0 <= idxI (fun (x : Link) => !pLos x) x) = List.any x fun (x : Int × Int × Int × Int × Int × Int) => !pLos x) /\ () = () := by
  rintro l - -
  exact ⟨idxI_any, rfl⟩
theorem ok_ContainsLos : SpecOK Tryz.prog GL 50 ct_ContainsLos.spec := Ct.okH _ Tryz.func50 (by kernel_rfl) (withSpec_ok noSpecs_ok ok_IndexLos) hmix an_ContainsLos (hideMp (by kernel_rfl) vc_ContainsLos)

def ct_AllLos : Ct := ⟨[.agg cSpan, .fn 100 0], [.val .bool], fun _ => [], fun d => ((d.1.1.2.1.all pLos, ()), ())⟩
def an_AllLos : PDs ct_AllLos.ps → Anns := (fun _ => {})
theorem vc_AllLos : ∀ (x : List Node) (x1 : List Link) (x2 : List Change) (x3 x4 x5 : Int), (((x.length <= maxLen /\ ∀ (x6 : Node), x6 ∈ x -> CT.wf cNode x6) /\ (x1.length <= maxLen /\ ∀ (x : Link), x ∈ x1 -> CT.wf cLink x) /\ x2.length <= maxLen /\ ∀ (x : Change), x ∈ x2 -> CT.wf cChange x) /\ R64 x3 /\ R64 x4 /\ R64 x5) /\ True /\ True -> True -> (!List.any x1 fun (x : Int × Int × Int × Int × Int × Int) => !pLos x) = List.all x1 pLos := by
  intros
  exact any_not
theorem ok_AllLos : SpecOK Tryz.prog GL 98 ct_AllLos.spec := Ct.okH _ Tryz.func98 (by kernel_rfl) (withSpec_ok noSpecs_ok ok_ContainsLos) hmix an_AllLos (hideMp (by kernel_rfl) vc_AllLos)

def ct_truth_lossless : Ct := ⟨[.agg cSpan], [.val .bool], fun _ => [], fun d => ((d.1.1.2.1.all pLos, ()), ())⟩
def an_truth_lossless : PDs ct_truth_lossless.ps → Anns := (fun _ => {})
theorem vc_truth_lossless : ∀ (x : List Node) (x1 : List Link) (x2 : List Change) (x3 x4 x5 : Int), (((x.length <= maxLen /\ ∀ (x6 : Node), x6 ∈ x -> CT.wf cNode x6) /\ (x1.length <= maxLen /\ ∀ (x : Link), x ∈ x1 -> CT.wf cLink x) /\ x2.length <= maxLen /\ ∀ (x : Change), x ∈ x2 -> CT.wf cChange x) /\ R64 x3 /\ R64 x4 /\ R64 x5) /\ True -> True -> List.all x1 pLos = List.all x1 pLos := by
  intros
  rfl
theorem ok_truth_lossless : SpecOK Tryz.prog GL 60 ct_truth_lossless.spec := Ct.okH _ Tryz.func60 (by kernel_rfl) (withSpec_ok noSpecs_ok ok_AllLos) hmix an_truth_lossless (hideMp (by kernel_rfl) vc_truth_lossless)

def ct_truth_stable : Ct := ⟨[.agg cSpan], [.val .bool], fun _ => [], fun d => ((!d.1.1.2.2.any (between d.1.2.2.1 d.1.2.2.2), ()), ())⟩
def an_truth_stable : PDs ct_truth_stable.ps → Anns := (fun _ => {})
theorem vc_truth_stable : ∀ (x : List Node) (x1 : List Link) (x2 : List Change) (x3 x4 x5 : Int), (((x.length <= maxLen /\ ∀ (x6 : Node), x6 ∈ x -> CT.wf cNode x6) /\ (x1.length <= maxLen /\ ∀ (x : Link), x ∈ x1 -> CT.wf cLink x) /\ x2.length <= maxLen /\ ∀ (x : Change), x ∈ x2 -> CT.wf cChange x) /\ R64 x3 /\ R64 x4 /\ R64 x5) /\ True -> True -> (!List.any x2 (between x4 x5)) = !List.any x2 (between x4 x5) := by
  intros
  rfl
theorem ok_truth_stable : SpecOK Tryz.prog GL 53 ct_truth_stable.spec := Ct.okH _ Tryz.func53 (by kernel_rfl) (withSpec_ok noSpecs_ok ok_topology_Changed) hmix an_truth_stable (hideMp (by kernel_rfl) vc_truth_stable)
end Go.RS


/- Truth3: assumptions about spans of time. -/
namespace Go.RS
open Go.SX Go.Proofs
set_option maxRecDepth 100000
set_option linter.unusedVariables false

def stepTm (s t : Int) (l : List Int) (c : Change) : List Int := if s < hAt c ∧ hAt c ≤ t ∧ lastI l < hAt c then l ++ [hAt c] else l
def timesV (hs : List Change) (s t : Int) : List Int := hs.foldl (stepTm s t) [s]
theorem tm_pos {s t : Int} {l : List Int} {c : Change} (h : 0 < l.length) : 0 < (stepTm s t l c).length := by
  unfold stepTm; split
  · simp
  · exact h
theorem tm_len (s t : Int) : ∀ (hs : List Change) (l : List Int), (hs.foldl (stepTm s t) l).length ≤ l.length + hs.length ∧ (0 < l.length → 0 < (hs.foldl (stepTm s t) l).length)
  | [], l => ⟨by simp, fun h => h⟩
  | c :: hs, l => by
    have k := tm_len s t hs (stepTm s t l c)
    have e : (stepTm s t l c).length ≤ l.length + 1 := by unfold stepTm; split <;> simp
    rw [List.foldl_cons, List.length_cons]
    exact ⟨by omega, fun h => k.2 (tm_pos h)⟩
def ct_truth_span_times : Ct := ⟨[.agg cSpan], [.own 3 cI], fun d => [d.1.1.2.2.length ≤ 1000], fun d => ((timesV d.1.1.2.2 d.1.2.2.1 d.1.2.2.2, ()), ())⟩
def an_truth_span_times : PDs ct_truth_span_times.ps → Anns := (fun d => { loops := (fun n => match n with | 3 => some (fun S => { ι := Int × (List Int), qn := ⟨fun k_ => ∀ (j : Int) (l : (List Int)), k_ (j, l), fun k_ h_ i => h_ i.1 i.2, fun k_ => ∃ (j : Int) (l : (List Int)), k_ (j, l), fun k_ ⟨j, l, h_⟩ => ⟨_, h_⟩⟩, μ := fun i => (d.1.1.2.2.length - i.1).toNat, inv := fun i => 0 ≤ i.1 ∧ i.1 ≤ d.1.1.2.2.length ∧ i.2 = timesV (d.1.1.2.2.take i.1.toNat) d.1.2.2.1 d.1.2.2.2, keep := [1, 11, 12], slots := fun i => [(3, .own 524288 1), (13, .int .i64 i.1)], keepN := [32], names := fun i => [(524288, .live (.row 3 cI i.2))] }) | _ => none) })
theorem vc_truth_span_times : ∀ (x : List Node) (x1 : List Link) (x2 : List Change) (x3 x4 x5 : Int), (((x.length <= maxLen /\ ∀ (x6 : Node), x6 ∈ x -> CT.wf cNode x6) /\ (x1.length <= maxLen /\ ∀ (x : Link), x ∈ x1 -> CT.wf cLink x) /\ x2.length <= maxLen /\ ∀ (x : Change), x ∈ x2 -> CT.wf cChange x) /\ R64 x3 /\ R64 x4 /\ R64 x5) /\ True -> x2.length <= (1000 : Nat) -> (∃ (j : Int) (l : List Int), (0 <= j /\ j <= (x2.length : Int) /\ l = timesV (List.take j.toNat x2) x4 x5) /\ x2 = x2 /\ (x2.length : Int) = (x2.length : Int) /\ (0 : Int) = j /\ x = x /\ x1 = x1 /\ x2 = x2 /\ x3 = x3 /\ x4 = x4 /\ x5 = x5 /\ [x4] = l /\ True) /\ ∀ (j : Int) (l : List Int), 0 <= j /\ j <= (x2.length : Int) /\ l = timesV (List.take j.toNat x2) x4 x5 -> ifP (decide (j < (x2.length : Int))) (0 <= j /\ j < (x2.length : Int) /\ ∀ (b : Bool), b = decide (x4 < (x2.getD j.toNat default).1) -> (b -> (b -> b) /\
 True) /\ (b -> (b -> b) /\ True) /\ (b -> (b -> b) /\ (b -> b) /\ True) /\ (b -> b) /\ ∀ (b1 : Bool), (b1 = bif b then decide ((x2.getD j.toNat default).1 <= x5) else false) -> (b1 -> (b1 -> b1) /\ True) /\ (b1 -> (b1 -> b1) /\ True) /\ (b1 -> (b1 -> b1) /\ True) /\ (b1 -> (b1 -> b1) /\ (b1 -> b1) /\ 0 <= IntKind.wrap .i64 ((l.length : Int) - (1 : Int)) /\ IntKind.wrap .i64 ((l.length : Int) - (1 : Int)) < (l.length : Int) /\ True) /\ (b1 -> (b1 -> b1) /\ True) /\ (b1 -> (b1 -> b1) /\ (b1 -> b1) /\ True) /\ (b1 -> b1) /\ ifP (bif b1 then decide (l.getD (Int.toNat (IntKind.wrap .i64 ((l.length : Int) - (1 : Int)))) default < (x2.getD j.toNat default).1) else false) ((l.length + List.length [(x2.getD j.toNat default).1]) * (8 : Nat) <= (140737488355328 : Nat) /\ ∃ (j_1 : Int) (l_1 : List Int), (0 <= j_1 /\ j_1 <= (x2.length : Int) /\ l_1 = timesV (List.take j_1.toNat x2) x4 x5) /\
 Int.toNat ((x2.length : Int) - j_1) < Int.toNat ((x2.length : Int) - j) /\ x2 = x2 /\ (x2.length : Int) = (x2.length : Int) /\ IntKind.wrap .i64 (j + (1 : Int)) = j_1 /\ x = x /\ x1 = x1 /\ x2 = x2 /\ x3 = x3 /\ x4 = x4 /\ x5 = x5 /\ l ++ [(x2.getD j.toNat default).1] = l_1 /\ True) (∃ (j_1 : Int) (l_1 : List Int), (0 <= j_1 /\ j_1 <= (x2.length : Int) /\ l_1 = timesV (List.take j_1.toNat x2) x4 x5) /\ Int.toNat ((x2.length : Int) - j_1) < Int.toNat ((x2.length : Int) - j) /\ x2 = x2 /\ (x2.length : Int) = (x2.length : Int) /\ IntKind.wrap .i64 (j + (1 : Int)) = j_1 /\ x = x /\ x1 = x1 /\ x2 = x2 /\ x3 = x3 /\ x4 = x4 /\ x5 = x5 /\ l = l_1 /\ True)) (l = timesV x2 x4 x5) := by
  rintro ns ls hs who s t ⟨⟨-, ⟨s0, s1⟩, ⟨t0, t1⟩⟩, -⟩ hn
  refine ⟨⟨0, _, ⟨by omega, by omega, rfl⟩, (by repeat' first | exact trivial | refine ⟨trivial, ?_⟩ | refine ⟨(by with_reducible rfl), ?_⟩ | refine ⟨w64 (by omega) (by omega), ?_⟩ | refine ⟨rfl, ?_⟩)⟩, ?_⟩
  rintro j l ⟨j0, j1, rfl⟩
  have tl := tm_len s t (hs.take j.toNat) [s]
  have hp : 0 < (timesV (hs.take j.toNat) s t).length := tl.2 (by simp)
  have hq : (timesV (hs.take j.toNat) s t).length ≤ 1 + hs.length := by
    have := tl.1
    have h2 : (hs.take j.toNat).length ≤ hs.length := by rw [List.length_take]; exact Nat.min_le_right _ _
    simp only [List.length_singleton] at this
    unfold timesV; omega
  rw [w64 (n := ((timesV (hs.take j.toNat) s t).length : Int) - 1) (by omega) (by omega), lastI_eq]
  refine ifP_split (fun hj => ?_) (fun hj => ?_)
  · have hj := of_decide_eq_true hj
    have st : timesV (hs.take (j + 1).toNat) s t = stepTm s t (timesV (hs.take j.toNat) s t) (hs.getD j.toNat default) := by
      unfold timesV; rw [take_step j0 hj, List.foldl_append]; rfl
    refine ⟨j0, hj, ?_⟩
    intro b hb
    (repeat refine ⟨fun h_ => (by first | (simp; done) | (simp [h_]; done) | (simp_all; done)), ?_⟩)
    intro b1 hb1
    (repeat refine ⟨fun h_ => (by first | exact ⟨fun _ => h_, fun _ => h_, by omega, by omega, trivial⟩ | (simp; done) | (simp [h_]; done) | (simp_all; done)), ?_⟩)
    rw [hb1, hb, band_d, band_d]
    refine ifP_split (fun h => ?_) (fun h => ?_)
    · have h := of_decide_eq_true h
      refine ⟨by simp only [List.length_singleton]; omega, j + 1, _, ⟨by omega, by omega, rfl⟩, by omega, ?_⟩
      (repeat first | refine ⟨trivial, ?_⟩ | refine ⟨(by with_reducible rfl), ?_⟩ | refine ⟨w64 (by omega) (by omega), ?_⟩)
      refine ⟨?_, trivial⟩
      rw [st]; exact (if_pos ⟨h.1.1, h.1.2, h.2⟩).symm
    · have h := of_decide_eq_false h
      refine ⟨j + 1, _, ⟨by omega, by omega, rfl⟩, by omega, ?_⟩
      (repeat first | refine ⟨trivial, ?_⟩ | refine ⟨(by with_reducible rfl), ?_⟩ | refine ⟨w64 (by omega) (by omega), ?_⟩)
      refine ⟨?_, trivial⟩
      rw [st]; exact (if_neg fun k => h ⟨⟨k.1, k.2.1⟩, k.2.2⟩).symm
  · have hj := of_decide_eq_false hj
    rw [List.take_of_length_le (by omega)]
theorem ok_truth_span_times : SpecOK Tryz.prog GL 94 ct_truth_span_times.spec := Ct.okH _ Tryz.func94 (by kernel_rfl) noSpecs_ok hmix an_truth_span_times (hideMp (by kernel_rfl) vc_truth_span_times)
def perPkt (r : Rt) : Bool := decide (1 < (r.2.1.length : Int) ∧ r.2.2 = 3)
def flowV (n : Net) (at' : Int) : Bool := (List.range n.1.length).all fun i => (routesV n i at').all fun r => !perPkt r
def ct_truth_flowwise : Ct := ⟨[.agg cSpan], [.val .bool], fun d => [okNet d.1.1], fun d => (((timesV d.1.1.2.2 d.1.2.2.1 d.1.2.2.2).all (flowV d.1.1), ()), ())⟩
def an_truth_flowwise : PDs ct_truth_flowwise.ps → Anns := (fun d => { loops := (fun n => match n with | 2 => some (fun S => { ι := Int, μ := fun i => ((timesV d.1.1.2.2 d.1.2.2.1 d.1.2.2.2).length - i).toNat, inv := fun i => 0 ≤ i ∧ i ≤ (timesV d.1.1.2.2 d.1.2.2.1 d.1.2.2.2).length ∧ ∀ x ∈ (timesV d.1.1.2.2 d.1.2.2.1 d.1.2.2.2).take i.toNat, flowV d.1.1 x = true, keep := [1, 9, 10], slots := fun i => [(11, .int .i64 i)], keepN := [32, 160], names := fun i => [] }) | 5 => some (fun S => { ι := Int × Int, qn := ⟨fun k_ => ∀ (i : Int) (a : Int), k_ (i, a), fun k_ h_ i => h_ i.1 i.2, fun k_ => ∃ (i : Int) (a : Int), k_ (i, a), fun k_ ⟨i, a, h_⟩ => ⟨_, h_⟩⟩, μ := fun i => (d.1.1.1.length - i.1).toNat, inv := fun i => i.2 = (timesV d.1.1.2.2 d.1.2.2.1 d.1.2.2.2).getD (S.i 11).toNat default ∧ 0 ≤ i.1 ∧ i.1 ≤ d.1.1.1.length ∧ ∀ k : Nat, (k : Int) < i.1 → (routesV d.1.1 k i.2).all (fun r => !perPkt r) = true, keep := [1, 9, 10, 11, 18], slots := fun i => [(4, .int .i64 i.2), (19, .int .i64 i.1)], keepN := [32, 160], names := fun i => [] }) | 8 => some (fun S => { ι := Int, μ := fun i => ((routesV d.1.1 (S.i 5) (S.i 4)).length - i).toNat, inv := fun i => 0 ≤ i ∧ i ≤ (routesV d.1.1 (S.i 5) (S.i 4)).length ∧ ∀ r ∈ (routesV d.1.1 (S.i 5) (S.i 4)).take i.toNat, perPkt r = false, keep := [1, 4, 5, 9, 10, 11, 18, 19, 26, 27], slots := fun i => [(28, .int .i64 i)], keepN := [32, 160, 432], names := fun i => [] }) | _ => none) })
theorem vc_truth_flowwise : ∀ (x : List Node) (x1 : List Link) (x2 : List Change) (x3 x4 x5 : Int), (((x.length <= maxLen /\ ∀ (x6 : Node), x6 ∈ x -> CT.wf cNode x6) /\ (x1.length <= maxLen /\ ∀ (x : Link), x ∈ x1 -> CT.wf cLink x) /\ x2.length <= maxLen /\ ∀ (x : Change), x ∈ x2 -> CT.wf cChange x) /\ R64 x3 /\ R64 x4 /\ R64 x5) /\ True -> okNet (x, x1, x2) -> x2.length <= (1000 : Nat) /\ (∃ (x6 : Int), (0 <= x6 /\ x6 <= ((List.length (timesV x2 x4 x5)) : Int) /\ ∀ (x7 : Int), x7 ∈ List.take x6.toNat (timesV x2 x4 x5) -> flowV (x, x1, x2) x7 = true) /\ ((List.length (timesV x2 x4 x5)) : Int) = ((List.length (timesV x2 x4 x5)) : Int) /\ (0 : Int) = x6 /\ x = x /\ x1 = x1 /\ x2 = x2 /\ x3 = x3 /\ x4 = x4 /\ x5 = x5 /\ timesV x2 x4 x5 = timesV x2 x4 x5 /\ True) /\ ∀ (x6 : Int), (0 <= x6 /\ x6 <= ((List.length (timesV x2 x4 x5)) : Int) /\ ∀ (x7 : Int), x7 ∈ List.take x6.toNat (timesV x2 x4
 x5) -> flowV (x, x1, x2) x7 = true) -> ifP (decide (x6 < ((List.length (timesV x2 x4 x5)) : Int))) (0 <= x6 /\ x6 < ((List.length (timesV x2 x4 x5)) : Int) /\ (∃ (i : Int) (a : Int), (a = List.getD (timesV x2 x4 x5) x6.toNat default /\ 0 <= i /\ i <= (x.length : Int) /\ ∀ (k : Nat), (↑k : Int) < i -> (List.all (routesV (x, x1, x2) (↑k : Int) a) fun (r : Rt) => !perPkt r) = true) /\ List.getD (timesV x2 x4 x5) x6.toNat default = a /\ ((List.length (timesV x2 x4 x5)) : Int) = ((List.length (timesV x2 x4 x5)) : Int) /\ x6 = x6 /\ (x.length : Int) = (x.length : Int) /\ (0 : Int) = i /\ x = x /\ x1 = x1 /\ x2 = x2 /\ x3 = x3 /\ x4 = x4 /\ x5 = x5 /\ timesV x2 x4 x5 = timesV x2 x4 x5 /\ True) /\ ∀ (i a : Int), (a = List.getD (timesV x2 x4 x5) x6.toNat default /\ 0 <= i /\ i <= (x.length : Int) /\ ∀ (k : Nat), (↑k : Int) < i -> (List.all (routesV (x, x1, x2) (↑k : Int) a) fun (r : Rt) =>
 !perPkt r) = true) -> ifP (decide (i < (x.length : Int))) (okNet (x, x1, x2) /\ (∃ (x7 : Int), (0 <= x7 /\ x7 <= ((List.length (routesV (x, x1, x2) i a)) : Int) /\ ∀ (r : Rt), r ∈ List.take x7.toNat (routesV (x, x1, x2) i a) -> perPkt r = false) /\ a = a /\ i = i /\ ((List.length (timesV x2 x4 x5)) : Int) = ((List.length (timesV x2 x4 x5)) : Int) /\ x6 = x6 /\ (x.length : Int) = (x.length : Int) /\ i = i /\ ((List.length (routesV (x, x1, x2) i a)) : Int) = ((List.length (routesV (x, x1, x2) i a)) : Int) /\ (0 : Int) = x7 /\ x = x /\ x1 = x1 /\ x2 = x2 /\ x3 = x3 /\ x4 = x4 /\ x5 = x5 /\ timesV x2 x4 x5 = timesV x2 x4 x5 /\ routesV (x, x1, x2) i a = routesV (x, x1, x2) i a /\ True) /\ ∀ (x7 : Int), (0 <= x7 /\ x7 <= ((List.length (routesV (x, x1, x2) i a)) : Int) /\ ∀ (r : Rt), r ∈ List.take x7.toNat (routesV (x, x1, x2) i a) -> perPkt r = false) -> ifP (decide (x7 < ((List.length
 (routesV (x, x1, x2) i a)) : Int))) (0 <= x7 /\ x7 < ((List.length (routesV (x, x1, x2) i a)) : Int) /\ ∀ (b : Bool), b = decide (1 < ((List.length (List.getD (routesV (x, x1, x2) i a) x7.toNat default).2.1) : Int)) -> (b -> (b -> b) /\ True) /\ (b -> (b -> b) /\ True) /\ (b -> b) /\ ifP (bif b then decide ((List.getD (routesV (x, x1, x2) i a) x7.toNat default).2.2 = 3) else false) (false = List.all (timesV x2 x4 x5) (flowV (x, x1, x2))) (∃ (x8 : Int), (0 <= x8 /\ x8 <= ((List.length (routesV (x, x1, x2) i a)) : Int) /\ ∀ (r : Rt), r ∈ List.take x8.toNat (routesV (x, x1, x2) i a) -> perPkt r = false) /\ Int.toNat (((List.length (routesV (x, x1, x2) i a)) : Int) - x8) < Int.toNat (((List.length (routesV (x, x1, x2) i a)) : Int) - x7) /\ a = a /\ i = i /\ ((List.length (timesV x2 x4 x5)) : Int) = ((List.length (timesV x2 x4 x5)) : Int) /\ x6 = x6 /\ (x.length : Int) = (x.length : Int) /\ i
 = i /\ ((List.length (routesV (x, x1, x2) i a)) : Int) = ((List.length (routesV (x, x1, x2) i a)) : Int) /\ IntKind.wrap .i64 (x7 + (1 : Int)) = x8 /\ x = x /\ x1 = x1 /\ x2 = x2 /\ x3 = x3 /\ x4 = x4 /\ x5 = x5 /\ timesV x2 x4 x5 = timesV x2 x4 x5 /\ routesV (x, x1, x2) i a = routesV (x, x1, x2) i a /\ True)) (∃ (i_1 : Int) (a_3 : Int), (a_3 = List.getD (timesV x2 x4 x5) x6.toNat default /\ 0 <= i_1 /\ i_1 <= (x.length : Int) /\ ∀ (k : Nat), (↑k : Int) < i_1 -> (List.all (routesV (x, x1, x2) (↑k : Int) a_3) fun (r : Rt) => !perPkt r) = true) /\ Int.toNat ((x.length : Int) - i_1) < Int.toNat ((x.length : Int) - i) /\ a = a_3 /\ ((List.length (timesV x2 x4 x5)) : Int) = ((List.length (timesV x2 x4 x5)) : Int) /\ x6 = x6 /\ (x.length : Int) = (x.length : Int) /\ IntKind.wrap .i64 (i + (1 : Int)) = i_1 /\ x = x /\ x1 = x1 /\ x2 = x2 /\ x3 = x3 /\ x4 = x4 /\ x5 = x5 /\ timesV x2 x4 x5 =
 timesV x2 x4 x5 /\ True)) (∃ (x7 : Int), (0 <= x7 /\ x7 <= ((List.length (timesV x2 x4 x5)) : Int) /\ ∀ (x8 : Int), x8 ∈ List.take x7.toNat (timesV x2 x4 x5) -> flowV (x, x1, x2) x8 = true) /\ Int.toNat (((List.length (timesV x2 x4 x5)) : Int) - x7) < Int.toNat (((List.length (timesV x2 x4 x5)) : Int) - x6) /\ ((List.length (timesV x2 x4 x5)) : Int) = ((List.length (timesV x2 x4 x5)) : Int) /\ IntKind.wrap .i64 (x6 + (1 : Int)) = x7 /\ x = x /\ x1 = x1 /\ x2 = x2 /\ x3 = x3 /\ x4 = x4 /\ x5 = x5 /\ timesV x2 x4 x5 = timesV x2 x4 x5 /\ True)) (true = List.all (timesV x2 x4 x5) (flowV (x, x1, x2))) := by
  rintro ns ls hs who s t ⟨⟨⟨⟨hnl, -⟩, -⟩, -⟩, -⟩ ok
  simp only [maxLen] at hnl
  have hc := ok.c
  have tl := (tm_len s t hs [s]).1
  simp only [List.length_singleton] at tl
  have tl2 : (timesV hs s t).length ≤ 1001 := by unfold timesV; dsimp only at hc; omega
  refine ⟨hc, ⟨0, ⟨by omega, by omega, by simp⟩, (by repeat' first | exact trivial | refine ⟨trivial, ?_⟩ | refine ⟨(by with_reducible rfl), ?_⟩ | refine ⟨w64 (by omega) (by omega), ?_⟩ | refine ⟨rfl, ?_⟩)⟩, ?_⟩
  rintro j ⟨j0, j1, hJ⟩
  have allF : ∀ {x : Int}, x ∈ timesV hs s t → flowV (ns, ls, hs) x = false → false = (timesV hs s t).all (flowV (ns, ls, hs)) := fun hx h => by
    symm; rw [List.all_eq_false]; exact ⟨_, hx, by rw [h]; decide⟩
  refine ifP_split (fun hj => ?_) (fun hj => ?_)
  rotate_left
  · have hj := of_decide_eq_false hj
    rw [List.take_of_length_le (by omega)] at hJ
    symm; rw [List.all_eq_true]; exact hJ
  have hj := of_decide_eq_true hj
  have hm := getD_mem j0 hj
  have nxt := fun h => all_next j0 hj hJ h (P := fun x => flowV (ns, ls, hs) x = true)
  generalize (timesV hs s t).getD j.toNat default = a0 at hm nxt ⊢
  refine ⟨j0, hj, ⟨0, a0, ⟨rfl, by omega, by omega, fun k hk => by omega⟩, (by repeat' first | exact trivial | refine ⟨trivial, ?_⟩ | refine ⟨(by with_reducible rfl), ?_⟩ | refine ⟨w64 (by omega) (by omega), ?_⟩ | refine ⟨rfl, ?_⟩)⟩, ?_⟩
  rintro i a ⟨ea, i0, i1, hI⟩
  subst ea
  refine ifP_split (fun hi => ?_) (fun hi => ?_)
  rotate_left
  · have hi := of_decide_eq_false hi
    refine ⟨j + 1, ⟨by omega, by omega, nxt ?_⟩, by omega, (by repeat' first | exact trivial | refine ⟨trivial, ?_⟩ | refine ⟨(by with_reducible rfl), ?_⟩ | refine ⟨w64 (by omega) (by omega), ?_⟩ | refine ⟨rfl, ?_⟩)⟩
    unfold flowV
    rw [List.all_eq_true]
    intro k hk
    have hk := List.mem_range.1 hk
    dsimp only at hk
    exact hI k (by omega)
  have hi := of_decide_eq_true hi
  have tb := (routesV_ok ok i a).n
  refine ⟨ok, ⟨0, ⟨by omega, by omega, by simp⟩, (by repeat' first | exact trivial | refine ⟨trivial, ?_⟩ | refine ⟨(by with_reducible rfl), ?_⟩ | refine ⟨w64 (by omega) (by omega), ?_⟩ | refine ⟨rfl, ?_⟩)⟩, ?_⟩
  rintro q ⟨q0, q1, hQ⟩
  refine ifP_split (fun hq => ?_) (fun hq => ?_)
  rotate_left
  · have hq := of_decide_eq_false hq
    rw [List.take_of_length_le (by omega)] at hQ
    refine ⟨i + 1, a, ⟨rfl, by omega, by omega, fun k hk => ?_⟩, by omega, (by repeat' first | exact trivial | refine ⟨trivial, ?_⟩ | refine ⟨(by with_reducible rfl), ?_⟩ | refine ⟨w64 (by omega) (by omega), ?_⟩ | refine ⟨rfl, ?_⟩)⟩
    by_cases e : (k : Int) < i
    · exact hI k e
    · have : (k : Int) = i := by omega
      rw [this, List.all_eq_true]
      intro r hr
      rw [hQ r hr]; rfl
  have hq := of_decide_eq_true hq
  have hmr := getD_mem q0 hq
  have nxr := fun h => all_next q0 hq hQ h (P := fun r => perPkt r = false)
  refine ⟨q0, hq, ?_⟩
  generalize (routesV (ns, ls, hs) i a).getD q.toNat default = r at hmr nxr ⊢
  (repeat (intro (b_ : Bool) (hb_ : b_ = _); (repeat refine ⟨(by first | (simp; done) | (rw [hb_]; simp; done) | (rw [hb_]; simp; omega) | (rw [hb_]; simp; intros; omega) | (rw [hb_]; simp +contextual; done)), ?_⟩); subst hb_))
  rw [band_d]
  refine ifP_split (fun h => ?_) (fun h => ?_)
  · refine allF hm ?_
    unfold flowV
    rw [List.all_eq_false]
    refine ⟨i.toNat, List.mem_range.2 (by dsimp only; omega), ?_⟩
    rw [show ((i.toNat : Nat) : Int) = i by omega, Bool.not_eq_true, List.all_eq_false]
    refine ⟨r, hmr, ?_⟩
    have h : perPkt r = true := h
    rw [h]; decide
  · exact ⟨q + 1, ⟨by omega, by omega, nxr h⟩, by omega, (by repeat' first | exact trivial | refine ⟨trivial, ?_⟩ | refine ⟨(by with_reducible rfl), ?_⟩ | refine ⟨w64 (by omega) (by omega), ?_⟩ | refine ⟨rfl, ?_⟩)⟩
theorem ok_truth_flowwise : SpecOK Tryz.prog GL 57 ct_truth_flowwise.spec := Ct.okH _ Tryz.func57 (by kernel_rfl) (withSpec_ok (withSpec_ok (withSpec_ok noSpecs_ok ok_truth_span_times) ok_topology_Routes) ok_truth_several) hmix an_truth_flowwise (hideMp (by kernel_rfl) vc_truth_flowwise)
def oneAt (n : Net) (w : Way) (at' dst : Int) (i : Nat) : Bool := !decide (1 < ((lookR (routesV n (w.1.getD i default) at') dst).2.1.length : Int))
def singleV (n : Net) (w : Way) (at' dst : Int) : Bool := (List.range w.2.1.length).all (oneAt n w at' dst)
def ct_truth_span_single : Ct := ⟨[.agg cSpan, .agg cWay, .val cI, .val cU32], [.val .bool], fun d => [okNet d.1.1, d.2.1.2.1.length ≤ d.2.1.1.length], fun d => ((singleV d.1.1 d.2.1 d.2.2.1 d.2.2.2.1, ()), ())⟩
def an_truth_span_single : PDs ct_truth_span_single.ps → Anns := (fun d => { loops := (fun n => match n with | 2 => some (fun S => { ι := Int, μ := fun i => (d.2.1.2.1.length - i).toNat, inv := fun i => 0 ≤ i ∧ i ≤ d.2.1.2.1.length ∧ ∀ k : Nat, (k : Int) < i → oneAt d.1.1 d.2.1 d.2.2.1 d.2.2.2.1 k = true, keep := [2, 3, 4, 5, 14], slots := fun i => [(15, .int .i64 i)], keepN := [80, 96], names := fun i => [] }) | _ => none) })
theorem vc_truth_span_single : ∀ (x : List Node) (x1 : List Link) (x2 : List Change) (x3 x4 x5 : Int) (x6 x7 : List Int) (x8 x9 x10 : Int), (((x.length <= maxLen /\ ∀ (x11 : Node), x11 ∈ x -> CT.wf cNode x11) /\ (x1.length <= maxLen /\ ∀ (x : Link), x ∈ x1 -> CT.wf cLink x) /\ x2.length <= maxLen /\ ∀ (x : Change), x ∈ x2 -> CT.wf cChange x) /\ R64 x3 /\ R64 x4 /\ R64 x5) /\ ((x6.length <= maxLen /\ ∀ (x : Int), x ∈ x6 -> R64 x) /\ (x7.length <= maxLen /\ ∀ (x : Int), x ∈ x7 -> R64 x) /\ R64 x8) /\ R64 x9 /\ (0 <= x10 /\ x10 <= 4294967295) /\ True -> okNet (x, x1, x2) /\ x7.length <= x6.length -> (∃ (x11 : Int), (0 <= x11 /\ x11 <= (x7.length : Int) /\ ∀ (k : Nat), (↑k : Int) < x11 -> oneAt (x, x1, x2) (x6, x7, x8) x9 x10 k = true) /\ x9 = x9 /\ x10 = x10 /\ (x7.length : Int) = (x7.length : Int) /\ (0 : Int) = x11 /\ x = x /\ x1 = x1 /\ x2 = x2 /\ x3 = x3 /\ x4 = x4 /\ x5 = x5 /\ x6 = x6
 /\ x7 = x7 /\ x8 = x8 /\ True) /\ ∀ (x11 : Int), (0 <= x11 /\ x11 <= (x7.length : Int) /\ ∀ (k : Nat), (↑k : Int) < x11 -> oneAt (x, x1, x2) (x6, x7, x8) x9 x10 k = true) -> ifP (decide (x11 < (x7.length : Int))) (0 <= x11 /\ x11 < (x6.length : Int) /\ okNet (x, x1, x2) /\ sortedR (routesV (x, x1, x2) (x6.getD x11.toNat default) x9) /\ okL (routesV (x, x1, x2) (x6.getD x11.toNat default) x9) /\ ifP (decide (1 < ((List.length (lookR (routesV (x, x1, x2) (x6.getD x11.toNat default) x9) x10).2.1) : Int))) (false = singleV (x, x1, x2) (x6, x7, x8) x9 x10) (∃ (x12 : Int), (0 <= x12 /\ x12 <= (x7.length : Int) /\ ∀ (k : Nat), (↑k : Int) < x12 -> oneAt (x, x1, x2) (x6, x7, x8) x9 x10 k = true) /\ Int.toNat ((x7.length : Int) - x12) < Int.toNat ((x7.length : Int) - x11) /\ x9 = x9 /\ x10 = x10 /\ (x7.length : Int) = (x7.length : Int) /\ IntKind.wrap .i64 (x11 + (1 : Int)) = x12 /\ x = x /\ x1 =
 x1 /\ x2 = x2 /\ x3 = x3 /\ x4 = x4 /\ x5 = x5 /\ x6 = x6 /\ x7 = x7 /\ x8 = x8 /\ True)) (true = singleV (x, x1, x2) (x6, x7, x8) x9 x10) := by
  rintro ns ls hs who s t u v e at' dst ⟨-, ⟨⟨hu, -⟩, ⟨hv, -⟩, -⟩, -⟩ ⟨ok, hl⟩
  simp only [maxLen] at hu hv
  refine ⟨⟨0, ⟨by omega, by omega, fun k hk => by omega⟩, (by repeat' first | exact trivial | refine ⟨trivial, ?_⟩ | refine ⟨(by with_reducible rfl), ?_⟩ | refine ⟨w64 (by omega) (by omega), ?_⟩ | refine ⟨rfl, ?_⟩)⟩, ?_⟩
  rintro i ⟨i0, i1, hI⟩
  refine ifP_split (fun hi => ?_) (fun hi => ?_)
  · have hi := of_decide_eq_true hi
    have tb := routesV_ok ok (u.getD i.toNat default) at'
    refine ⟨i0, by omega, ok, tb.s, tb.okL (by decide), ifP_split (fun h => ?_) (fun h => ?_)⟩
    · unfold singleV
      symm
      rw [List.all_eq_false]
      refine ⟨i.toNat, List.mem_range.2 (by dsimp only; omega), ?_⟩
      unfold oneAt
      dsimp only
      rw [h]; decide
    · refine ⟨i + 1, ⟨by omega, by omega, fun k hk => ?_⟩, by omega, (by repeat' first | exact trivial | refine ⟨trivial, ?_⟩ | refine ⟨(by with_reducible rfl), ?_⟩ | refine ⟨w64 (by omega) (by omega), ?_⟩ | refine ⟨rfl, ?_⟩)⟩
      by_cases e : (k : Int) < i
      · exact hI k e
      · have : k = i.toNat := by omega
        subst this
        unfold oneAt
        dsimp only
        rw [h]; rfl
  · have hi := of_decide_eq_false hi
    unfold singleV
    symm
    rw [List.all_eq_true]
    intro k hk
    have hk := List.mem_range.1 hk
    dsimp only at hk
    exact hI k (by omega)
theorem ok_truth_span_single : SpecOK Tryz.prog GL 122 ct_truth_span_single.spec := Ct.okH _ Tryz.func122 (by kernel_rfl) (withSpec_ok (withSpec_ok (withSpec_ok noSpecs_ok ok_topology_Routes) ok_fib_Lookup) ok_truth_several) hmix an_truth_span_single (hideMp (by kernel_rfl) vc_truth_span_single)
structure RevI (xs l : List Int) (i j : Int) : Prop where
  n : l.length = xs.length
  e : ∀ k : Nat, k < xs.length → l.getD k default = if (k : Int) < i ∨ j < k then xs.getD (xs.length - 1 - k) default else xs.getD k default
def ct_slices_Reverse_263e : Ct := ⟨[.row 3 cI], [], fun d => [], fun d => ((), (d.1.reverse, ()))⟩
def an_slices_Reverse_263e : PDs ct_slices_Reverse_263e.ps → Anns := (fun d => { loops := (fun n => match n with | 1 => some (fun S => { ι := Int × Int × (List Int), qn := ⟨fun k_ => ∀ (i : Int) (j : Int) (l : (List Int)), k_ (i, j, l), fun k_ h_ i => h_ i.1 i.2.1 i.2.2, fun k_ => ∃ (i : Int) (j : Int) (l : (List Int)), k_ (i, j, l), fun k_ ⟨i, j, l, h_⟩ => ⟨_, h_⟩⟩, μ := fun i => (i.2.1 - i.1).toNat, inv := fun i => 0 ≤ i.1 ∧ i.1 + i.2.1 + 1 = d.1.length ∧ i.1 ≤ i.2.1 + 1 ∧ RevI d.1 i.2.2 i.1 i.2.1, keep := [0], slots := fun i => [(2, .int .i64 i.1), (3, .int .i64 i.2.1)], names := fun i => [(1048576, .live (.row 3 cI i.2.2))] }) | _ => none) })
theorem vc_slices_Reverse_263e : ∀ (x : List Int), (x.length <= maxLen /\ ∀ (x1 : Int), x1 ∈ x -> R64 x1) /\ True -> True -> (∃ (i : Int) (j : Int), ∃ (l : List Int), (0 <= i /\ i + j + (1 : Int) = (x.length : Int) /\ i <= j + (1 : Int) /\ RevI x l i j) /\ (0 : Int) = i /\ IntKind.wrap .i64 ((x.length : Int) - (1 : Int)) = j /\ x = l /\ True) /\ ∀ (i j : Int) (l : List Int), 0 <= i /\ i + j + (1 : Int) = (x.length : Int) /\ i <= j + (1 : Int) /\ RevI x l i j -> ifP (decide (i < j)) (0 <= j /\ j < (l.length : Int) /\ 0 <= i /\ i < (l.length : Int) /\ 0 <= i /\ i < (l.length : Int) /\ 0 <= j /\ j < ((List.length (List.set l i.toNat (l.getD j.toNat default))) : Int) /\ ∃ (i_1 : Int) (j_1 : Int), ∃ (l_1 : List Int), (0 <= i_1 /\ i_1 + j_1 + (1 : Int) = (x.length : Int) /\ i_1 <= j_1 + (1 : Int) /\ RevI x l_1 i_1 j_1) /\ Int.toNat (j_1 - i_1) < Int.toNat (j - i) /\ IntKind.wrap .i64 (i + (1 :
 Int)) = i_1 /\ IntKind.wrap .i64 (j - (1 : Int)) = j_1 /\ List.set (List.set l i.toNat (l.getD j.toNat default)) j.toNat (l.getD i.toNat default) = l_1 /\ True) (l = List.reverse x) := by
  rintro x ⟨⟨hl, -⟩, -⟩ -
  simp only [maxLen] at hl
  refine ⟨⟨0, (x.length : Int) - 1, x, ⟨by omega, by omega, by omega, rfl, fun k hk => by rw [if_neg (by omega)]⟩, (by repeat' first | exact trivial | refine ⟨trivial, ?_⟩ | refine ⟨(by with_reducible rfl), ?_⟩ | refine ⟨w64 (by omega) (by omega), ?_⟩ | refine ⟨rfl, ?_⟩)⟩, ?_⟩
  rintro i j l ⟨i0, ij, i1, hn, he⟩
  refine ifP_split (fun h => ?_) (fun h => ?_)
  · have h := of_decide_eq_true h
    refine ⟨by omega, by omega, by omega, by omega, by omega, by omega, by omega, by rw [List.length_set]; omega, i + 1, j - 1, _, ⟨by omega, by omega, by omega, ?_⟩, by omega, (by repeat' first | exact trivial | refine ⟨trivial, ?_⟩ | refine ⟨(by with_reducible rfl), ?_⟩ | refine ⟨w64 (by omega) (by omega), ?_⟩ | refine ⟨rfl, ?_⟩)⟩
    refine ⟨by rw [List.length_set, List.length_set]; exact hn, fun k hk => ?_⟩
    by_cases kj : j.toNat = k
    · subst kj
      rw [getD_set (by rw [List.length_set]; omega), he _ (by omega), if_neg (by omega), if_pos (by omega)]
      rw [show x.length - 1 - j.toNat = i.toNat by omega]
    · rw [getD_setne kj]
      by_cases ki : i.toNat = k
      · subst ki
        rw [getD_set (by omega), he _ (by omega), if_neg (by omega), if_pos (by omega)]
        rw [show x.length - 1 - i.toNat = j.toNat by omega]
      · rw [getD_setne ki, he k hk]
        by_cases q : (k : Int) < i ∨ j < k
        · rw [if_pos q, if_pos (by omega)]
        · rw [if_neg q, if_neg (by omega)]
  · have h := of_decide_eq_false h
    refine List.ext_getElem (by rw [List.length_reverse]; exact hn) fun k h1 h2 => ?_
    have e := he k (by omega)
    rw [List.getD_eq_getElem?_getD, List.getElem?_eq_getElem h1, Option.getD_some] at e
    rw [e, List.getElem_reverse]
    split
    · rw [List.getD_eq_getElem?_getD, List.getElem?_eq_getElem (by omega), Option.getD_some]
    · rw [List.getD_eq_getElem?_getD, List.getElem?_eq_getElem (by omega), Option.getD_some]
      congr 1; omega
theorem ok_slices_Reverse_263e : SpecOK Tryz.prog GL 123 ct_slices_Reverse_263e.spec := Ct.okH _ Tryz.func123 (by kernel_rfl) noSpecs_ok hmix an_slices_Reverse_263e (hideMp (by kernel_rfl) vc_slices_Reverse_263e)

def ct_slices_Equal_263e : Ct := ⟨[.val (.sl cI), .val (.sl cI)], [.val .bool], fun d => [], fun d => ((decide (d.1 = d.2.1), ()), ())⟩
def an_slices_Equal_263e : PDs ct_slices_Equal_263e.ps → Anns := (fun d => { loops := (fun n => match n with | 4 => some (fun S => { ι := Int, μ := fun i => (d.1.length - i).toNat, inv := fun i => 0 ≤ i ∧ i ≤ d.1.length ∧ d.1.take i.toNat = d.2.1.take i.toNat, keep := [0, 1, 12], slots := fun i => [(13, .int .i64 i)], names := fun i => [] }) | _ => none) })
theorem vc_slices_Equal_263e : ∀ (x x1 : List Int), (x.length <= maxLen /\ ∀ (x2 : Int), x2 ∈ x -> R64 x2) /\ (x1.length <= maxLen /\ ∀ (x : Int), x ∈ x1 -> R64 x) /\ True -> True -> ifP (!decide ((x.length : Int) = (x1.length : Int))) (false = decide (x = x1)) ((∃ (x2 : Int), (0 <= x2 /\ x2 <= (x.length : Int) /\ List.take x2.toNat x = List.take x2.toNat x1) /\ x = x /\ x1 = x1 /\ (x.length : Int) = (x.length : Int) /\ (0 : Int) = x2 /\ True) /\ ∀ (x2 : Int), 0 <= x2 /\ x2 <= (x.length : Int) /\ List.take x2.toNat x = List.take x2.toNat x1 -> ifP (decide (x2 < (x.length : Int))) (0 <= x2 /\ x2 < (x.length : Int) /\ 0 <= x2 /\ x2 < (x1.length : Int) /\ ifP (!decide (x.getD x2.toNat default = x1.getD x2.toNat default)) (false = decide (x = x1)) (∃ (x3 : Int), (0 <= x3 /\ x3 <= (x.length : Int) /\ List.take x3.toNat x = List.take x3.toNat x1) /\ Int.toNat ((x.length : Int) - x3) < Int.toNat
 ((x.length : Int) - x2) /\ x = x /\ x1 = x1 /\ (x.length : Int) = (x.length : Int) /\ IntKind.wrap .i64 (x2 + (1 : Int)) = x3 /\ True)) (true = decide (x = x1))) := by
  rintro x y ⟨⟨hl, -⟩, ⟨hm, -⟩, -⟩ -
  simp only [maxLen] at hl hm
  refine ifP_split (fun h => ?_) (fun h => ?_)
  · have h := nd_t h
    symm; apply decide_eq_false
    rintro rfl; exact h rfl
  have h := nd_f h
  refine ⟨⟨0, ⟨by omega, by omega, by simp⟩, (by repeat' first | exact trivial | refine ⟨trivial, ?_⟩ | refine ⟨(by with_reducible rfl), ?_⟩ | refine ⟨w64 (by omega) (by omega), ?_⟩ | refine ⟨rfl, ?_⟩)⟩, ?_⟩
  rintro j ⟨j0, j1, hj⟩
  refine ifP_split (fun hk => ?_) (fun hk => ?_)
  · have hk := of_decide_eq_true hk
    refine ⟨j0, hk, j0, by omega, ifP_split (fun q => ?_) (fun q => ?_)⟩
    · have q := nd_t q
      symm; apply decide_eq_false
      rintro rfl; exact q rfl
    · exact ⟨j + 1, ⟨by omega, by omega, take_same j0 hk (by omega) hj (nd_f q)⟩, by omega, (by repeat' first | exact trivial | refine ⟨trivial, ?_⟩ | refine ⟨(by with_reducible rfl), ?_⟩ | refine ⟨w64 (by omega) (by omega), ?_⟩ | refine ⟨rfl, ?_⟩)⟩
  · have hk := of_decide_eq_false hk
    rw [List.take_of_length_le (by omega), List.take_of_length_le (by omega)] at hj
    rw [hj]; simp
theorem ok_slices_Equal_263e : SpecOK Tryz.prog GL 124 ct_slices_Equal_263e.spec := Ct.okH _ Tryz.func124 (by kernel_rfl) noSpecs_ok hmix an_slices_Equal_263e (hideMp (by kernel_rfl) vc_slices_Equal_263e)
end Go.RS

