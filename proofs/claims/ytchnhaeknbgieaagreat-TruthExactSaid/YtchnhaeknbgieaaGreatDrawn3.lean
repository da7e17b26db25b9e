/- Ref16: the reference's ways and assumptions. -/
import Derived.Test.YtchnhaeknbgieaaGreatNetg
import Derived.Test.YtchnhaeknbgieaaGreatRef14
namespace Go.RS
open Go.SX Go.Proofs
set_option maxRecDepth 100000
set_option linter.unusedVariables false

def ct_ref13_SameInts : Ct := ⟨[.val (.sl cI), .val (.sl cI)], [.val .bool], fun d => [], fun d => ((decide (d.1 = d.2.1), ()), ())⟩
def an_ref13_SameInts : PDs ct_ref13_SameInts.ps → Anns := (fun d => { loops := (fun n => match n with | 4 => some (fun S => { ι := Int, μ := fun i => (d.1.length - i).toNat, inv := fun i => 0 ≤ i ∧ i ≤ d.1.length ∧ d.1.take i.toNat = d.2.1.take i.toNat, keep := [0, 1], slots := fun i => [(5, .int .i64 i)], names := fun i => [] }) | _ => none) })
theorem vc_ref13_SameInts : ∀ (x x1 : List Int), (x.length <= maxLen /\ ∀ (x2 : Int), x2 ∈ x -> R64 x2) /\ (x1.length <= maxLen /\ ∀ (x : Int), x ∈ x1 -> R64 x) /\ True -> True -> ifP (!decide ((x.length : Int) = (x1.length : Int))) (false = decide (x = x1)) ((∃ (x2 : Int), (0 <= x2 /\ x2 <= (x.length : Int) /\ List.take x2.toNat x = List.take x2.toNat x1) /\ x = x /\ x1 = x1 /\ (0 : Int) = x2 /\ True) /\ ∀ (x2 : Int), 0 <= x2 /\ x2 <= (x.length : Int) /\ List.take x2.toNat x = List.take x2.toNat x1 -> ifP (decide (x2 < (x.length : Int))) (0 <= x2 /\ x2 < (x.length : Int) /\ 0 <= x2 /\ x2 < (x1.length : Int) /\ ifP (!decide (x.getD x2.toNat default = x1.getD x2.toNat default)) (false = decide (x = x1)) (∃ (x3 : Int), (0 <= x3 /\ x3 <= (x.length : Int) /\ List.take x3.toNat x = List.take x3.toNat x1) /\ Int.toNat ((x.length : Int) - x3) < Int.toNat ((x.length : Int) - x2) /\ x = x /\ x1 =
 x1 /\ IntKind.wrap .i64 (x2 + (1 : Int)) = x3 /\ True)) (true = decide (x = x1))) := by
  rintro x y ⟨⟨hl, -⟩, ⟨hm, -⟩, -⟩ -
  simp only [maxLen] at hl hm
  refine ifP_split (fun h => ?_) (fun h => ?_)
  · have h := nd_t h
    symm; apply decide_eq_false
    rintro rfl; exact h rfl
  have h := nd_f h
  refine ⟨⟨0, ⟨by omega, by omega, by simp⟩, (by repeat' first | exact trivial | refine ⟨trivial, ?_⟩ | refine ⟨(by with_reducible rfl), ?_⟩ | refine ⟨w64 (by omega) (by omega), ?_⟩ | refine ⟨rfl, ?_⟩)⟩, ?_⟩
  rintro j ⟨j0, j1, hj⟩
  refine ifP_split (fun hk => ?_) (fun hk => ?_)
  · have hk := of_decide_eq_true hk
    refine ⟨j0, hk, j0, by omega, ifP_split (fun q => ?_) (fun q => ?_)⟩
    · have q := nd_t q
      symm; apply decide_eq_false
      rintro rfl; exact q rfl
    · exact ⟨j + 1, ⟨by omega, by omega, take_same j0 hk (by omega) hj (nd_f q)⟩, by omega, (by repeat' first | exact trivial | refine ⟨trivial, ?_⟩ | refine ⟨(by with_reducible rfl), ?_⟩ | refine ⟨w64 (by omega) (by omega), ?_⟩ | refine ⟨rfl, ?_⟩)⟩
  · have hk := of_decide_eq_false hk
    rw [List.take_of_length_le (by omega), List.take_of_length_le (by omega)] at hj
    rw [hj]; simp
theorem ok_ref13_SameInts : SpecOK Tryz.prog GL 41 ct_ref13_SameInts.spec := Ct.okH _ Tryz.func41 (by kernel_rfl) noSpecs_ok hmix an_ref13_SameInts (hideMp (by kernel_rfl) vc_ref13_SameInts)

def ct_ref14_Addresses : Ct := ⟨[.agg cNode], [.own 24 cU32], fun d => [(nPorts d.1).length ≤ 100000], fun d => ((adrs d.1, ()), ())⟩
def an_ref14_Addresses : PDs ct_ref14_Addresses.ps → Anns := (fun _ => {})
theorem vc_ref14_Addresses : ∀ (d : List (Int × Int) × Int × Int × Bool × List ((Int × Int) × List Int × Int) × Int × Int × Int × Int × Int × (Int × Int) × Bool × Bool × Int × Int), CT.wf cNode d /\ True -> List.length (nPorts d) <= (100000 : Nat) -> List.length (nPorts d) <= (100000 : Nat) /\ adrs d = adrs d := by
  rintro d - h
  exact ⟨h, rfl⟩
theorem ok_ref14_Addresses : SpecOK Tryz.prog GL 102 ct_ref14_Addresses.spec := Ct.okH _ Tryz.func102 (by kernel_rfl) (withSpec_ok noSpecs_ok ok_ref14_addresses) hmix an_ref14_Addresses (hideMp (by kernel_rfl) vc_ref14_Addresses)
theorem single_go {n : Net} {at' dst : Int} {ns ls : List Int} (h : ns.length = ls.length + 1) {o l : Int} : singleV n (ns ++ [o], ls ++ [l], 0) at' dst = (singleV n (ns, ls, 0) at' dst && !decide (1 < ((lookR (routesV n (lastI ns) at') dst).2.1.length : Int))) := by
  unfold singleV
  dsimp only
  rw [List.length_append, List.length_singleton, List.range_succ, List.all_append]
  congr 1
  · rw [Bool.eq_iff_iff, List.all_eq_true, List.all_eq_true]
    refine forall_congr' fun i => imp_congr_right fun hi => ?_
    have hi := List.mem_range.1 hi
    unfold oneAt
    dsimp only
    rw [show (ns ++ [o]).getD i default = ns.getD i default by rw [List.getD_eq_getElem?_getD, List.getElem?_append_left (by omega), List.getD_eq_getElem?_getD]]
  · rw [List.all_cons, List.all_nil, Bool.and_true]
    unfold oneAt
    dsimp only
    rw [show (ns ++ [o]).getD ls.length default = lastI ns by
      unfold lastI
      rw [List.getD_eq_getElem?_getD, List.getElem?_append_left (by omega), List.getD_eq_getElem?_getD, show ns.length - 1 = ls.length by omega]]
def ct_ref16_trace : Ct := ⟨[.agg cNet, .val cI, .val cI, .agg cKey], [.agg cWay, .val .bool], fun d => [WN d.1, 0 ≤ d.2.2.1, d.2.2.1 < d.1.1.length], fun d => ((traceV d.1 d.2.1 d.2.2.1 d.2.2.2.1, !singleV d.1 (traceV d.1 d.2.1 d.2.2.1 d.2.2.2.1) d.2.1 d.2.2.2.1.2.1, ()), ())⟩
def an_ref16_trace : PDs ct_ref16_trace.ps → Anns := (fun d => { loops := (fun n => match n with | 3 => some (fun S => { ι := (List Int) × (List Int) × Bool, qn := ⟨fun k_ => ∀ (ns : (List Int)) (ls : (List Int)) (sv : Bool), k_ (ns, ls, sv), fun k_ h_ i => h_ i.1 i.2.1 i.2.2, fun k_ => ∃ (ns : (List Int)) (ls : (List Int)) (sv : Bool), k_ (ns, ls, sv), fun k_ ⟨ns, ls, sv, h_⟩ => ⟨_, h_⟩⟩, μ := fun i => 256 - i.2.1.length, inv := fun i => TI d.1 d.2.1 d.2.2.1 d.2.2.2.1 (i.1, i.2.1, 0) ∧ i.2.2 = !singleV d.1 (i.1, i.2.1, 0) d.2.1 d.2.2.2.1.2.1, keep := [1, 4, 7, 8, 10], slots := fun i => [(11, .bool i.2.2)], keepN := [80, 128, 144], names := fun i => [(176, .live (.cells 41 [.own 524288 1, .own 524289 1, .int .i64 0])), (524288, .live (.row 3 cI i.1)), (524289, .live (.row 3 cI i.2.1))] }) | _ => none) })
theorem vc_ref16_trace : ∀ (x : List Node) (x1 : List Link) (x2 : List Change) (x3 x4 x5 x6 x7 x8 x9 : Int), ((x.length <= maxLen /\ ∀ (x10 : Node), x10 ∈ x -> CT.wf cNode x10) /\ (x1.length <= maxLen /\ ∀ (x : Link), x ∈ x1 -> CT.wf cLink x) /\ x2.length <= maxLen /\ ∀ (x : Change), x ∈ x2 -> CT.wf cChange x) /\ R64 x3 /\ R64 x4 /\ ((0 <= x5 /\ x5 <= 4294967295) /\ (0 <= x6 /\ x6 <= 4294967295) /\ R64 x7 /\ R64 x8 /\ R64 x9) /\ True -> WN (x, x1, x2) /\ 0 <= x4 /\ x4 + 1 <= (x.length : Int) -> (∃ (ns : List Int) (ls : List Int), ∃ (sv : Bool), (TI (x, x1, x2) x3 x4 (x5, x6, x7, x8, x9) (ns, ls, (0 : Int)) /\ sv = !singleV (x, x1, x2) (ns, ls, (0 : Int)) x3 x6) /\ x3 = x3 /\ false = sv /\ x = x /\ x1 = x1 /\ x2 = x2 /\ x5 = x5 /\ x6 = x6 /\ x7 = x7 /\ x8 = x8 /\ x9 = x9 /\ (0 : Int) = 0 /\ (0 : Int) = 0 /\ [x4] = ns /\ ls = ([] : List Int) /\ True) /\ ∀ (ns ls : List Int) (sv : Bool), TI
 (x, x1, x2) x3 x4 (x5, x6, x7, x8, x9) (ns, ls, (0 : Int)) /\ sv = !singleV (x, x1, x2) (ns, ls, (0 : Int)) x3 x6 -> 0 <= IntKind.wrap .i64 ((ns.length : Int) - (1 : Int)) /\ IntKind.wrap .i64 ((ns.length : Int) - (1 : Int)) < (ns.length : Int) /\ 0 <= ns.getD (Int.toNat (IntKind.wrap .i64 ((ns.length : Int) - (1 : Int)))) default /\ ns.getD (Int.toNat (IntKind.wrap .i64 ((ns.length : Int) - (1 : Int)))) default < (x.length : Int) /\ ifP (ownsA (x.getD (Int.toNat (ns.getD (Int.toNat (IntKind.wrap .i64 ((ns.length : Int) - (1 : Int)))) default)) default) x6) ((ns, ls, (1 : Int)) = traceV (x, x1, x2) x3 x4 (x5, x6, x7, x8, x9) /\ sv = !singleV (x, x1, x2) (traceV (x, x1, x2) x3 x4 (x5, x6, x7, x8, x9)) x3 x6) (0 <= ns.getD (Int.toNat (IntKind.wrap .i64 ((ns.length : Int) - (1 : Int)))) default /\ ns.getD (Int.toNat (IntKind.wrap .i64 ((ns.length : Int) - (1 : Int)))) default < (x.length :
 Int) /\ ∀ (b : Bool), b = (x.getD (Int.toNat (ns.getD (Int.toNat (IntKind.wrap .i64 ((ns.length : Int) - (1 : Int)))) default)) default).2.2.2.1 -> (b -> (b -> b) /\ True) /\ (b -> (b -> b) /\ True) /\ (b -> (b -> b) /\ True) /\ (b -> b) /\ ifP (bif b then decide (1 < (ns.length : Int)) else false) ((ns, ls, (5 : Int)) = traceV (x, x1, x2) x3 x4 (x5, x6, x7, x8, x9) /\ sv = !singleV (x, x1, x2) (traceV (x, x1, x2) x3 x4 (x5, x6, x7, x8, x9)) x3 x6) (okNet (x, x1, x2) /\ okL (routesV (x, x1, x2) (ns.getD (Int.toNat (IntKind.wrap .i64 ((ns.length : Int) - (1 : Int)))) default) x3) /\ ∀ (b : Bool), b = !lookB (routesV (x, x1, x2) (ns.getD (Int.toNat (IntKind.wrap .i64 ((ns.length : Int) - (1 : Int)))) default) x3) x6 -> ((!b) -> ((!b) -> (!b)) /\ True) /\ ((!b) -> ((!b) -> (!b)) /\ True) /\ ((!b) -> ((!b) -> (!b)) /\ True) /\ (b = false -> (!b)) /\ ifP (bif b then true else decide
 (((List.length (lookR (routesV (x, x1, x2) (ns.getD (Int.toNat (IntKind.wrap .i64 ((ns.length : Int) - (1 : Int)))) default) x3) x6).2.1) : Int) = 0)) ((ns, ls, (2 : Int)) = traceV (x, x1, x2) x3 x4 (x5, x6, x7, x8, x9) /\ sv = !singleV (x, x1, x2) (traceV (x, x1, x2) x3 x4 (x5, x6, x7, x8, x9)) x3 x6) (∀ (b : Bool), b = decide (1 < ((List.length (lookR (routesV (x, x1, x2) (ns.getD (Int.toNat (IntKind.wrap .i64 ((ns.length : Int) - (1 : Int)))) default) x3) x6).2.1) : Int)) -> (b -> (b -> b) /\ True) /\ (b -> (b -> b) /\ True) /\ (b -> b) /\ ifP (bif b then decide ((lookR (routesV (x, x1, x2) (ns.getD (Int.toNat (IntKind.wrap .i64 ((ns.length : Int) - (1 : Int)))) default) x3) x6).2.2 = 3) else false) ((ns, ls, (4 : Int)) = traceV (x, x1, x2) x3 x4 (x5, x6, x7, x8, x9) /\ sv = !singleV (x, x1, x2) (traceV (x, x1, x2) x3 x4 (x5, x6, x7, x8, x9)) x3 x6) (ifP (decide ((ls.length : Int) =
 255)) ((ns, ls, (3 : Int)) = traceV (x, x1, x2) x3 x4 (x5, x6, x7, x8, x9) /\ sv = !singleV (x, x1, x2) (traceV (x, x1, x2) x3 x4 (x5, x6, x7, x8, x9)) x3 x6) (ifP (decide (1 < ((List.length (lookR (routesV (x, x1, x2) (ns.getD (Int.toNat (IntKind.wrap .i64 ((ns.length : Int) - (1 : Int)))) default) x3) x6).2.1) : Int))) (0 <= ns.getD (Int.toNat (IntKind.wrap .i64 ((ns.length : Int) - (1 : Int)))) default /\ ns.getD (Int.toNat (IntKind.wrap .i64 ((ns.length : Int) - (1 : Int)))) default < (x.length : Int) /\ 0 <= (choose (lookR (routesV (x, x1, x2) (ns.getD (Int.toNat (IntKind.wrap .i64 ((ns.length : Int) - (1 : Int)))) default) x3) x6).2.2 (x.getD (Int.toNat (ns.getD (Int.toNat (IntKind.wrap .i64 ((ns.length : Int) - (1 : Int)))) default)) default).2.2.2.2.2.2.2.2.2.2.2.2.2.2 (x5, x6, x7, x8, x9) (0 : Int) ((List.length (lookR (routesV (x, x1, x2) (ns.getD (Int.toNat (IntKind.wrap .i64
 ((ns.length : Int) - (1 : Int)))) default) x3) x6).2.1) : Int)).1 /\ (choose (lookR (routesV (x, x1, x2) (ns.getD (Int.toNat (IntKind.wrap .i64 ((ns.length : Int) - (1 : Int)))) default) x3) x6).2.2 (x.getD (Int.toNat (ns.getD (Int.toNat (IntKind.wrap .i64 ((ns.length : Int) - (1 : Int)))) default)) default).2.2.2.2.2.2.2.2.2.2.2.2.2.2 (x5, x6, x7, x8, x9) (0 : Int) ((List.length (lookR (routesV (x, x1, x2) (ns.getD (Int.toNat (IntKind.wrap .i64 ((ns.length : Int) - (1 : Int)))) default) x3) x6).2.1) : Int)).1 < ((List.length (lookR (routesV (x, x1, x2) (ns.getD (Int.toNat (IntKind.wrap .i64 ((ns.length : Int) - (1 : Int)))) default) x3) x6).2.1) : Int) /\ (ls.length + List.length [List.getD (lookR (routesV (x, x1, x2) (ns.getD (Int.toNat (IntKind.wrap .i64 ((ns.length : Int) - (1 : Int)))) default) x3) x6).2.1 (Int.toNat (choose (lookR (routesV (x, x1, x2) (ns.getD (Int.toNat
 (IntKind.wrap .i64 ((ns.length : Int) - (1 : Int)))) default) x3) x6).2.2 (x.getD (Int.toNat (ns.getD (Int.toNat (IntKind.wrap .i64 ((ns.length : Int) - (1 : Int)))) default)) default).2.2.2.2.2.2.2.2.2.2.2.2.2.2 (x5, x6, x7, x8, x9) (0 : Int) ((List.length (lookR (routesV (x, x1, x2) (ns.getD (Int.toNat (IntKind.wrap .i64 ((ns.length : Int) - (1 : Int)))) default) x3) x6).2.1) : Int)).1) default]) * (8 : Nat) <= (140737488355328 : Nat) /\ 0 <= (choose (lookR (routesV (x, x1, x2) (ns.getD (Int.toNat (IntKind.wrap .i64 ((ns.length : Int) - (1 : Int)))) default) x3) x6).2.2 (x.getD (Int.toNat (ns.getD (Int.toNat (IntKind.wrap .i64 ((ns.length : Int) - (1 : Int)))) default)) default).2.2.2.2.2.2.2.2.2.2.2.2.2.2 (x5, x6, x7, x8, x9) (0 : Int) ((List.length (lookR (routesV (x, x1, x2) (ns.getD (Int.toNat (IntKind.wrap .i64 ((ns.length : Int) - (1 : Int)))) default) x3) x6).2.1) : Int)).1 /\
 (choose (lookR (routesV (x, x1, x2) (ns.getD (Int.toNat (IntKind.wrap .i64 ((ns.length : Int) - (1 : Int)))) default) x3) x6).2.2 (x.getD (Int.toNat (ns.getD (Int.toNat (IntKind.wrap .i64 ((ns.length : Int) - (1 : Int)))) default)) default).2.2.2.2.2.2.2.2.2.2.2.2.2.2 (x5, x6, x7, x8, x9) (0 : Int) ((List.length (lookR (routesV (x, x1, x2) (ns.getD (Int.toNat (IntKind.wrap .i64 ((ns.length : Int) - (1 : Int)))) default) x3) x6).2.1) : Int)).1 < ((List.length (lookR (routesV (x, x1, x2) (ns.getD (Int.toNat (IntKind.wrap .i64 ((ns.length : Int) - (1 : Int)))) default) x3) x6).2.1) : Int) /\ (ns.length + List.length [otherV x1 (List.getD (lookR (routesV (x, x1, x2) (ns.getD (Int.toNat (IntKind.wrap .i64 ((ns.length : Int) - (1 : Int)))) default) x3) x6).2.1 (Int.toNat (choose (lookR (routesV (x, x1, x2) (ns.getD (Int.toNat (IntKind.wrap .i64 ((ns.length : Int) - (1 : Int)))) default) x3)
 x6).2.2 (x.getD (Int.toNat (ns.getD (Int.toNat (IntKind.wrap .i64 ((ns.length : Int) - (1 : Int)))) default)) default).2.2.2.2.2.2.2.2.2.2.2.2.2.2 (x5, x6, x7, x8, x9) (0 : Int) ((List.length (lookR (routesV (x, x1, x2) (ns.getD (Int.toNat (IntKind.wrap .i64 ((ns.length : Int) - (1 : Int)))) default) x3) x6).2.1) : Int)).1) default) (ns.getD (Int.toNat (IntKind.wrap .i64 ((ns.length : Int) - (1 : Int)))) default)]) * (8 : Nat) <= (140737488355328 : Nat) /\ ∃ (ns1 : List Int) (ls_1 : List Int), ∃ (sv : Bool), (TI (x, x1, x2) x3 x4 (x5, x6, x7, x8, x9) (ns1, ls_1, (0 : Int)) /\ sv = !singleV (x, x1, x2) (ns1, ls_1, (0 : Int)) x3 x6) /\ (256 : Nat) - ls_1.length < (256 : Nat) - ls.length /\ x3 = x3 /\ true = sv /\ x = x /\ x1 = x1 /\ x2 = x2 /\ x5 = x5 /\ x6 = x6 /\ x7 = x7 /\ x8 = x8 /\ x9 = x9 /\ (0 : Int) = 0 /\ (0 : Int) = 0 /\ ns ++ [otherV x1 (List.getD (lookR (routesV (x, x1, x2)
 (ns.getD (Int.toNat (IntKind.wrap .i64 ((ns.length : Int) - (1 : Int)))) default) x3) x6).2.1 (Int.toNat (choose (lookR (routesV (x, x1, x2) (ns.getD (Int.toNat (IntKind.wrap .i64 ((ns.length : Int) - (1 : Int)))) default) x3) x6).2.2 (x.getD (Int.toNat (ns.getD (Int.toNat (IntKind.wrap .i64 ((ns.length : Int) - (1 : Int)))) default)) default).2.2.2.2.2.2.2.2.2.2.2.2.2.2 (x5, x6, x7, x8, x9) (0 : Int) ((List.length (lookR (routesV (x, x1, x2) (ns.getD (Int.toNat (IntKind.wrap .i64 ((ns.length : Int) - (1 : Int)))) default) x3) x6).2.1) : Int)).1) default) (ns.getD (Int.toNat (IntKind.wrap .i64 ((ns.length : Int) - (1 : Int)))) default)] = ns1 /\ ls ++ [List.getD (lookR (routesV (x, x1, x2) (ns.getD (Int.toNat (IntKind.wrap .i64 ((ns.length : Int) - (1 : Int)))) default) x3) x6).2.1 (Int.toNat (choose (lookR (routesV (x, x1, x2) (ns.getD (Int.toNat (IntKind.wrap .i64 ((ns.length : Int) -
 (1 : Int)))) default) x3) x6).2.2 (x.getD (Int.toNat (ns.getD (Int.toNat (IntKind.wrap .i64 ((ns.length : Int) - (1 : Int)))) default)) default).2.2.2.2.2.2.2.2.2.2.2.2.2.2 (x5, x6, x7, x8, x9) (0 : Int) ((List.length (lookR (routesV (x, x1, x2) (ns.getD (Int.toNat (IntKind.wrap .i64 ((ns.length : Int) - (1 : Int)))) default) x3) x6).2.1) : Int)).1) default] = ls_1 /\ True) ((0 : Int) <= 0 /\ 0 < ((List.length (lookR (routesV (x, x1, x2) (ns.getD (Int.toNat (IntKind.wrap .i64 ((ns.length : Int) - (1 : Int)))) default) x3) x6).2.1) : Int) /\ (ls.length + List.length [List.getD (lookR (routesV (x, x1, x2) (ns.getD (Int.toNat (IntKind.wrap .i64 ((ns.length : Int) - (1 : Int)))) default) x3) x6).2.1 (Int.toNat (0 : Int)) default]) * (8 : Nat) <= (140737488355328 : Nat) /\ (0 : Int) <= 0 /\ 0 < ((List.length (lookR (routesV (x, x1, x2) (ns.getD (Int.toNat (IntKind.wrap .i64 ((ns.length : Int)
 - (1 : Int)))) default) x3) x6).2.1) : Int) /\ (ns.length + List.length [otherV x1 (List.getD (lookR (routesV (x, x1, x2) (ns.getD (Int.toNat (IntKind.wrap .i64 ((ns.length : Int) - (1 : Int)))) default) x3) x6).2.1 (Int.toNat (0 : Int)) default) (ns.getD (Int.toNat (IntKind.wrap .i64 ((ns.length : Int) - (1 : Int)))) default)]) * (8 : Nat) <= (140737488355328 : Nat) /\ ∃ (ns1 : List Int) (ls_1 : List Int), ∃ (sv_1 : Bool), (TI (x, x1, x2) x3 x4 (x5, x6, x7, x8, x9) (ns1, ls_1, (0 : Int)) /\ sv_1 = !singleV (x, x1, x2) (ns1, ls_1, (0 : Int)) x3 x6) /\ (256 : Nat) - ls_1.length < (256 : Nat) - ls.length /\ x3 = x3 /\ sv = sv_1 /\ x = x /\ x1 = x1 /\ x2 = x2 /\ x5 = x5 /\ x6 = x6 /\ x7 = x7 /\ x8 = x8 /\ x9 = x9 /\ (0 : Int) = 0 /\ (0 : Int) = 0 /\ ns ++ [otherV x1 (List.getD (lookR (routesV (x, x1, x2) (ns.getD (Int.toNat (IntKind.wrap .i64 ((ns.length : Int) - (1 : Int)))) default) x3)
 x6).2.1 (Int.toNat (0 : Int)) default) (ns.getD (Int.toNat (IntKind.wrap .i64 ((ns.length : Int) - (1 : Int)))) default)] = ns1 /\ ls ++ [List.getD (lookR (routesV (x, x1, x2) (ns.getD (Int.toNat (IntKind.wrap .i64 ((ns.length : Int) - (1 : Int)))) default) x3) x6).2.1 (Int.toNat (0 : Int)) default] = ls_1 /\ True)))))) := by
  rintro ns0 ls0 hs at' who a b c e f - ⟨W, w0, w1⟩
  refine ⟨⟨_, _, _, ⟨TI.start w0 (by show who < (ns0.length : Int); omega), rfl⟩, (by repeat' first | exact trivial | refine ⟨trivial, ?_⟩ | refine ⟨(by with_reducible rfl), ?_⟩ | refine ⟨w64 (by omega) (by omega), ?_⟩ | refine ⟨rfl, ?_⟩)⟩, ?_⟩
  rintro ns ls sv ⟨I, hsv⟩
  have hl := I.l
  have hm := I.m
  dsimp only at hl hm
  rw [w64 (n := (ns.length : Int) - 1) (by omega) (by omega), lastI_eq]
  have hr := I.r _ (lastI_mem (ns := ns) (by omega))
  have eS : stepW (ns0, ls0, hs) at' (a, b, c, e, f) (ns, ls, 0) = stepR1 (ns0, ls0, hs) (a, b, c, e, f) (lastI ns) (ns0.getD (lastI ns).toNat default) (lookR (routesV (ns0, ls0, hs) (lastI ns) at') b) (lookB (routesV (ns0, ls0, hs) (lastI ns) at') b) (ns, ls, 0) := rfl
  have tb := routesV_ok W.o (lastI ns) at'
  have nx := W.x (lastI ns) at' hr.1 hr.2
  have lm := look_mem (l := routesV (ns0, ls0, hs) (lastI ns) at') (a := b)
  have sg := fun (o l : Int) => single_go (n := (ns0, ls0, hs)) (at' := at') (dst := b) hl (o := o) (l := l)
  generalize lastI ns = q at *
  generalize routesV (ns0, ls0, hs) q at' = T at *
  generalize lookR T b = r at *
  generalize lookB T b = ok at *
  generalize ns0.getD q.toNat default = X at *
  unfold stepR1 at eS
  have fin : ∀ {k : Int}, k ≠ 0 → stepW (ns0, ls0, hs) at' (a, b, c, e, f) (ns, ls, 0) = (ns, ls, k) → (ns, ls, k) = traceV (ns0, ls0, hs) at' who (a, b, c, e, f) ∧ sv = !singleV (ns0, ls0, hs) (traceV (ns0, ls0, hs) at' who (a, b, c, e, f)) at' b := fun hk h => by
    have t := (I.stop hk h).done hk
    refine ⟨t, ?_⟩
    rw [← t]; exact hsv
  refine ⟨by omega, by omega, hr.1, hr.2, ?_⟩
  refine ifP_split (fun h => ?_) (fun h => ?_)
  · rw [if_pos h] at eS
    exact fin (by decide) eS
  rw [if_neg (by rw [h]; decide)] at eS
  refine ⟨hr.1, hr.2, ?_⟩
  (repeat (intro (b_ : Bool) (hb_ : b_ = _); (repeat refine ⟨(by first | (simp; done) | (rw [hb_]; simp; done) | (rw [hb_]; simp; omega) | (rw [hb_]; simp; intros; omega) | (rw [hb_]; simp +contextual; done)), ?_⟩); subst hb_))
  refine ifP_split (fun h1 => ?_) (fun h1 => ?_)
  · have h1 : nHost X = true ∧ 0 < ls.length := by
      rw [show X.2.2.2.1 = nHost X from rfl] at h1
      cases hh : nHost X <;> rw [hh] at h1
      · cases h1
      · exact ⟨rfl, by have := of_decide_eq_true h1; omega⟩
    rw [if_pos h1] at eS
    exact fin (by decide) eS
  have h1 : ¬ (nHost X = true ∧ 0 < ls.length) := by
    rintro ⟨k1, k2⟩
    rw [show X.2.2.2.1 = nHost X from rfl, k1, cond_true, decide_eq_true (by omega)] at h1
    cases h1
  rw [if_neg h1] at eS
  refine ⟨W.o, tb.okL (by decide), ?_⟩
  (repeat (intro (b_ : Bool) (hb_ : b_ = _); (repeat refine ⟨(by first | (simp; done) | (rw [hb_]; simp; done) | (rw [hb_]; simp; omega) | (rw [hb_]; simp; intros; omega) | (rw [hb_]; simp +contextual; done)), ?_⟩); subst hb_))
  refine ifP_split (fun h2 => ?_) (fun h2 => ?_)
  · have h2 : ok = false ∨ r.2.1.length = 0 := by
      cases ok
      · exact .inl rfl
      · exact .inr (by have := of_decide_eq_true h2; omega)
    rw [if_pos h2] at eS
    exact fin (by decide) eS
  have h2 : ¬ (ok = false ∨ r.2.1.length = 0) := by
    rintro (k | k)
    · rw [k] at h2; cases h2
    · rw [decide_eq_true (show (r.2.1.length : Int) = 0 by omega)] at h2
      cases ok <;> cases h2
  rw [if_neg h2] at eS
  (repeat (intro (b_ : Bool) (hb_ : b_ = _); (repeat refine ⟨(by first | (simp; done) | (rw [hb_]; simp; done) | (rw [hb_]; simp; omega) | (rw [hb_]; simp; intros; omega) | (rw [hb_]; simp +contextual; done)), ?_⟩); subst hb_))
  rw [band_d]
  refine ifP_split (fun h3 => ?_) (fun h3 => ?_)
  · have h3 := of_decide_eq_true h3
    rw [if_pos (show 1 < r.2.1.length ∧ r.2.2 = 3 from ⟨by omega, h3.2⟩)] at eS
    exact fin (by decide) eS
  have h3 := of_decide_eq_false h3
  rw [if_neg (show ¬ (1 < r.2.1.length ∧ r.2.2 = 3) from fun k => h3 ⟨by omega, k.2⟩)] at eS
  refine ifP_split (fun h4 => ?_) (fun h4 => ?_)
  · have h4 := of_decide_eq_true h4
    rw [if_pos (show 255 ≤ ls.length by omega)] at eS
    exact fin (by decide) eS
  have h4 := of_decide_eq_false h4
  rw [if_neg (show ¬ 255 ≤ ls.length by omega)] at eS
  have hok : ok = true := by
    cases ok
    · exact absurd (.inl rfl) h2
    · rfl
  have hlen : 0 < r.2.1.length := by
    have : ¬ r.2.1.length = 0 := fun k => h2 (.inr k)
    omega
  have pr := pick_range (r := r) (seed := nSeed X) (k := (a, b, c, e, f)) hlen
  have nk := nx r (lm hok) _ (getD_mem pr.1 pr.2)
  have goal := I.go (by omega) nk eS
  unfold pickV at goal pr
  refine ifP_split (fun h5 => ?_) (fun h5 => ?_)
  · have h5 := of_decide_eq_true h5
    rw [if_pos (show 1 < r.2.1.length by omega)] at goal pr
    refine ⟨hr.1, hr.2, pr.1, pr.2, by simp only [List.length_singleton]; omega, pr.1, pr.2, by simp only [List.length_singleton]; omega, _, _, _, ⟨goal, rfl⟩, by simp only [List.length_append, List.length_singleton]; omega, ?_⟩
    rw [sg]
    refine ⟨rfl, ?_, (by repeat' first | exact trivial | refine ⟨trivial, ?_⟩ | refine ⟨(by with_reducible rfl), ?_⟩ | refine ⟨w64 (by omega) (by omega), ?_⟩ | refine ⟨rfl, ?_⟩)⟩
    rw [decide_eq_true h5]; simp
  · have h5 := of_decide_eq_false h5
    rw [if_neg (show ¬ 1 < r.2.1.length by omega)] at goal pr
    refine ⟨pr.1, pr.2, by simp only [List.length_singleton]; omega, pr.1, pr.2, by simp only [List.length_singleton]; omega, _, _, _, ⟨goal, rfl⟩, by simp only [List.length_append, List.length_singleton]; omega, ?_⟩
    rw [sg]
    refine ⟨rfl, ?_, (by repeat' first | exact trivial | refine ⟨trivial, ?_⟩ | refine ⟨(by with_reducible rfl), ?_⟩ | refine ⟨w64 (by omega) (by omega), ?_⟩ | refine ⟨rfl, ?_⟩)⟩
    rw [decide_eq_false h5, hsv]; simp
theorem ok_ref16_trace : SpecOK Tryz.prog GL 40 ct_ref16_trace.spec := Ct.okH _ Tryz.func40 (by kernel_rfl) (withSpec_ok (withSpec_ok (withSpec_ok (withSpec_ok (withSpec_ok noSpecs_ok ok_ref13_Owns) ok_ref14_Routes) ok_ref09_Lookup) ok_ref10_Choose) ok_ref14_Other) hmix an_ref16_trace (hideMp (by kernel_rfl) vc_ref16_trace)

def ct_ref16_Trace : Ct := ⟨[.agg cNet, .val cI, .val cI, .agg cKey], [.agg cWay], fun d => [WN d.1, 0 ≤ d.2.2.1, d.2.2.1 < d.1.1.length], fun d => ((traceV d.1 d.2.1 d.2.2.1 d.2.2.2.1, ()), ())⟩
def an_ref16_Trace : PDs ct_ref16_Trace.ps → Anns := (fun _ => {})
theorem vc_ref16_Trace : ∀ (x : List Node) (x1 : List Link) (x2 : List Change) (x3 x4 x5 x6 x7 x8 x9 : Int), ((x.length <= maxLen /\ ∀ (x10 : Node), x10 ∈ x -> CT.wf cNode x10) /\ (x1.length <= maxLen /\ ∀ (x : Link), x ∈ x1 -> CT.wf cLink x) /\ x2.length <= maxLen /\ ∀ (x : Change), x ∈ x2 -> CT.wf cChange x) /\ R64 x3 /\ R64 x4 /\ ((0 <= x5 /\ x5 <= 4294967295) /\ (0 <= x6 /\ x6 <= 4294967295) /\ R64 x7 /\ R64 x8 /\ R64 x9) /\ True -> WN (x, x1, x2) /\ 0 <= x4 /\ x4 + 1 <= (x.length : Int) -> WN (x, x1, x2) /\ 0 <= x4 /\ x4 < (x.length : Int) /\ traceV (x, x1, x2) x3 x4 (x5, x6, x7, x8, x9) = traceV (x, x1, x2) x3 x4 (x5, x6, x7, x8, x9) := by
  rintro ns0 ls0 hs at' who a b c e f - ⟨W, w0, w1⟩
  exact ⟨W, w0, by show who < (ns0.length : Int); omega, rfl⟩
theorem ok_ref16_Trace : SpecOK Tryz.prog GL 10 ct_ref16_Trace.spec := Ct.okH _ Tryz.func10 (by kernel_rfl) (withSpec_ok noSpecs_ok ok_ref16_trace) hmix an_ref16_Trace (hideMp (by kernel_rfl) vc_ref16_Trace)

def ct_ref16_SameWay : Ct := ⟨[.agg cWay, .agg cWay], [.val .bool], fun d => [], fun d => ((decide (d.1 = d.2.1), ()), ())⟩
def an_ref16_SameWay : PDs ct_ref16_SameWay.ps → Anns := (fun _ => {})
theorem vc_ref16_SameWay : ∀ (x x1 : List Int) (x2 : Int) (x3 x4 : List Int) (x5 : Int), ((x.length <= maxLen /\ ∀ (x6 : Int), x6 ∈ x -> R64 x6) /\ (x1.length <= maxLen /\ ∀ (x : Int), x ∈ x1 -> R64 x) /\ R64 x2) /\ ((x3.length <= maxLen /\ ∀ (x : Int), x ∈ x3 -> R64 x) /\ (x4.length <= maxLen /\ ∀ (x : Int), x ∈ x4 -> R64 x) /\ R64 x5) /\ True -> True -> ∀ (b : Bool), b = decide (x2 = x5) -> (b -> (b -> b) /\ True) /\ (b -> (b -> b) /\ True) /\ (b -> (b -> b) /\ (b -> b) /\ True) /\ (b -> b) /\ ∀ (b1 : Bool), (b1 = bif b then decide (x = x3) else false) -> (b1 -> (b1 -> b1) /\ True) /\ (b1 -> (b1 -> b1) /\ True) /\ (b1 -> (b1 -> b1) /\ (b1 -> b1) /\ True) /\ (b1 -> b1) /\ (bif b1 then decide (x1 = x4) else false) = decide ((x, x1, x2) = (x3, x4, x5)) := by
  rintro a b c d e f - -
  intro b1 hb1
  (repeat refine ⟨fun h_ => (by first | (simp; done) | (simp [h_]; done) | (simp_all; done)), ?_⟩)
  intro b2 hb2
  (repeat refine ⟨fun h_ => (by first | (simp; done) | (simp [h_]; done) | (simp_all; done)), ?_⟩)
  rw [hb2, hb1, band_d, band_d]
  apply decide_eq_decide.2
  simp only [Prod.mk.injEq]
  exact ⟨fun h => ⟨h.1.2, h.2, h.1.1⟩, fun h => ⟨⟨h.2.2, h.1⟩, h.2.1⟩⟩
theorem ok_ref16_SameWay : SpecOK Tryz.prog GL 11 ct_ref16_SameWay.spec := Ct.okH _ Tryz.func11 (by kernel_rfl) (withSpec_ok noSpecs_ok ok_ref13_SameInts) hmix an_ref16_SameWay (hideMp (by kernel_rfl) vc_ref16_SameWay)

def ct_ref16_Expiry : Ct := ⟨[.agg cNet, .agg cWay, .val cI], [.val cI, .val .bool], fun d => [wayIn d.1 d.2.1], fun d => ((expV d.1 d.2.1 d.2.2.1, expB d.1 d.2.1 d.2.2.1, ()), ())⟩
def an_ref16_Expiry : PDs ct_ref16_Expiry.ps → Anns := (fun d => { loops := (fun n => match n with | 5 => some (fun S => { ι := Int × Int, qn := ⟨fun k_ => ∀ (i : Int) (t : Int), k_ (i, t), fun k_ h_ i => h_ i.1 i.2, fun k_ => ∃ (i : Int) (t : Int), k_ (i, t), fun k_ ⟨i, t, h_⟩ => ⟨_, h_⟩⟩, μ := fun i => (d.2.1.1.length - i.1).toNat, inv := fun i => 1 ≤ i.1 ∧ (i.1 = 1 ∨ i.1 ≤ d.2.1.1.length) ∧ i.2 = seenC d.1 d.2.1 i.1.toNat ∧ i.2 < d.2.2.1 ∧ ∀ j : Nat, 1 ≤ j → (j : Int) < i.1 → stopE d.1 d.2.1 d.2.2.1 j = false, keep := [2, 3, 4, 8], slots := fun i => [(9, .int .i64 i.2), (10, .int .i64 i.1)], keepN := [64, 80], names := fun i => [] }) | _ => none) })
theorem vc_ref16_Expiry : ∀ (x : List Node) (x1 : List Link) (x2 : List Change) (x3 x4 : List Int) (x5 x6 : Int), ((x.length <= maxLen /\ ∀ (x7 : Node), x7 ∈ x -> CT.wf cNode x7) /\ (x1.length <= maxLen /\ ∀ (x : Link), x ∈ x1 -> CT.wf cLink x) /\ x2.length <= maxLen /\ ∀ (x : Change), x ∈ x2 -> CT.wf cChange x) /\ ((x3.length <= maxLen /\ ∀ (x : Int), x ∈ x3 -> R64 x) /\ (x4.length <= maxLen /\ ∀ (x : Int), x ∈ x4 -> R64 x) /\ R64 x5) /\ R64 x6 /\ True -> (∀ (x7 : Int), x7 ∈ x3 -> 0 <= x7 /\ x7 < (x.length : Int)) -> ∀ (b : Bool), b = decide (x6 < 1) -> ((!b) -> ((!b) -> (!b)) /\ True) /\ (b = false -> (!b)) /\ ifP (bif b then true else decide (255 < x6)) ((0 : Int) = expV (x, x1, x2) (x3, x4, x5) x6 /\ false = expB (x, x1, x2) (x3, x4, x5) x6) ((∃ (i : Int) (t : Int), (1 <= i /\ (i = 1 ∨ i <= (x3.length : Int)) /\ t = seenC (x, x1, x2) (x3, x4, x5) i.toNat /\ t < x6 /\ ∀ (j : Nat), (1 :
 Nat) <= j -> (↑j : Int) < i -> stopE (x, x1, x2) (x3, x4, x5) x6 j = false) /\ x6 = x6 /\ IntKind.wrap .i64 ((x3.length : Int) - (1 : Int)) = IntKind.wrap .i64 ((x3.length : Int) - (1 : Int)) /\ (0 : Int) = t /\ (1 : Int) = i /\ x = x /\ x1 = x1 /\ x2 = x2 /\ x3 = x3 /\ x4 = x4 /\ x5 = x5 /\ True) /\ ∀ (i t : Int), (1 <= i /\ (i = 1 ∨ i <= (x3.length : Int)) /\ t = seenC (x, x1, x2) (x3, x4, x5) i.toNat /\ t < x6 /\ ∀ (j : Nat), (1 : Nat) <= j -> (↑j : Int) < i -> stopE (x, x1, x2) (x3, x4, x5) x6 j = false) -> ifP (decide (i <= IntKind.wrap .i64 ((x3.length : Int) - (1 : Int)))) (∀ (b : Bool), b = decide (i = IntKind.wrap .i64 ((x3.length : Int) - (1 : Int))) -> (b -> (b -> b) /\ True) /\ (b -> (b -> b) /\ True) /\ (b -> b) /\ ifP (bif b then decide (x5 = 1) else false) (i = expV (x, x1, x2) (x3, x4, x5) x6 /\ decide (t <= IntKind.wrap .i64 (x6 - (1 : Int))) = expB (x, x1, x2) (x3, x4,
 x5) x6) (0 <= i /\ i < (x3.length : Int) /\ 0 <= x3.getD i.toNat default /\ x3.getD i.toNat default < (x.length : Int) /\ ifP (!(x.getD (Int.toNat (x3.getD i.toNat default)) default).2.2.2.2.2.2.2.2.2.2.2.2.1) (ifP (decide (IntKind.wrap .i64 (t + (1 : Int)) = x6)) (i = expV (x, x1, x2) (x3, x4, x5) x6 /\ true = expB (x, x1, x2) (x3, x4, x5) x6) (∃ (i_1 : Int) (t_1 : Int), (1 <= i_1 /\ (i_1 = 1 ∨ i_1 <= (x3.length : Int)) /\ t_1 = seenC (x, x1, x2) (x3, x4, x5) i_1.toNat /\ t_1 < x6 /\ ∀ (j : Nat), (1 : Nat) <= j -> (↑j : Int) < i_1 -> stopE (x, x1, x2) (x3, x4, x5) x6 j = false) /\ Int.toNat ((x3.length : Int) - i_1) < Int.toNat ((x3.length : Int) - i) /\ x6 = x6 /\ IntKind.wrap .i64 ((x3.length : Int) - (1 : Int)) = IntKind.wrap .i64 ((x3.length : Int) - (1 : Int)) /\ IntKind.wrap .i64 (t + (1 : Int)) = t_1 /\ IntKind.wrap .i64 (i + (1 : Int)) = i_1 /\ x = x /\ x1 = x1 /\ x2 = x2 /\ x3
 = x3 /\ x4 = x4 /\ x5 = x5 /\ True)) (∃ (i_1 : Int) (t_1 : Int), (1 <= i_1 /\ (i_1 = 1 ∨ i_1 <= (x3.length : Int)) /\ t_1 = seenC (x, x1, x2) (x3, x4, x5) i_1.toNat /\ t_1 < x6 /\ ∀ (j : Nat), (1 : Nat) <= j -> (↑j : Int) < i_1 -> stopE (x, x1, x2) (x3, x4, x5) x6 j = false) /\ Int.toNat ((x3.length : Int) - i_1) < Int.toNat ((x3.length : Int) - i) /\ x6 = x6 /\ IntKind.wrap .i64 ((x3.length : Int) - (1 : Int)) = IntKind.wrap .i64 ((x3.length : Int) - (1 : Int)) /\ t = t_1 /\ IntKind.wrap .i64 (i + (1 : Int)) = i_1 /\ x = x /\ x1 = x1 /\ x2 = x2 /\ x3 = x3 /\ x4 = x4 /\ x5 = x5 /\ True))) ((0 : Int) = expV (x, x1, x2) (x3, x4, x5) x6 /\ false = expB (x, x1, x2) (x3, x4, x5) x6)) := by
  rintro ns ls hs u v e ttl ⟨-, ⟨⟨hu, -⟩, -⟩, -⟩ hw
  simp only [maxLen] at hu
  (repeat (intro (b_ : Bool) (hb_ : b_ = _); (repeat refine ⟨(by first | (simp; done) | (rw [hb_]; simp; done) | (rw [hb_]; simp; omega) | (rw [hb_]; simp; intros; omega) | (rw [hb_]; simp +contextual; done)), ?_⟩); subst hb_))
  rw [bor_d, w64 (n := (u.length : Int) - 1) (by omega) (by omega)]
  refine ifP_split (fun h => exp_range (of_decide_eq_true h)) (fun h => ?_)
  have h := of_decide_eq_false h
  rw [w64 (n := ttl - 1) (by omega) (by omega)]
  refine ⟨⟨1, 0, ⟨by omega, .inl rfl, rfl, by omega, fun j j1 j2 => by omega⟩, (by repeat' first | exact trivial | refine ⟨trivial, ?_⟩ | refine ⟨(by with_reducible rfl), ?_⟩ | refine ⟨w64 (by omega) (by omega), ?_⟩ | refine ⟨rfl, ?_⟩)⟩, ?_⟩
  rintro i t ⟨i1, i2, ht, t1, hj⟩
  have sn := seen_nonneg (ns, ls, hs) (u, v, e) i.toNat
  rw [w64 (n := t + 1) (by omega) (by omega)]
  refine ifP_split (fun hi => ?_) (fun hi => ?_)
  rotate_left
  · have hi := of_decide_eq_false hi
    exact exp_none fun j j1 j2 => hj j j1 (by dsimp only at j2; omega)
  have hi := of_decide_eq_true hi
  have sx := seen_next (n := (ns, ls, hs)) (w := (u, v, e)) i1
  (repeat (intro (b_ : Bool) (hb_ : b_ = _); (repeat refine ⟨(by first | (simp; done) | (rw [hb_]; simp; done) | (rw [hb_]; simp; omega) | (rw [hb_]; simp; intros; omega) | (rw [hb_]; simp +contextual; done)), ?_⟩); subst hb_))
  rw [band_d]
  refine ifP_split (fun h1 => ?_) (fun h1 => ?_)
  · have h1 := of_decide_eq_true h1
    rw [decide_eq_true (show t ≤ ttl - 1 by omega)]
    exact exp_at (by omega) (by omega) i1 (by show i < (u.length : Int); omega) hj (stop_end (by omega) h1)
  have h1 := of_decide_eq_false h1
  have hr := hw _ (getD_mem (xs := u) (i := i) (by omega) (by omega))
  refine ⟨by omega, by omega, hr.1, hr.2, ?_⟩
  have eo : opqAt (ns, ls, hs) (u, v, e) i.toNat = (ns.getD (u.getD i.toNat default).toNat default).2.2.2.2.2.2.2.2.2.2.2.2.1 := rfl
  rw [← eo]
  refine ifP_split (fun h2 => ?_) (fun h2 => ?_)
  · have h2 : opqAt (ns, ls, hs) (u, v, e) i.toNat = false := by simpa using h2
    rw [if_pos h2] at sx
    refine ifP_split (fun h3 => ?_) (fun h3 => ?_)
    · have h3 := of_decide_eq_true h3
      exact exp_at (by omega) (by omega) i1 (by show i < (u.length : Int); omega) hj (stop_seen h2 (by omega))
    · have h3 := of_decide_eq_false h3
      exact ⟨i + 1, t + 1, ⟨by omega, .inr (by omega), by omega, by omega, stops_next hj i1 (stop_not (by omega) h1 (.inr (by omega)))⟩, by omega, (by repeat' first | exact trivial | refine ⟨trivial, ?_⟩ | refine ⟨(by with_reducible rfl), ?_⟩ | refine ⟨w64 (by omega) (by omega), ?_⟩ | refine ⟨rfl, ?_⟩)⟩
  · have h2 : opqAt (ns, ls, hs) (u, v, e) i.toNat = true := by simpa using h2
    rw [if_neg (by rw [h2]; decide)] at sx
    exact ⟨i + 1, t, ⟨by omega, .inr (by omega), by omega, by omega, stops_next hj i1 (stop_not (by omega) h1 (.inl h2))⟩, by omega, (by repeat' first | exact trivial | refine ⟨trivial, ?_⟩ | refine ⟨(by with_reducible rfl), ?_⟩ | refine ⟨w64 (by omega) (by omega), ?_⟩ | refine ⟨rfl, ?_⟩)⟩
theorem ok_ref16_Expiry : SpecOK Tryz.prog GL 13 ct_ref16_Expiry.spec := Ct.okH _ Tryz.func13 (by kernel_rfl) noSpecs_ok hmix an_ref16_Expiry (hideMp (by kernel_rfl) vc_ref16_Expiry)
structure SG (n : Net) (at' : Int) (w : Way) (i to : Int) : Prop where
  l : w.1.length = w.2.1.length + 1
  s : 1 ≤ i → i < w.1.length → 1 ≤ nSource (n.1.getD (w.1.getD i.toNat default).toNat default) ∧ nSource (n.1.getD (w.1.getD i.toNat default).toNat default) ≤ 4
  p : 1 ≤ i → i < w.1.length → 0 ≤ portL (n.1.getD (w.1.getD i.toNat default).toNat default) (w.2.1.getD (i - 1).toNat default)
  r : 1 ≤ i → i < w.1.length → lookB (routesV n (w.1.getD i.toNat default) at') to = true → (srcR n at' w i to).2.1.length ≠ 0 → 0 ≤ portL (n.1.getD (w.1.getD i.toNat default).toNat default) ((srcR n at' w i to).2.1.getD 0 default)
def ct_ref16_Source : Ct := ⟨[.agg cNet, .val cI, .agg cWay, .val cI, .val cU32], [.val cU32, .val .bool], fun d => [okNet d.1, wayIn d.1 d.2.2.1, SG d.1 d.2.1 d.2.2.1 d.2.2.2.1 d.2.2.2.2.1], fun d => ((srcV d.1 d.2.1 d.2.2.1 d.2.2.2.1 d.2.2.2.2.1, srcOK d.1 d.2.1 d.2.2.1 d.2.2.2.1 d.2.2.2.2.1, ()), ())⟩
def an_ref16_Source : PDs ct_ref16_Source.ps → Anns := (fun _ => {})
theorem vc_ref16_Source : ∀ (x : List Node) (x1 : List Link) (x2 : List Change) (x3 : Int) (x4 x5 : List Int) (x6 x7 x8 : Int), ((x.length <= maxLen /\ ∀ (x9 : Node), x9 ∈ x -> CT.wf cNode x9) /\ (x1.length <= maxLen /\ ∀ (x : Link), x ∈ x1 -> CT.wf cLink x) /\ x2.length <= maxLen /\ ∀ (x : Change), x ∈ x2 -> CT.wf cChange x) /\ R64 x3 /\ ((x4.length <= maxLen /\ ∀ (x : Int), x ∈ x4 -> R64 x) /\ (x5.length <= maxLen /\ ∀ (x : Int), x ∈ x5 -> R64 x) /\ R64 x6) /\ R64 x7 /\ (0 <= x8 /\ x8 <= 4294967295) /\ True -> okNet (x, x1, x2) /\ wayIn (x, x1, x2) (x4, x5, x6) /\ SG (x, x1, x2) x3 (x4, x5, x6) x7 x8 -> ∀ (b : Bool), b = decide (x7 < 1) -> ((!b) -> ((!b) -> (!b)) /\ True) /\ ((!b) -> ((!b) -> (!b)) /\ True) /\ ((!b) -> ((!b) -> (!b)) /\ ((!b) -> (!b)) /\ True) /\ (b = false -> (!b)) /\ ifP (bif b then true else decide ((x4.length : Int) <= x7)) ((0 : Int) = srcV (x, x1, x2) x3 (x4, x5,
 x6) x7 x8 /\ false = srcOK (x, x1, x2) x3 (x4, x5, x6) x7 x8) (0 <= x7 /\ x7 < (x4.length : Int) /\ 0 <= x4.getD x7.toNat default /\ x4.getD x7.toNat default < (x.length : Int) /\ 0 <= x7 /\ x7 < (x4.length : Int) /\ okNet (x, x1, x2) /\ okL (routesV (x, x1, x2) (x4.getD x7.toNat default) x3) /\ ∀ (b : Bool), b = (x.getD (Int.toNat (x4.getD x7.toNat default)) default).2.2.2.2.2.2.2.2.2.2.2.1 -> ((!b) -> ((!b) -> (!b)) /\ True) /\ (b = false -> (!b)) /\ ∀ (b1 : Bool), (b1 = bif b then true else !lookB (routesV (x, x1, x2) (x4.getD x7.toNat default) x3) x8) -> ((!b1) -> ((!b1) -> (!b1)) /\ True) /\ ((!b1) -> ((!b1) -> (!b1)) /\ True) /\ ((!b1) -> ((!b1) -> (!b1)) /\ True) /\ (b1 = false -> (!b1)) /\ ifP (bif b1 then true else decide (((List.length (lookR (routesV (x, x1, x2) (x4.getD x7.toNat default) x3) x8).2.1) : Int) = 0)) ((0 : Int) = srcV (x, x1, x2) x3 (x4, x5, x6) x7 x8 /\ false =
 srcOK (x, x1, x2) x3 (x4, x5, x6) x7 x8) (ifP (decide ((x.getD (Int.toNat (x4.getD x7.toNat default)) default).2.2.2.2.2.1 = 3)) ((x.getD (Int.toNat (x4.getD x7.toNat default)) default).2.1 = srcV (x, x1, x2) x3 (x4, x5, x6) x7 x8 /\ true = srcOK (x, x1, x2) x3 (x4, x5, x6) x7 x8) (ifP (decide ((x.getD (Int.toNat (x4.getD x7.toNat default)) default).2.2.2.2.2.1 = 4)) ((x.getD (Int.toNat (x4.getD x7.toNat default)) default).2.2.2.2.2.2.1 = srcV (x, x1, x2) x3 (x4, x5, x6) x7 x8 /\ true = srcOK (x, x1, x2) x3 (x4, x5, x6) x7 x8) (ifP (decide ((x.getD (Int.toNat (x4.getD x7.toNat default)) default).2.2.2.2.2.1 = 2)) (ifP (decide (1 < ((List.length (lookR (routesV (x, x1, x2) (x4.getD x7.toNat default) x3) x8).2.1) : Int))) ((0 : Int) = srcV (x, x1, x2) x3 (x4, x5, x6) x7 x8 /\ false = srcOK (x, x1, x2) x3 (x4, x5, x6) x7 x8) ((0 : Int) <= 0 /\ 0 < ((List.length (lookR (routesV (x, x1, x2)
 (x4.getD x7.toNat default) x3) x8).2.1) : Int) /\ 0 <= portL (x.getD (Int.toNat (x4.getD x7.toNat default)) default) (List.getD (lookR (routesV (x, x1, x2) (x4.getD x7.toNat default) x3) x8).2.1 (Int.toNat (0 : Int)) default) /\ portL (x.getD (Int.toNat (x4.getD x7.toNat default)) default) (List.getD (lookR (routesV (x, x1, x2) (x4.getD x7.toNat default) x3) x8).2.1 (Int.toNat (0 : Int)) default) < ((List.length (x.getD (Int.toNat (x4.getD x7.toNat default)) default).1) : Int) /\ (List.getD (x.getD (Int.toNat (x4.getD x7.toNat default)) default).1 (Int.toNat (portL (x.getD (Int.toNat (x4.getD x7.toNat default)) default) (List.getD (lookR (routesV (x, x1, x2) (x4.getD x7.toNat default) x3) x8).2.1 (Int.toNat (0 : Int)) default))) default).1 = srcV (x, x1, x2) x3 (x4, x5, x6) x7 x8 /\ true = srcOK (x, x1, x2) x3 (x4, x5, x6) x7 x8)) (0 <= IntKind.wrap .i64 (x7 - (1 : Int)) /\ IntKind.wrap
 .i64 (x7 - (1 : Int)) < (x5.length : Int) /\ 0 <= portL (x.getD (Int.toNat (x4.getD x7.toNat default)) default) (x5.getD (Int.toNat (IntKind.wrap .i64 (x7 - (1 : Int)))) default) /\ portL (x.getD (Int.toNat (x4.getD x7.toNat default)) default) (x5.getD (Int.toNat (IntKind.wrap .i64 (x7 - (1 : Int)))) default) < ((List.length (x.getD (Int.toNat (x4.getD x7.toNat default)) default).1) : Int) /\ (List.getD (x.getD (Int.toNat (x4.getD x7.toNat default)) default).1 (Int.toNat (portL (x.getD (Int.toNat (x4.getD x7.toNat default)) default) (x5.getD (Int.toNat (IntKind.wrap .i64 (x7 - (1 : Int)))) default))) default).1 = srcV (x, x1, x2) x3 (x4, x5, x6) x7 x8 /\ true = srcOK (x, x1, x2) x3 (x4, x5, x6) x7 x8))))) := by
  rintro ns ls hs at' u v e i to ⟨-, ⟨i0, i1⟩, ⟨⟨hu, -⟩, ⟨hv, -⟩, -⟩, -⟩ ⟨ok, hw, SL, SS, SP, SR⟩
  simp only [maxLen] at hu hv
  dsimp only at SL
  (repeat (intro (b_ : Bool) (hb_ : b_ = _); (repeat refine ⟨(by first | (simp; done) | (rw [hb_]; simp; done) | (rw [hb_]; simp; omega) | (rw [hb_]; simp; intros; omega) | (rw [hb_]; simp +contextual; done)), ?_⟩); subst hb_))
  rw [bor_d]
  have out : (i < 1 ∨ (u.length : Int) ≤ i) → srcOK (ns, ls, hs) at' (u, v, e) i to = false := fun h => by
    unfold srcOK; rw [if_pos (by dsimp only; omega)]
  refine ifP_split (fun h => src_none (out (of_decide_eq_true h))) (fun h => ?_)
  clear out
  have h := of_decide_eq_false h
  have hr := hw _ (getD_mem (xs := u) (i := i) (by omega) (by omega))
  have tb := routesV_ok ok (u.getD i.toNat default) at'
  rw [w64 (n := i - 1) (by omega) (by omega)]
  have SS := SS (by omega) (by show i < (u.length : Int); omega)
  have SP := SP (by omega) (by show i < (u.length : Int); omega)
  have SR := SR (by omega) (by show i < (u.length : Int); omega)
  unfold srcR at SR
  dsimp only at SS SP SR
  have eK : srcOK (ns, ls, hs) at' (u, v, e) i to = (if nSilent (ns.getD (u.getD i.toNat default).toNat default) = true ∨ lookB (routesV (ns, ls, hs) (u.getD i.toNat default) at') to = false ∨ (lookR (routesV (ns, ls, hs) (u.getD i.toNat default) at') to).2.1.length = 0 then false
    else if nSource (ns.getD (u.getD i.toNat default).toNat default) = 3 then true
    else if nSource (ns.getD (u.getD i.toNat default).toNat default) = 4 then true
    else if nSource (ns.getD (u.getD i.toNat default).toNat default) = 1 then decide (0 ≤ portL (ns.getD (u.getD i.toNat default).toNat default) (v.getD (i - 1).toNat default))
    else if 1 < (lookR (routesV (ns, ls, hs) (u.getD i.toNat default) at') to).2.1.length then false
    else decide (0 ≤ portL (ns.getD (u.getD i.toNat default).toNat default) ((lookR (routesV (ns, ls, hs) (u.getD i.toNat default) at') to).2.1.getD 0 default))) := by
    unfold srcOK srcR; rw [if_neg (by dsimp only; omega)]
  have eV : srcV (ns, ls, hs) at' (u, v, e) i to = (if srcOK (ns, ls, hs) at' (u, v, e) i to = false then 0
    else if nSource (ns.getD (u.getD i.toNat default).toNat default) = 3 then nLoop (ns.getD (u.getD i.toNat default).toNat default)
    else if nSource (ns.getD (u.getD i.toNat default).toNat default) = 4 then nFixed (ns.getD (u.getD i.toNat default).toNat default)
    else if nSource (ns.getD (u.getD i.toNat default).toNat default) = 1 then portV (ns.getD (u.getD i.toNat default).toNat default) (v.getD (i - 1).toNat default)
    else portV (ns.getD (u.getD i.toNat default).toNat default) ((lookR (routesV (ns, ls, hs) (u.getD i.toNat default) at') to).2.1.getD 0 default)) := rfl
  refine ⟨by omega, by omega, hr.1, hr.2, by omega, by omega, ok, tb.okL (by decide), ?_⟩
  rw [eV]
  generalize srcOK (ns, ls, hs) at' (u, v, e) i to = K at eK ⊢
  generalize lookB (routesV (ns, ls, hs) (u.getD i.toNat default) at') to = lb at *
  generalize lookR (routesV (ns, ls, hs) (u.getD i.toNat default) at') to = r at *
  generalize ns.getD (u.getD i.toNat default).toNat default = X at *
  intro b hb
  (repeat refine ⟨fun h_ => (by first | (simp; done) | (simp [h_]; done) | (simp_all; done)), ?_⟩)
  intro b2 hb2
  (repeat refine ⟨fun h_ => (by first | (simp; done) | (simp [h_]; done) | (simp_all; done)), ?_⟩)
  have tot : (bif b2 then true else decide ((r.2.1.length : Int) = 0)) = decide (nSilent X = true ∨ lb = false ∨ r.2.1.length = 0) := by
    rw [hb2, hb, show X.2.2.2.2.2.2.2.2.2.2.2.1 = nSilent X from rfl]
    cases nSilent X <;> cases lb <;> by_cases hz : r.2.1.length = 0 <;> simp [hz]
  rw [tot]
  refine ifP_split (fun h1 => ?_) (fun h1 => ?_)
  · rw [if_pos (of_decide_eq_true h1)] at eK
    rw [eK, if_pos rfl]; exact ⟨rfl, rfl⟩
  have h1 := of_decide_eq_false h1
  rw [if_neg h1] at eK
  have hlb : lb = true := by
    cases lb
    · exact absurd (.inr (.inl rfl)) h1
    · rfl
  have hlen : 0 < r.2.1.length := by
    have : ¬ r.2.1.length = 0 := fun k => h1 (.inr (.inr k))
    omega
  have SR := SR hlb (by omega)
  refine ifP_split (fun h2 => ?_) (fun h2 => ?_)
  · rw [if_pos (show nSource X = 3 from of_decide_eq_true h2)] at eK
    rw [eK, if_neg (by decide), if_pos (show nSource X = 3 from of_decide_eq_true h2)]; exact ⟨rfl, rfl⟩
  have h2 : ¬ nSource X = 3 := of_decide_eq_false h2
  rw [if_neg h2] at eK ⊢
  refine ifP_split (fun h3 => ?_) (fun h3 => ?_)
  · rw [if_pos (show nSource X = 4 from of_decide_eq_true h3)] at eK
    rw [eK, if_neg (by decide), if_pos (show nSource X = 4 from of_decide_eq_true h3)]; exact ⟨rfl, rfl⟩
  have h3 : ¬ nSource X = 4 := of_decide_eq_false h3
  rw [if_neg h3] at eK ⊢
  have pl : ∀ k, 0 ≤ portL X k → portL X k < (nPorts X).length := fun k hk => by
    unfold portL findP at hk ⊢; split at hk
    · split <;> omega
    · omega
  refine ifP_split (fun h4 => ?_) (fun h4 => ?_)
  · have h4 : nSource X = 2 := of_decide_eq_true h4
    rw [if_neg (show ¬ nSource X = 1 by omega)] at eK ⊢
    refine ifP_split (fun h5 => ?_) (fun h5 => ?_)
    · rw [if_pos (show 1 < r.2.1.length by have := of_decide_eq_true h5; omega)] at eK
      rw [eK, if_pos rfl]; exact ⟨rfl, rfl⟩
    · rw [if_neg (show ¬ 1 < r.2.1.length by have := of_decide_eq_false h5; omega), decide_eq_true SR] at eK
      rw [eK, if_neg (by decide)]
      refine ⟨by omega, by omega, SR, pl _ SR, ?_, rfl⟩
      unfold portV
      rw [if_pos SR]; rfl
  · have h4 : ¬ nSource X = 2 := of_decide_eq_false h4
    rw [if_pos (show nSource X = 1 by omega), decide_eq_true SP] at eK
    rw [eK, if_neg (by decide), if_pos (show nSource X = 1 by omega)]
    refine ⟨by omega, by omega, SP, pl _ SP, ?_, rfl⟩
    unfold portV
    rw [if_pos SP]; rfl
theorem ok_ref16_Source : SpecOK Tryz.prog GL 15 ct_ref16_Source.spec := Ct.okH _ Tryz.func15 (by kernel_rfl) (withSpec_ok (withSpec_ok (withSpec_ok noSpecs_ok ok_ref14_Routes) ok_ref09_Lookup) ok_ref13_PortOf) hmix an_ref16_Source (hideMp (by kernel_rfl) vc_ref16_Source)

def ct_ref16_Delay : Ct := ⟨[.agg cNet, .val (.sl cI)], [.val cI, .val cI], fun d => [okD2 d.1 d.2.1], fun d => ((sumD d.1 d.2.1, sumH d.1 d.2.1, ()), ())⟩
def an_ref16_Delay : PDs ct_ref16_Delay.ps → Anns := (fun d => { loops := (fun n => match n with | 3 => some (fun S => { ι := Int × Int × Int, qn := ⟨fun k_ => ∀ (j : Int) (a : Int) (b : Int), k_ (j, a, b), fun k_ h_ i => h_ i.1 i.2.1 i.2.2, fun k_ => ∃ (j : Int) (a : Int) (b : Int), k_ (j, a, b), fun k_ ⟨j, a, b, h_⟩ => ⟨_, h_⟩⟩, μ := fun i => (d.2.1.length - i.1).toNat, inv := fun i => 0 ≤ i.1 ∧ i.1 ≤ d.2.1.length ∧ i.2.1 = sumD d.1 (d.2.1.take i.1.toNat) ∧ i.2.2 = sumH d.1 (d.2.1.take i.1.toNat), keep := [1, 2], slots := fun i => [(6, .int .i64 i.2.1), (7, .int .i64 i.2.2), (8, .int .i64 i.1)], keepN := [48], names := fun i => [] }) | _ => none) })
theorem vc_ref16_Delay : ∀ (x : List Node) (x1 : List Link) (x2 : List Change) (x3 : List Int), ((x.length <= maxLen /\ ∀ (x4 : Node), x4 ∈ x -> CT.wf cNode x4) /\ (x1.length <= maxLen /\ ∀ (x : Link), x ∈ x1 -> CT.wf cLink x) /\ x2.length <= maxLen /\ ∀ (x : Change), x ∈ x2 -> CT.wf cChange x) /\ (x3.length <= maxLen /\ ∀ (x : Int), x ∈ x3 -> R64 x) /\ True -> okD2 (x, x1, x2) x3 -> (∃ (j : Int) (a : Int), ∃ (b : Int), (0 <= j /\ j <= (x3.length : Int) /\ a = sumD (x, x1, x2) (List.take j.toNat x3) /\ b = sumH (x, x1, x2) (List.take j.toNat x3)) /\ x3 = x3 /\ (0 : Int) = a /\ (0 : Int) = b /\ (0 : Int) = j /\ x = x /\ x1 = x1 /\ x2 = x2 /\ True) /\ ∀ (j a b : Int), 0 <= j /\ j <= (x3.length : Int) /\ a = sumD (x, x1, x2) (List.take j.toNat x3) /\ b = sumH (x, x1, x2) (List.take j.toNat x3) -> ifP (decide (j < (x3.length : Int))) (0 <= j /\ j < (x3.length : Int) /\ 0 <= x3.getD j.toNat
 default /\ x3.getD j.toNat default < (x1.length : Int) /\ ∃ (j_1 : Int) (a_2 : Int), ∃ (b1 : Int), (0 <= j_1 /\ j_1 <= (x3.length : Int) /\ a_2 = sumD (x, x1, x2) (List.take j_1.toNat x3) /\ b1 = sumH (x, x1, x2) (List.take j_1.toNat x3)) /\ Int.toNat ((x3.length : Int) - j_1) < Int.toNat ((x3.length : Int) - j) /\ x3 = x3 /\ IntKind.wrap .i64 (a + (x1.getD (Int.toNat (x3.getD j.toNat default)) default).2.2.1) = a_2 /\ IntKind.wrap .i64 (b + IntKind.wrap .i64 ((x1.getD (Int.toNat (x3.getD j.toNat default)) default).2.2.1 + (x1.getD (Int.toNat (x3.getD j.toNat default)) default).2.2.2.1)) = b1 /\ IntKind.wrap .i64 (j + (1 : Int)) = j_1 /\ x = x /\ x1 = x1 /\ x2 = x2 /\ True) (a = sumD (x, x1, x2) x3 /\ b = sumH (x, x1, x2) x3) := by
  rintro ns ls hs l - ⟨hn, hk, hd⟩
  refine ⟨⟨0, 0, 0, ⟨by omega, by omega, rfl, rfl⟩, (by repeat' first | exact trivial | refine ⟨trivial, ?_⟩ | refine ⟨(by with_reducible rfl), ?_⟩ | refine ⟨w64 (by omega) (by omega), ?_⟩ | refine ⟨rfl, ?_⟩)⟩, ?_⟩
  rintro j a b ⟨j0, j1, ea, eb⟩
  have B := sum_bound (n := (ns, ls, hs)) l hk hd j.toNat (by omega)
  rw [← ea, ← eb] at B
  refine ifP_split (fun hj => ?_) (fun hj => ?_)
  rotate_left
  · have hj := of_decide_eq_false hj
    rw [List.take_of_length_le (by omega)] at ea eb
    exact ⟨ea, eb⟩
  have hj := of_decide_eq_true hj
  have km := hk _ (getD_mem j0 hj)
  dsimp only at km
  have hx := hd _ (getD_mem (xs := ls) km.1 km.2)
  have st := take_step (l := l) j0 hj
  have e1 : sumD (ns, ls, hs) (l.take (j + 1).toNat) = a + lDelay (ls.getD (l.getD j.toNat default).toNat default) := by
    rw [st, ea]; unfold sumD; rw [List.foldl_append]; rfl
  have e2 : sumH (ns, ls, hs) (l.take (j + 1).toNat) = b + (lDelay (ls.getD (l.getD j.toNat default).toNat default) + lJitter (ls.getD (l.getD j.toNat default).toNat default)) := by
    rw [st, eb]; unfold sumH; rw [List.foldl_append]; rfl
  rw [show (ls.getD (l.getD j.toNat default).toNat default).2.2.1 = lDelay (ls.getD (l.getD j.toNat default).toNat default) from rfl, show (ls.getD (l.getD j.toNat default).toNat default).2.2.2.1 = lJitter (ls.getD (l.getD j.toNat default).toNat default) from rfl]
  generalize lDelay (ls.getD (l.getD j.toNat default).toNat default) = x at *
  generalize lJitter (ls.getD (l.getD j.toNat default).toNat default) = y at *
  rw [w64 (n := a + x) (by omega) (by omega), w64 (n := x + y) (by omega) (by omega), w64 (n := b + (x + y)) (by omega) (by omega)]
  exact ⟨j0, hj, km.1, km.2, j + 1, _, _, ⟨by omega, by omega, e1.symm, e2.symm⟩, by omega, (by repeat' first | exact trivial | refine ⟨trivial, ?_⟩ | refine ⟨(by with_reducible rfl), ?_⟩ | refine ⟨w64 (by omega) (by omega), ?_⟩ | refine ⟨rfl, ?_⟩)⟩
theorem ok_ref16_Delay : SpecOK Tryz.prog GL 17 ct_ref16_Delay.spec := Ct.okH _ Tryz.func17 (by kernel_rfl) noSpecs_ok hmix an_ref16_Delay (hideMp (by kernel_rfl) vc_ref16_Delay)

def ct_ref16_Same : Ct := ⟨[.agg cNet, .val cU32, .val cU32], [.val .bool], fun _ => [], fun d => ((sameV d.1 d.2.1 d.2.2.1, ()), ())⟩
def an_ref16_Same : PDs ct_ref16_Same.ps → Anns := (fun _ => {})
theorem vc_ref16_Same : ∀ (x : List Node) (x1 : List Link) (x2 : List Change) (x3 x4 : Int), ((x.length <= maxLen /\ ∀ (x5 : Node), x5 ∈ x -> CT.wf cNode x5) /\ (x1.length <= maxLen /\ ∀ (x : Link), x ∈ x1 -> CT.wf cLink x) /\ x2.length <= maxLen /\ ∀ (x : Change), x ∈ x2 -> CT.wf cChange x) /\ (0 <= x3 /\ x3 <= 4294967295) /\ (0 <= x4 /\ x4 <= 4294967295) /\ True -> True -> ∀ (b : Bool), b = findB (x, x1, x2) x3 -> (b -> b) /\ ∀ (b1 : Bool), (b1 = bif b then findB (x, x1, x2) x4 else false) -> (b1 -> (b1 -> b1) /\ (b1 -> b1) /\ True) /\ (b1 -> b1) /\ (bif b1 then decide (findV (x, x1, x2) x3 = findV (x, x1, x2) x4) else false) = sameV (x, x1, x2) x3 x4 := by
  rintro ns ls hs a b - -
  intro b1 hb1
  (repeat refine ⟨fun h_ => (by first | (simp; done) | (simp [h_]; done) | (simp_all; done)), ?_⟩)
  intro b2 hb2
  (repeat refine ⟨fun h_ => (by first | (simp; done) | (simp [h_]; done) | (simp_all; done)), ?_⟩)
  rw [hb2, hb1]
  unfold sameV
  cases findB (ns, ls, hs) a <;> cases findB (ns, ls, hs) b <;> rfl
theorem ok_ref16_Same : SpecOK Tryz.prog GL 20 ct_ref16_Same.spec := Ct.okH _ Tryz.func20 (by kernel_rfl) (withSpec_ok noSpecs_ok ok_ref14_Find) hmix an_ref16_Same (hideMp (by kernel_rfl) vc_ref16_Same)
theorem joins_other {ls : List Link} {k : Int} (k0 : 0 ≤ k) (k1 : k < ls.length) (hne : lA (ls.getD k.toNat default) ≠ lB (ls.getD k.toNat default)) (i j : Int) (j0 : 0 ≤ j) : joinsL i j (ls.getD k.toNat default) = decide (¬ i = j ∧ otherV ls k i = j) := by
  unfold joinsL otherV
  rw [if_neg (show ¬ (k < 0 ∨ (ls.length : Int) ≤ k) by omega)]
  generalize lA (ls.getD k.toNat default) = x at *
  generalize lB (ls.getD k.toNat default) = y at *
  rw [Bool.eq_iff_iff, Bool.or_eq_true, Bool.and_eq_true, Bool.and_eq_true, decide_eq_true_iff, decide_eq_true_iff, decide_eq_true_iff, decide_eq_true_iff, decide_eq_true_iff]
  split
  · omega
  · split <;> omega
def ct_ref16_Joined : Ct := ⟨[.agg cNet, .val cU32, .val cU32], [.val .bool], fun d => [∀ l ∈ d.1.2.1, lA l ≠ lB l], fun d => ((joinedV d.1 d.2.1 d.2.2.1, ()), ())⟩
def an_ref16_Joined : PDs ct_ref16_Joined.ps → Anns := (fun d => { loops := (fun n => match n with | 4 => some (fun S => { ι := Int, μ := fun i => (d.1.2.1.length - i).toNat, inv := fun i => 0 ≤ i ∧ i ≤ d.1.2.1.length ∧ (findB d.1 d.2.1 = true → findB d.1 d.2.2.1 = true → ∀ l ∈ d.1.2.1.take i.toNat, joinsL (findV d.1 d.2.1) (findV d.1 d.2.2.1) l = false), keep := [3, 7, 8, 9, 10], slots := fun i => [(11, .int .i64 i)], keepN := [64], names := fun i => [] }) | _ => none) })
theorem vc_ref16_Joined : ∀ (x : List Node) (x1 : List Link) (x2 : List Change) (x3 x4 : Int), ((x.length <= maxLen /\ ∀ (x5 : Node), x5 ∈ x -> CT.wf cNode x5) /\ (x1.length <= maxLen /\ ∀ (x : Link), x ∈ x1 -> CT.wf cLink x) /\ x2.length <= maxLen /\ ∀ (x : Change), x ∈ x2 -> CT.wf cChange x) /\ (0 <= x3 /\ x3 <= 4294967295) /\ (0 <= x4 /\ x4 <= 4294967295) /\ True -> (∀ (l : Int × Int × Int × Int × Int × Int), l ∈ x1 -> lA l ≠ lB l) -> (∃ (x5 : Int), (0 <= x5 /\ x5 <= (x1.length : Int) /\ (findB (x, x1, x2) x3 = true -> findB (x, x1, x2) x4 = true -> ∀ (l : Int × Int × Int × Int × Int × Int), l ∈ List.take x5.toNat x1 -> joinsL (findV (x, x1, x2) x3) (findV (x, x1, x2) x4) l = false)) /\ findV (x, x1, x2) x3 = findV (x, x1, x2) x3 /\ findB (x, x1, x2) x3 = findB (x, x1, x2) x3 /\ findV (x, x1, x2) x4 = findV (x, x1, x2) x4 /\ findB (x, x1, x2) x4 = findB (x, x1, x2) x4 /\ (0 : Int) = x5
 /\ x = x /\ x1 = x1 /\ x2 = x2 /\ True) /\ ∀ (x5 : Int), 0 <= x5 /\ x5 <= (x1.length : Int) /\ (findB (x, x1, x2) x3 = true -> findB (x, x1, x2) x4 = true -> ∀ (l : Int × Int × Int × Int × Int × Int), l ∈ List.take x5.toNat x1 -> joinsL (findV (x, x1, x2) x3) (findV (x, x1, x2) x4) l = false) -> ∀ (b : Bool), b = decide (x5 < (x1.length : Int)) -> (b -> b) /\ ∀ (b1 : Bool), (b1 = bif b then findB (x, x1, x2) x3 else false) -> (b1 -> b1) /\ ifP (bif b1 then findB (x, x1, x2) x4 else false) (∀ (b : Bool), b = !decide (findV (x, x1, x2) x3 = findV (x, x1, x2) x4) -> (b -> (b -> b) /\ (b -> b) /\ (b -> b) /\ True) /\ (b -> (b -> b) /\ (b -> b) /\ True) /\ (b -> b) /\ ifP (bif b then decide (otherV x1 x5 (findV (x, x1, x2) x3) = findV (x, x1, x2) x4) else false) (true = joinedV (x, x1, x2) x3 x4) (∃ (x6 : Int), (0 <= x6 /\ x6 <= (x1.length : Int) /\ (findB (x, x1, x2) x3 = true -> findB (x,
 x1, x2) x4 = true -> ∀ (l : Int × Int × Int × Int × Int × Int), l ∈ List.take x6.toNat x1 -> joinsL (findV (x, x1, x2) x3) (findV (x, x1, x2) x4) l = false)) /\ Int.toNat ((x1.length : Int) - x6) < Int.toNat ((x1.length : Int) - x5) /\ findV (x, x1, x2) x3 = findV (x, x1, x2) x3 /\ findB (x, x1, x2) x3 = findB (x, x1, x2) x3 /\ findV (x, x1, x2) x4 = findV (x, x1, x2) x4 /\ findB (x, x1, x2) x4 = findB (x, x1, x2) x4 /\ IntKind.wrap .i64 (x5 + (1 : Int)) = x6 /\ x = x /\ x1 = x1 /\ x2 = x2 /\ True)) (false = joinedV (x, x1, x2) x3 x4) := by
  rintro ns ls hs a b ⟨⟨-, ⟨hl, -⟩, -⟩, -⟩ hne
  simp only [maxLen] at hl
  refine ⟨⟨0, ⟨by omega, by omega, fun _ _ l hl => by simp at hl⟩, (by repeat' first | exact trivial | refine ⟨trivial, ?_⟩ | refine ⟨(by with_reducible rfl), ?_⟩ | refine ⟨w64 (by omega) (by omega), ?_⟩ | refine ⟨rfl, ?_⟩)⟩, ?_⟩
  rintro x ⟨x0, x1, hx⟩
  intro b1 hb1
  (repeat refine ⟨fun h_ => (by first | (simp; done) | (simp [h_]; done) | (simp_all; done)), ?_⟩)
  intro b2 hb2
  (repeat refine ⟨fun h_ => (by first | (simp; done) | (simp [h_]; done) | (simp_all; done)), ?_⟩)
  unfold joinedV
  have tot : (bif b2 then findB (ns, ls, hs) b else false) = (decide (x < (ls.length : Int)) && (findB (ns, ls, hs) a && findB (ns, ls, hs) b)) := by
    rw [hb2, hb1]
    cases decide (x < (ls.length : Int)) <;> cases findB (ns, ls, hs) a <;> cases findB (ns, ls, hs) b <;> rfl
  rw [tot]
  refine ifP_split (fun h => ?_) (fun h => ?_)
  · rw [Bool.and_eq_true_iff, Bool.and_eq_true_iff] at h
    obtain ⟨h1, h2, h3⟩ := h
    have h1 := of_decide_eq_true h1
    have hx := hx h2 h3
    have hm := getD_mem x0 h1
    have J := joins_other (k := x) x0 h1 (hne _ hm) (findV (ns, ls, hs) a) (findV (ns, ls, hs) b) (find_in _ _ h3).1
    rw [h2, h3, Bool.true_and, Bool.true_and]
    intro b3 hb3
    (repeat refine ⟨fun h_ => (by first | (simp; done) | (simp [h_]; done) | (simp_all; done)), ?_⟩)
    have t2 : (bif b3 then decide (otherV ls x (findV (ns, ls, hs) a) = findV (ns, ls, hs) b) else false) = joinsL (findV (ns, ls, hs) a) (findV (ns, ls, hs) b) (ls.getD x.toNat default) := by
      rw [hb3, J, band_nd]
    rw [t2]
    refine ifP_split (fun q => ?_) (fun q => ?_)
    · symm; rw [List.any_eq_true]; exact ⟨_, hm, q⟩
    · exact ⟨x + 1, ⟨by omega, by omega, fun _ _ => all_next x0 h1 hx q⟩, by omega, (by repeat' first | exact trivial | refine ⟨trivial, ?_⟩ | refine ⟨(by with_reducible rfl), ?_⟩ | refine ⟨w64 (by omega) (by omega), ?_⟩ | refine ⟨rfl, ?_⟩)⟩
  · cases h2 : findB (ns, ls, hs) a with
    | false => rfl
    | true => cases h3 : findB (ns, ls, hs) b with
      | false => rfl
      | true =>
        rw [h2, h3, Bool.and_true, Bool.and_true] at h
        have h := of_decide_eq_false h
        have hx := hx h2 h3
        rw [List.take_of_length_le (by omega)] at hx
        symm
        rw [Bool.true_and, Bool.true_and, List.any_eq_false]
        exact fun l hl => by rw [hx l hl]; decide
theorem ok_ref16_Joined : SpecOK Tryz.prog GL 22 ct_ref16_Joined.spec := Ct.okH _ Tryz.func22 (by kernel_rfl) (withSpec_ok (withSpec_ok noSpecs_ok ok_ref14_Find) ok_ref14_Other) hmix an_ref16_Joined (hideMp (by kernel_rfl) vc_ref16_Joined)

def ct_ref16_Owner : Ct := ⟨[.agg cNet, .val cU32], [.val cI, .val .bool], fun _ => [], fun d => ((ownerV d.1 d.2.1, findB d.1 d.2.1, ()), ())⟩
def an_ref16_Owner : PDs ct_ref16_Owner.ps → Anns := (fun _ => {})
theorem vc_ref16_Owner : ∀ (x : List Node) (x1 : List Link) (x2 : List Change) (x3 : Int), ((x.length <= maxLen /\ ∀ (x4 : Node), x4 ∈ x -> CT.wf cNode x4) /\ (x1.length <= maxLen /\ ∀ (x : Link), x ∈ x1 -> CT.wf cLink x) /\ x2.length <= maxLen /\ ∀ (x : Change), x ∈ x2 -> CT.wf cChange x) /\ (0 <= x3 /\ x3 <= 4294967295) /\ True -> True -> ifP (!findB (x, x1, x2) x3) ((0 : Int) = ownerV (x, x1, x2) x3 /\ false = findB (x, x1, x2) x3) (0 <= findV (x, x1, x2) x3 /\ findV (x, x1, x2) x3 < (x.length : Int) /\ (x.getD (Int.toNat (findV (x, x1, x2) x3)) default).2.2.1 = ownerV (x, x1, x2) x3 /\ true = findB (x, x1, x2) x3) := by
  rintro ns ls hs a - -
  unfold ownerV
  refine ifP_split (fun h => ?_) (fun h => ?_)
  · have h : findB (ns, ls, hs) a = false := by simpa using h
    rw [h]; exact ⟨rfl, rfl⟩
  · have h : findB (ns, ls, hs) a = true := by simpa using h
    have k := find_in _ _ h
    rw [if_pos h, h]
    exact ⟨k.1, k.2, rfl, rfl⟩
theorem ok_ref16_Owner : SpecOK Tryz.prog GL 24 ct_ref16_Owner.spec := Ct.okH _ Tryz.func24 (by kernel_rfl) (withSpec_ok noSpecs_ok ok_ref14_Find) hmix an_ref16_Owner (hideMp (by kernel_rfl) vc_ref16_Owner)
def rtimesV (hs : List Change) (s t : Int) : List Int := s :: (hs.filter (between s t)).map hAt
def ct_ref16_times : Ct := ⟨[.agg cNet, .val cI, .val cI], [.own 3 cI], fun d => [d.1.2.2.length ≤ 1000], fun d => ((rtimesV d.1.2.2 d.2.1 d.2.2.1, ()), ())⟩
def an_ref16_times : PDs ct_ref16_times.ps → Anns := (fun d => { loops := (fun n => match n with | 3 => some (fun S => { ι := Int × (List Int), qn := ⟨fun k_ => ∀ (j : Int) (l : (List Int)), k_ (j, l), fun k_ h_ i => h_ i.1 i.2, fun k_ => ∃ (j : Int) (l : (List Int)), k_ (j, l), fun k_ ⟨j, l, h_⟩ => ⟨_, h_⟩⟩, μ := fun i => (d.1.2.2.length - i.1).toNat, inv := fun i => 0 ≤ i.1 ∧ i.1 ≤ d.1.2.2.length ∧ i.2 = rtimesV (d.1.2.2.take i.1.toNat) d.2.1 d.2.2.1, keep := [1, 2, 3], slots := fun i => [(7, .own 524288 1), (8, .int .i64 i.1)], keepN := [64], names := fun i => [(524288, .live (.row 3 cI i.2))] }) | _ => none) })
theorem vc_ref16_times : ∀ (x : List Node) (x1 : List Link) (x2 : List Change) (x3 x4 : Int), ((x.length <= maxLen /\ ∀ (x5 : Node), x5 ∈ x -> CT.wf cNode x5) /\ (x1.length <= maxLen /\ ∀ (x : Link), x ∈ x1 -> CT.wf cLink x) /\ x2.length <= maxLen /\ ∀ (x : Change), x ∈ x2 -> CT.wf cChange x) /\ R64 x3 /\ R64 x4 /\ True -> x2.length <= (1000 : Nat) -> (∃ (j : Int) (l : List Int), (0 <= j /\ j <= (x2.length : Int) /\ l = rtimesV (List.take j.toNat x2) x3 x4) /\ x3 = x3 /\ x4 = x4 /\ (0 : Int) = j /\ x = x /\ x1 = x1 /\ x2 = x2 /\ [x3] = l /\ True) /\ ∀ (j : Int) (l : List Int), 0 <= j /\ j <= (x2.length : Int) /\ l = rtimesV (List.take j.toNat x2) x3 x4 -> ifP (decide (j < (x2.length : Int))) (0 <= j /\ j < (x2.length : Int) /\ ∀ (b : Bool), b = decide (x3 < (x2.getD j.toNat default).1) -> (b -> (b -> b) /\ True) /\ (b -> (b -> b) /\ (b -> b) /\ 0 <= j /\ j < (x2.length : Int) /\ True) /\
 (b -> (b -> b) /\ True) /\ (b -> (b -> b) /\ True) /\ (b -> (b -> b) /\ (b -> b) /\ True) /\ (b -> b) /\ ifP (bif b then decide ((x2.getD j.toNat default).1 <= x4) else false) (0 <= j /\ j < (x2.length : Int) /\ (l.length + List.length [(x2.getD j.toNat default).1]) * (8 : Nat) <= (140737488355328 : Nat) /\ ∃ (j_1 : Int) (l_1 : List Int), (0 <= j_1 /\ j_1 <= (x2.length : Int) /\ l_1 = rtimesV (List.take j_1.toNat x2) x3 x4) /\ Int.toNat ((x2.length : Int) - j_1) < Int.toNat ((x2.length : Int) - j) /\ x3 = x3 /\ x4 = x4 /\ IntKind.wrap .i64 (j + (1 : Int)) = j_1 /\ x = x /\ x1 = x1 /\ x2 = x2 /\ l ++ [(x2.getD j.toNat default).1] = l_1 /\ True) (∃ (j_1 : Int) (l_1 : List Int), (0 <= j_1 /\ j_1 <= (x2.length : Int) /\ l_1 = rtimesV (List.take j_1.toNat x2) x3 x4) /\ Int.toNat ((x2.length : Int) - j_1) < Int.toNat ((x2.length : Int) - j) /\ x3 = x3 /\ x4 = x4 /\ IntKind.wrap .i64 (j + (1 :
 Int)) = j_1 /\ x = x /\ x1 = x1 /\ x2 = x2 /\ l = l_1 /\ True)) (l = rtimesV x2 x3 x4) := by
  rintro ns ls hs s t - hn
  have ll : ∀ l : List Change, (rtimesV l s t).length ≤ 1 + l.length := fun l => by
    unfold rtimesV
    rw [List.length_cons, List.length_map]
    have := List.length_filter_le (between s t) l
    omega
  refine ⟨⟨0, _, ⟨by omega, by omega, rfl⟩, (by repeat' first | exact trivial | refine ⟨trivial, ?_⟩ | refine ⟨(by with_reducible rfl), ?_⟩ | refine ⟨w64 (by omega) (by omega), ?_⟩ | refine ⟨rfl, ?_⟩)⟩, ?_⟩
  rintro j l ⟨j0, j1, rfl⟩
  refine ifP_split (fun hj => ?_) (fun hj => ?_)
  · have hj := of_decide_eq_true hj
    have st := take_step (l := hs) j0 hj
    have hlt := ll (hs.take j.toNat)
    have h2 : (hs.take j.toNat).length ≤ hs.length := by rw [List.length_take]; exact Nat.min_le_right _ _
    refine ⟨j0, hj, ?_⟩
    intro b hb
    (repeat refine ⟨fun h_ => (by first | ((repeat refine ⟨fun _ => h_, ?_⟩); exact ⟨j0, hj, trivial⟩) | (simp; done) | (simp [h_]; done) | (simp_all; done)), ?_⟩)
    rw [hb, band_d]
    refine ifP_split (fun h => ?_) (fun h => ?_)
    · have h : between s t (hs.getD j.toNat default) = true := h
      refine ⟨j0, hj, by simp only [List.length_singleton]; omega, j + 1, _, ⟨by omega, by omega, rfl⟩, by omega, ?_⟩
      (repeat first | refine ⟨trivial, ?_⟩ | refine ⟨(by with_reducible rfl), ?_⟩ | refine ⟨w64 (by omega) (by omega), ?_⟩)
      refine ⟨?_, trivial⟩
      rw [st]; unfold rtimesV
      rw [List.filter_append, List.filter_cons, if_pos h, List.map_append]; rfl
    · have h : between s t (hs.getD j.toNat default) = false := h
      refine ⟨j + 1, _, ⟨by omega, by omega, rfl⟩, by omega, ?_⟩
      (repeat first | refine ⟨trivial, ?_⟩ | refine ⟨(by with_reducible rfl), ?_⟩ | refine ⟨w64 (by omega) (by omega), ?_⟩)
      refine ⟨?_, trivial⟩
      rw [st]; unfold rtimesV
      rw [List.filter_append, List.filter_cons, if_neg (by rw [h]; decide), List.filter_nil, List.append_nil]
  · have hj := of_decide_eq_false hj
    rw [List.take_of_length_le (by omega)]
theorem ok_ref16_times : SpecOK Tryz.prog GL 64 ct_ref16_times.spec := Ct.okH _ Tryz.func64 (by kernel_rfl) noSpecs_ok hmix an_ref16_times (hideMp (by kernel_rfl) vc_ref16_times)

def ct_ref16_flowwise : Ct := ⟨[.agg cNet, .val cI], [.val .bool], fun d => [okNet d.1], fun d => ((flowV d.1 d.2.1, ()), ())⟩
def an_ref16_flowwise : PDs ct_ref16_flowwise.ps → Anns := (fun d => { loops := (fun n => match n with | 2 => some (fun S => { ι := Int, μ := fun i => (d.1.1.length - i).toNat, inv := fun i => 0 ≤ i ∧ i ≤ d.1.1.length ∧ ∀ k : Nat, (k : Int) < i → (routesV d.1 k d.2.1).all (fun r => !perPkt r) = true, keep := [1, 2], slots := fun i => [(5, .int .i64 i)], keepN := [48], names := fun i => [] }) | 6 => some (fun S => { ι := Int, μ := fun i => ((routesV d.1 (S.i 5) d.2.1).length - i).toNat, inv := fun i => 0 ≤ i ∧ i ≤ (routesV d.1 (S.i 5) d.2.1).length ∧ ∀ r ∈ (routesV d.1 (S.i 5) d.2.1).take i.toNat, perPkt r = false, keep := [1, 2, 5, 6], slots := fun i => [(7, .int .i64 i)], keepN := [48, 304], names := fun i => [] }) | _ => none) })
theorem vc_ref16_flowwise : ∀ (x : List Node) (x1 : List Link) (x2 : List Change) (x3 : Int), ((x.length <= maxLen /\ ∀ (x4 : Node), x4 ∈ x -> CT.wf cNode x4) /\ (x1.length <= maxLen /\ ∀ (x : Link), x ∈ x1 -> CT.wf cLink x) /\ x2.length <= maxLen /\ ∀ (x : Change), x ∈ x2 -> CT.wf cChange x) /\ R64 x3 /\ True -> okNet (x, x1, x2) -> (∃ (x4 : Int), (0 <= x4 /\ x4 <= (x.length : Int) /\ ∀ (k : Nat), (↑k : Int) < x4 -> (List.all (routesV (x, x1, x2) (↑k : Int) x3) fun (r : Rt) => !perPkt r) = true) /\ x3 = x3 /\ (0 : Int) = x4 /\ x = x /\ x1 = x1 /\ x2 = x2 /\ True) /\ ∀ (x4 : Int), (0 <= x4 /\ x4 <= (x.length : Int) /\ ∀ (k : Nat), (↑k : Int) < x4 -> (List.all (routesV (x, x1, x2) (↑k : Int) x3) fun (r : Rt) => !perPkt r) = true) -> ifP (decide (x4 < (x.length : Int))) (okNet (x, x1, x2) /\ (∃ (x5 : Int), (0 <= x5 /\ x5 <= ((List.length (routesV (x, x1, x2) x4 x3)) : Int) /\ ∀ (r : Rt), r
 ∈ List.take x5.toNat (routesV (x, x1, x2) x4 x3) -> perPkt r = false) /\ x3 = x3 /\ x4 = x4 /\ (0 : Int) = x5 /\ x = x /\ x1 = x1 /\ x2 = x2 /\ routesV (x, x1, x2) x4 x3 = routesV (x, x1, x2) x4 x3 /\ True) /\ ∀ (x5 : Int), (0 <= x5 /\ x5 <= ((List.length (routesV (x, x1, x2) x4 x3)) : Int) /\ ∀ (r : Rt), r ∈ List.take x5.toNat (routesV (x, x1, x2) x4 x3) -> perPkt r = false) -> ifP (decide (x5 < ((List.length (routesV (x, x1, x2) x4 x3)) : Int))) (0 <= x5 /\ x5 < ((List.length (routesV (x, x1, x2) x4 x3)) : Int) /\ ∀ (b : Bool), b = decide (1 < ((List.length (List.getD (routesV (x, x1, x2) x4 x3) x5.toNat default).2.1) : Int)) -> (b -> (b -> b) /\ (b -> b) /\ 0 <= x5 /\ x5 < ((List.length (routesV (x, x1, x2) x4 x3)) : Int) /\ True) /\ (b -> (b -> b) /\ True) /\ (b -> (b -> b) /\ True) /\ (b -> (b -> b) /\ True) /\ (b -> b) /\ ifP (bif b then decide ((List.getD (routesV (x, x1, x2) x4
 x3) x5.toNat default).2.2 = 3) else false) (false = flowV (x, x1, x2) x3) (∃ (x6 : Int), (0 <= x6 /\ x6 <= ((List.length (routesV (x, x1, x2) x4 x3)) : Int) /\ ∀ (r : Rt), r ∈ List.take x6.toNat (routesV (x, x1, x2) x4 x3) -> perPkt r = false) /\ Int.toNat (((List.length (routesV (x, x1, x2) x4 x3)) : Int) - x6) < Int.toNat (((List.length (routesV (x, x1, x2) x4 x3)) : Int) - x5) /\ x3 = x3 /\ x4 = x4 /\ IntKind.wrap .i64 (x5 + (1 : Int)) = x6 /\ x = x /\ x1 = x1 /\ x2 = x2 /\ routesV (x, x1, x2) x4 x3 = routesV (x, x1, x2) x4 x3 /\ True)) (∃ (x6 : Int), (0 <= x6 /\ x6 <= (x.length : Int) /\ ∀ (k : Nat), (↑k : Int) < x6 -> (List.all (routesV (x, x1, x2) (↑k : Int) x3) fun (r : Rt) => !perPkt r) = true) /\ Int.toNat ((x.length : Int) - x6) < Int.toNat ((x.length : Int) - x4) /\ x3 = x3 /\ IntKind.wrap .i64 (x4 + (1 : Int)) = x6 /\ x = x /\ x1 = x1 /\ x2 = x2 /\ True)) (true = flowV (x,
 x1, x2) x3) := by
  rintro ns ls hs at' ⟨⟨⟨hnl, -⟩, -⟩, -⟩ ok
  simp only [maxLen] at hnl
  refine ⟨⟨0, ⟨by omega, by omega, fun k hk => by omega⟩, (by repeat' first | exact trivial | refine ⟨trivial, ?_⟩ | refine ⟨(by with_reducible rfl), ?_⟩ | refine ⟨w64 (by omega) (by omega), ?_⟩ | refine ⟨rfl, ?_⟩)⟩, ?_⟩
  rintro i ⟨i0, i1, hI⟩
  refine ifP_split (fun hi => ?_) (fun hi => ?_)
  rotate_left
  · have hi := of_decide_eq_false hi
    unfold flowV
    symm
    rw [List.all_eq_true]
    intro k hk
    have hk := List.mem_range.1 hk
    dsimp only at hk
    exact hI k (by omega)
  have hi := of_decide_eq_true hi
  have tb := (routesV_ok ok i at').n
  refine ⟨ok, ⟨0, ⟨by omega, by omega, by simp⟩, (by repeat' first | exact trivial | refine ⟨trivial, ?_⟩ | refine ⟨(by with_reducible rfl), ?_⟩ | refine ⟨w64 (by omega) (by omega), ?_⟩ | refine ⟨rfl, ?_⟩)⟩, ?_⟩
  rintro q ⟨q0, q1, hQ⟩
  refine ifP_split (fun hq => ?_) (fun hq => ?_)
  rotate_left
  · have hq := of_decide_eq_false hq
    rw [List.take_of_length_le (by omega)] at hQ
    refine ⟨i + 1, ⟨by omega, by omega, fun k hk => ?_⟩, by omega, (by repeat' first | exact trivial | refine ⟨trivial, ?_⟩ | refine ⟨(by with_reducible rfl), ?_⟩ | refine ⟨w64 (by omega) (by omega), ?_⟩ | refine ⟨rfl, ?_⟩)⟩
    by_cases e : (k : Int) < i
    · exact hI k e
    · have : (k : Int) = i := by omega
      rw [this, List.all_eq_true]
      intro r hr
      rw [hQ r hr]; rfl
  have hq := of_decide_eq_true hq
  have hmr := getD_mem q0 hq
  have nxr := fun h => all_next q0 hq hQ h (P := fun r => perPkt r = false)
  refine ⟨q0, hq, ?_⟩
  generalize (routesV (ns, ls, hs) i at').getD q.toNat default = r at hmr nxr ⊢
  intro b hb
  (repeat refine ⟨fun h_ => (by first | ((repeat refine ⟨fun _ => h_, ?_⟩); exact ⟨q0, hq, trivial⟩) | (simp; done) | (simp [h_]; done) | (simp_all; done)), ?_⟩)
  rw [hb, band_d]
  refine ifP_split (fun h => ?_) (fun h => ?_)
  · unfold flowV
    symm
    rw [List.all_eq_false]
    refine ⟨i.toNat, List.mem_range.2 (by dsimp only; omega), ?_⟩
    rw [show ((i.toNat : Nat) : Int) = i by omega, Bool.not_eq_true, List.all_eq_false]
    refine ⟨r, hmr, ?_⟩
    have h : perPkt r = true := h
    rw [h]; decide
  · exact ⟨q + 1, ⟨by omega, by omega, nxr h⟩, by omega, (by repeat' first | exact trivial | refine ⟨trivial, ?_⟩ | refine ⟨(by with_reducible rfl), ?_⟩ | refine ⟨w64 (by omega) (by omega), ?_⟩ | refine ⟨rfl, ?_⟩)⟩
theorem ok_ref16_flowwise : SpecOK Tryz.prog GL 65 ct_ref16_flowwise.spec := Ct.okH _ Tryz.func65 (by kernel_rfl) (withSpec_ok noSpecs_ok ok_ref14_Routes) hmix an_ref16_flowwise (hideMp (by kernel_rfl) vc_ref16_flowwise)
def hasV (a b : Int) : Bool := !decide (bits .and .i64 a b = 0)
def ct_ref16_has : Ct := ⟨[.val cI, .val cI], [.val .bool], fun _ => [], fun d => ((hasV d.1 d.2.1, ()), ())⟩
def an_ref16_has : PDs ct_ref16_has.ps → Anns := (fun _ => {})
theorem vc_ref16_has : ∀ (x x1 : Int), R64 x /\ R64 x1 /\ True -> True -> (!decide (bits BinOp.and IntKind.i64 x x1 = 0)) = hasV x x1 := by
  intros
  rfl
theorem ok_ref16_has : SpecOK Tryz.prog GL 63 ct_ref16_has.spec := Ct.okH _ Tryz.func63 (by kernel_rfl) noSpecs_ok hmix an_ref16_has (hideMp (by kernel_rfl) vc_ref16_has)
def nodeHas (a : Int) (x : Node) : Bool := (hasV a 2 && nOpaque x) || (hasV a 4 && decide (nSource x = 4)) || (hasV a 8 && !decide (nSource x = 1)) || (hasV a 256 && (nSilent x || decide (0 < (nLimit x).1)))
def linkHas (a : Int) (l : Link) : Bool := (hasV a 64 && !decide (lJitter l = 0)) || (hasV a 128 && !decide (lLoss l = 0))
def nodesV (n : Net) (a : Int) : Bool := n.1.all (fun x => !nodeHas a x) && n.2.1.all (fun l => !linkHas a l)
def ct_ref16_nodes : Ct := ⟨[.agg cNet, .val cI], [.val .bool], fun _ => [], fun d => ((nodesV d.1 d.2.1, ()), ())⟩
def an_ref16_nodes : PDs ct_ref16_nodes.ps → Anns := (fun d => { loops := (fun n => match n with | 2 => some (fun S => { ι := Int, μ := fun i => (d.1.1.length - i).toNat, inv := fun i => 0 ≤ i ∧ i ≤ d.1.1.length ∧ ∀ x ∈ d.1.1.take i.toNat, nodeHas d.2.1 x = false, keep := [1, 2], slots := fun i => [(5, .int .i64 i)], keepN := [48], names := fun i => [] }) | 8 => some (fun S => { ι := Int, μ := fun i => (d.1.2.1.length - i).toNat, inv := fun i => 0 ≤ i ∧ i ≤ d.1.2.1.length ∧ ∀ x ∈ d.1.2.1.take i.toNat, linkHas d.2.1 x = false, keep := [1, 2], slots := fun i => [(7, .int .i64 i)], keepN := [48], names := fun i => [] }) | _ => none) })
theorem vc_ref16_nodes : ∀ (x : List Node) (x1 : List Link) (x2 : List Change) (x3 : Int), ((x.length <= maxLen /\ ∀ (x4 : Node), x4 ∈ x -> CT.wf cNode x4) /\ (x1.length <= maxLen /\ ∀ (x : Link), x ∈ x1 -> CT.wf cLink x) /\ x2.length <= maxLen /\ ∀ (x : Change), x ∈ x2 -> CT.wf cChange x) /\ R64 x3 /\ True -> True -> (∃ (x4 : Int), (0 <= x4 /\ x4 <= (x.length : Int) /\ ∀ (x5 : List (Int × Int) × Int × Int × Bool × List ((Int × Int) × List Int × Int) × Int × Int × Int × Int × Int × (Int × Int) × Bool × Bool × Int × Int), x5 ∈ List.take x4.toNat x -> nodeHas x3 x5 = false) /\ x3 = x3 /\ (0 : Int) = x4 /\ x = x /\ x1 = x1 /\ x2 = x2 /\ True) /\ ∀ (x4 : Int), (0 <= x4 /\ x4 <= (x.length : Int) /\ ∀ (x5 : List (Int × Int) × Int × Int × Bool × List ((Int × Int) × List Int × Int) × Int × Int × Int × Int × Int × (Int × Int) × Bool × Bool × Int × Int), x5 ∈ List.take x4.toNat x -> nodeHas x3 x5 =
 false) -> ifP (decide (x4 < (x.length : Int))) (0 <= x4 /\ x4 < (x.length : Int) /\ ∀ (b : Bool), b = hasV x3 (2 : Int) -> (b -> (b -> b) /\ True) /\ (b -> b) /\ ∀ (b1 : Bool), (b1 = bif b then (x.getD x4.toNat default).2.2.2.2.2.2.2.2.2.2.2.2.1 else false) -> ((!b1) -> ((!b1) -> (!b1)) /\ True) /\ ((!b1) -> ((!b1) -> (!b1)) /\ True) /\ ∀ (b : Bool), b = hasV x3 (4 : Int) -> ((!b1 && b) -> ((!b1 && b) -> (!b1 && b)) /\ True) /\ ((!b1 && b) -> ((!b1 && b) -> (!b1 && b)) /\ True) /\ ((!b1) -> ((!b1) -> (!b1)) /\ (b -> (!b1 && b)) /\ True) /\ (b1 = false -> (!b1)) /\ ∀ (b2 : Bool), (b2 = bif b1 then true else bif b then decide ((x.getD x4.toNat default).2.2.2.2.2.1 = 4) else false) -> ((!b2) -> ((!b2) -> (!b2)) /\ True) /\ ((!b2) -> ((!b2) -> (!b2)) /\ True) /\ ∀ (b : Bool), b = hasV x3 (8 : Int) -> ((!b2 && b) -> ((!b2 && b) -> (!b2 && b)) /\ True) /\ ((!b2 && b) -> ((!b2 && b) -> (!b2 &&
 b)) /\ True) /\ ((!b2) -> ((!b2) -> (!b2)) /\ (b -> (!b2 && b)) /\ True) /\ (b2 = false -> (!b2)) /\ ∀ (b3 : Bool), (b3 = bif b2 then true else bif b then !decide ((x.getD x4.toNat default).2.2.2.2.2.1 = 1) else false) -> ((!b3) -> ((!b3) -> (!b3)) /\ True) /\ ((!b3) -> ((!b3) -> (!b3)) /\ True) /\ ∀ (b : Bool), b = hasV x3 (256 : Int) -> ((!b3 && b) -> ((!b3 && b) -> (!b3 && b)) /\ True) /\ ((!b3 && b) -> ((!b3 && b) -> (!b3 && b)) /\ True) /\ ∀ (b4 : Bool), b4 = (x.getD x4.toNat default).2.2.2.2.2.2.2.2.2.2.2.1 -> ((!b3 && b && !b4) -> ((!b3 && b && !b4) -> (!b3 && b && !b4)) /\ True) /\ ((!b3 && b && !b4) -> ((!b3 && b && !b4) -> (!b3 && b && !b4)) /\ True) /\ ((!b3 && b && !b4) -> ((!b3 && b && !b4) -> (!b3 && b && !b4)) /\ True) /\ ((!b3 && b) -> ((!b3 && b) -> (!b3 && b)) /\ (b4 = false -> (!b3 && b && !b4)) /\ True) /\ ((!b3) -> ((!b3) -> (!b3)) /\ (b -> (!b3 && b)) /\ True) /\
 (b3 = false -> (!b3)) /\ ifP (bif b3 then true else bif b then bif b4 then true else decide (0 < (x.getD x4.toNat default).2.2.2.2.2.2.2.2.2.2.1.1) else false) (false = nodesV (x, x1, x2) x3) (∃ (x5 : Int), (0 <= x5 /\ x5 <= (x.length : Int) /\ ∀ (x6 : List (Int × Int) × Int × Int × Bool × List ((Int × Int) × List Int × Int) × Int × Int × Int × Int × Int × (Int × Int) × Bool × Bool × Int × Int), x6 ∈ List.take x5.toNat x -> nodeHas x3 x6 = false) /\ Int.toNat ((x.length : Int) - x5) < Int.toNat ((x.length : Int) - x4) /\ x3 = x3 /\ IntKind.wrap .i64 (x4 + (1 : Int)) = x5 /\ x = x /\ x1 = x1 /\ x2 = x2 /\ True)) ((∃ (x5 : Int), (0 <= x5 /\ x5 <= (x1.length : Int) /\ ∀ (x : Int × Int × Int × Int × Int × Int), x ∈ List.take x5.toNat x1 -> linkHas x3 x = false) /\ x3 = x3 /\ (0 : Int) = x5 /\ x = x /\ x1 = x1 /\ x2 = x2 /\ True) /\ ∀ (x5 : Int), (0 <= x5 /\ x5 <= (x1.length : Int) /\ ∀ (x :
 Int × Int × Int × Int × Int × Int), x ∈ List.take x5.toNat x1 -> linkHas x3 x = false) -> ifP (decide (x5 < (x1.length : Int))) (∀ (b : Bool), b = hasV x3 (64 : Int) -> (b -> (b -> b) /\ True) /\ (b -> (b -> b) /\ (b -> b) /\ 0 <= x5 /\ x5 < (x1.length : Int) /\ True) /\ (b -> (b -> b) /\ True) /\ (b -> (b -> b) /\ True) /\ (b -> (b -> b) /\ True) /\ (b -> b) /\ ∀ (b1 : Bool), (b1 = bif b then !decide ((x1.getD x5.toNat default).2.2.2.1 = 0) else false) -> ((!b1) -> ((!b1) -> (!b1)) /\ True) /\ ((!b1) -> ((!b1) -> (!b1)) /\ True) /\ ∀ (b : Bool), b = hasV x3 (128 : Int) -> ((!b1 && b) -> ((!b1 && b) -> (!b1 && b)) /\ True) /\ ((!b1 && b) -> ((!b1 && b) -> (!b1 && b)) /\ ((!b1 && b) -> (!b1 && b)) /\ 0 <= x5 /\ x5 < (x1.length : Int) /\ True) /\ ((!b1 && b) -> ((!b1 && b) -> (!b1 && b)) /\ True) /\ ((!b1 && b) -> ((!b1 && b) -> (!b1 && b)) /\ True) /\ ((!b1 && b) -> ((!b1 && b) -> (!b1 &&
 b)) /\ True) /\ ((!b1) -> ((!b1) -> (!b1)) /\ (b -> (!b1 && b)) /\ True) /\ (b1 = false -> (!b1)) /\ ifP (bif b1 then true else bif b then !decide ((x1.getD x5.toNat default).2.2.2.2.1 = 0) else false) (false = nodesV (x, x1, x2) x3) (∃ (x6 : Int), (0 <= x6 /\ x6 <= (x1.length : Int) /\ ∀ (x : Int × Int × Int × Int × Int × Int), x ∈ List.take x6.toNat x1 -> linkHas x3 x = false) /\ Int.toNat ((x1.length : Int) - x6) < Int.toNat ((x1.length : Int) - x5) /\ x3 = x3 /\ IntKind.wrap .i64 (x5 + (1 : Int)) = x6 /\ x = x /\ x1 = x1 /\ x2 = x2 /\ True)) (true = nodesV (x, x1, x2) x3)) := by
  rintro ns ls hs a ⟨⟨⟨hnl, -⟩, ⟨hll, -⟩, -⟩, -⟩ -
  simp only [maxLen] at hnl hll
  refine ⟨⟨0, ⟨by omega, by omega, by simp⟩, (by repeat' first | exact trivial | refine ⟨trivial, ?_⟩ | refine ⟨(by with_reducible rfl), ?_⟩ | refine ⟨w64 (by omega) (by omega), ?_⟩ | refine ⟨rfl, ?_⟩)⟩, ?_⟩
  rintro i ⟨i0, i1, hI⟩
  refine ifP_split (fun hi => ?_) (fun hi => ?_)
  · have hi := of_decide_eq_true hi
    have hm := getD_mem i0 hi
    have nx := fun h => all_next i0 hi hI h (P := fun x => nodeHas a x = false)
    refine ⟨i0, hi, ?_⟩
    generalize ns.getD i.toNat default = X at hm nx ⊢
    intro b1 hb1
    (repeat refine ⟨fun h_ => (by first | (simp; done) | (simp [h_]; done) | (simp_all; done)), ?_⟩)
    intro b2 hb2
    (repeat refine ⟨fun h_ => (by first | (simp; done) | (simp [h_]; done) | (simp_all; done)), ?_⟩)
    intro b3 hb3
    (repeat refine ⟨fun h_ => (by first | (simp; done) | (simp [h_]; done) | (simp_all; done)), ?_⟩)
    intro b4 hb4
    (repeat refine ⟨fun h_ => (by first | (simp; done) | (simp [h_]; done) | (simp_all; done)), ?_⟩)
    intro b5 hb5
    (repeat refine ⟨fun h_ => (by first | (simp; done) | (simp [h_]; done) | (simp_all; done)), ?_⟩)
    intro b6 hb6
    (repeat refine ⟨fun h_ => (by first | (simp; done) | (simp [h_]; done) | (simp_all; done)), ?_⟩)
    intro b7 hb7
    (repeat refine ⟨fun h_ => (by first | (simp; done) | (simp [h_]; done) | (simp_all; done)), ?_⟩)
    intro b8 hb8
    (repeat refine ⟨fun h_ => (by first | (simp; done) | (simp [h_]; done) | (simp_all; done)), ?_⟩)
    have tot : (bif b6 then true else bif b7 then bif b8 then true else decide (0 < X.2.2.2.2.2.2.2.2.2.2.1.1) else false) = nodeHas a X := by
      rw [hb8, hb7, hb6, hb5, hb4, hb3, hb2, hb1]
      unfold nodeHas nOpaque nSource nSilent nLimit
      cases hasV a 2 <;> cases X.2.2.2.2.2.2.2.2.2.2.2.2.1 <;> cases hasV a 4 <;> cases decide (X.2.2.2.2.2.1 = 4) <;> cases hasV a 8 <;> cases decide (X.2.2.2.2.2.1 = 1) <;> cases hasV a 256 <;> cases X.2.2.2.2.2.2.2.2.2.2.2.1 <;> cases decide (0 < X.2.2.2.2.2.2.2.2.2.2.1.1) <;> rfl
    rw [tot]
    refine ifP_split (fun h => ?_) (fun h => ?_)
    · unfold nodesV
      have : ns.all (fun x => !nodeHas a x) = false := by
        rw [List.all_eq_false]; exact ⟨X, hm, by rw [h]; decide⟩
      rw [this]; rfl
    · exact ⟨i + 1, ⟨by omega, by omega, nx h⟩, by omega, (by repeat' first | exact trivial | refine ⟨trivial, ?_⟩ | refine ⟨(by with_reducible rfl), ?_⟩ | refine ⟨w64 (by omega) (by omega), ?_⟩ | refine ⟨rfl, ?_⟩)⟩
  have hi := of_decide_eq_false hi
  rw [List.take_of_length_le (by omega)] at hI
  have e1 : ns.all (fun x => !nodeHas a x) = true := by
    rw [List.all_eq_true]; exact fun x hx => by rw [hI x hx]; rfl
  clear hI hi
  refine ⟨⟨0, ⟨by omega, by omega, by simp⟩, (by repeat' first | exact trivial | refine ⟨trivial, ?_⟩ | refine ⟨(by with_reducible rfl), ?_⟩ | refine ⟨w64 (by omega) (by omega), ?_⟩ | refine ⟨rfl, ?_⟩)⟩, ?_⟩
  rintro i ⟨i0, i1, hI⟩
  refine ifP_split (fun hi => ?_) (fun hi => ?_)
  · have hi := of_decide_eq_true hi
    have hm := getD_mem i0 hi
    have nx := fun h => all_next i0 hi hI h (P := fun x => linkHas a x = false)
    generalize ls.getD i.toNat default = X at hm nx ⊢
    intro b1 hb1
    (repeat refine ⟨fun h_ => (by first | ((repeat refine ⟨fun _ => h_, ?_⟩); exact ⟨i0, hi, trivial⟩) | (simp; done) | (simp [h_]; done) | (simp_all; done)), ?_⟩)
    intro b2 hb2
    (repeat refine ⟨fun h_ => (by first | ((repeat refine ⟨fun _ => h_, ?_⟩); exact ⟨i0, hi, trivial⟩) | (simp; done) | (simp [h_]; done) | (simp_all; done)), ?_⟩)
    intro b3 hb3
    (repeat refine ⟨fun h_ => (by first | ((repeat refine ⟨fun _ => h_, ?_⟩); exact ⟨i0, hi, trivial⟩) | (simp; done) | (simp [h_]; done) | (simp_all; done)), ?_⟩)
    have tot : (bif b2 then true else bif b3 then !decide (X.2.2.2.2.1 = 0) else false) = linkHas a X := by
      rw [hb3, hb2, hb1]
      unfold linkHas lJitter lLoss
      cases hasV a 64 <;> cases decide (X.2.2.2.1 = 0) <;> cases hasV a 128 <;> cases decide (X.2.2.2.2.1 = 0) <;> rfl
    rw [tot]
    refine ifP_split (fun h => ?_) (fun h => ?_)
    · unfold nodesV
      have : ls.all (fun x => !linkHas a x) = false := by
        rw [List.all_eq_false]; exact ⟨X, hm, by rw [h]; decide⟩
      rw [this, Bool.and_false]
    · exact ⟨i + 1, ⟨by omega, by omega, nx h⟩, by omega, (by repeat' first | exact trivial | refine ⟨trivial, ?_⟩ | refine ⟨(by with_reducible rfl), ?_⟩ | refine ⟨w64 (by omega) (by omega), ?_⟩ | refine ⟨rfl, ?_⟩)⟩
  · have hi := of_decide_eq_false hi
    rw [List.take_of_length_le (by omega)] at hI
    unfold nodesV
    rw [e1, Bool.true_and]
    symm
    rw [List.all_eq_true]; exact fun x hx => by rw [hI x hx]; rfl
theorem ok_ref16_nodes : SpecOK Tryz.prog GL 62 ct_ref16_nodes.spec := Ct.okH _ Tryz.func62 (by kernel_rfl) (withSpec_ok noSpecs_ok ok_ref16_has) hmix an_ref16_nodes (hideMp (by kernel_rfl) vc_ref16_nodes)
theorem rev_iff {a b : List Int} {v : Nat} (hb : b.length = v) (ha : v ≤ a.length) : a.take v = b.reverse ↔ ∀ j : Nat, j < v → b.getD j default = a.getD (v - 1 - j) default := by
  constructor
  · intro h j hj
    have e : (a.take v)[v - 1 - j]? = b.reverse[v - 1 - j]? := by rw [h]
    rw [List.getElem?_take_of_lt (by omega), List.getElem?_reverse (by omega), hb, show v - 1 - (v - 1 - j) = j by omega] at e
    rw [List.getD_eq_getElem?_getD, List.getD_eq_getElem?_getD, e]
  · intro h
    refine List.ext_getElem? fun i => ?_
    by_cases hi : i < v
    · have e := h (v - 1 - i) (by omega)
      rw [List.getElem?_take_of_lt hi, List.getElem?_reverse (by omega), hb]
      rw [show v - 1 - (v - 1 - i) = i by omega, List.getD_eq_getElem?_getD, List.getD_eq_getElem?_getD, List.getElem?_eq_getElem (by omega), List.getElem?_eq_getElem (by omega)] at e
      rw [List.getElem?_eq_getElem (by omega), List.getElem?_eq_getElem (by omega)]
      exact congrArg some e.symm
    · rw [List.getElem?_eq_none (by rw [List.length_take]; omega), List.getElem?_eq_none (by rw [List.length_reverse]; omega)]
def ct_ref16_symmetric : Ct := ⟨[.agg cNet, .val cI, .val cI], [.val .bool], fun d => [WN d.1, 0 ≤ d.2.1, d.2.1 < d.1.1.length, 0 < (nPorts (d.1.1.getD d.2.1.toNat default)).length, ∀ x ∈ d.1.1, (nPorts x).length ≤ 100000], fun d => ((symAt d.1 d.2.1 d.2.2.1, ()), ())⟩
def an_ref16_symmetric : PDs ct_ref16_symmetric.ps → Anns := (fun d => { loops := (fun n => match n with | 3 => some (fun S => { ι := Int, μ := fun i => (d.1.1.length - i).toNat, inv := fun i => 0 ≤ i ∧ i ≤ d.1.1.length ∧ ∀ k : Nat, (k : Int) < i → symU d.1 d.2.2.1 d.2.1 k = true, keep := [1, 2, 3, 7], slots := fun i => [(8, .int .i64 i)], keepN := [64], names := fun i => [] }) | 7 => some (fun S => { ι := Int, μ := fun i => ((adrs (d.1.1.getD (S.i 8).toNat default)).length - i).toNat, inv := fun i => 0 ≤ i ∧ i ≤ (adrs (d.1.1.getD (S.i 8).toNat default)).length ∧ (S.i 8 = d.2.1 ∨ ∀ x ∈ (adrs (d.1.1.getD (S.i 8).toNat default)).take i.toNat, backV d.1 d.2.2.1 d.2.1 (homeA d.1 d.2.1) x = true), keep := [1, 2, 3, 7, 8, 9], slots := fun i => [(10, .int .i64 i)], keepN := [64, 624], names := fun i => [] }) | 13 => some (fun S => { ι := Int, μ := fun i => ((S.c cWay 192).1.length - i).toNat, inv := fun i => 1 ≤ i ∧ ∀ k : Nat, 1 ≤ k → (k : Int) < i → backAt d.1 d.2.2.1 (homeA d.1 d.2.1) ((adrs (d.1.1.getD (S.i 8).toNat default)).getD (S.i 10).toNat default) (S.c cWay 192) k = true, keep := [1, 2, 3, 7, 8, 9, 10, 11, 12], slots := fun i => [(13, .int .i64 i)], keepN := [64, 624, 192], names := fun i => [] }) | 19 => some (fun S => { ι := Int, μ := fun i => (S.i 13 - i).toNat, inv := fun i => 0 ≤ i ∧ i ≤ S.i 13 ∧ ∀ j : Nat, (j : Int) < i → (S.c cWay 240).2.1.getD j default = (S.c cWay 192).2.1.getD ((S.i 13).toNat - 1 - j) default, keep := [1, 2, 3, 7, 8, 9, 10, 11, 12, 13, 14, 15], slots := fun i => [(16, .int .i64 i)], keepN := [64, 624, 192, 240], names := fun i => [] }) | _ => none) })
theorem vc_ref16_symmetric : ∀ (x : List Node) (x1 : List Link) (x2 : List Change) (x3 x4 : Int), ((x.length <= maxLen /\ ∀ (x5 : Node), x5 ∈ x -> CT.wf cNode x5) /\ (x1.length <= maxLen /\ ∀ (x : Link), x ∈ x1 -> CT.wf cLink x) /\ x2.length <= maxLen /\ ∀ (x : Change), x ∈ x2 -> CT.wf cChange x) /\ R64 x3 /\ R64 x4 /\ True -> (WN (x, x1, x2) /\ 0 <= x3 /\ x3 < (x.length : Int) /\ (0 : Nat) < List.length (nPorts (x.getD x3.toNat default)) /\ ∀ (x5 : List (Int × Int) × Int × Int × Bool × List ((Int × Int) × List Int × Int) × Int × Int × Int × Int × Int × (Int × Int) × Bool × Bool × Int × Int), x5 ∈ x -> List.length (nPorts x5) <= (100000 : Nat)) -> 0 <= x3 /\ x3 < (x.length : Int) /\ (0 : Int) <= 0 /\ 0 < ((List.length (x.getD x3.toNat default).1) : Int) /\ (∃ (x5 : Int), (0 <= x5 /\ x5 <= (x.length : Int) /\ ∀ (k : Nat), (↑k : Int) < x5 -> symU (x, x1, x2) x4 x3 k = true) /\ x3 = x3 /\ x4
 = x4 /\ (List.getD (x.getD x3.toNat default).1 (Int.toNat (0 : Int)) default).1 = (List.getD (x.getD x3.toNat default).1 (Int.toNat (0 : Int)) default).1 /\ (0 : Int) = x5 /\ x = x /\ x1 = x1 /\ x2 = x2 /\ True) /\ ∀ (x5 : Int), (0 <= x5 /\ x5 <= (x.length : Int) /\ ∀ (k : Nat), (↑k : Int) < x5 -> symU (x, x1, x2) x4 x3 k = true) -> ifP (decide (x5 < (x.length : Int))) (0 <= x5 /\ x5 < (x.length : Int) /\ List.length (nPorts (x.getD x5.toNat default)) <= (100000 : Nat) /\ (∃ (x6 : Int), (0 <= x6 /\ x6 <= ((List.length (adrs (x.getD x5.toNat default))) : Int) /\ (x5 = x3 ∨ ∀ (x7 : Int), x7 ∈ List.take x6.toNat (adrs (x.getD x5.toNat default)) -> backV (x, x1, x2) x4 x3 (homeA (x, x1, x2) x3) x7 = true)) /\ x3 = x3 /\ x4 = x4 /\ (List.getD (x.getD x3.toNat default).1 (Int.toNat (0 : Int)) default).1 = (List.getD (x.getD x3.toNat default).1 (Int.toNat (0 : Int)) default).1 /\ x5 = x5 /\ (0
 : Int) = x6 /\ x = x /\ x1 = x1 /\ x2 = x2 /\ adrs (x.getD x5.toNat default) = adrs (x.getD x5.toNat default) /\ True) /\ ∀ (x6 : Int), 0 <= x6 /\ x6 <= ((List.length (adrs (x.getD x5.toNat default))) : Int) /\ (x5 = x3 ∨ ∀ (x7 : Int), x7 ∈ List.take x6.toNat (adrs (x.getD x5.toNat default)) -> backV (x, x1, x2) x4 x3 (homeA (x, x1, x2) x3) x7 = true) -> ∀ (b : Bool), b = decide (x6 < ((List.length (adrs (x.getD x5.toNat default))) : Int)) -> (b -> (b -> b) /\ (b -> b) /\ True) /\ (b -> b) /\ ifP (bif b then !decide (x5 = x3) else false) (0 <= x6 /\ x6 < ((List.length (adrs (x.getD x5.toNat default))) : Int) /\ WN (x, x1, x2) /\ 0 <= x3 /\ x3 < (x.length : Int) /\ ∀ (x7 x8 : List Int) (x9 : Int) (x10 : Bool), (x7, x8, x9) = traceV (x, x1, x2) x4 x3 ((List.getD (x.getD x3.toNat default).1 (Int.toNat (0 : Int)) default).1, List.getD (adrs (x.getD x5.toNat default)) x6.toNat default, (0 :
 Int), (0 : Int), (0 : Int)) /\ x10 = !singleV (x, x1, x2) (traceV (x, x1, x2) x4 x3 ((List.getD (x.getD x3.toNat default).1 (Int.toNat (0 : Int)) default).1, List.getD (adrs (x.getD x5.toNat default)) x6.toNat default, (0 : Int), (0 : Int), (0 : Int))) x4 (List.getD (adrs (x.getD x5.toNat default)) x6.toNat default) -> ∀ (b : Bool), b = x10 -> ((!b) -> ((!b) -> (!b)) /\ True) /\ ((!b) -> ((!b) -> (!b)) /\ True) /\ (b = false -> (!b)) /\ ifP (bif b then true else decide (x9 = 4)) (false = symAt (x, x1, x2) x3 x4) ((∃ (x11 : Int), (1 <= x11 /\ ∀ (k : Nat), (1 : Nat) <= k -> (↑k : Int) < x11 -> backAt (x, x1, x2) x4 (homeA (x, x1, x2) x3) (List.getD (adrs (x.getD x5.toNat default)) x6.toNat default) (x7, x8, x9) k = true) /\ x3 = x3 /\ x4 = x4 /\ (List.getD (x.getD x3.toNat default).1 (Int.toNat (0 : Int)) default).1 = (List.getD (x.getD x3.toNat default).1 (Int.toNat (0 : Int)) default).1
 /\ x5 = x5 /\ x6 = x6 /\ x10 = x10 /\ (1 : Int) = x11 /\ x = x /\ x1 = x1 /\ x2 = x2 /\ adrs (x.getD x5.toNat default) = adrs (x.getD x5.toNat default) /\ x7 = x7 /\ x8 = x8 /\ x9 = x9 /\ True) /\ ∀ (x11 : Int), (1 <= x11 /\ ∀ (k : Nat), (1 : Nat) <= k -> (↑k : Int) < x11 -> backAt (x, x1, x2) x4 (homeA (x, x1, x2) x3) (List.getD (adrs (x.getD x5.toNat default)) x6.toNat default) (x7, x8, x9) k = true) -> ifP (decide (x11 < (x7.length : Int))) (0 <= x11 /\ x11 < (x7.length : Int) /\ 0 <= x6 /\ x6 < ((List.length (adrs (x.getD x5.toNat default))) : Int) /\ WN (x, x1, x2) /\ 0 <= x7.getD x11.toNat default /\ x7.getD x11.toNat default < (x.length : Int) /\ ∀ (x12 x13 : List Int) (x14 : Int) (x15 : Bool), (x12, x13, x14) = traceV (x, x1, x2) x4 (x7.getD x11.toNat default) (List.getD (adrs (x.getD x5.toNat default)) x6.toNat default, (List.getD (x.getD x3.toNat default).1 (Int.toNat (0 :
 Int)) default).1, (0 : Int), (0 : Int), (0 : Int)) /\ x15 = !singleV (x, x1, x2) (traceV (x, x1, x2) x4 (x7.getD x11.toNat default) (List.getD (adrs (x.getD x5.toNat default)) x6.toNat default, (List.getD (x.getD x3.toNat default).1 (Int.toNat (0 : Int)) default).1, (0 : Int), (0 : Int), (0 : Int))) x4 (List.getD (x.getD x3.toNat default).1 (Int.toNat (0 : Int)) default).1 -> ∀ (b : Bool), b = x15 -> ((!b) -> ((!b) -> (!b)) /\ True) /\ ((!b) -> ((!b) -> (!b)) /\ True) /\ (b = false -> (!b)) /\ ∀ (b1 : Bool), (b1 = bif b then true else !decide (x14 = 1)) -> ((!b1) -> ((!b1) -> (!b1)) /\ True) /\ ((!b1) -> ((!b1) -> (!b1)) /\ True) /\ ((!b1) -> ((!b1) -> (!b1)) /\ ((!b1) -> (!b1)) /\ True) /\ (b1 = false -> (!b1)) /\ ifP (bif b1 then true else !decide ((x13.length : Int) = x11)) (false = symAt (x, x1, x2) x3 x4) ((∃ (x16 : Int), (0 <= x16 /\ x16 <= x11 /\ ∀ (j : Nat), (↑j : Int) < x16 ->
 x13.getD j default = x8.getD (x11.toNat - (1 : Nat) - j) default) /\ x3 = x3 /\ x4 = x4 /\ (List.getD (x.getD x3.toNat default).1 (Int.toNat (0 : Int)) default).1 = (List.getD (x.getD x3.toNat default).1 (Int.toNat (0 : Int)) default).1 /\ x5 = x5 /\ x6 = x6 /\ x10 = x10 /\ x11 = x11 /\ x15 = x15 /\ (0 : Int) = x16 /\ x = x /\ x1 = x1 /\ x2 = x2 /\ adrs (x.getD x5.toNat default) = adrs (x.getD x5.toNat default) /\ x7 = x7 /\ x8 = x8 /\ x9 = x9 /\ x12 = x12 /\ x13 = x13 /\ x14 = x14 /\ True) /\ ∀ (x16 : Int), (0 <= x16 /\ x16 <= x11 /\ ∀ (j : Nat), (↑j : Int) < x16 -> x13.getD j default = x8.getD (x11.toNat - (1 : Nat) - j) default) -> ifP (decide (x16 < x11)) (0 <= x16 /\ x16 < (x13.length : Int) /\ 0 <= IntKind.wrap .i64 (IntKind.wrap .i64 (x11 - (1 : Int)) - x16) /\ IntKind.wrap .i64 (IntKind.wrap .i64 (x11 - (1 : Int)) - x16) < (x8.length : Int) /\ ifP (!decide (x13.getD x16.toNat
 default = x8.getD (Int.toNat (IntKind.wrap .i64 (IntKind.wrap .i64 (x11 - (1 : Int)) - x16))) default)) (false = symAt (x, x1, x2) x3 x4) (∃ (x17 : Int), (0 <= x17 /\ x17 <= x11 /\ ∀ (j : Nat), (↑j : Int) < x17 -> x13.getD j default = x8.getD (x11.toNat - (1 : Nat) - j) default) /\ Int.toNat (x11 - x17) < Int.toNat (x11 - x16) /\ x3 = x3 /\ x4 = x4 /\ (List.getD (x.getD x3.toNat default).1 (Int.toNat (0 : Int)) default).1 = (List.getD (x.getD x3.toNat default).1 (Int.toNat (0 : Int)) default).1 /\ x5 = x5 /\ x6 = x6 /\ x10 = x10 /\ x11 = x11 /\ x15 = x15 /\ IntKind.wrap .i64 (x16 + (1 : Int)) = x17 /\ x = x /\ x1 = x1 /\ x2 = x2 /\ adrs (x.getD x5.toNat default) = adrs (x.getD x5.toNat default) /\ x7 = x7 /\ x8 = x8 /\ x9 = x9 /\ x12 = x12 /\ x13 = x13 /\ x14 = x14 /\ True)) (∃ (x17 : Int), (1 <= x17 /\ ∀ (k : Nat), (1 : Nat) <= k -> (↑k : Int) < x17 -> backAt (x, x1, x2) x4 (homeA (x,
 x1, x2) x3) (List.getD (adrs (x.getD x5.toNat default)) x6.toNat default) (x7, x8, x9) k = true) /\ Int.toNat ((x7.length : Int) - x17) < Int.toNat ((x7.length : Int) - x11) /\ x3 = x3 /\ x4 = x4 /\ (List.getD (x.getD x3.toNat default).1 (Int.toNat (0 : Int)) default).1 = (List.getD (x.getD x3.toNat default).1 (Int.toNat (0 : Int)) default).1 /\ x5 = x5 /\ x6 = x6 /\ x10 = x10 /\ IntKind.wrap .i64 (x11 + (1 : Int)) = x17 /\ x = x /\ x1 = x1 /\ x2 = x2 /\ adrs (x.getD x5.toNat default) = adrs (x.getD x5.toNat default) /\ x7 = x7 /\ x8 = x8 /\ x9 = x9 /\ True))) (∃ (x12 : Int), (0 <= x12 /\ x12 <= ((List.length (adrs (x.getD x5.toNat default))) : Int) /\ (x5 = x3 ∨ ∀ (x13 : Int), x13 ∈ List.take x12.toNat (adrs (x.getD x5.toNat default)) -> backV (x, x1, x2) x4 x3 (homeA (x, x1, x2) x3) x13 = true)) /\ Int.toNat (((List.length (adrs (x.getD x5.toNat default))) : Int) - x12) < Int.toNat
 (((List.length (adrs (x.getD x5.toNat default))) : Int) - x6) /\ x3 = x3 /\ x4 = x4 /\ (List.getD (x.getD x3.toNat default).1 (Int.toNat (0 : Int)) default).1 = (List.getD (x.getD x3.toNat default).1 (Int.toNat (0 : Int)) default).1 /\ x5 = x5 /\ IntKind.wrap .i64 (x6 + (1 : Int)) = x12 /\ x = x /\ x1 = x1 /\ x2 = x2 /\ adrs (x.getD x5.toNat default) = adrs (x.getD x5.toNat default) /\ True))) (∃ (x7 : Int), (0 <= x7 /\ x7 <= (x.length : Int) /\ ∀ (k : Nat), (↑k : Int) < x7 -> symU (x, x1, x2) x4 x3 k = true) /\ Int.toNat ((x.length : Int) - x7) < Int.toNat ((x.length : Int) - x5) /\ x3 = x3 /\ x4 = x4 /\ (List.getD (x.getD x3.toNat default).1 (Int.toNat (0 : Int)) default).1 = (List.getD (x.getD x3.toNat default).1 (Int.toNat (0 : Int)) default).1 /\ IntKind.wrap .i64 (x5 + (1 : Int)) = x7 /\ x = x /\ x1 = x1 /\ x2 = x2 /\ True)) (true = symAt (x, x1, x2) x3 x4) := by
  rintro ns ls hs who at' ⟨⟨⟨hnl, -⟩, -⟩, -⟩ ⟨W, w0, w1, wp, hp⟩
  simp only [maxLen] at hnl
  have w1 : who < (ns.length : Int) := by omega
  have eh : ((ns.getD who.toNat default).1.getD (Int.toNat (0 : Int)) default).1 = homeA (ns, ls, hs) who := rfl
  rw [eh]
  have wp : 0 < ((ns.getD who.toNat default).1.length : Int) := by
    have : 0 < (nPorts (ns.getD who.toNat default)).length := wp
    have e : nPorts (ns.getD who.toNat default) = (ns.getD who.toNat default).1 := rfl
    rw [e] at this; omega
  refine ⟨w0, w1, by omega, wp, ⟨0, ⟨by omega, by omega, fun k hk => by omega⟩, (by repeat' first | exact trivial | refine ⟨trivial, ?_⟩ | refine ⟨(by with_reducible rfl), ?_⟩ | refine ⟨w64 (by omega) (by omega), ?_⟩ | refine ⟨rfl, ?_⟩)⟩, ?_⟩
  rintro u ⟨u0, u1, hU⟩
  refine ifP_split (fun hu => ?_) (fun hu => ?_)
  rotate_left
  · have hu := of_decide_eq_false hu
    symm
    unfold symAt
    rw [List.all_eq_true]
    intro k hk
    have hk := List.mem_range.1 hk
    dsimp only at hk
    exact hU k (by omega)
  have hu := of_decide_eq_true hu
  have hpu := hp _ (getD_mem u0 hu)
  have eu : ((u.toNat : Nat) : Int) = u := by omega
  have al : (adrs (ns.getD u.toNat default)).length ≤ 100001 := by
    unfold adrs pAddrs
    rw [List.length_append, List.length_map]
    split
    · rw [List.length_nil]; omega
    · rw [List.length_singleton]; omega
  have eU : symU (ns, ls, hs) at' who u.toNat = (decide (u = who) || (adrs (ns.getD u.toNat default)).all (backV (ns, ls, hs) at' who (homeA (ns, ls, hs) who))) := by
    unfold symU
    rw [eu]
  refine ⟨u0, hu, hpu, ?_⟩
  generalize adrs (ns.getD u.toNat default) = A at *
  refine ⟨⟨0, ⟨by omega, by omega, .inr (by simp)⟩, (by repeat' first | exact trivial | refine ⟨trivial, ?_⟩ | refine ⟨(by with_reducible rfl), ?_⟩ | refine ⟨w64 (by omega) (by omega), ?_⟩ | refine ⟨rfl, ?_⟩)⟩, ?_⟩
  rintro i ⟨i0, i1, hI⟩
  intro b hb
  (repeat refine ⟨fun h_ => (by first | (simp; done) | (simp [h_]; done) | (simp_all; done)), ?_⟩)
  rw [hb, band_dn]
  refine ifP_split (fun h => ?_) (fun h => ?_)
  rotate_left
  · have h := of_decide_eq_false h
    refine ⟨u + 1, ⟨by omega, by omega, fun k hk => ?_⟩, by omega, (by repeat' first | exact trivial | refine ⟨trivial, ?_⟩ | refine ⟨(by with_reducible rfl), ?_⟩ | refine ⟨w64 (by omega) (by omega), ?_⟩ | refine ⟨rfl, ?_⟩)⟩
    by_cases e : (k : Int) < u
    · exact hU k e
    have ek : k = u.toNat := by omega
    rw [ek, eU]
    by_cases q : u = who
    · rw [decide_eq_true q]; rfl
    rw [decide_eq_false q, Bool.false_or, List.all_eq_true]
    rcases hI with hI | hI
    · exact absurd hI q
    rw [List.take_of_length_le (by omega)] at hI
    exact hI
  have h := of_decide_eq_true h
  have hi := h.1
  have hne := h.2
  have hI : ∀ x ∈ A.take i.toNat, backV (ns, ls, hs) at' who (homeA (ns, ls, hs) who) x = true := hI.resolve_left hne
  have nxi := fun h => all_next i0 hi hI h (P := fun x => backV (ns, ls, hs) at' who (homeA (ns, ls, hs) who) x = true)
  have hm := getD_mem i0 hi
  have bad : backV (ns, ls, hs) at' who (homeA (ns, ls, hs) who) (A.getD i.toNat default) = false → false = symAt (ns, ls, hs) who at' := fun h => by
    symm
    unfold symAt
    rw [List.all_eq_false]
    refine ⟨u.toNat, List.mem_range.2 (by dsimp only; omega), ?_⟩
    rw [eU, decide_eq_false hne, Bool.false_or, Bool.not_eq_true, List.all_eq_false]
    exact ⟨_, hm, by rw [h]; decide⟩
  refine ⟨i0, hi, W, w0, w1, ?_⟩
  generalize A.getD i.toNat default = x at *
  rintro tu tv te sv ⟨ht, hsv⟩
  have I := trace_wi W (at' := at') (who := who) (k := (homeA (ns, ls, hs) who, x, 0, 0, 0)) w0 w1
  rw [← ht] at I hsv
  have eV : backV (ns, ls, hs) at' who (homeA (ns, ls, hs) who) x = (!decide (te = 4) && (singleV (ns, ls, hs) (tu, tv, te) at' x && backAll (ns, ls, hs) at' (homeA (ns, ls, hs) who) x (tu, tv, te))) := by
    unfold backV kTo; rw [← ht]
  have hl := I.l
  have hm2 := I.m
  dsimp only at hl hm2
  intro b1 hb1
  (repeat refine ⟨fun h_ => (by first | (simp; done) | (simp [h_]; done) | (simp_all; done)), ?_⟩)
  rw [hb1, hsv]
  refine ifP_or (fun ho => ?_) (fun h1 h2 => ?_)
  · refine bad ?_
    rw [eV]
    rcases ho with h | h
    · have h : singleV (ns, ls, hs) (tu, tv, te) at' x = false := by simpa using h
      rw [h]; simp
    · rw [h]; rfl
  have hs1 : singleV (ns, ls, hs) (tu, tv, te) at' x = true := by simpa using h1
  rw [h2, hs1] at eV
  have eV : backV (ns, ls, hs) at' who (homeA (ns, ls, hs) who) x = backAll (ns, ls, hs) at' (homeA (ns, ls, hs) who) x (tu, tv, te) := eV
  rw [eV] at bad nxi
  refine ⟨⟨1, ⟨by omega, fun k k1 k2 => by omega⟩, (by repeat' first | exact trivial | refine ⟨trivial, ?_⟩ | refine ⟨(by with_reducible rfl), ?_⟩ | refine ⟨w64 (by omega) (by omega), ?_⟩ | refine ⟨rfl, ?_⟩)⟩, ?_⟩
  rintro v ⟨v1, hV⟩
  refine ifP_split (fun hv => ?_) (fun hv => ?_)
  rotate_left
  · have hv := of_decide_eq_false hv
    refine ⟨i + 1, ⟨by omega, by omega, .inr (nxi ?_)⟩, by omega, (by repeat' first | exact trivial | refine ⟨trivial, ?_⟩ | refine ⟨(by with_reducible rfl), ?_⟩ | refine ⟨w64 (by omega) (by omega), ?_⟩ | refine ⟨rfl, ?_⟩)⟩
    unfold backAll
    rw [List.all_eq_true]
    intro k hk
    have hk := List.mem_range.1 hk
    dsimp only at hk
    exact hV (k + 1) (by omega) (by omega)
  have hv := of_decide_eq_true hv
  have hr := I.r _ (getD_mem (xs := tu) (i := v) (by omega) hv)
  refine ⟨by omega, hv, i0, hi, W, hr.1, hr.2, ?_⟩
  rintro u2 v2 e2 s2 ⟨ht2, hs2⟩
  have I2 := trace_wi W (at' := at') (who := tu.getD v.toNat default) (k := (x, homeA (ns, ls, hs) who, 0, 0, 0)) hr.1 hr.2
  rw [← ht2] at I2 hs2
  have hl2 := I2.l
  have hm3 := I2.m
  dsimp only at hl2 hm3
  have eA : backAt (ns, ls, hs) at' (homeA (ns, ls, hs) who) x (tu, tv, te) v.toNat = (decide (e2 = 1) && (singleV (ns, ls, hs) (u2, v2, e2) at' (homeA (ns, ls, hs) who) && decide (tv.take v.toNat = v2.reverse))) := by
    unfold backAt kTo; dsimp only; rw [← ht2]
  have badv : backAt (ns, ls, hs) at' (homeA (ns, ls, hs) who) x (tu, tv, te) v.toNat = false → false = symAt (ns, ls, hs) who at' := fun h => bad (by
    unfold backAll
    rw [List.all_eq_false]
    refine ⟨v.toNat - 1, List.mem_range.2 (by dsimp only; omega), ?_⟩
    rw [show v.toNat - 1 + 1 = v.toNat by omega, h]; decide)
  intro b2 hb2
  (repeat refine ⟨fun h_ => (by first | (simp; done) | (simp [h_]; done) | (simp_all; done)), ?_⟩)
  intro b3 hb3
  (repeat refine ⟨fun h_ => (by first | (simp; done) | (simp [h_]; done) | (simp_all; done)), ?_⟩)
  have tot : (bif b3 then true else !decide ((v2.length : Int) = v)) = !(decide (e2 = 1) && (singleV (ns, ls, hs) (u2, v2, e2) at' (homeA (ns, ls, hs) who) && decide ((v2.length : Int) = v))) := by
    rw [hb3, hb2, hs2]
    cases decide (e2 = 1) <;> cases singleV (ns, ls, hs) (u2, v2, e2) at' (homeA (ns, ls, hs) who) <;> cases decide ((v2.length : Int) = v) <;> rfl
  rw [tot]
  have e64 : ∀ k, 0 ≤ k → k < v → IntKind.wrap .i64 (IntKind.wrap .i64 (v - 1) - k) = v - 1 - k := fun k a b => by
    rw [w64 (n := v - 1) (by omega) (by omega), w64 (by omega) (by omega)]
  refine ifP_split (fun h3 => ?_) (fun h3 => ?_)
  · refine badv ?_
    rw [eA]
    rw [Bool.not_eq_true', Bool.and_eq_false_iff, Bool.and_eq_false_iff] at h3
    rcases h3 with h3 | h3 | h3
    · rw [h3]; rfl
    · rw [h3]; simp
    · have h3 := of_decide_eq_false h3
      rw [decide_eq_false (p := tv.take v.toNat = v2.reverse) (fun k => h3 (by
        have := congrArg List.length k
        rw [List.length_take, List.length_reverse] at this
        omega))]; simp
  have h3 : (decide (e2 = 1) && (singleV (ns, ls, hs) (u2, v2, e2) at' (homeA (ns, ls, hs) who) && decide ((v2.length : Int) = v))) = true := by simpa using h3
  rw [Bool.and_eq_true_iff, Bool.and_eq_true_iff] at h3
  rw [h3.1, h3.2.1, Bool.true_and, Bool.true_and] at eA
  have hlen := of_decide_eq_true h3.2.2
  have rv := rev_iff (a := tv) (b := v2) (v := v.toNat) (by omega) (by omega)
  refine ⟨⟨0, ⟨by omega, by omega, fun j hj => by omega⟩, (by repeat' first | exact trivial | refine ⟨trivial, ?_⟩ | refine ⟨(by with_reducible rfl), ?_⟩ | refine ⟨w64 (by omega) (by omega), ?_⟩ | refine ⟨rfl, ?_⟩)⟩, ?_⟩
  rintro k ⟨k0, k1, hK⟩
  refine ifP_split (fun hk => ?_) (fun hk => ?_)
  · have hk := of_decide_eq_true hk
    rw [e64 k k0 hk, show (v - 1 - k).toNat = v.toNat - 1 - k.toNat by omega]
    refine ⟨k0, by omega, by omega, by omega, ifP_split (fun q => ?_) (fun q => ?_)⟩
    · have q := nd_t q
      refine badv ?_
      rw [eA]
      exact decide_eq_false fun h => q (rv.1 h k.toNat (by omega))
    · have q := nd_f q
      refine ⟨k + 1, ⟨by omega, by omega, fun j hj => ?_⟩, by omega, (by repeat' first | exact trivial | refine ⟨trivial, ?_⟩ | refine ⟨(by with_reducible rfl), ?_⟩ | refine ⟨w64 (by omega) (by omega), ?_⟩ | refine ⟨rfl, ?_⟩)⟩
      by_cases e : (j : Int) < k
      · exact hK j e
      · rw [show j = k.toNat by omega]; exact q
  · have hk := of_decide_eq_false hk
    refine ⟨v + 1, ⟨by omega, fun j j1 j2 => ?_⟩, by omega, (by repeat' first | exact trivial | refine ⟨trivial, ?_⟩ | refine ⟨(by with_reducible rfl), ?_⟩ | refine ⟨w64 (by omega) (by omega), ?_⟩ | refine ⟨rfl, ?_⟩)⟩
    by_cases e : (j : Int) < v
    · exact hV j j1 e
    · rw [show j = v.toNat by omega, eA]
      exact decide_eq_true (rv.2 fun i hi => hK i (by omega))
theorem ok_ref16_symmetric : SpecOK Tryz.prog GL 66 ct_ref16_symmetric.spec := Ct.okH _ Tryz.func66 (by kernel_rfl) (withSpec_ok (withSpec_ok noSpecs_ok ok_ref14_Addresses) (Ct.named ok_ref16_trace)) hmix an_ref16_symmetric (hideMp (by kernel_rfl) vc_ref16_symmetric)
def rholdsV (n : Net) (a who s t : Int) : Bool := !(decide (t < s) || decide (a < 0) || decide (512 ≤ a)) && (nodesV n a && (!(hasV a 1 && n.2.2.any (between s t)) && (rtimesV n.2.2 s t).all (fun x => (!hasV a 16 || flowV n x) && (!hasV a 32 || symAt n who x))))
def ct_ref16_Holds : Ct := ⟨[.agg cNet, .val cI, .val cI, .val cI, .val cI], [.val .bool], fun d => [WN d.1, 0 ≤ d.2.2.1, d.2.2.1 < d.1.1.length, 0 < (nPorts (d.1.1.getD d.2.2.1.toNat default)).length, ∀ x ∈ d.1.1, (nPorts x).length ≤ 100000], fun d => ((rholdsV d.1 d.2.1 d.2.2.1 d.2.2.2.1 d.2.2.2.2.1, ()), ())⟩
def an_ref16_Holds : PDs ct_ref16_Holds.ps → Anns := (fun d => { loops := (fun n => match n with | 5 => some (fun S => { ι := Int, μ := fun i => ((rtimesV d.1.2.2 d.2.2.2.1 d.2.2.2.2.1).length - i).toNat, inv := fun i => 0 ≤ i ∧ i ≤ (rtimesV d.1.2.2 d.2.2.2.1 d.2.2.2.2.1).length ∧ ∀ x ∈ (rtimesV d.1.2.2 d.2.2.2.1 d.2.2.2.2.1).take i.toNat, ((!hasV d.2.1 16 || flowV d.1 x) && (!hasV d.2.1 32 || symAt d.1 d.2.2.1 x)) = true, keep := [1, 2, 3, 4, 5, 11], slots := fun i => [(12, .int .i64 i)], keepN := [96, 704], names := fun i => [] }) | _ => none) })
theorem vc_ref16_Holds : ∀ (x : List Node) (x1 : List Link) (x2 : List Change) (x3 x4 x5 x6 : Int), ((x.length <= maxLen /\ ∀ (x7 : Node), x7 ∈ x -> CT.wf cNode x7) /\ (x1.length <= maxLen /\ ∀ (x : Link), x ∈ x1 -> CT.wf cLink x) /\ x2.length <= maxLen /\ ∀ (x : Change), x ∈ x2 -> CT.wf cChange x) /\ R64 x3 /\ R64 x4 /\ R64 x5 /\ R64 x6 /\ True -> (WN (x, x1, x2) /\ 0 <= x4 /\ x4 < (x.length : Int) /\ (0 : Nat) < List.length (nPorts (x.getD x4.toNat default)) /\ ∀ (x7 : List (Int × Int) × Int × Int × Bool × List ((Int × Int) × List Int × Int) × Int × Int × Int × Int × Int × (Int × Int) × Bool × Bool × Int × Int), x7 ∈ x -> List.length (nPorts x7) <= (100000 : Nat)) -> ∀ (b : Bool), b = decide (x6 < x5) -> ((!b) -> ((!b) -> (!b)) /\ True) /\ (b = false -> (!b)) /\ ∀ (b1 : Bool), (b1 = bif b then true else decide (x3 < 0)) -> ((!b1) -> ((!b1) -> (!b1)) /\ True) /\ (b1 = false -> (!b1)) /\
 ∀ (b : Bool), (b = bif b1 then true else decide (512 <= x3)) -> ((!b) -> ((!b) -> (!b)) /\ ((!b) -> (!b)) /\ True) /\ ((!b) -> ((!b) -> (!b)) /\ True) /\ (b = false -> (!b)) /\ ∀ (b2 : Bool), (b2 = bif b then true else !nodesV (x, x1, x2) x3) -> ((!b2) -> ((!b2) -> (!b2)) /\ True) /\ ((!b2) -> ((!b2) -> (!b2)) /\ True) /\ ∀ (b : Bool), b = hasV x3 (1 : Int) -> ((!b2 && b) -> ((!b2 && b) -> (!b2 && b)) /\ ((!b2 && b) -> (!b2 && b)) /\ ((!b2 && b) -> (!b2 && b)) /\ True) /\ ((!b2) -> ((!b2) -> (!b2)) /\ (b -> (!b2 && b)) /\ True) /\ (b2 = false -> (!b2)) /\ ifP (bif b2 then true else bif b then List.any x2 (between x5 x6) else false) (false = rholdsV (x, x1, x2) x3 x4 x5 x6) (x2.length <= (1000 : Nat) /\ (∃ (x7 : Int), (0 <= x7 /\ x7 <= ((List.length (rtimesV x2 x5 x6)) : Int) /\ ∀ (x8 : Int), x8 ∈ List.take x7.toNat (rtimesV x2 x5 x6) -> ((!hasV x3 (16 : Int) || flowV (x, x1, x2) x8) &&
 (!hasV x3 (32 : Int) || symAt (x, x1, x2) x4 x8)) = true) /\ x3 = x3 /\ x4 = x4 /\ x5 = x5 /\ x6 = x6 /\ (0 : Int) = x7 /\ x = x /\ x1 = x1 /\ x2 = x2 /\ rtimesV x2 x5 x6 = rtimesV x2 x5 x6 /\ True) /\ ∀ (x7 : Int), (0 <= x7 /\ x7 <= ((List.length (rtimesV x2 x5 x6)) : Int) /\ ∀ (x8 : Int), x8 ∈ List.take x7.toNat (rtimesV x2 x5 x6) -> ((!hasV x3 (16 : Int) || flowV (x, x1, x2) x8) && (!hasV x3 (32 : Int) || symAt (x, x1, x2) x4 x8)) = true) -> ifP (decide (x7 < ((List.length (rtimesV x2 x5 x6)) : Int))) (∀ (b : Bool), b = hasV x3 (16 : Int) -> (b -> (b -> b) /\ (b -> b) /\ 0 <= x7 /\ x7 < ((List.length (rtimesV x2 x5 x6)) : Int) /\ True) /\ (b -> (b -> b) /\ True) /\ (b -> (b -> b) /\ (b -> b) /\ okNet (x, x1, x2) /\ True) /\ (b -> (b -> b) /\ True) /\ (b -> b) /\ ∀ (b3 : Bool), (b3 = bif b then !flowV (x, x1, x2) (List.getD (rtimesV x2 x5 x6) x7.toNat default) else false) -> ((!b3) ->
 ((!b3) -> (!b3)) /\ True) /\ ((!b3) -> ((!b3) -> (!b3)) /\ True) /\ ∀ (b : Bool), b = hasV x3 (32 : Int) -> ((!b3 && b) -> ((!b3 && b) -> (!b3 && b)) /\ ((!b3 && b) -> (!b3 && b)) /\ 0 <= x7 /\ x7 < ((List.length (rtimesV x2 x5 x6)) : Int) /\ True) /\ ((!b3 && b) -> ((!b3 && b) -> (!b3 && b)) /\ True) /\ ((!b3 && b) -> ((!b3 && b) -> (!b3 && b)) /\ ((!b3 && b) -> (!b3 && b)) /\ ((!b3 && b) -> (!b3 && b)) /\ WN (x, x1, x2) /\ 0 <= x4 /\ x4 < (x.length : Int) /\ (0 : Nat) < List.length (nPorts (x.getD x4.toNat default)) /\ (∀ (x8 : List (Int × Int) × Int × Int × Bool × List ((Int × Int) × List Int × Int) × Int × Int × Int × Int × Int × (Int × Int) × Bool × Bool × Int × Int), x8 ∈ x -> List.length (nPorts x8) <= (100000 : Nat)) /\ True) /\ ((!b3 && b) -> ((!b3 && b) -> (!b3 && b)) /\ True) /\ ((!b3) -> ((!b3) -> (!b3)) /\ (b -> (!b3 && b)) /\ True) /\ (b3 = false -> (!b3)) /\ ifP (bif b3
 then true else bif b then !symAt (x, x1, x2) x4 (List.getD (rtimesV x2 x5 x6) x7.toNat default) else false) (false = rholdsV (x, x1, x2) x3 x4 x5 x6) (∃ (x8 : Int), (0 <= x8 /\ x8 <= ((List.length (rtimesV x2 x5 x6)) : Int) /\ ∀ (x9 : Int), x9 ∈ List.take x8.toNat (rtimesV x2 x5 x6) -> ((!hasV x3 (16 : Int) || flowV (x, x1, x2) x9) && (!hasV x3 (32 : Int) || symAt (x, x1, x2) x4 x9)) = true) /\ Int.toNat (((List.length (rtimesV x2 x5 x6)) : Int) - x8) < Int.toNat (((List.length (rtimesV x2 x5 x6)) : Int) - x7) /\ x3 = x3 /\ x4 = x4 /\ x5 = x5 /\ x6 = x6 /\ IntKind.wrap .i64 (x7 + (1 : Int)) = x8 /\ x = x /\ x1 = x1 /\ x2 = x2 /\ rtimesV x2 x5 x6 = rtimesV x2 x5 x6 /\ True)) (true = rholdsV (x, x1, x2) x3 x4 x5 x6)) := by
  rintro ns ls hs a who s t ⟨⟨⟨hnl, -⟩, -⟩, -⟩ ⟨W, w0, w1, wp, hp⟩
  simp only [maxLen] at hnl
  have w1 : who < (ns.length : Int) := by omega
  have hc := W.o.c
  have tl : (rtimesV hs s t).length ≤ 1001 := by
    unfold rtimesV
    rw [List.length_cons, List.length_map]
    have := List.length_filter_le (between s t) hs
    dsimp only at hc
    omega
  intro b1 hb1
  (repeat refine ⟨fun h_ => (by first | (simp; done) | (simp [h_]; done) | (simp_all; done)), ?_⟩)
  intro b2 hb2
  (repeat refine ⟨fun h_ => (by first | (simp; done) | (simp [h_]; done) | (simp_all; done)), ?_⟩)
  intro b3 hb3
  (repeat refine ⟨fun h_ => (by first | (simp; done) | (simp [h_]; done) | (simp_all; done)), ?_⟩)
  intro b4 hb4
  (repeat refine ⟨fun h_ => (by first | (simp; done) | (simp [h_]; done) | (simp_all; done)), ?_⟩)
  intro b5 hb5
  (repeat refine ⟨fun h_ => (by first | (simp; done) | (simp [h_]; done) | (simp_all; done)), ?_⟩)
  have tot : (bif b4 then true else bif b5 then hs.any (between s t) else false) = !(!(decide (t < s) || decide (a < 0) || decide (512 ≤ a)) && (nodesV (ns, ls, hs) a && !(hasV a 1 && hs.any (between s t)))) := by
    rw [hb5, hb4, hb3, hb2, hb1]
    cases decide (t < s) <;> cases decide (a < 0) <;> cases decide (512 ≤ a) <;> cases nodesV (ns, ls, hs) a <;> cases hasV a 1 <;> cases hs.any (between s t) <;> rfl
  rw [tot]
  have eR : rholdsV (ns, ls, hs) a who s t = ((!(decide (t < s) || decide (a < 0) || decide (512 ≤ a)) && (nodesV (ns, ls, hs) a && !(hasV a 1 && hs.any (between s t)))) && (rtimesV hs s t).all (fun x => (!hasV a 16 || flowV (ns, ls, hs) x) && (!hasV a 32 || symAt (ns, ls, hs) who x))) := by
    unfold rholdsV
    rw [Bool.and_assoc, Bool.and_assoc]
  rw [eR]
  generalize (!(decide (t < s) || decide (a < 0) || decide (512 ≤ a)) && (nodesV (ns, ls, hs) a && !(hasV a 1 && hs.any (between s t)))) = Q
  clear tot eR hb1 hb2 hb3 hb4 hb5
  refine ifP_split (fun h => ?_) (fun h => ?_)
  · have h : Q = false := by simpa using h
    rw [h]; rfl
  have h : Q = true := by simpa using h
  rw [h, Bool.true_and]
  refine ⟨hc, ⟨0, ⟨by omega, by omega, by simp⟩, (by repeat' first | exact trivial | refine ⟨trivial, ?_⟩ | refine ⟨(by with_reducible rfl), ?_⟩ | refine ⟨w64 (by omega) (by omega), ?_⟩ | refine ⟨rfl, ?_⟩)⟩, ?_⟩
  rintro i ⟨i0, i1, hI⟩
  refine ifP_split (fun hi => ?_) (fun hi => ?_)
  · have hi := of_decide_eq_true hi
    have hm := getD_mem i0 hi
    have nx := fun h => all_next i0 hi hI h (P := fun x => ((!hasV a 16 || flowV (ns, ls, hs) x) && (!hasV a 32 || symAt (ns, ls, hs) who x)) = true)
    generalize (rtimesV hs s t).getD i.toNat default = x at hm nx ⊢
    intro c1 hc1
    (repeat refine ⟨fun h_ => (by first | ((repeat refine ⟨fun _ => h_, ?_⟩); first | exact ⟨i0, hi, trivial⟩ | exact ⟨W.o, trivial⟩ | exact ⟨W, w0, w1, wp, hp, trivial⟩) | (simp; done) | (simp [h_]; done) | (simp_all; done)), ?_⟩)
    intro c2 hc2
    (repeat refine ⟨fun h_ => (by first | ((repeat refine ⟨fun _ => h_, ?_⟩); first | exact ⟨i0, hi, trivial⟩ | exact ⟨W.o, trivial⟩ | exact ⟨W, w0, w1, wp, hp, trivial⟩) | (simp; done) | (simp [h_]; done) | (simp_all; done)), ?_⟩)
    intro c3 hc3
    (repeat refine ⟨fun h_ => (by first | ((repeat refine ⟨fun _ => h_, ?_⟩); first | exact ⟨i0, hi, trivial⟩ | exact ⟨W.o, trivial⟩ | exact ⟨W, w0, w1, wp, hp, trivial⟩) | (simp; done) | (simp [h_]; done) | (simp_all; done)), ?_⟩)
    have tot : (bif c2 then true else bif c3 then !symAt (ns, ls, hs) who x else false) = !((!hasV a 16 || flowV (ns, ls, hs) x) && (!hasV a 32 || symAt (ns, ls, hs) who x)) := by
      rw [hc3, hc2, hc1]
      cases hasV a 16 <;> cases hasV a 32 <;> cases flowV (ns, ls, hs) x <;> cases symAt (ns, ls, hs) who x <;> rfl
    rw [tot]
    refine ifP_split (fun h => ?_) (fun h => ?_)
    · symm; rw [List.all_eq_false]
      refine ⟨x, hm, ?_⟩
      rw [Bool.not_eq_true', ] at h
      rw [h]; decide
    · have h : ((!hasV a 16 || flowV (ns, ls, hs) x) && (!hasV a 32 || symAt (ns, ls, hs) who x)) = true := by
        rw [← Bool.not_eq_false']; rw [h]
      exact ⟨i + 1, ⟨by omega, by omega, nx h⟩, by omega, (by repeat' first | exact trivial | refine ⟨trivial, ?_⟩ | refine ⟨(by with_reducible rfl), ?_⟩ | refine ⟨w64 (by omega) (by omega), ?_⟩ | refine ⟨rfl, ?_⟩)⟩
  · have hi := of_decide_eq_false hi
    rw [List.take_of_length_le (by omega)] at hI
    symm; rw [List.all_eq_true]; exact hI
theorem ok_ref16_Holds : SpecOK Tryz.prog GL 26 ct_ref16_Holds.spec := Ct.okH _ Tryz.func26 (by kernel_rfl) (withSpec_ok (withSpec_ok (withSpec_ok (withSpec_ok (withSpec_ok (withSpec_ok noSpecs_ok ok_ref16_nodes) ok_ref16_has) ok_ref14_Changed) ok_ref16_times) ok_ref16_flowwise) ok_ref16_symmetric) hmix an_ref16_Holds (hideMp (by kernel_rfl) vc_ref16_Holds)
end Go.RS


/- Drawn3: each node of a drawn network has a port. -/
namespace Go.RS
open Go.SX Go.Proofs
set_option maxRecDepth 100000
set_option linter.unusedVariables false

def tch (ls : List Link) (i : Int) : Prop := ∃ l ∈ ls, lA l = i ∨ lB l = i
theorem tch.app {ls : List Link} {i : Int} (h : tch ls i) (m : List Link) : tch (ls ++ m) i := by
  obtain ⟨l, hl, e⟩ := h
  exact ⟨l, List.mem_append_left _ hl, e⟩
theorem tch.link {s : Scene} {i : Int} (h : tch s.1.2.1 i) (a b : Int) : tch (linkS s a b).1.2.1 i := h.app _
theorem tch_a (s : Scene) (a b : Int) : tch (linkS s a b).1.2.1 a := ⟨_, List.mem_append_right _ List.mem_cons_self, .inl rfl⟩
theorem tch_b (s : Scene) (a b : Int) : tch (linkS s a b).1.2.1 b := ⟨_, List.mem_append_right _ List.mem_cons_self, .inr rfl⟩
theorem chain_tch (s : Scene) : ∀ k j : Nat, j < k → tch ((List.range k).foldl chainS s).1.2.1 j
  | 0, j, h => absurd h (Nat.not_lt_zero _)
  | k + 1, j, h => by
    rw [List.range_succ, List.foldl_append]
    by_cases e : j < k
    · exact (chain_tch s k j e).link (s := nodeS ((List.range k).foldl chainS s) false) _ _
    · have : j = k := by omega
      subst this
      exact tch_a _ _ _
theorem line_tch {c : Codes} (h : okB c) {j : Nat} (hj : j < (lineN c).toNat + 2) : tch (lineS c).2.1.2.1 j := by
  have hn := lineN_ok h
  rw [lineS_eq]
  by_cases e : j < (lineN c).toNat
  · exact (chain_tch _ _ _ e).link (s := nodeS ((List.range (lineN c).toNat).foldl chainS (line0 c)) true) _ _
  by_cases e2 : j = (lineN c).toNat
  · rw [show ((j : Nat) : Int) = lineN c by omega]; exact tch_a _ _ _
  · rw [show ((j : Nat) : Int) = lineN c + 1 by omega]; exact tch_b _ _ _
theorem short_tch {s : Scene} {i : Int} (h : tch s.1.2.1 i) (n : Int) : tch (shortS n s).1.2.1 i := by
  unfold shortS
  dsimp only
  split
  · exact h
  · exact tch.app h _
theorem shorts_tch {n i : Int} : ∀ (k : Nat) {s : Scene}, tch s.1.2.1 i → tch ((List.range k).foldl (fun s _ => shortS n s) s).1.2.1 i
  | 0, s, h => h
  | k + 1, s, h => by
    rw [List.range_succ, List.foldl_append]
    exact short_tch (shorts_tch k h) n
theorem more_tch {s : Scene} {i : Int} (h : tch s.1.2.1 i) (plain : Bool) (n : Int) : tch (moreS plain n s).1.2.1 i := by
  rw [moreS_eq]
  dsimp only
  have h1 : tch (more1 plain n s (nextV s.2 4).1.toNat).1.2.1 i := by
    unfold more1
    split
    · exact shorts_tch _ h
    · exact h
  generalize more1 plain n s (nextV s.2 4).1.toNat = t at h1 ⊢
  split
  · split
    · exact tch.app h1 _
    · exact h1
  · exact h1
theorem odd_tch {s r : Scene} {nn nl : Nat} (h : RS s nn nl r) (n3 : 3 ≤ nn) (n7 : nn ≤ 7) (l10 : nl ≤ 10) {i : Int} (ht : tch r.1.2.1 i) : tch (oddS r).1.2.1 i := by
  have pre := h.preO (by omega) (by omega) (by omega)
  have inv := oL_inv h.np h.c pre.g h.lk (i := r.1.2.1.length) (Nat.le_refl _)
  have e : (oddS r).1.2.1 = (oL r r.1.2.1.length).1.2 := by
    unfold oddS oL oN
    rfl
  rw [e]
  obtain ⟨l, hl, q⟩ := ht
  obtain ⟨j, hj, rfl⟩ := getD_of_mem hl
  have k := inv.lk.k j hj
  refine ⟨_, getD_memN (by rw [inv.lk.n]; exact hj), ?_⟩
  rw [k.a, k.b]; exact q
theorem odd_len {s r : Scene} {nn nl : Nat} (h : RS s nn nl r) (n3 : 3 ≤ nn) (n7 : nn ≤ 7) (l10 : nl ≤ 10) : (oddS r).1.1.length = r.1.1.length := by
  have pre := h.preO (by omega) (by omega) (by omega)
  have ok := oL_ok r h.c pre.g (i := r.1.2.1.length) (Int.le_refl _)
  have e : (oddS r).1.1 = (oL r r.1.2.1.length).1.1 := by
    unfold oddS oL oN
    rfl
  rw [e]
  exact ok.1.n
theorem net_tch {c : Codes} (h : okB c) (plain : Bool) {i : Nat} (hi : i < (netV plain c).1.length) : tch (netV plain c).2.1 i := by
  have hn := lineN_ok h
  obtain ⟨m, m2, m10, G⟩ := net_ok h plain
  have R := G.rs plain
  have rn := R.i.n.trans R.g.n
  have t := fun j => fun (hj : j < (lineN c).toNat + 2) => more_tch (line_tch h hj) plain (lineS c).1
  unfold netV netS at hi ⊢
  dsimp only at hi ⊢
  cases plain with
  | true =>
    rw [if_pos rfl] at hi ⊢
    rw [R.links]
    exact t i (by rw [← rn]; exact hi)
  | false =>
    rw [if_neg (by decide)] at hi ⊢
    have ol := odd_len R (by omega) (by omega) m10
    refine odd_tch R (by omega) (by omega) m10 ?_
    rw [R.links]
    exact t i (by rw [← rn]; omega)
theorem net_ports {c : Codes} (h : okB c) (plain : Bool) {i : Nat} (hi : i < (netV plain c).1.length) : 0 < (nPorts ((netV plain c).1.getD i default)).length := by
  have D := net_dn h plain
  obtain ⟨l, hl, q⟩ := net_tch h plain hi
  obtain ⟨j, hj, rfl⟩ := getD_of_mem hl
  rcases q with q | q
  · exact List.length_pos_of_mem ((D.port hi).2 ⟨j, hj, .inl ⟨q, rfl⟩⟩)
  · exact List.length_pos_of_mem ((D.port hi).2 ⟨j, hj, .inr ⟨q, rfl⟩⟩)
end Go.RS

