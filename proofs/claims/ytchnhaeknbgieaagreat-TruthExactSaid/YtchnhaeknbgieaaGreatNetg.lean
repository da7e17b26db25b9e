/- Truth4: packets that go back the way they came; all assumptions. -/
import Derived.Test.YtchnhaeknbgieaaGreatTruth3
import Derived.Test.YtchnhaeknbgieaaGreatTopod
namespace Go.RS
open Go.SX Go.Proofs
set_option maxRecDepth 100000
set_option linter.unusedVariables false

structure WI (n : Net) (w : Way) : Prop where
  l : w.1.length = w.2.1.length + 1
  m : w.2.1.length ≤ 255
  r : ∀ x ∈ w.1, 0 ≤ x ∧ x < n.1.length
theorem WI.step {n : Net} (W : WN n) {at' : Int} {k : Key} {w : Way} (h : WI n w) : WI n (stepW n at' k w) := by
  have hl := h.l
  have hr := h.r _ (lastI_mem (ns := w.1) (by omega))
  have lm := look_mem (l := routesV n (lastI w.1) at') (a := k.2.1)
  have nx := W.x (lastI w.1) at' hr.1 hr.2
  unfold stepW stepR1
  split
  · exact ⟨h.l, h.m, h.r⟩
  split
  · exact ⟨h.l, h.m, h.r⟩
  split
  · exact ⟨h.l, h.m, h.r⟩
  rename_i h2
  split
  · exact ⟨h.l, h.m, h.r⟩
  split
  · exact ⟨h.l, h.m, h.r⟩
  rename_i h4
  have hok : lookB (routesV n (lastI w.1) at') k.2.1 = true := by
    cases hh : lookB (routesV n (lastI w.1) at') k.2.1
    · exact absurd (.inl hh) h2
    · rfl
  have pr := pick_range (r := lookR (routesV n (lastI w.1) at') k.2.1) (seed := nSeed (n.1.getD (lastI w.1).toNat default)) (k := k) (by
    have : ¬ (lookR (routesV n (lastI w.1) at') k.2.1).2.1.length = 0 := fun e => h2 (.inr e)
    omega)
  have ho := nx _ (lm hok) _ (getD_mem pr.1 pr.2)
  refine ⟨by dsimp only; rw [List.length_append, List.length_append, hl]; rfl, by dsimp only; rw [List.length_append, List.length_singleton]; omega, fun x hx => ?_⟩
  rcases List.mem_append.1 hx with hx | hx
  · exact h.r x hx
  · rw [List.mem_singleton.1 hx]; exact ho
theorem WI.run {n : Net} (W : WN n) {at' : Int} {k : Key} : ∀ (f : Nat) {w : Way}, WI n w → WI n (runW n at' k f w)
  | 0, w, h => h
  | f + 1, w, h => by
    rw [runW]
    split
    · exact WI.run W f (h.step W)
    · exact h
theorem trace_wi {n : Net} (W : WN n) {at' who : Int} {k : Key} (w0 : 0 ≤ who) (w1 : who < n.1.length) : WI n (traceV n at' who k) :=
  WI.run W 257 ⟨rfl, Nat.zero_le _, fun x hx => by rw [List.mem_singleton.1 hx]; exact ⟨w0, w1⟩⟩
def kTo (a b : Int) : Key := (a, b, 0, 0, 0)
def backAt (n : Net) (at' home x : Int) (there : Way) (i : Nat) : Bool :=
  decide ((traceV n at' (there.1.getD i default) (kTo x home)).2.2 = 1) && (singleV n (traceV n at' (there.1.getD i default) (kTo x home)) at' home && decide (there.2.1.take i = (traceV n at' (there.1.getD i default) (kTo x home)).2.1.reverse))
def backAll (n : Net) (at' home x : Int) (there : Way) : Bool := (List.range (there.1.length - 1)).all fun i => backAt n at' home x there (i + 1)
def backV (n : Net) (at' who home x : Int) : Bool :=
  !decide ((traceV n at' who (kTo home x)).2.2 = 4) && (singleV n (traceV n at' who (kTo home x)) at' x && backAll n at' home x (traceV n at' who (kTo home x)))
def ct_truth_span_back : Ct := ⟨[.agg cSpan, .val cI, .val cU32, .val cU32], [.val .bool], fun d => [WN d.1.1, 0 ≤ d.1.2.1, d.1.2.1 < d.1.1.1.length], fun d => ((backV d.1.1 d.2.1 d.1.2.1 d.2.2.1 d.2.2.2.1, ()), ())⟩
def an_truth_span_back : PDs ct_truth_span_back.ps → Anns := (fun d => { loops := (fun n => match n with | 5 => some (fun S => { ι := Int, μ := fun i => ((S.c cWay 160).1.length - i).toNat, inv := fun i => 1 ≤ i ∧ ∀ k : Nat, 1 ≤ k → (k : Int) < i → backAt d.1.1 d.2.1 d.2.2.1 d.2.2.2.1 (S.c cWay 160) k = true, keep := [1, 2, 3, 4, 9], slots := fun i => [(10, .int .i64 i)], keepN := [80, 160], names := fun i => [] }) | _ => none) })
theorem vc_truth_span_back : ∀ (x : List Node) (x1 : List Link) (x2 : List Change) (x3 x4 x5 x6 x7 x8 : Int), (((x.length <= maxLen /\ ∀ (x9 : Node), x9 ∈ x -> CT.wf cNode x9) /\ (x1.length <= maxLen /\ ∀ (x : Link), x ∈ x1 -> CT.wf cLink x) /\ x2.length <= maxLen /\ ∀ (x : Change), x ∈ x2 -> CT.wf cChange x) /\ R64 x3 /\ R64 x4 /\ R64 x5) /\ R64 x6 /\ (0 <= x7 /\ x7 <= 4294967295) /\ (0 <= x8 /\ x8 <= 4294967295) /\ True -> WN (x, x1, x2) /\ 0 <= x3 /\ x3 + 1 <= (x.length : Int) -> WN (x, x1, x2) /\ 0 <= x3 /\ x3 < (x.length : Int) /\ ∀ (x9 x10 : List Int) (x11 : Int), (x9, x10, x11) = traceV (x, x1, x2) x6 x3 (x7, x8, (0 : Int), (0 : Int), (0 : Int)) -> ∀ (b : Bool), b = decide (x11 = 4) -> ((!b) -> ((!b) -> (!b)) /\ ((!b) -> (!b)) /\ ((!b) -> (!b)) /\ ((!b) -> (!b)) /\ okNet (x, x1, x2) /\ x10.length <= x9.length /\ True) /\ ((!b) -> ((!b) -> (!b)) /\ True) /\ (b = false -> (!b)) /\
 ifP (bif b then true else !singleV (x, x1, x2) (x9, x10, x11) x6 x8) (false = backV (x, x1, x2) x6 x3 x7 x8) ((∃ (x12 : Int), (1 <= x12 /\ ∀ (k : Nat), (1 : Nat) <= k -> (↑k : Int) < x12 -> backAt (x, x1, x2) x6 x7 x8 (x9, x10, x11) k = true) /\ x6 = x6 /\ x7 = x7 /\ x8 = x8 /\ (1 : Int) = x12 /\ x = x /\ x1 = x1 /\ x2 = x2 /\ x3 = x3 /\ x4 = x4 /\ x5 = x5 /\ x9 = x9 /\ x10 = x10 /\ x11 = x11 /\ True) /\ ∀ (x12 : Int), (1 <= x12 /\ ∀ (k : Nat), (1 : Nat) <= k -> (↑k : Int) < x12 -> backAt (x, x1, x2) x6 x7 x8 (x9, x10, x11) k = true) -> ifP (decide (x12 < (x9.length : Int))) (0 <= x12 /\ x12 < (x9.length : Int) /\ WN (x, x1, x2) /\ 0 <= x9.getD x12.toNat default /\ x9.getD x12.toNat default < (x.length : Int) /\ ∀ (x13 x14 : List Int) (x15 : Int), (x13, x14, x15) = traceV (x, x1, x2) x6 (x9.getD x12.toNat default) (x8, x7, (0 : Int), (0 : Int), (0 : Int)) -> (x14.length : Int) <=
 1099511627776 /\ ∀ (b : Bool), b = !decide (x15 = 1) -> ((!b) -> ((!b) -> (!b)) /\ ((!b) -> (!b)) /\ ((!b) -> (!b)) /\ ((!b) -> (!b)) /\ okNet (x, x1, x2) /\ x14.length <= x13.length /\ True) /\ ((!b) -> ((!b) -> (!b)) /\ True) /\ (b = false -> (!b)) /\ ∀ (b1 : Bool), (b1 = bif b then true else !singleV (x, x1, x2) (x13, x14, x15) x6 x7) -> ((!b1) -> ((!b1) -> (!b1)) /\ True) /\ ((!b1) -> ((!b1) -> (!b1)) /\ ((!b1) -> (!b1)) /\ (0 : Int) <= 0 /\ 0 <= x12 /\ x12 <= (x10.length : Int) /\ True) /\ ((!b1) -> ((!b1) -> (!b1)) /\ ((!b1) -> (!b1)) /\ True) /\ ((!b1) -> ((!b1) -> (!b1)) /\ True) /\ (b1 = false -> (!b1)) /\ ifP (bif b1 then true else !decide (subL x10 (Int.toNat (0 : Int)) x12.toNat = List.reverse x14)) (false = backV (x, x1, x2) x6 x3 x7 x8) (∃ (x16 : Int), (1 <= x16 /\ ∀ (k : Nat), (1 : Nat) <= k -> (↑k : Int) < x16 -> backAt (x, x1, x2) x6 x7 x8 (x9, x10, x11) k = true) /\
 Int.toNat ((x9.length : Int) - x16) < Int.toNat ((x9.length : Int) - x12) /\ x6 = x6 /\ x7 = x7 /\ x8 = x8 /\ IntKind.wrap .i64 (x12 + (1 : Int)) = x16 /\ x = x /\ x1 = x1 /\ x2 = x2 /\ x3 = x3 /\ x4 = x4 /\ x5 = x5 /\ x9 = x9 /\ x10 = x10 /\ x11 = x11 /\ True)) (true = backV (x, x1, x2) x6 x3 x7 x8)) := by
  rintro ns ls hs who s t at' home x - ⟨W, w0, w1⟩
  have w1 : who < (ns.length : Int) := by omega
  refine ⟨W, w0, w1, ?_⟩
  rintro u v e ht
  have I := trace_wi W (at' := at') (who := who) (k := (home, x, 0, 0, 0)) w0 w1
  rw [← ht] at I
  have eV : backV (ns, ls, hs) at' who home x = (!decide (e = 4) && (singleV (ns, ls, hs) (u, v, e) at' x && backAll (ns, ls, hs) at' home x (u, v, e))) := by
    unfold backV kTo; rw [← ht]
  have hl := I.l
  have hm := I.m
  dsimp only at hl hm
  intro b hb
  (repeat refine ⟨fun h_ => (by first | exact ⟨fun _ => h_, fun _ => h_, fun _ => h_, fun _ => h_, W.o, by omega, trivial⟩ | (simp; done) | (simp [h_]; done) | (simp_all; done)), ?_⟩)
  refine ifP_or (fun ho => ?_) (fun h1 h2 => ?_)
  · rw [eV]
    rcases ho with h | h
    · rw [hb] at h; rw [h]; rfl
    · have h : singleV (ns, ls, hs) (u, v, e) at' x = false := by simpa using h
      rw [h]; simp
  have hs1 : singleV (ns, ls, hs) (u, v, e) at' x = true := by simpa using h2
  have e4 : decide (e = 4) = false := hb.symm.trans h1
  rw [e4, hs1] at eV
  have eV : backV (ns, ls, hs) at' who home x = backAll (ns, ls, hs) at' home x (u, v, e) := eV
  rw [eV]
  refine ⟨⟨1, ⟨by omega, fun k k1 k2 => by omega⟩, (by repeat' first | exact trivial | refine ⟨trivial, ?_⟩ | refine ⟨(by with_reducible rfl), ?_⟩ | refine ⟨w64 (by omega) (by omega), ?_⟩ | refine ⟨rfl, ?_⟩)⟩, ?_⟩
  rintro i ⟨i1, hI⟩
  refine ifP_split (fun hi => ?_) (fun hi => ?_)
  rotate_left
  · have hi := of_decide_eq_false hi
    unfold backAll
    symm; rw [List.all_eq_true]
    intro k hk
    have hk := List.mem_range.1 hk
    dsimp only at hk
    exact hI (k + 1) (by omega) (by omega)
  have hi := of_decide_eq_true hi
  have hr := I.r _ (getD_mem (xs := u) (i := i) (by omega) hi)
  refine ⟨by omega, hi, W, hr.1, hr.2, ?_⟩
  rintro u2 v2 e2 ht2
  have I2 := trace_wi W (at' := at') (who := u.getD i.toNat default) (k := (x, home, 0, 0, 0)) hr.1 hr.2
  rw [← ht2] at I2
  have hl2 := I2.l
  have hm2 := I2.m
  dsimp only at hl2 hm2
  have eA : backAt (ns, ls, hs) at' home x (u, v, e) i.toNat = (decide (e2 = 1) && (singleV (ns, ls, hs) (u2, v2, e2) at' home && decide (v.take i.toNat = v2.reverse))) := by
    unfold backAt kTo; dsimp only; rw [← ht2]
  refine ⟨by omega, ?_⟩
  intro b3 hb3
  (repeat refine ⟨fun h_ => (by first | exact ⟨fun _ => h_, fun _ => h_, fun _ => h_, fun _ => h_, W.o, by omega, trivial⟩ | (simp; done) | (simp [h_]; done) | (simp_all; done)), ?_⟩)
  intro b4 hb4
  (repeat refine ⟨fun h_ => (by first | exact ⟨fun _ => h_, fun _ => h_, by omega, by omega, by omega, trivial⟩ | (simp; done) | (simp [h_]; done) | (simp_all; done)), ?_⟩)
  have eSub : subL v (Int.toNat (0 : Int)) i.toNat = v.take i.toNat := by simp [subL]
  have tot : (bif b4 then true else !decide (subL v (Int.toNat (0 : Int)) i.toNat = v2.reverse)) = !backAt (ns, ls, hs) at' home x (u, v, e) i.toNat := by
    rw [hb4, hb3, eA, eSub]
    cases decide (e2 = 1) <;> cases singleV (ns, ls, hs) (u2, v2, e2) at' home <;> cases decide (v.take i.toNat = v2.reverse) <;> rfl
  rw [tot]
  refine ifP_split (fun h => ?_) (fun h => ?_)
  · unfold backAll
    symm; rw [List.all_eq_false]
    refine ⟨i.toNat - 1, List.mem_range.2 (by dsimp only; omega), ?_⟩
    rw [show i.toNat - 1 + 1 = i.toNat by omega]
    have h : backAt (ns, ls, hs) at' home x (u, v, e) i.toNat = false := by simpa using h
    rw [h]; decide
  · have h : backAt (ns, ls, hs) at' home x (u, v, e) i.toNat = true := by simpa using h
    refine ⟨i + 1, ⟨by omega, fun k k1 k2 => ?_⟩, by omega, (by repeat' first | exact trivial | refine ⟨trivial, ?_⟩ | refine ⟨(by with_reducible rfl), ?_⟩ | refine ⟨w64 (by omega) (by omega), ?_⟩ | refine ⟨rfl, ?_⟩)⟩
    by_cases q : (k : Int) < i
    · exact hI k k1 q
    · have : k = i.toNat := by omega
      rw [this]; exact h
theorem ok_truth_span_back : SpecOK Tryz.prog GL 97 ct_truth_span_back.spec := Ct.okH _ Tryz.func97 (by kernel_rfl) (withSpec_ok (withSpec_ok (withSpec_ok (withSpec_ok (withSpec_ok noSpecs_ok (Ct.named ok_truth_Trace)) ok_truth_span_single) ok_slices_Clone_263e) ok_slices_Reverse_263e) ok_slices_Equal_263e) hmix an_truth_span_back (hideMp (by kernel_rfl) vc_truth_span_back)

def ct_truth_symmetric_1 : Ct := ⟨[.val cU32, .box 104 cSpan, .box 3 cI, .box 24 cU32], [.val .bool], fun d => [WN d.2.1.1, 0 ≤ d.2.1.2.1, d.2.1.2.1 < d.2.1.1.1.length], fun d => ((!backV d.2.1.1 d.2.2.1 d.2.1.2.1 d.2.2.2.1 d.1, ()), (d.2.1, d.2.2.1, d.2.2.2.1, ()))⟩
def an_truth_symmetric_1 : PDs ct_truth_symmetric_1.ps → Anns := (fun _ => {})
theorem vc_truth_symmetric_1 : ∀ (x : Int) (x1 : List Node) (x2 : List Link) (x3 : List Change) (x4 x5 x6 x7 x8 : Int), (0 <= x /\ x <= 4294967295) /\ (((x1.length <= maxLen /\ ∀ (x : Node), x ∈ x1 -> CT.wf cNode x) /\ (x2.length <= maxLen /\ ∀ (x : Link), x ∈ x2 -> CT.wf cLink x) /\ x3.length <= maxLen /\ ∀ (x : Change), x ∈ x3 -> CT.wf cChange x) /\ R64 x4 /\ R64 x5 /\ R64 x6) /\ R64 x7 /\ (0 <= x8 /\ x8 <= 4294967295) /\ True -> WN (x1, x2, x3) /\ 0 <= x4 /\ x4 + 1 <= (x1.length : Int) -> WN (x1, x2, x3) /\ 0 <= x4 /\ x4 < (x1.length : Int) /\ (!backV (x1, x2, x3) x7 x4 x8 x) = !backV (x1, x2, x3) x7 x4 x8 x /\ ((x1, x2, x3), x4, x5, x6) = ((x1, x2, x3), x4, x5, x6) /\ x7 = x7 /\ x8 = x8 := by
  rintro a ns ls hs who s t at' home - ⟨W, w0, w1⟩
  refine ⟨W, w0, by show who < (ns.length : Int); omega, ?_⟩
  (repeat refine ⟨rfl, ?_⟩)
  rfl
theorem ok_truth_symmetric_1 : SpecOK Tryz.prog GL 96 ct_truth_symmetric_1.spec := Ct.okH _ Tryz.func96 (by kernel_rfl) (withSpec_ok noSpecs_ok ok_truth_span_back) hmix an_truth_symmetric_1 (hideMp (by kernel_rfl) vc_truth_symmetric_1)

def ct_IndexBack : Ct := ⟨[.val (.sl cU32), .fn 96 3, .box 104 cSpan, .box 3 cI, .box 24 cU32], [.val cI], fun d => [WN d.2.2.1.1, 0 ≤ d.2.2.1.2.1, d.2.2.1.2.1 < d.2.2.1.1.1.length], fun d => ((idxI (fun a => !backV d.2.2.1.1 d.2.2.2.1 d.2.2.1.2.1 d.2.2.2.2.1 a) d.1, ()), (d.2.2.1, d.2.2.2.1, d.2.2.2.2.1, ()))⟩
def an_IndexBack : PDs ct_IndexBack.ps → Anns := (fun d => { loops := (fun n => match n with | 2 => some (fun S => { ι := Int, μ := fun i => (d.1.length - i).toNat, inv := fun i => 0 ≤ i ∧ i ≤ d.1.length ∧ ∀ a ∈ d.1.take i.toNat, (!backV d.2.2.1.1 d.2.2.2.1 d.2.2.1.2.1 d.2.2.2.2.1 a) = false, keep := [0, 1, 6, 7], slots := fun i => [(8, .int .i64 i)], keepN := [1048576, 1048577, 1048578], names := fun i => [] }) | _ => none) })
theorem vc_IndexBack : ∀ (x : List Int) (x1 : List Node) (x2 : List Link) (x3 : List Change) (x4 x5 x6 x7 x8 : Int), (x.length <= maxLen /\ ∀ (x9 : Int), x9 ∈ x -> 0 <= x9 /\ x9 <= 4294967295) /\ True /\ (((x1.length <= maxLen /\ ∀ (x : Node), x ∈ x1 -> CT.wf cNode x) /\ (x2.length <= maxLen /\ ∀ (x : Link), x ∈ x2 -> CT.wf cLink x) /\ x3.length <= maxLen /\ ∀ (x : Change), x ∈ x3 -> CT.wf cChange x) /\ R64 x4 /\ R64 x5 /\ R64 x6) /\ R64 x7 /\ (0 <= x8 /\ x8 <= 4294967295) /\ True -> WN (x1, x2, x3) /\ 0 <= x4 /\ x4 + 1 <= (x1.length : Int) -> (∃ (x9 : Int), (0 <= x9 /\ x9 <= (x.length : Int) /\ ∀ (a : Int), a ∈ List.take x9.toNat x -> (!backV (x1, x2, x3) x7 x4 x8 a) = false) /\ x = x /\ x = x /\ (x.length : Int) = (x.length : Int) /\ (0 : Int) = x9 /\ x1 = x1 /\ x2 = x2 /\ x3 = x3 /\ x4 = x4 /\ x5 = x5 /\ x6 = x6 /\ x7 = x7 /\ x8 = x8 /\ True) /\ ∀ (x9 : Int), (0 <= x9 /\ x9 <=
 (x.length : Int) /\ ∀ (a : Int), a ∈ List.take x9.toNat x -> (!backV (x1, x2, x3) x7 x4 x8 a) = false) -> ifP (decide (x9 < (x.length : Int))) (0 <= x9 /\ x9 < (x.length : Int) /\ WN (x1, x2, x3) /\ 0 <= x4 /\ x4 < (x1.length : Int) /\ ifP (!backV (x1, x2, x3) x7 x4 x8 (x.getD x9.toNat default)) (x9 = idxI (fun (a : Int) => !backV (x1, x2, x3) x7 x4 x8 a) x /\ ((x1, x2, x3), x4, x5, x6) = ((x1, x2, x3), x4, x5, x6) /\ x7 = x7 /\ x8 = x8) (∃ (x10 : Int), (0 <= x10 /\ x10 <= (x.length : Int) /\ ∀ (a : Int), a ∈ List.take x10.toNat x -> (!backV (x1, x2, x3) x7 x4 x8 a) = false) /\ Int.toNat ((x.length : Int) - x10) < Int.toNat ((x.length : Int) - x9) /\ x = x /\ x = x /\ (x.length : Int) = (x.length : Int) /\ IntKind.wrap .i64 (x9 + (1 : Int)) = x10 /\ x1 = x1 /\ x2 = x2 /\ x3 = x3 /\ x4 = x4 /\ x5 = x5 /\ x6 = x6 /\ x7 = x7 /\ x8 = x8 /\ True)) ((-1 : Int) = idxI (fun (a : Int) => !backV
 (x1, x2, x3) x7 x4 x8 a) x /\ ((x1, x2, x3), x4, x5, x6) = ((x1, x2, x3), x4, x5, x6) /\ x7 = x7 /\ x8 = x8) := by
  rintro l ns ls hs who s t at' home ⟨⟨hl, -⟩, -⟩ ⟨W, w0, w1⟩
  simp only [maxLen] at hl
  have w1 : who < (ns.length : Int) := by omega
  refine ⟨⟨0, ⟨by omega, by omega, by simp⟩, (by repeat' first | exact trivial | refine ⟨trivial, ?_⟩ | refine ⟨(by with_reducible rfl), ?_⟩ | refine ⟨w64 (by omega) (by omega), ?_⟩ | refine ⟨rfl, ?_⟩)⟩, ?_⟩
  rintro j ⟨j0, j1, hj⟩
  refine ifP_split (fun hk => ?_) (fun hk => ?_)
  · have hk := of_decide_eq_true hk
    refine ⟨j0, hk, W, w0, w1, ifP_split (fun hm => ?_) (fun hm => ?_)⟩
    · refine ⟨findI_at (q := fun a => !backV (ns, ls, hs) at' who home a) j0 hk hj hm, ?_⟩
      (repeat refine ⟨rfl, ?_⟩)
      rfl
    · exact ⟨j + 1, ⟨by omega, by omega, all_next (P := fun a => (!backV (ns, ls, hs) at' who home a) = false) j0 hk hj hm⟩, by omega, (by repeat' first | exact trivial | refine ⟨trivial, ?_⟩ | refine ⟨(by with_reducible rfl), ?_⟩ | refine ⟨w64 (by omega) (by omega), ?_⟩ | refine ⟨rfl, ?_⟩)⟩
  · refine ⟨findI_none (q := fun a => !backV (ns, ls, hs) at' who home a) (of_decide_eq_false hk) hj, ?_⟩
    (repeat refine ⟨rfl, ?_⟩)
    rfl
theorem ok_IndexBack : SpecOK Tryz.prog GL 121 ct_IndexBack.spec := Ct.okH _ Tryz.func121 (by kernel_rfl) (withSpec_ok noSpecs_ok ok_truth_symmetric_1) hmix an_IndexBack (hideMp (by kernel_rfl) vc_IndexBack)

def ct_ContainsBack : Ct := ⟨[.val (.sl cU32), .fn 96 3, .box 104 cSpan, .box 3 cI, .box 24 cU32], [.val .bool], fun d => [WN d.2.2.1.1, 0 ≤ d.2.2.1.2.1, d.2.2.1.2.1 < d.2.2.1.1.1.length], fun d => ((d.1.any (fun a => !backV d.2.2.1.1 d.2.2.2.1 d.2.2.1.2.1 d.2.2.2.2.1 a), ()), (d.2.2.1, d.2.2.2.1, d.2.2.2.2.1, ()))⟩
def an_ContainsBack : PDs ct_ContainsBack.ps → Anns := (fun _ => {})
theorem vc_ContainsBack : ∀ (x : List Int) (x1 : List Node) (x2 : List Link) (x3 : List Change) (x4 x5 x6 x7 x8 : Int), (x.length <= maxLen /\ ∀ (x9 : Int), x9 ∈ x -> 0 <= x9 /\ x9 <= 4294967295) /\ True /\ (((x1.length <= maxLen /\ ∀ (x : Node), x ∈ x1 -> CT.wf cNode x) /\ (x2.length <= maxLen /\ ∀ (x : Link), x ∈ x2 -> CT.wf cLink x) /\ x3.length <= maxLen /\ ∀ (x : Change), x ∈ x3 -> CT.wf cChange x) /\ R64 x4 /\ R64 x5 /\ R64 x6) /\ R64 x7 /\ (0 <= x8 /\ x8 <= 4294967295) /\ True -> WN (x1, x2, x3) /\ 0 <= x4 /\ x4 + 1 <= (x1.length : Int) -> WN (x1, x2, x3) /\ 0 <= x4 /\ x4 < (x1.length : Int) /\ (decide (0 <= idxI (fun (a : Int) => !backV (x1, x2, x3) x7 x4 x8 a) x) = List.any x fun (a : Int) => !backV (x1, x2, x3) x7 x4 x8 a) /\ ((x1, x2, x3), x4, x5, x6) = ((x1, x2, x3), x4, x5, x6) /\ x7 = x7 /\ x8 = x8 := by
  rintro l ns ls hs who s t at' home - ⟨W, w0, w1⟩
  refine ⟨W, w0, by show who < (ns.length : Int); omega, idxI_any, ?_⟩
  (repeat refine ⟨rfl, ?_⟩)
  rfl
theorem ok_ContainsBack : SpecOK Tryz.prog GL 95 ct_ContainsBack.spec := Ct.okH _ Tryz.func95 (by kernel_rfl) (withSpec_ok noSpecs_ok ok_IndexBack) hmix an_ContainsBack (hideMp (by kernel_rfl) vc_ContainsBack)
def homeA (n : Net) (who : Int) : Int := ((nPorts (n.1.getD who.toNat default)).getD 0 default).1
def symU (n : Net) (at' who : Int) (u : Nat) : Bool := decide ((u : Int) = who) || (adrs (n.1.getD u default)).all (backV n at' who (homeA n who))
def symAt (n : Net) (who at' : Int) : Bool := (List.range n.1.length).all (symU n at' who)
def symV (n : Net) (who s t : Int) : Bool := decide (0 ≤ who ∧ who < n.1.length ∧ 0 < (nPorts (n.1.getD who.toNat default)).length) && (timesV n.2.2 s t).all (symAt n who)
def ct_truth_symmetric : Ct := ⟨[.agg cSpan], [.val .bool], fun d => [WN d.1.1, ∀ x ∈ d.1.1.1, (nPorts x).length ≤ 100000], fun d => ((symV d.1.1 d.1.2.1 d.1.2.2.1 d.1.2.2.2, ()), ())⟩
def an_truth_symmetric : PDs ct_truth_symmetric.ps → Anns := (fun d => { loops := (fun n => match n with | 5 => some (fun S => { ι := Int, μ := fun i => ((timesV d.1.1.2.2 d.1.2.2.1 d.1.2.2.2).length - i).toNat, inv := fun i => 0 ≤ i ∧ i ≤ (timesV d.1.1.2.2 d.1.2.2.1 d.1.2.2.2).length ∧ ∀ x ∈ (timesV d.1.1.2.2 d.1.2.2.1 d.1.2.2.2).take i.toNat, symAt d.1.1 d.1.2.1 x = true, keep := [1, 3, 47, 48], slots := fun i => [(49, .int .i64 i)], keepN := [32, 768], names := fun i => [(64, .live (.cells 24 [.int .u32 (homeA d.1.1 d.1.2.1)]))] }) | 8 => some (fun S => { ι := Int × Int, qn := ⟨fun k_ => ∀ (u : Int) (a : Int), k_ (u, a), fun k_ h_ i => h_ i.1 i.2, fun k_ => ∃ (u : Int) (a : Int), k_ (u, a), fun k_ ⟨u, a, h_⟩ => ⟨_, h_⟩⟩, μ := fun i => (d.1.1.1.length - i.1).toNat, inv := fun i => i.2 = (timesV d.1.1.2.2 d.1.2.2.1 d.1.2.2.2).getD (S.i 49).toNat default ∧ 0 ≤ i.1 ∧ i.1 ≤ d.1.1.1.length ∧ ∀ k : Nat, (k : Int) < i.1 → symU d.1.1 i.2 d.1.2.1 k = true, keep := [1, 3, 5, 47, 48, 49, 55, 56], slots := fun i => [(57, .int .i64 i.1)], keepN := [32, 64, 768], names := fun i => [(96, .live (.cells 3 [.int .i64 i.2]))] }) | 13 => some (fun S => { ι := Int × (List Int), qn := ⟨fun k_ => ∀ (q : Int) (l : (List Int)), k_ (q, l), fun k_ h_ i => h_ i.1 i.2, fun k_ => ∃ (q : Int) (l : (List Int)), k_ (q, l), fun k_ ⟨q, l, h_⟩ => ⟨_, h_⟩⟩, μ := fun i => ((nPorts (d.1.1.1.getD (S.i 57).toNat default)).length - i.1).toNat, inv := fun i => 0 ≤ i.1 ∧ i.1 ≤ (nPorts (d.1.1.1.getD (S.i 57).toNat default)).length ∧ i.2 = (pAddrs (d.1.1.1.getD (S.i 57).toNat default)).take i.1.toNat, keep := [1, 3, 5, 7, 47, 48, 49, 55, 56, 57, 67, 68], slots := fun i => [(8, .own 524288 1), (69, .int .i64 i.1)], keepN := [32, 64, 96, 128, 768], names := fun i => [(524288, .live (.row 24 cU32 i.2))] }) | _ => none) })
theorem vc_truth_symmetric : ∀ (x : List Node) (x1 : List Link) (x2 : List Change) (x3 x4 x5 : Int), (((x.length <= maxLen /\ ∀ (x6 : Node), x6 ∈ x -> CT.wf cNode x6) /\ (x1.length <= maxLen /\ ∀ (x : Link), x ∈ x1 -> CT.wf cLink x) /\ x2.length <= maxLen /\ ∀ (x : Change), x ∈ x2 -> CT.wf cChange x) /\ R64 x3 /\ R64 x4 /\ R64 x5) /\ True -> (WN (x, x1, x2) /\ ∀ (x6 : List (Int × Int) × Int × Int × Bool × List ((Int × Int) × List Int × Int) × Int × Int × Int × Int × Int × (Int × Int) × Bool × Bool × Int × Int), x6 ∈ x -> List.length (nPorts x6) <= (100000 : Nat)) -> ∀ (b : Bool), b = decide (x3 < 0) -> ((!b) -> ((!b) -> (!b)) /\ True) /\ ((!b) -> ((!b) -> (!b)) /\ True) /\ ((!b) -> ((!b) -> (!b)) /\ True) /\ ((!b) -> ((!b) -> (!b)) /\ True) /\ ((!b) -> ((!b) -> (!b)) /\ ((!b) -> (!b)) /\ True) /\ (b = false -> (!b)) /\ ∀ (b1 : Bool), (b1 = bif b then true else decide ((x.length : Int) <=
 x3)) -> ((!b1) -> ((!b1) -> (!b1)) /\ True) /\ ((!b1) -> ((!b1) -> (!b1)) /\ True) /\ ((!b1) -> ((!b1) -> (!b1)) /\ True) /\ ((!b1) -> ((!b1) -> (!b1)) /\ ((!b1) -> (!b1)) /\ 0 <= x3 /\ x3 < (x.length : Int) /\ True) /\ ((!b1) -> ((!b1) -> (!b1)) /\ True) /\ ((!b1) -> ((!b1) -> (!b1)) /\ True) /\ ((!b1) -> ((!b1) -> (!b1)) /\ True) /\ ((!b1) -> ((!b1) -> (!b1)) /\ True) /\ (b1 = false -> (!b1)) /\ ifP (bif b1 then true else decide (((List.length (x.getD x3.toNat default).1) : Int) = 0)) (false = symV (x, x1, x2) x3 x4 x5) (0 <= x3 /\ x3 < (x.length : Int) /\ (0 : Int) <= 0 /\ 0 < ((List.length (x.getD x3.toNat default).1) : Int) /\ x2.length <= (1000 : Nat) /\ (∃ (x6 : Int), (0 <= x6 /\ x6 <= ((List.length (timesV x2 x4 x5)) : Int) /\ ∀ (x7 : Int), x7 ∈ List.take x6.toNat (timesV x2 x4 x5) -> symAt (x, x1, x2) x3 x7 = true) /\ ((List.length (timesV x2 x4 x5)) : Int) = ((List.length
 (timesV x2 x4 x5)) : Int) /\ (0 : Int) = x6 /\ x = x /\ x1 = x1 /\ x2 = x2 /\ x3 = x3 /\ x4 = x4 /\ x5 = x5 /\ timesV x2 x4 x5 = timesV x2 x4 x5 /\ (List.getD (x.getD x3.toNat default).1 (Int.toNat (0 : Int)) default).1 = homeA (x, x1, x2) x3 /\ True) /\ ∀ (x6 : Int), (0 <= x6 /\ x6 <= ((List.length (timesV x2 x4 x5)) : Int) /\ ∀ (x7 : Int), x7 ∈ List.take x6.toNat (timesV x2 x4 x5) -> symAt (x, x1, x2) x3 x7 = true) -> ifP (decide (x6 < ((List.length (timesV x2 x4 x5)) : Int))) (0 <= x6 /\ x6 < ((List.length (timesV x2 x4 x5)) : Int) /\ (∃ (u : Int) (a : Int), (a = List.getD (timesV x2 x4 x5) x6.toNat default /\ 0 <= u /\ u <= (x.length : Int) /\ ∀ (k : Nat), (↑k : Int) < u -> symU (x, x1, x2) a x3 k = true) /\ ((List.length (timesV x2 x4 x5)) : Int) = ((List.length (timesV x2 x4 x5)) : Int) /\ x6 = x6 /\ x = x /\ (x.length : Int) = (x.length : Int) /\ (0 : Int) = u /\ x = x /\ x1 = x1
 /\ x2 = x2 /\ x3 = x3 /\ x4 = x4 /\ x5 = x5 /\ homeA (x, x1, x2) x3 = homeA (x, x1, x2) x3 /\ timesV x2 x4 x5 = timesV x2 x4 x5 /\ List.getD (timesV x2 x4 x5) x6.toNat default = a /\ True) /\ ∀ (u a : Int), (a = List.getD (timesV x2 x4 x5) x6.toNat default /\ 0 <= u /\ u <= (x.length : Int) /\ ∀ (k : Nat), (↑k : Int) < u -> symU (x, x1, x2) a x3 k = true) -> ifP (decide (u < (x.length : Int))) (0 <= u /\ u < (x.length : Int) /\ ifP (decide (u = x3)) (∃ (u_1 : Int) (a_2 : Int), (a_2 = List.getD (timesV x2 x4 x5) x6.toNat default /\ 0 <= u_1 /\ u_1 <= (x.length : Int) /\ ∀ (k : Nat), (↑k : Int) < u_1 -> symU (x, x1, x2) a_2 x3 k = true) /\ Int.toNat ((x.length : Int) - u_1) < Int.toNat ((x.length : Int) - u) /\ ((List.length (timesV x2 x4 x5)) : Int) = ((List.length (timesV x2 x4 x5)) : Int) /\ x6 = x6 /\ x = x /\ (x.length : Int) = (x.length : Int) /\ IntKind.wrap .i64 (u + (1 : Int)) =
 u_1 /\ x = x /\ x1 = x1 /\ x2 = x2 /\ x3 = x3 /\ x4 = x4 /\ x5 = x5 /\ homeA (x, x1, x2) x3 = homeA (x, x1, x2) x3 /\ timesV x2 x4 x5 = timesV x2 x4 x5 /\ a = a_2 /\ True) ((∃ (q : Int) (l : List Int), (0 <= q /\ q <= ((List.length (nPorts (x.getD u.toNat default))) : Int) /\ l = List.take q.toNat (pAddrs (x.getD u.toNat default))) /\ ((List.length (timesV x2 x4 x5)) : Int) = ((List.length (timesV x2 x4 x5)) : Int) /\ x6 = x6 /\ x = x /\ (x.length : Int) = (x.length : Int) /\ u = u /\ (x.getD u.toNat default).1 = (x.getD u.toNat default).1 /\ ((List.length (x.getD u.toNat default).1) : Int) = ((List.length (x.getD u.toNat default).1) : Int) /\ (0 : Int) = q /\ x = x /\ x1 = x1 /\ x2 = x2 /\ x3 = x3 /\ x4 = x4 /\ x5 = x5 /\ homeA (x, x1, x2) x3 = homeA (x, x1, x2) x3 /\ a = a /\ (x.getD u.toNat default).1 = (x.getD u.toNat default).1 /\ (x.getD u.toNat default).2.1 = (x.getD u.toNat
 default).2.1 /\ (x.getD u.toNat default).2.2.1 = (x.getD u.toNat default).2.2.1 /\ (x.getD u.toNat default).2.2.2.1 = (x.getD u.toNat default).2.2.2.1 /\ (x.getD u.toNat default).2.2.2.2.1 = (x.getD u.toNat default).2.2.2.2.1 /\ (x.getD u.toNat default).2.2.2.2.2.1 = (x.getD u.toNat default).2.2.2.2.2.1 /\ (x.getD u.toNat default).2.2.2.2.2.2.1 = (x.getD u.toNat default).2.2.2.2.2.2.1 /\ (x.getD u.toNat default).2.2.2.2.2.2.2.1 = (x.getD u.toNat default).2.2.2.2.2.2.2.1 /\ (x.getD u.toNat default).2.2.2.2.2.2.2.2.1 = (x.getD u.toNat default).2.2.2.2.2.2.2.2.1 /\ (x.getD u.toNat default).2.2.2.2.2.2.2.2.2.1 = (x.getD u.toNat default).2.2.2.2.2.2.2.2.2.1 /\ (x.getD u.toNat default).2.2.2.2.2.2.2.2.2.2.1.1 = (x.getD u.toNat default).2.2.2.2.2.2.2.2.2.2.1.1 /\ (x.getD u.toNat default).2.2.2.2.2.2.2.2.2.2.1.2 = (x.getD u.toNat default).2.2.2.2.2.2.2.2.2.2.1.2 /\ (x.getD u.toNat
 default).2.2.2.2.2.2.2.2.2.2.2.1 = (x.getD u.toNat default).2.2.2.2.2.2.2.2.2.2.2.1 /\ (x.getD u.toNat default).2.2.2.2.2.2.2.2.2.2.2.2.1 = (x.getD u.toNat default).2.2.2.2.2.2.2.2.2.2.2.2.1 /\ (x.getD u.toNat default).2.2.2.2.2.2.2.2.2.2.2.2.2.1 = (x.getD u.toNat default).2.2.2.2.2.2.2.2.2.2.2.2.2.1 /\ (x.getD u.toNat default).2.2.2.2.2.2.2.2.2.2.2.2.2.2 = (x.getD u.toNat default).2.2.2.2.2.2.2.2.2.2.2.2.2.2 /\ timesV x2 x4 x5 = timesV x2 x4 x5 /\ l = ([] : List Int) /\ True) /\ ∀ (q : Int) (l : List Int), 0 <= q /\ q <= ((List.length (nPorts (x.getD u.toNat default))) : Int) /\ l = List.take q.toNat (pAddrs (x.getD u.toNat default)) -> ifP (decide (q < ((List.length (x.getD u.toNat default).1) : Int))) (0 <= q /\ q < ((List.length (x.getD u.toNat default).1) : Int) /\ (l.length + List.length [(List.getD (x.getD u.toNat default).1 q.toNat default).1]) * (4 : Nat) <= (140737488355328 :
 Nat) /\ ∃ (q_1 : Int) (l_1 : List Int), (0 <= q_1 /\ q_1 <= ((List.length (nPorts (x.getD u.toNat default))) : Int) /\ l_1 = List.take q_1.toNat (pAddrs (x.getD u.toNat default))) /\ Int.toNat (((List.length (nPorts (x.getD u.toNat default))) : Int) - q_1) < Int.toNat (((List.length (nPorts (x.getD u.toNat default))) : Int) - q) /\ ((List.length (timesV x2 x4 x5)) : Int) = ((List.length (timesV x2 x4 x5)) : Int) /\ x6 = x6 /\ x = x /\ (x.length : Int) = (x.length : Int) /\ u = u /\ (x.getD u.toNat default).1 = (x.getD u.toNat default).1 /\ ((List.length (x.getD u.toNat default).1) : Int) = ((List.length (x.getD u.toNat default).1) : Int) /\ IntKind.wrap .i64 (q + (1 : Int)) = q_1 /\ x = x /\ x1 = x1 /\ x2 = x2 /\ x3 = x3 /\ x4 = x4 /\ x5 = x5 /\ homeA (x, x1, x2) x3 = homeA (x, x1, x2) x3 /\ a = a /\ (x.getD u.toNat default).1 = (x.getD u.toNat default).1 /\ (x.getD u.toNat default).2.1
 = (x.getD u.toNat default).2.1 /\ (x.getD u.toNat default).2.2.1 = (x.getD u.toNat default).2.2.1 /\ (x.getD u.toNat default).2.2.2.1 = (x.getD u.toNat default).2.2.2.1 /\ (x.getD u.toNat default).2.2.2.2.1 = (x.getD u.toNat default).2.2.2.2.1 /\ (x.getD u.toNat default).2.2.2.2.2.1 = (x.getD u.toNat default).2.2.2.2.2.1 /\ (x.getD u.toNat default).2.2.2.2.2.2.1 = (x.getD u.toNat default).2.2.2.2.2.2.1 /\ (x.getD u.toNat default).2.2.2.2.2.2.2.1 = (x.getD u.toNat default).2.2.2.2.2.2.2.1 /\ (x.getD u.toNat default).2.2.2.2.2.2.2.2.1 = (x.getD u.toNat default).2.2.2.2.2.2.2.2.1 /\ (x.getD u.toNat default).2.2.2.2.2.2.2.2.2.1 = (x.getD u.toNat default).2.2.2.2.2.2.2.2.2.1 /\ (x.getD u.toNat default).2.2.2.2.2.2.2.2.2.2.1.1 = (x.getD u.toNat default).2.2.2.2.2.2.2.2.2.2.1.1 /\ (x.getD u.toNat default).2.2.2.2.2.2.2.2.2.2.1.2 = (x.getD u.toNat default).2.2.2.2.2.2.2.2.2.2.1.2 /\ (x.getD
 u.toNat default).2.2.2.2.2.2.2.2.2.2.2.1 = (x.getD u.toNat default).2.2.2.2.2.2.2.2.2.2.2.1 /\ (x.getD u.toNat default).2.2.2.2.2.2.2.2.2.2.2.2.1 = (x.getD u.toNat default).2.2.2.2.2.2.2.2.2.2.2.2.1 /\ (x.getD u.toNat default).2.2.2.2.2.2.2.2.2.2.2.2.2.1 = (x.getD u.toNat default).2.2.2.2.2.2.2.2.2.2.2.2.2.1 /\ (x.getD u.toNat default).2.2.2.2.2.2.2.2.2.2.2.2.2.2 = (x.getD u.toNat default).2.2.2.2.2.2.2.2.2.2.2.2.2.2 /\ timesV x2 x4 x5 = timesV x2 x4 x5 /\ l ++ [(List.getD (x.getD u.toNat default).1 q.toNat default).1] = l_1 /\ True) (ifP (!decide ((x.getD u.toNat default).2.1 = 0)) ((l.length + List.length [(x.getD u.toNat default).2.1]) * (4 : Nat) <= (140737488355328 : Nat) /\ WN (x, x1, x2) /\ 0 <= x3 /\ x3 < (x.length : Int) /\ ifP (List.any (l ++ [(x.getD u.toNat default).2.1]) fun (a_3 : Int) => !backV (x, x1, x2) a x3 (homeA (x, x1, x2) x3) a_3) (false = symV (x, x1, x2) x3 x4
 x5) (∃ (u_1 : Int) (a_3 : Int), (a_3 = List.getD (timesV x2 x4 x5) x6.toNat default /\ 0 <= u_1 /\ u_1 <= (x.length : Int) /\ ∀ (k : Nat), (↑k : Int) < u_1 -> symU (x, x1, x2) a_3 x3 k = true) /\ Int.toNat ((x.length : Int) - u_1) < Int.toNat ((x.length : Int) - u) /\ ((List.length (timesV x2 x4 x5)) : Int) = ((List.length (timesV x2 x4 x5)) : Int) /\ x6 = x6 /\ x = x /\ (x.length : Int) = (x.length : Int) /\ IntKind.wrap .i64 (u + (1 : Int)) = u_1 /\ x = x /\ x1 = x1 /\ x2 = x2 /\ x3 = x3 /\ x4 = x4 /\ x5 = x5 /\ homeA (x, x1, x2) x3 = homeA (x, x1, x2) x3 /\ timesV x2 x4 x5 = timesV x2 x4 x5 /\ a = a_3 /\ True)) (WN (x, x1, x2) /\ 0 <= x3 /\ x3 < (x.length : Int) /\ ifP (List.any l fun (a_3 : Int) => !backV (x, x1, x2) a x3 (homeA (x, x1, x2) x3) a_3) (false = symV (x, x1, x2) x3 x4 x5) (∃ (u_1 : Int) (a_3 : Int), (a_3 = List.getD (timesV x2 x4 x5) x6.toNat default /\ 0 <= u_1 /\ u_1
 <= (x.length : Int) /\ ∀ (k : Nat), (↑k : Int) < u_1 -> symU (x, x1, x2) a_3 x3 k = true) /\ Int.toNat ((x.length : Int) - u_1) < Int.toNat ((x.length : Int) - u) /\ ((List.length (timesV x2 x4 x5)) : Int) = ((List.length (timesV x2 x4 x5)) : Int) /\ x6 = x6 /\ x = x /\ (x.length : Int) = (x.length : Int) /\ IntKind.wrap .i64 (u + (1 : Int)) = u_1 /\ x = x /\ x1 = x1 /\ x2 = x2 /\ x3 = x3 /\ x4 = x4 /\ x5 = x5 /\ homeA (x, x1, x2) x3 = homeA (x, x1, x2) x3 /\ timesV x2 x4 x5 = timesV x2 x4 x5 /\ a = a_3 /\ True))))) (∃ (x7 : Int), (0 <= x7 /\ x7 <= ((List.length (timesV x2 x4 x5)) : Int) /\ ∀ (x8 : Int), x8 ∈ List.take x7.toNat (timesV x2 x4 x5) -> symAt (x, x1, x2) x3 x8 = true) /\ Int.toNat (((List.length (timesV x2 x4 x5)) : Int) - x7) < Int.toNat (((List.length (timesV x2 x4 x5)) : Int) - x6) /\ ((List.length (timesV x2 x4 x5)) : Int) = ((List.length (timesV x2 x4 x5)) : Int) /\
 IntKind.wrap .i64 (x6 + (1 : Int)) = x7 /\ x = x /\ x1 = x1 /\ x2 = x2 /\ x3 = x3 /\ x4 = x4 /\ x5 = x5 /\ timesV x2 x4 x5 = timesV x2 x4 x5 /\ homeA (x, x1, x2) x3 = homeA (x, x1, x2) x3 /\ True)) (true = symV (x, x1, x2) x3 x4 x5)) := by
  rintro ns ls hs who s t ⟨⟨⟨⟨hnl, -⟩, -⟩, -⟩, -⟩ ⟨W, hp⟩
  simp only [maxLen] at hnl
  have hc := W.o.c
  have tl := (tm_len s t hs [s]).1
  simp only [List.length_singleton] at tl
  have tl2 : (timesV hs s t).length ≤ 1001 := by unfold timesV; dsimp only at hc; omega
  intro b hb
  (repeat refine ⟨fun h_ => (by first | (simp; done) | (simp [h_]; done) | (simp_all; done)), ?_⟩)
  intro b1 hb1
  rw [hb, bor_d] at hb1
  (repeat refine ⟨fun h_ => (by first | exact ⟨fun _ => h_, fun _ => h_, by rw [hb1] at h_; have := nd_t h_; omega, by rw [hb1] at h_; have := nd_t h_; omega, trivial⟩ | (simp; done) | (simp [h_]; done) | (simp_all; done)), ?_⟩)
  rw [hb1, bor_d]
  rw [show (ns.getD who.toNat default).1 = nPorts (ns.getD who.toNat default) from rfl]
  refine ifP_split (fun h => ?_) (fun h => ?_)
  · have h := of_decide_eq_true h
    unfold symV
    rw [decide_eq_false (by dsimp only; omega)]; rfl
  have h := of_decide_eq_false h
  have w0 : 0 ≤ who := by omega
  have w1 : who < (ns.length : Int) := by omega
  have eV : symV (ns, ls, hs) who s t = (timesV hs s t).all (symAt (ns, ls, hs) who) := by
    unfold symV
    rw [decide_eq_true (by dsimp only; omega)]; rfl
  rw [eV]
  have allF : ∀ {x : Int}, x ∈ timesV hs s t → symAt (ns, ls, hs) who x = false → false = (timesV hs s t).all (symAt (ns, ls, hs) who) := fun hx h => by
    symm; rw [List.all_eq_false]; exact ⟨_, hx, by rw [h]; decide⟩
  refine ⟨w0, w1, by omega, by omega, hc, ⟨0, ⟨by omega, by omega, by simp⟩, (by repeat' first | exact trivial | refine ⟨trivial, ?_⟩ | refine ⟨(by with_reducible rfl), ?_⟩ | refine ⟨w64 (by omega) (by omega), ?_⟩ | refine ⟨rfl, ?_⟩)⟩, ?_⟩
  rintro j ⟨j0, j1, hJ⟩
  refine ifP_split (fun hj => ?_) (fun hj => ?_)
  rotate_left
  · have hj := of_decide_eq_false hj
    rw [List.take_of_length_le (by omega)] at hJ
    symm; rw [List.all_eq_true]; exact hJ
  have hj := of_decide_eq_true hj
  have hm := getD_mem j0 hj
  have nxt := fun h => all_next j0 hj hJ h (P := fun x => symAt (ns, ls, hs) who x = true)
  generalize (timesV hs s t).getD j.toNat default = a0 at hm nxt ⊢
  refine ⟨j0, hj, ⟨0, a0, ⟨rfl, by omega, by omega, fun k hk => by omega⟩, (by repeat' first | exact trivial | refine ⟨trivial, ?_⟩ | refine ⟨(by with_reducible rfl), ?_⟩ | refine ⟨w64 (by omega) (by omega), ?_⟩ | refine ⟨rfl, ?_⟩)⟩, ?_⟩
  rintro i a ⟨ea, i0, i1, hI⟩
  subst ea
  refine ifP_split (fun hi => ?_) (fun hi => ?_)
  rotate_left
  · have hi := of_decide_eq_false hi
    refine ⟨j + 1, ⟨by omega, by omega, nxt ?_⟩, by omega, (by repeat' first | exact trivial | refine ⟨trivial, ?_⟩ | refine ⟨(by with_reducible rfl), ?_⟩ | refine ⟨w64 (by omega) (by omega), ?_⟩ | refine ⟨rfl, ?_⟩)⟩
    unfold symAt
    rw [List.all_eq_true]
    intro k hk
    have hk := List.mem_range.1 hk
    dsimp only at hk
    exact hI k (by omega)
  have hi := of_decide_eq_true hi
  have ei : ((i.toNat : Nat) : Int) = i := by omega
  have inext : symU (ns, ls, hs) a who i.toNat = true → ∀ k : Nat, (k : Int) < i + 1 → symU (ns, ls, hs) a who k = true := fun h k hk => by
    by_cases e : (k : Int) < i
    · exact hI k e
    · have : k = i.toNat := by omega
      rw [this]; exact h
  refine ⟨i0, hi, ifP_split (fun h2 => ?_) (fun h2 => ?_)⟩
  · have h2 := of_decide_eq_true h2
    refine ⟨i + 1, a, ⟨rfl, by omega, by omega, inext ?_⟩, by omega, (by repeat' first | exact trivial | refine ⟨trivial, ?_⟩ | refine ⟨(by with_reducible rfl), ?_⟩ | refine ⟨w64 (by omega) (by omega), ?_⟩ | refine ⟨rfl, ?_⟩)⟩
    unfold symU
    rw [ei, decide_eq_true h2]; rfl
  have h2 := of_decide_eq_false h2
  have hpx := hp _ (getD_mem i0 hi)
  have eU : symU (ns, ls, hs) a who i.toNat = (adrs (ns.getD i.toNat default)).all (backV (ns, ls, hs) a who (homeA (ns, ls, hs) who)) := by
    unfold symU
    rw [ei, decide_eq_false h2]; rfl
  rw [eU] at inext
  have bad : (adrs (ns.getD i.toNat default)).all (backV (ns, ls, hs) a who (homeA (ns, ls, hs) who)) = false → symAt (ns, ls, hs) who a = false := fun h => by
    unfold symAt
    rw [List.all_eq_false]
    exact ⟨i.toNat, List.mem_range.2 (by dsimp only; omega), by rw [eU, h]; decide⟩
  rw [show (ns.getD i.toNat default).1 = nPorts (ns.getD i.toNat default) from rfl, show (ns.getD i.toNat default).2.1 = nLoop (ns.getD i.toNat default) from rfl]
  generalize ns.getD i.toNat default = X at hpx inext bad ⊢
  have hlen : (pAddrs X).length = (nPorts X).length := by simp [pAddrs]
  refine ⟨⟨0, [], ⟨by omega, by omega, rfl⟩, (by repeat' first | exact trivial | refine ⟨trivial, ?_⟩ | refine ⟨(by with_reducible rfl), ?_⟩ | refine ⟨w64 (by omega) (by omega), ?_⟩ | refine ⟨rfl, ?_⟩)⟩, ?_⟩
  rintro q l ⟨q0, q1, rfl⟩
  refine ifP_split (fun hq => ?_) (fun hq => ?_)
  · have hq := of_decide_eq_true hq
    refine ⟨q0, hq, by simp only [List.length_take, List.length_cons, List.length_nil]; omega, q + 1, _, ⟨by omega, by omega, rfl⟩, by omega, ?_⟩
    (repeat first | refine ⟨trivial, ?_⟩ | refine ⟨(by with_reducible rfl), ?_⟩ | refine ⟨w64 (by omega) (by omega), ?_⟩)
    refine ⟨?_, trivial⟩
    rw [take_step q0 (by rw [hlen]; exact hq)]
    unfold pAddrs
    rw [List.getD_eq_getElem?_getD, List.getD_eq_getElem?_getD, List.getElem?_map, List.getElem?_eq_getElem (by omega)]
    rfl
  have hq := of_decide_eq_false hq
  rw [List.take_of_length_le (by omega)]
  have fin : ∀ L : List Int, adrs X = L → ifP (L.any fun y => !backV (ns, ls, hs) a who (homeA (ns, ls, hs) who) y) (symAt (ns, ls, hs) who a = false) (∀ k : Nat, (k : Int) < i + 1 → symU (ns, ls, hs) a who k = true) := fun L hL => by
    have e := any_not (p := backV (ns, ls, hs) a who (homeA (ns, ls, hs) who)) (l := L)
    refine ifP_split (fun h => bad ?_) (fun h => inext ?_)
    · rw [hL, ← e, h]; rfl
    · rw [hL, ← e, h]; rfl
  refine ifP_split (fun h3 => ?_) (fun h3 => ?_)
  · have h3 := nd_t h3
    have f := fin _ (show adrs X = pAddrs X ++ [nLoop X] by unfold adrs; rw [if_neg h3])
    refine ⟨by simp only [List.length_cons, List.length_nil]; omega, W, w0, w1, ?_⟩
    have f := ifP_iff.1 f
    exact ifP_split (fun h => allF hm (f.1 h)) (fun h => ⟨i + 1, a, ⟨rfl, by omega, by omega, f.2 h⟩, by omega, (by repeat' first | exact trivial | refine ⟨trivial, ?_⟩ | refine ⟨(by with_reducible rfl), ?_⟩ | refine ⟨w64 (by omega) (by omega), ?_⟩ | refine ⟨rfl, ?_⟩)⟩)
  · have h3 := nd_f h3
    have f := fin _ (show adrs X = pAddrs X by unfold adrs; rw [if_pos h3, List.append_nil])
    have f := ifP_iff.1 f
    exact ⟨W, w0, w1, ifP_split (fun h => allF hm (f.1 h)) (fun h => ⟨i + 1, a, ⟨rfl, by omega, by omega, f.2 h⟩, by omega, (by repeat' first | exact trivial | refine ⟨trivial, ?_⟩ | refine ⟨(by with_reducible rfl), ?_⟩ | refine ⟨w64 (by omega) (by omega), ?_⟩ | refine ⟨rfl, ?_⟩)⟩)⟩
theorem ok_truth_symmetric : SpecOK Tryz.prog GL 58 ct_truth_symmetric.spec := Ct.okH _ Tryz.func58 (by kernel_rfl) (withSpec_ok (withSpec_ok noSpecs_ok ok_truth_span_times) ok_ContainsBack) hmix an_truth_symmetric (hideMp (by kernel_rfl) vc_truth_symmetric)
end Go.RS


/- Truth5: which assumptions hold. -/
namespace Go.RS
open Go.SX Go.Proofs
set_option maxRecDepth 100000
set_option linter.unusedVariables false

def bitOn (a i : Int) : Bool := decide (bits .and .i64 (shrI .i64 a i) 1 = 1)
def spanV (n : Net) (who s t : Int) : List Bool :=
  [!n.2.2.any (between s t), n.1.all pVis, n.1.all pUns, n.1.all pInc, (timesV n.2.2 s t).all (flowV n), symV n who s t, n.2.1.all pSte, n.2.1.all pLos, n.1.all pTal]
def bitsOK (a : Int) : Int → List Bool → Bool
  | _, [] => true
  | i, b :: r => (!bitOn a i || b) && bitsOK a (i + 1) r
def holdsV (n : Net) (a who s t : Int) : Bool := !(decide (a < 0) || decide (512 ≤ a) || decide (t < s)) && bitsOK a 0 (spanV n who s t)
theorem bits_bad {a i : Int} {b : Bool} {r : List Bool} (h1 : bitOn a i = true) (h2 : (!b) = true) : false = bitsOK a i (b :: r) := by
  rw [bitsOK, h1]; cases b
  · rfl
  · cases h2
theorem bits_go {a i j : Int} (hj : i + 1 = j) {b : Bool} {r : List Bool} (h : bitOn a i = false ∨ (!b) = false) : bitsOK a i (b :: r) = bitsOK a j r := by
  rw [bitsOK, hj]
  rcases h with h | h
  · rw [h]; rfl
  · cases b
    · cases h
    · rw [Bool.or_true, Bool.true_and]
def ct_truth_Holds : Ct := ⟨[.agg cNet, .val cI, .val cI, .val cI, .val cI], [.val .bool], fun d => [WN d.1, ∀ x ∈ d.1.1, (nPorts x).length ≤ 100000], fun d => ((holdsV d.1 d.2.1 d.2.2.1 d.2.2.2.1 d.2.2.2.2.1, ()), ())⟩
def an_truth_Holds : PDs ct_truth_Holds.ps → Anns := (fun d => { unr := fun n => match n with | 6 => 10 | _ => 0 })
theorem vc_truth_Holds : ∀ (x : List Node) (x1 : List Link) (x2 : List Change) (x3 x4 x5 x6 : Int), ((x.length <= maxLen /\ ∀ (x7 : Node), x7 ∈ x -> CT.wf cNode x7) /\ (x1.length <= maxLen /\ ∀ (x : Link), x ∈ x1 -> CT.wf cLink x) /\ x2.length <= maxLen /\ ∀ (x : Change), x ∈ x2 -> CT.wf cChange x) /\ R64 x3 /\ R64 x4 /\ R64 x5 /\ R64 x6 /\ True -> (WN (x, x1, x2) /\ ∀ (x7 : List (Int × Int) × Int × Int × Bool × List ((Int × Int) × List Int × Int) × Int × Int × Int × Int × Int × (Int × Int) × Bool × Bool × Int × Int), x7 ∈ x -> List.length (nPorts x7) <= (100000 : Nat)) -> ∀ (b : Bool), b = decide (x3 < 0) -> ((!b) -> ((!b) -> (!b)) /\ True) /\ (b = false -> (!b)) /\ ∀ (b1 : Bool), (b1 = bif b then true else decide (512 <= x3)) -> ((!b1) -> ((!b1) -> (!b1)) /\ ((!b1) -> (!b1)) /\ True) /\ (b1 = false -> (!b1)) /\ ifP (bif b1 then true else decide (x6 < x5)) (false = holdsV (x, x1, x2) x3
 x4 x5 x6) ((0 : Int) <= 0 /\ ∀ (b : Bool), b = decide (bits BinOp.and IntKind.i64 (shrI IntKind.i64 x3 (0 : Int)) (1 : Int) = 1) -> (b -> (b -> b) /\ (b -> b) /\ True) /\ (b -> (b -> b) /\ True) /\ (b -> b) /\ ifP (bif b then !!List.any x2 (between x5 x6) else false) (false = holdsV (x, x1, x2) x3 x4 x5 x6) (0 <= IntKind.wrap .i64 ((0 : Int) + (1 : Int)) /\ ∀ (b : Bool), b = decide (bits BinOp.and IntKind.i64 (shrI IntKind.i64 x3 (IntKind.wrap .i64 ((0 : Int) + (1 : Int)))) (1 : Int) = 1) -> (b -> (b -> b) /\ (b -> b) /\ True) /\ (b -> (b -> b) /\ True) /\ (b -> b) /\ ifP (bif b then !List.all x pVis else false) (false = holdsV (x, x1, x2) x3 x4 x5 x6) (0 <= IntKind.wrap .i64 (IntKind.wrap .i64 ((0 : Int) + (1 : Int)) + (1 : Int)) /\ ∀ (b : Bool), b = decide (bits BinOp.and IntKind.i64 (shrI IntKind.i64 x3 (IntKind.wrap .i64 (IntKind.wrap .i64 ((0 : Int) + (1 : Int)) + (1 : Int)))) (1 :
 Int) = 1) -> (b -> (b -> b) /\ (b -> b) /\ True) /\ (b -> (b -> b) /\ True) /\ (b -> b) /\ ifP (bif b then !List.all x pUns else false) (false = holdsV (x, x1, x2) x3 x4 x5 x6) (0 <= IntKind.wrap .i64 (IntKind.wrap .i64 (IntKind.wrap .i64 ((0 : Int) + (1 : Int)) + (1 : Int)) + (1 : Int)) /\ ∀ (b : Bool), b = decide (bits BinOp.and IntKind.i64 (shrI IntKind.i64 x3 (IntKind.wrap .i64 (IntKind.wrap .i64 (IntKind.wrap .i64 ((0 : Int) + (1 : Int)) + (1 : Int)) + (1 : Int)))) (1 : Int) = 1) -> (b -> (b -> b) /\ (b -> b) /\ True) /\ (b -> (b -> b) /\ True) /\ (b -> b) /\ ifP (bif b then !List.all x pInc else false) (false = holdsV (x, x1, x2) x3 x4 x5 x6) (0 <= IntKind.wrap .i64 (IntKind.wrap .i64 (IntKind.wrap .i64 (IntKind.wrap .i64 ((0 : Int) + (1 : Int)) + (1 : Int)) + (1 : Int)) + (1 : Int)) /\ ∀ (b : Bool), b = decide (bits BinOp.and IntKind.i64 (shrI IntKind.i64 x3 (IntKind.wrap .i64
 (IntKind.wrap .i64 (IntKind.wrap .i64 (IntKind.wrap .i64 ((0 : Int) + (1 : Int)) + (1 : Int)) + (1 : Int)) + (1 : Int)))) (1 : Int) = 1) -> (b -> (b -> b) /\ (b -> b) /\ okNet (x, x1, x2) /\ True) /\ (b -> (b -> b) /\ True) /\ (b -> b) /\ ifP (bif b then !List.all (timesV x2 x5 x6) (flowV (x, x1, x2)) else false) (false = holdsV (x, x1, x2) x3 x4 x5 x6) (0 <= IntKind.wrap .i64 (IntKind.wrap .i64 (IntKind.wrap .i64 (IntKind.wrap .i64 (IntKind.wrap .i64 ((0 : Int) + (1 : Int)) + (1 : Int)) + (1 : Int)) + (1 : Int)) + (1 : Int)) /\ ∀ (b : Bool), b = decide (bits BinOp.and IntKind.i64 (shrI IntKind.i64 x3 (IntKind.wrap .i64 (IntKind.wrap .i64 (IntKind.wrap .i64 (IntKind.wrap .i64 (IntKind.wrap .i64 ((0 : Int) + (1 : Int)) + (1 : Int)) + (1 : Int)) + (1 : Int)) + (1 : Int)))) (1 : Int) = 1) -> (b -> (b -> b) /\ (b -> b) /\ WN (x, x1, x2) /\ (∀ (x7 : List (Int × Int) × Int × Int × Bool × List
 ((Int × Int) × List Int × Int) × Int × Int × Int × Int × Int × (Int × Int) × Bool × Bool × Int × Int), x7 ∈ x -> List.length (nPorts x7) <= (100000 : Nat)) /\ True) /\ (b -> (b -> b) /\ True) /\ (b -> b) /\ ifP (bif b then !symV (x, x1, x2) x4 x5 x6 else false) (false = holdsV (x, x1, x2) x3 x4 x5 x6) (0 <= IntKind.wrap .i64 (IntKind.wrap .i64 (IntKind.wrap .i64 (IntKind.wrap .i64 (IntKind.wrap .i64 (IntKind.wrap .i64 ((0 : Int) + (1 : Int)) + (1 : Int)) + (1 : Int)) + (1 : Int)) + (1 : Int)) + (1 : Int)) /\ ∀ (b : Bool), b = decide (bits BinOp.and IntKind.i64 (shrI IntKind.i64 x3 (IntKind.wrap .i64 (IntKind.wrap .i64 (IntKind.wrap .i64 (IntKind.wrap .i64 (IntKind.wrap .i64 (IntKind.wrap .i64 ((0 : Int) + (1 : Int)) + (1 : Int)) + (1 : Int)) + (1 : Int)) + (1 : Int)) + (1 : Int)))) (1 : Int) = 1) -> (b -> (b -> b) /\ (b -> b) /\ True) /\ (b -> (b -> b) /\ True) /\ (b -> b) /\ ifP (bif b
 then !List.all x1 pSte else false) (false = holdsV (x, x1, x2) x3 x4 x5 x6) (0 <= IntKind.wrap .i64 (IntKind.wrap .i64 (IntKind.wrap .i64 (IntKind.wrap .i64 (IntKind.wrap .i64 (IntKind.wrap .i64 (IntKind.wrap .i64 ((0 : Int) + (1 : Int)) + (1 : Int)) + (1 : Int)) + (1 : Int)) + (1 : Int)) + (1 : Int)) + (1 : Int)) /\ ∀ (b : Bool), b = decide (bits BinOp.and IntKind.i64 (shrI IntKind.i64 x3 (IntKind.wrap .i64 (IntKind.wrap .i64 (IntKind.wrap .i64 (IntKind.wrap .i64 (IntKind.wrap .i64 (IntKind.wrap .i64 (IntKind.wrap .i64 ((0 : Int) + (1 : Int)) + (1 : Int)) + (1 : Int)) + (1 : Int)) + (1 : Int)) + (1 : Int)) + (1 : Int)))) (1 : Int) = 1) -> (b -> (b -> b) /\ (b -> b) /\ True) /\ (b -> (b -> b) /\ True) /\ (b -> b) /\ ifP (bif b then !List.all x1 pLos else false) (false = holdsV (x, x1, x2) x3 x4 x5 x6) (0 <= IntKind.wrap .i64 (IntKind.wrap .i64 (IntKind.wrap .i64 (IntKind.wrap .i64
 (IntKind.wrap .i64 (IntKind.wrap .i64 (IntKind.wrap .i64 (IntKind.wrap .i64 ((0 : Int) + (1 : Int)) + (1 : Int)) + (1 : Int)) + (1 : Int)) + (1 : Int)) + (1 : Int)) + (1 : Int)) + (1 : Int)) /\ ∀ (b : Bool), b = decide (bits BinOp.and IntKind.i64 (shrI IntKind.i64 x3 (IntKind.wrap .i64 (IntKind.wrap .i64 (IntKind.wrap .i64 (IntKind.wrap .i64 (IntKind.wrap .i64 (IntKind.wrap .i64 (IntKind.wrap .i64 (IntKind.wrap .i64 ((0 : Int) + (1 : Int)) + (1 : Int)) + (1 : Int)) + (1 : Int)) + (1 : Int)) + (1 : Int)) + (1 : Int)) + (1 : Int)))) (1 : Int) = 1) -> (b -> (b -> b) /\ (b -> b) /\ True) /\ (b -> (b -> b) /\ True) /\ (b -> b) /\ ifP (bif b then !List.all x pTal else false) (false = holdsV (x, x1, x2) x3 x4 x5 x6) (true = holdsV (x, x1, x2) x3 x4 x5 x6)))))))))) := by
  rintro ns ls hs a who s t - ⟨W, hp⟩
  simp only [show IntKind.wrap IntKind.i64 ((0 : Int) + 1) = 1 by decide, show IntKind.wrap IntKind.i64 ((1 : Int) + 1) = 2 by decide, show IntKind.wrap IntKind.i64 ((2 : Int) + 1) = 3 by decide, show IntKind.wrap IntKind.i64 ((3 : Int) + 1) = 4 by decide, show IntKind.wrap IntKind.i64 ((4 : Int) + 1) = 5 by decide, show IntKind.wrap IntKind.i64 ((5 : Int) + 1) = 6 by decide, show IntKind.wrap IntKind.i64 ((6 : Int) + 1) = 7 by decide, show IntKind.wrap IntKind.i64 ((7 : Int) + 1) = 8 by decide]
  intro b hb
  (repeat refine ⟨fun h_ => (by first | (simp; done) | (simp [h_]; done) | (simp_all; done)), ?_⟩)
  intro b1 hb1
  (repeat refine ⟨fun h_ => (by first | (simp; done) | (simp [h_]; done) | (simp_all; done)), ?_⟩)
  rw [hb1, hb]
  have tot : (bif (bif decide (a < 0) then true else decide (512 ≤ a)) then true else decide (t < s)) = (decide (a < 0) || decide (512 ≤ a) || decide (t < s)) := by
    cases decide (a < 0) <;> cases decide (512 ≤ a) <;> rfl
  rw [tot]
  refine ifP_split (fun h => ?_) (fun h => ?_)
  · unfold holdsV; rw [h]; rfl
  have e0 : holdsV (ns, ls, hs) a who s t = bitsOK a 0 (spanV (ns, ls, hs) who s t) := by unfold holdsV; rw [h]; rfl
  rw [e0]
  unfold spanV
  clear e0 h tot hb hb1
  refine ⟨by decide, ?_⟩
  intro c0 hc0
  have hc0 : c0 = bitOn a 0 := hc0
  (repeat refine ⟨fun h_ => (by first | ((repeat refine ⟨fun _ => h_, ?_⟩); first | exact ⟨W.o, trivial⟩ | exact ⟨W, hp, trivial⟩) | (simp; done) | (simp [h_]; done) | (simp_all; done)), ?_⟩)
  rw [hc0]
  refine ifP_and (fun h1 h2 => bits_bad h1 h2) (fun h => ?_)
  rw [bits_go (j := 1) rfl h]
  refine ⟨by decide, ?_⟩
  intro c1 hc1
  have hc1 : c1 = bitOn a 1 := hc1
  (repeat refine ⟨fun h_ => (by first | ((repeat refine ⟨fun _ => h_, ?_⟩); first | exact ⟨W.o, trivial⟩ | exact ⟨W, hp, trivial⟩) | (simp; done) | (simp [h_]; done) | (simp_all; done)), ?_⟩)
  rw [hc1]
  refine ifP_and (fun h1 h2 => bits_bad h1 h2) (fun h => ?_)
  rw [bits_go (j := 2) rfl h]
  refine ⟨by decide, ?_⟩
  intro c2 hc2
  have hc2 : c2 = bitOn a 2 := hc2
  (repeat refine ⟨fun h_ => (by first | ((repeat refine ⟨fun _ => h_, ?_⟩); first | exact ⟨W.o, trivial⟩ | exact ⟨W, hp, trivial⟩) | (simp; done) | (simp [h_]; done) | (simp_all; done)), ?_⟩)
  rw [hc2]
  refine ifP_and (fun h1 h2 => bits_bad h1 h2) (fun h => ?_)
  rw [bits_go (j := 3) rfl h]
  refine ⟨by decide, ?_⟩
  intro c3 hc3
  have hc3 : c3 = bitOn a 3 := hc3
  (repeat refine ⟨fun h_ => (by first | ((repeat refine ⟨fun _ => h_, ?_⟩); first | exact ⟨W.o, trivial⟩ | exact ⟨W, hp, trivial⟩) | (simp; done) | (simp [h_]; done) | (simp_all; done)), ?_⟩)
  rw [hc3]
  refine ifP_and (fun h1 h2 => bits_bad h1 h2) (fun h => ?_)
  rw [bits_go (j := 4) rfl h]
  refine ⟨by decide, ?_⟩
  intro c4 hc4
  have hc4 : c4 = bitOn a 4 := hc4
  (repeat refine ⟨fun h_ => (by first | ((repeat refine ⟨fun _ => h_, ?_⟩); first | exact ⟨W.o, trivial⟩ | exact ⟨W, hp, trivial⟩) | (simp; done) | (simp [h_]; done) | (simp_all; done)), ?_⟩)
  rw [hc4]
  refine ifP_and (fun h1 h2 => bits_bad h1 h2) (fun h => ?_)
  rw [bits_go (j := 5) rfl h]
  refine ⟨by decide, ?_⟩
  intro c5 hc5
  have hc5 : c5 = bitOn a 5 := hc5
  (repeat refine ⟨fun h_ => (by first | ((repeat refine ⟨fun _ => h_, ?_⟩); first | exact ⟨W.o, trivial⟩ | exact ⟨W, hp, trivial⟩) | (simp; done) | (simp [h_]; done) | (simp_all; done)), ?_⟩)
  rw [hc5]
  refine ifP_and (fun h1 h2 => bits_bad h1 h2) (fun h => ?_)
  rw [bits_go (j := 6) rfl h]
  refine ⟨by decide, ?_⟩
  intro c6 hc6
  have hc6 : c6 = bitOn a 6 := hc6
  (repeat refine ⟨fun h_ => (by first | ((repeat refine ⟨fun _ => h_, ?_⟩); first | exact ⟨W.o, trivial⟩ | exact ⟨W, hp, trivial⟩) | (simp; done) | (simp [h_]; done) | (simp_all; done)), ?_⟩)
  rw [hc6]
  refine ifP_and (fun h1 h2 => bits_bad h1 h2) (fun h => ?_)
  rw [bits_go (j := 7) rfl h]
  refine ⟨by decide, ?_⟩
  intro c7 hc7
  have hc7 : c7 = bitOn a 7 := hc7
  (repeat refine ⟨fun h_ => (by first | ((repeat refine ⟨fun _ => h_, ?_⟩); first | exact ⟨W.o, trivial⟩ | exact ⟨W, hp, trivial⟩) | (simp; done) | (simp [h_]; done) | (simp_all; done)), ?_⟩)
  rw [hc7]
  refine ifP_and (fun h1 h2 => bits_bad h1 h2) (fun h => ?_)
  rw [bits_go (j := 8) rfl h]
  refine ⟨by decide, ?_⟩
  intro c8 hc8
  have hc8 : c8 = bitOn a 8 := hc8
  (repeat refine ⟨fun h_ => (by first | ((repeat refine ⟨fun _ => h_, ?_⟩); first | exact ⟨W.o, trivial⟩ | exact ⟨W, hp, trivial⟩) | (simp; done) | (simp [h_]; done) | (simp_all; done)), ?_⟩)
  rw [hc8]
  refine ifP_and (fun h1 h2 => bits_bad h1 h2) (fun h => ?_)
  rw [bits_go (j := 9) rfl h]
  rfl
theorem ok_truth_Holds : SpecOK Tryz.prog GL 25 ct_truth_Holds.spec := Ct.okH _ Tryz.func25 (by kernel_rfl) (withConc_ok (withSpec_ok (withSpec_ok (withSpec_ok (withSpec_ok (withSpec_ok (withSpec_ok (withSpec_ok (withSpec_ok (withSpec_ok noSpecs_ok ok_truth_stable) ok_truth_visible) ok_truth_unspoofed) ok_truth_incoming) ok_truth_flowwise) ok_truth_symmetric) ok_truth_steady) ok_truth_lossless) ok_truth_talkative) (d := 36)) hmix an_truth_Holds (hideMp (by kernel_rfl) vc_truth_Holds)
end Go.RS


/- Truth6: where a way's packet expires, from where it is answered, how long it takes. -/
namespace Go.RS
open Go.SX Go.Proofs
set_option maxRecDepth 100000
set_option linter.unusedVariables false

def opqAt (n : Net) (w : Way) (i : Nat) : Bool := nOpaque (n.1.getD (w.1.getD i default).toNat default)
def seenC (n : Net) (w : Way) : Nat → Int
  | 0 => 0
  | i + 1 => seenC n w i + (if 1 ≤ i ∧ opqAt n w i = false then 1 else 0)
def stopE (n : Net) (w : Way) (ttl : Int) (i : Nat) : Bool := (decide (i + 1 = w.1.length) && decide (w.2.2 = 1)) || (!opqAt n w i && decide (seenC n w i + 1 = ttl))
def expI (n : Net) (w : Way) (ttl : Int) : Nat := (List.range (w.1.length - 1)).findIdx fun j => stopE n w ttl (j + 1)
def expB (n : Net) (w : Way) (ttl : Int) : Bool := decide (1 ≤ ttl ∧ ttl ≤ 255) && decide (expI n w ttl < w.1.length - 1)
def expV (n : Net) (w : Way) (ttl : Int) : Int := if expB n w ttl = true then (expI n w ttl : Int) + 1 else 0
def wayIn (n : Net) (w : Way) : Prop := ∀ x ∈ w.1, 0 ≤ x ∧ x < n.1.length
theorem seen_nonneg (n : Net) (w : Way) : ∀ i, 0 ≤ seenC n w i
  | 0 => Int.le_refl _
  | i + 1 => by
    have := seen_nonneg n w i
    rw [seenC]; split <;> omega
theorem exp_at {n : Net} {w : Way} {ttl i : Int} (t1 : 1 ≤ ttl) (t2 : ttl ≤ 255) (i1 : 1 ≤ i) (i2 : i < w.1.length) (hj : ∀ j : Nat, 1 ≤ j → (j : Int) < i → stopE n w ttl j = false) (hs : stopE n w ttl i.toNat = true) : i = expV n w ttl ∧ true = expB n w ttl := by
  have hl : i.toNat - 1 < (List.range (w.1.length - 1)).length := by rw [List.length_range]; omega
  have e : expI n w ttl = i.toNat - 1 := by
    unfold expI
    refine (List.findIdx_eq hl).2 ⟨?_, fun j hj' => ?_⟩
    · rw [List.getElem_range, show i.toNat - 1 + 1 = i.toNat by omega]; exact hs
    · rw [List.getElem_range]; exact hj (j + 1) (by omega) (by omega)
  have eB : expB n w ttl = true := by
    unfold expB
    rw [e, decide_eq_true ⟨t1, t2⟩, decide_eq_true (show i.toNat - 1 < w.1.length - 1 by omega)]; rfl
  refine ⟨?_, eB.symm⟩
  unfold expV
  rw [if_pos eB, e]; omega
theorem exp_none {n : Net} {w : Way} {ttl : Int} (h : ∀ j : Nat, 1 ≤ j → (j : Int) < w.1.length → stopE n w ttl j = false) : 0 = expV n w ttl ∧ false = expB n w ttl := by
  have e : expI n w ttl = (List.range (w.1.length - 1)).length := by
    unfold expI
    refine List.findIdx_eq_length_of_false fun j hj => ?_
    have := List.mem_range.1 hj
    exact h (j + 1) (by omega) (by omega)
  have eB : expB n w ttl = false := by
    unfold expB
    rw [e, List.length_range, decide_eq_false (Nat.lt_irrefl _), Bool.and_false]
  refine ⟨?_, eB.symm⟩
  unfold expV
  rw [if_neg (by rw [eB]; decide)]
theorem exp_range {n : Net} {w : Way} {ttl : Int} (h : ttl < 1 ∨ 255 < ttl) : 0 = expV n w ttl ∧ false = expB n w ttl := by
  have eB : expB n w ttl = false := by
    unfold expB
    rw [decide_eq_false (by omega), Bool.false_and]
  refine ⟨?_, eB.symm⟩
  unfold expV
  rw [if_neg (by rw [eB]; decide)]
theorem stop_end {n : Net} {w : Way} {ttl i : Int} (i0 : 0 ≤ i) (h : i = (w.1.length : Int) - 1 ∧ w.2.2 = 1) : stopE n w ttl i.toNat = true := by
  unfold stopE
  rw [decide_eq_true (show i.toNat + 1 = w.1.length by omega), decide_eq_true h.2]; rfl
theorem stop_seen {n : Net} {w : Way} {ttl : Int} {i : Nat} (ho : opqAt n w i = false) (h : seenC n w i + 1 = ttl) : stopE n w ttl i = true := by
  unfold stopE
  rw [ho, decide_eq_true h]; simp
theorem stop_not {n : Net} {w : Way} {ttl i : Int} (i0 : 0 ≤ i) (h : ¬ (i = (w.1.length : Int) - 1 ∧ w.2.2 = 1)) (k : opqAt n w i.toNat = true ∨ ¬ seenC n w i.toNat + 1 = ttl) : stopE n w ttl i.toNat = false := by
  unfold stopE
  rw [Bool.or_eq_false_iff, Bool.and_eq_false_iff, Bool.and_eq_false_iff, decide_eq_false_iff_not, decide_eq_false_iff_not, decide_eq_false_iff_not]
  refine ⟨?_, k.imp (fun h => by rw [h]; rfl) id⟩
  by_cases e : i.toNat + 1 = w.1.length
  · exact .inr fun h2 => h ⟨by omega, h2⟩
  · exact .inl e
theorem seen_next {n : Net} {w : Way} {i : Int} (i1 : 1 ≤ i) : seenC n w (i + 1).toNat = seenC n w i.toNat + (if opqAt n w i.toNat = false then 1 else 0) := by
  rw [show (i + 1).toNat = i.toNat + 1 by omega, seenC]
  by_cases h : opqAt n w i.toNat = false
  · rw [if_pos h, if_pos ⟨by omega, h⟩]
  · rw [if_neg h, if_neg fun k => h k.2]
theorem stops_next {n : Net} {w : Way} {ttl i : Int} (hj : ∀ j : Nat, 1 ≤ j → (j : Int) < i → stopE n w ttl j = false) (i1 : 1 ≤ i) (h : stopE n w ttl i.toNat = false) : ∀ j : Nat, 1 ≤ j → (j : Int) < i + 1 → stopE n w ttl j = false := fun j j1 j2 => by
  by_cases e : (j : Int) < i
  · exact hj j j1 e
  · rw [show j = i.toNat by omega]; exact h
def ct_truth_Expiry : Ct := ⟨[.agg cNet, .agg cWay, .val cI], [.val cI, .val .bool], fun d => [wayIn d.1 d.2.1], fun d => ((expV d.1 d.2.1 d.2.2.1, expB d.1 d.2.1 d.2.2.1, ()), ())⟩
def an_truth_Expiry : PDs ct_truth_Expiry.ps → Anns := (fun d => { loops := (fun n => match n with | 5 => some (fun S => { ι := Int × Int, qn := ⟨fun k_ => ∀ (i : Int) (t : Int), k_ (i, t), fun k_ h_ i => h_ i.1 i.2, fun k_ => ∃ (i : Int) (t : Int), k_ (i, t), fun k_ ⟨i, t, h_⟩ => ⟨_, h_⟩⟩, μ := fun i => (d.2.1.1.length - i.1).toNat, inv := fun i => 1 ≤ i.1 ∧ (i.1 = 1 ∨ i.1 ≤ d.2.1.1.length) ∧ i.2 = d.2.2.1 - seenC d.1 d.2.1 i.1.toNat ∧ 1 ≤ i.2 ∧ ∀ j : Nat, 1 ≤ j → (j : Int) < i.1 → stopE d.1 d.2.1 d.2.2.1 j = false, keep := [3, 4, 8], slots := fun i => [(2, .int .i64 i.2), (9, .int .i64 i.1)], keepN := [64, 80], names := fun i => [] }) | _ => none) })
theorem vc_truth_Expiry : ∀ (x : List Node) (x1 : List Link) (x2 : List Change) (x3 x4 : List Int) (x5 x6 : Int), ((x.length <= maxLen /\ ∀ (x7 : Node), x7 ∈ x -> CT.wf cNode x7) /\ (x1.length <= maxLen /\ ∀ (x : Link), x ∈ x1 -> CT.wf cLink x) /\ x2.length <= maxLen /\ ∀ (x : Change), x ∈ x2 -> CT.wf cChange x) /\ ((x3.length <= maxLen /\ ∀ (x : Int), x ∈ x3 -> R64 x) /\ (x4.length <= maxLen /\ ∀ (x : Int), x ∈ x4 -> R64 x) /\ R64 x5) /\ R64 x6 /\ True -> (∀ (x7 : Int), x7 ∈ x3 -> 0 <= x7 /\ x7 < (x.length : Int)) -> ∀ (b : Bool), b = decide (x6 < 1) -> ((!b) -> ((!b) -> (!b)) /\ True) /\ (b = false -> (!b)) /\ ifP (bif b then true else decide (255 < x6)) ((0 : Int) = expV (x, x1, x2) (x3, x4, x5) x6 /\ false = expB (x, x1, x2) (x3, x4, x5) x6) ((∃ (i : Int) (t : Int), (1 <= i /\ (i = 1 ∨ i <= (x3.length : Int)) /\ t = x6 - seenC (x, x1, x2) (x3, x4, x5) i.toNat /\ 1 <= t /\ ∀ (j : Nat),
 (1 : Nat) <= j -> (↑j : Int) < i -> stopE (x, x1, x2) (x3, x4, x5) x6 j = false) /\ x6 = t /\ IntKind.wrap .i64 ((x3.length : Int) - (1 : Int)) = IntKind.wrap .i64 ((x3.length : Int) - (1 : Int)) /\ (1 : Int) = i /\ x = x /\ x1 = x1 /\ x2 = x2 /\ x3 = x3 /\ x4 = x4 /\ x5 = x5 /\ True) /\ ∀ (i t : Int), (1 <= i /\ (i = 1 ∨ i <= (x3.length : Int)) /\ t = x6 - seenC (x, x1, x2) (x3, x4, x5) i.toNat /\ 1 <= t /\ ∀ (j : Nat), (1 : Nat) <= j -> (↑j : Int) < i -> stopE (x, x1, x2) (x3, x4, x5) x6 j = false) -> ifP (decide (i <= IntKind.wrap .i64 ((x3.length : Int) - (1 : Int)))) (∀ (b : Bool), b = decide (i = IntKind.wrap .i64 ((x3.length : Int) - (1 : Int))) -> (b -> (b -> b) /\ True) /\ (b -> (b -> b) /\ True) /\ (b -> b) /\ ifP (bif b then decide (x5 = 1) else false) (i = expV (x, x1, x2) (x3, x4, x5) x6 /\ true = expB (x, x1, x2) (x3, x4, x5) x6) (0 <= i /\ i < (x3.length : Int) /\ 0 <=
 x3.getD i.toNat default /\ x3.getD i.toNat default < (x.length : Int) /\ ifP (!(x.getD (Int.toNat (x3.getD i.toNat default)) default).2.2.2.2.2.2.2.2.2.2.2.2.1) (ifP (decide (IntKind.wrap .i64 (t - (1 : Int)) = 0)) (i = expV (x, x1, x2) (x3, x4, x5) x6 /\ true = expB (x, x1, x2) (x3, x4, x5) x6) (∃ (i_1 : Int) (t_1 : Int), (1 <= i_1 /\ (i_1 = 1 ∨ i_1 <= (x3.length : Int)) /\ t_1 = x6 - seenC (x, x1, x2) (x3, x4, x5) i_1.toNat /\ 1 <= t_1 /\ ∀ (j : Nat), (1 : Nat) <= j -> (↑j : Int) < i_1 -> stopE (x, x1, x2) (x3, x4, x5) x6 j = false) /\ Int.toNat ((x3.length : Int) - i_1) < Int.toNat ((x3.length : Int) - i) /\ IntKind.wrap .i64 (t - (1 : Int)) = t_1 /\ IntKind.wrap .i64 ((x3.length : Int) - (1 : Int)) = IntKind.wrap .i64 ((x3.length : Int) - (1 : Int)) /\ IntKind.wrap .i64 (i + (1 : Int)) = i_1 /\ x = x /\ x1 = x1 /\ x2 = x2 /\ x3 = x3 /\ x4 = x4 /\ x5 = x5 /\ True)) (ifP (decide (t =
 0)) (i = expV (x, x1, x2) (x3, x4, x5) x6 /\ true = expB (x, x1, x2) (x3, x4, x5) x6) (∃ (i_1 : Int) (t_1 : Int), (1 <= i_1 /\ (i_1 = 1 ∨ i_1 <= (x3.length : Int)) /\ t_1 = x6 - seenC (x, x1, x2) (x3, x4, x5) i_1.toNat /\ 1 <= t_1 /\ ∀ (j : Nat), (1 : Nat) <= j -> (↑j : Int) < i_1 -> stopE (x, x1, x2) (x3, x4, x5) x6 j = false) /\ Int.toNat ((x3.length : Int) - i_1) < Int.toNat ((x3.length : Int) - i) /\ t = t_1 /\ IntKind.wrap .i64 ((x3.length : Int) - (1 : Int)) = IntKind.wrap .i64 ((x3.length : Int) - (1 : Int)) /\ IntKind.wrap .i64 (i + (1 : Int)) = i_1 /\ x = x /\ x1 = x1 /\ x2 = x2 /\ x3 = x3 /\ x4 = x4 /\ x5 = x5 /\ True)))) ((0 : Int) = expV (x, x1, x2) (x3, x4, x5) x6 /\ false = expB (x, x1, x2) (x3, x4, x5) x6)) := by
  rintro ns ls hs u v e ttl ⟨-, ⟨⟨hu, -⟩, -⟩, -⟩ hw
  simp only [maxLen] at hu
  (repeat (intro (b_ : Bool) (hb_ : b_ = _); (repeat refine ⟨(by first | (simp; done) | (rw [hb_]; simp; done) | (rw [hb_]; simp; omega) | (rw [hb_]; simp; intros; omega) | (rw [hb_]; simp +contextual; done)), ?_⟩); subst hb_))
  rw [bor_d, w64 (n := (u.length : Int) - 1) (by omega) (by omega)]
  refine ifP_split (fun h => exp_range (of_decide_eq_true h)) (fun h => ?_)
  have h := of_decide_eq_false h
  refine ⟨⟨1, ttl, ⟨by omega, .inl rfl, by show ttl = ttl - seenC _ _ 1; rw [show seenC (ns, ls, hs) (u, v, e) 1 = 0 from rfl]; omega, by omega, fun j j1 j2 => by omega⟩, (by repeat' first | exact trivial | refine ⟨trivial, ?_⟩ | refine ⟨(by with_reducible rfl), ?_⟩ | refine ⟨w64 (by omega) (by omega), ?_⟩ | refine ⟨rfl, ?_⟩)⟩, ?_⟩
  rintro i t ⟨i1, i2, ht, t1, hj⟩
  have sn := seen_nonneg (ns, ls, hs) (u, v, e) i.toNat
  rw [w64 (n := t - 1) (by omega) (by omega)]
  refine ifP_split (fun hi => ?_) (fun hi => ?_)
  rotate_left
  · have hi := of_decide_eq_false hi
    exact exp_none fun j j1 j2 => hj j j1 (by dsimp only at j2; omega)
  have hi := of_decide_eq_true hi
  have sx := seen_next (n := (ns, ls, hs)) (w := (u, v, e)) i1
  (repeat (intro (b_ : Bool) (hb_ : b_ = _); (repeat refine ⟨(by first | (simp; done) | (rw [hb_]; simp; done) | (rw [hb_]; simp; omega) | (rw [hb_]; simp; intros; omega) | (rw [hb_]; simp +contextual; done)), ?_⟩); subst hb_))
  rw [band_d]
  refine ifP_split (fun h1 => ?_) (fun h1 => ?_)
  · have h1 := of_decide_eq_true h1
    exact exp_at (by omega) (by omega) i1 (by show i < (u.length : Int); omega) hj (stop_end (by omega) h1)
  have h1 := of_decide_eq_false h1
  have hr := hw _ (getD_mem (xs := u) (i := i) (by omega) (by omega))
  refine ⟨by omega, by omega, hr.1, hr.2, ?_⟩
  have eo : opqAt (ns, ls, hs) (u, v, e) i.toNat = (ns.getD (u.getD i.toNat default).toNat default).2.2.2.2.2.2.2.2.2.2.2.2.1 := rfl
  rw [← eo]
  refine ifP_split (fun h2 => ?_) (fun h2 => ?_)
  · have h2 : opqAt (ns, ls, hs) (u, v, e) i.toNat = false := by simpa using h2
    rw [if_pos h2] at sx
    refine ifP_split (fun h3 => ?_) (fun h3 => ?_)
    · have h3 := of_decide_eq_true h3
      exact exp_at (by omega) (by omega) i1 (by show i < (u.length : Int); omega) hj (stop_seen h2 (by omega))
    · have h3 := of_decide_eq_false h3
      refine ⟨i + 1, _, ⟨by omega, .inr (by omega), rfl, by omega, stops_next hj i1 (stop_not (by omega) h1 (.inr (by omega)))⟩, by omega, ?_⟩
      refine ⟨by omega, ?_⟩
      exact (by repeat' first | exact trivial | refine ⟨trivial, ?_⟩ | refine ⟨(by with_reducible rfl), ?_⟩ | refine ⟨w64 (by omega) (by omega), ?_⟩ | refine ⟨rfl, ?_⟩)
  · have h2 : opqAt (ns, ls, hs) (u, v, e) i.toNat = true := by simpa using h2
    rw [if_neg (by rw [h2]; decide)] at sx
    refine ifP_split (fun h3 => ?_) (fun h3 => ?_)
    · have := of_decide_eq_true h3; omega
    · refine ⟨i + 1, t, ⟨by omega, .inr (by omega), by omega, by omega, stops_next hj i1 (stop_not (by omega) h1 (.inl h2))⟩, by omega, (by repeat' first | exact trivial | refine ⟨trivial, ?_⟩ | refine ⟨(by with_reducible rfl), ?_⟩ | refine ⟨w64 (by omega) (by omega), ?_⟩ | refine ⟨rfl, ?_⟩)⟩
theorem ok_truth_Expiry : SpecOK Tryz.prog GL 12 ct_truth_Expiry.spec := Ct.okH _ Tryz.func12 (by kernel_rfl) noSpecs_ok hmix an_truth_Expiry (hideMp (by kernel_rfl) vc_truth_Expiry)
def portV (x : Node) (k : Int) : Int := if 0 ≤ portL x k then ((nPorts x).getD (portL x k).toNat default).1 else 0
def srcR (n : Net) (at' : Int) (w : Way) (i to : Int) : Rt := lookR (routesV n (w.1.getD i.toNat default) at') to
def srcOK (n : Net) (at' : Int) (w : Way) (i to : Int) : Bool :=
  if i < 1 ∨ (w.1.length : Int) ≤ i ∨ (w.2.1.length : Int) < i then false
  else if nSilent (n.1.getD (w.1.getD i.toNat default).toNat default) = true ∨ lookB (routesV n (w.1.getD i.toNat default) at') to = false ∨ (srcR n at' w i to).2.1.length = 0 then false
  else if nSource (n.1.getD (w.1.getD i.toNat default).toNat default) = 3 then true
  else if nSource (n.1.getD (w.1.getD i.toNat default).toNat default) = 4 then true
  else if nSource (n.1.getD (w.1.getD i.toNat default).toNat default) = 1 then decide (0 ≤ portL (n.1.getD (w.1.getD i.toNat default).toNat default) (w.2.1.getD (i - 1).toNat default))
  else if 1 < (srcR n at' w i to).2.1.length then false
  else decide (0 ≤ portL (n.1.getD (w.1.getD i.toNat default).toNat default) ((srcR n at' w i to).2.1.getD 0 default))
def srcV (n : Net) (at' : Int) (w : Way) (i to : Int) : Int :=
  if srcOK n at' w i to = false then 0
  else if nSource (n.1.getD (w.1.getD i.toNat default).toNat default) = 3 then nLoop (n.1.getD (w.1.getD i.toNat default).toNat default)
  else if nSource (n.1.getD (w.1.getD i.toNat default).toNat default) = 4 then nFixed (n.1.getD (w.1.getD i.toNat default).toNat default)
  else if nSource (n.1.getD (w.1.getD i.toNat default).toNat default) = 1 then portV (n.1.getD (w.1.getD i.toNat default).toNat default) (w.2.1.getD (i - 1).toNat default)
  else portV (n.1.getD (w.1.getD i.toNat default).toNat default) ((srcR n at' w i to).2.1.getD 0 default)
def ct_truth_Source_1 : Ct := ⟨[.val cI, .box 75 cNode], [.val cU32, .val .bool], fun d => [], fun d => ((portV d.2.1 d.1, decide (0 ≤ portL d.2.1 d.1), ()), (d.2.1, ()))⟩
def an_truth_Source_1 : PDs ct_truth_Source_1.ps → Anns := (fun _ => {})
theorem vc_truth_Source_1 : ∀ (x : Int) (d : List (Int × Int) × Int × Int × Bool × List ((Int × Int) × List Int × Int) × Int × Int × Int × Int × Int × (Int × Int) × Bool × Bool × Int × Int), R64 x /\ CT.wf cNode d /\ True -> True -> ifP (decide (portL d x < 0)) ((0 : Int) = portV d x /\ false = decide (0 <= portL d x) /\ d = d) (0 <= portL d x /\ portL d x < (d.1.length : Int) /\ (List.getD d.1 (Int.toNat (portL d x)) default).1 = portV d x /\ true = decide (0 <= portL d x) /\ d = d) := by
  rintro k d - -
  unfold portV
  refine ifP_split (fun h => ?_) (fun h => ?_)
  · have h := of_decide_eq_true h
    rw [if_neg (by omega), decide_eq_false (by omega)]; exact ⟨rfl, rfl, rfl⟩
  · have h := of_decide_eq_false h
    have hl : portL d k < (nPorts d).length := by
      unfold portL findP; split <;> omega
    rw [if_pos (by omega), decide_eq_true (by omega)]
    exact ⟨by omega, hl, rfl, rfl, rfl⟩
theorem ok_truth_Source_1 : SpecOK Tryz.prog GL 42 ct_truth_Source_1.spec := Ct.okH _ Tryz.func42 (by kernel_rfl) (withSpec_ok noSpecs_ok ok_node_PortOf) hmix an_truth_Source_1 (hideMp (by kernel_rfl) vc_truth_Source_1)
theorem src_none {n : Net} {at' : Int} {w : Way} {i to : Int} (h : srcOK n at' w i to = false) : 0 = srcV n at' w i to ∧ false = srcOK n at' w i to := by
  refine ⟨?_, h.symm⟩
  unfold srcV; rw [if_pos h]
def ct_truth_Source : Ct := ⟨[.agg cNet, .val cI, .agg cWay, .val cI, .val cU32], [.val cU32, .val .bool], fun d => [okNet d.1, wayIn d.1 d.2.2.1], fun d => ((srcV d.1 d.2.1 d.2.2.1 d.2.2.2.1 d.2.2.2.2.1, srcOK d.1 d.2.1 d.2.2.1 d.2.2.2.1 d.2.2.2.2.1, ()), ())⟩
def an_truth_Source : PDs ct_truth_Source.ps → Anns := (fun _ => {})
theorem vc_truth_Source : ∀ (x : List Node) (x1 : List Link) (x2 : List Change) (x3 : Int) (x4 x5 : List Int) (x6 x7 x8 : Int), ((x.length <= maxLen /\ ∀ (x9 : Node), x9 ∈ x -> CT.wf cNode x9) /\ (x1.length <= maxLen /\ ∀ (x : Link), x ∈ x1 -> CT.wf cLink x) /\ x2.length <= maxLen /\ ∀ (x : Change), x ∈ x2 -> CT.wf cChange x) /\ R64 x3 /\ ((x4.length <= maxLen /\ ∀ (x : Int), x ∈ x4 -> R64 x) /\ (x5.length <= maxLen /\ ∀ (x : Int), x ∈ x5 -> R64 x) /\ R64 x6) /\ R64 x7 /\ (0 <= x8 /\ x8 <= 4294967295) /\ True -> (okNet (x, x1, x2) /\ ∀ (x9 : Int), x9 ∈ x4 -> 0 <= x9 /\ x9 < (x.length : Int)) -> ∀ (b : Bool), b = decide (x7 < 1) -> ((!b) -> ((!b) -> (!b)) /\ True) /\ ((!b) -> ((!b) -> (!b)) /\ True) /\ ((!b) -> ((!b) -> (!b)) /\ ((!b) -> (!b)) /\ True) /\ (b = false -> (!b)) /\ ∀ (b1 : Bool), (b1 = bif b then true else decide ((x4.length : Int) <= x7)) -> ((!b1) -> ((!b1) -> (!b1)) /\
 True) /\ ((!b1) -> ((!b1) -> (!b1)) /\ True) /\ ((!b1) -> ((!b1) -> (!b1)) /\ ((!b1) -> (!b1)) /\ True) /\ (b1 = false -> (!b1)) /\ ifP (bif b1 then true else decide ((x5.length : Int) < x7)) ((0 : Int) = srcV (x, x1, x2) x3 (x4, x5, x6) x7 x8 /\ false = srcOK (x, x1, x2) x3 (x4, x5, x6) x7 x8) (0 <= x7 /\ x7 < (x4.length : Int) /\ 0 <= x4.getD x7.toNat default /\ x4.getD x7.toNat default < (x.length : Int) /\ 0 <= x7 /\ x7 < (x4.length : Int) /\ okNet (x, x1, x2) /\ sortedR (routesV (x, x1, x2) (x4.getD x7.toNat default) x3) /\ okL (routesV (x, x1, x2) (x4.getD x7.toNat default) x3) /\ ∀ (b : Bool), b = (x.getD (Int.toNat (x4.getD x7.toNat default)) default).2.2.2.2.2.2.2.2.2.2.2.1 -> ((!b) -> ((!b) -> (!b)) /\ True) /\ (b = false -> (!b)) /\ ∀ (b2 : Bool), (b2 = bif b then true else !lookB (routesV (x, x1, x2) (x4.getD x7.toNat default) x3) x8) -> ((!b2) -> ((!b2) -> (!b2)) /\ True) /\
 ((!b2) -> ((!b2) -> (!b2)) /\ True) /\ ((!b2) -> ((!b2) -> (!b2)) /\ True) /\ (b2 = false -> (!b2)) /\ ifP (bif b2 then true else decide (((List.length (lookR (routesV (x, x1, x2) (x4.getD x7.toNat default) x3) x8).2.1) : Int) = 0)) ((0 : Int) = srcV (x, x1, x2) x3 (x4, x5, x6) x7 x8 /\ false = srcOK (x, x1, x2) x3 (x4, x5, x6) x7 x8) (ifP (decide ((x.getD (Int.toNat (x4.getD x7.toNat default)) default).2.2.2.2.2.1 = 3)) ((x.getD (Int.toNat (x4.getD x7.toNat default)) default).2.1 = srcV (x, x1, x2) x3 (x4, x5, x6) x7 x8 /\ true = srcOK (x, x1, x2) x3 (x4, x5, x6) x7 x8) (ifP (decide ((x.getD (Int.toNat (x4.getD x7.toNat default)) default).2.2.2.2.2.1 = 4)) ((x.getD (Int.toNat (x4.getD x7.toNat default)) default).2.2.2.2.2.2.1 = srcV (x, x1, x2) x3 (x4, x5, x6) x7 x8 /\ true = srcOK (x, x1, x2) x3 (x4, x5, x6) x7 x8) (ifP (decide ((x.getD (Int.toNat (x4.getD x7.toNat default))
 default).2.2.2.2.2.1 = 1)) (0 <= IntKind.wrap .i64 (x7 - (1 : Int)) /\ IntKind.wrap .i64 (x7 - (1 : Int)) < (x5.length : Int) /\ portV (x.getD (Int.toNat (x4.getD x7.toNat default)) default) (x5.getD (Int.toNat (IntKind.wrap .i64 (x7 - (1 : Int)))) default) = srcV (x, x1, x2) x3 (x4, x5, x6) x7 x8 /\ decide (0 <= portL (x.getD (Int.toNat (x4.getD x7.toNat default)) default) (x5.getD (Int.toNat (IntKind.wrap .i64 (x7 - (1 : Int)))) default)) = srcOK (x, x1, x2) x3 (x4, x5, x6) x7 x8) (ifP (decide (1 < ((List.length (lookR (routesV (x, x1, x2) (x4.getD x7.toNat default) x3) x8).2.1) : Int))) ((0 : Int) = srcV (x, x1, x2) x3 (x4, x5, x6) x7 x8 /\ false = srcOK (x, x1, x2) x3 (x4, x5, x6) x7 x8) ((0 : Int) <= 0 /\ 0 < ((List.length (lookR (routesV (x, x1, x2) (x4.getD x7.toNat default) x3) x8).2.1) : Int) /\ portV (x.getD (Int.toNat (x4.getD x7.toNat default)) default) (List.getD (lookR
 (routesV (x, x1, x2) (x4.getD x7.toNat default) x3) x8).2.1 (Int.toNat (0 : Int)) default) = srcV (x, x1, x2) x3 (x4, x5, x6) x7 x8 /\ decide (0 <= portL (x.getD (Int.toNat (x4.getD x7.toNat default)) default) (List.getD (lookR (routesV (x, x1, x2) (x4.getD x7.toNat default) x3) x8).2.1 (Int.toNat (0 : Int)) default)) = srcOK (x, x1, x2) x3 (x4, x5, x6) x7 x8)))))) := by
  rintro ns ls hs at' u v e i to ⟨-, ⟨i0, i1⟩, ⟨⟨hu, -⟩, ⟨hv, -⟩, -⟩, -⟩ ⟨ok, hw⟩
  simp only [maxLen] at hu hv
  (repeat (intro (b_ : Bool) (hb_ : b_ = _); (repeat refine ⟨(by first | (simp; done) | (rw [hb_]; simp; done) | (rw [hb_]; simp; omega) | (rw [hb_]; simp; intros; omega) | (rw [hb_]; simp +contextual; done)), ?_⟩); subst hb_))
  rw [bor_d, bor_d]
  have out : (i < 1 ∨ (u.length : Int) ≤ i) ∨ (v.length : Int) < i → srcOK (ns, ls, hs) at' (u, v, e) i to = false := fun h => by
    unfold srcOK; rw [if_pos (by dsimp only; omega)]
  refine ifP_split (fun h => src_none (out (of_decide_eq_true h))) (fun h => ?_)
  clear out
  have h := of_decide_eq_false h
  have hr := hw _ (getD_mem (xs := u) (i := i) (by omega) (by omega))
  have tb := routesV_ok ok (u.getD i.toNat default) at'
  rw [w64 (n := i - 1) (by omega) (by omega)]
  have eK : srcOK (ns, ls, hs) at' (u, v, e) i to = (if nSilent (ns.getD (u.getD i.toNat default).toNat default) = true ∨ lookB (routesV (ns, ls, hs) (u.getD i.toNat default) at') to = false ∨ (lookR (routesV (ns, ls, hs) (u.getD i.toNat default) at') to).2.1.length = 0 then false
    else if nSource (ns.getD (u.getD i.toNat default).toNat default) = 3 then true
    else if nSource (ns.getD (u.getD i.toNat default).toNat default) = 4 then true
    else if nSource (ns.getD (u.getD i.toNat default).toNat default) = 1 then decide (0 ≤ portL (ns.getD (u.getD i.toNat default).toNat default) (v.getD (i - 1).toNat default))
    else if 1 < (lookR (routesV (ns, ls, hs) (u.getD i.toNat default) at') to).2.1.length then false
    else decide (0 ≤ portL (ns.getD (u.getD i.toNat default).toNat default) ((lookR (routesV (ns, ls, hs) (u.getD i.toNat default) at') to).2.1.getD 0 default))) := by
    unfold srcOK srcR; rw [if_neg (by dsimp only; omega)]
  have eV : srcV (ns, ls, hs) at' (u, v, e) i to = (if srcOK (ns, ls, hs) at' (u, v, e) i to = false then 0
    else if nSource (ns.getD (u.getD i.toNat default).toNat default) = 3 then nLoop (ns.getD (u.getD i.toNat default).toNat default)
    else if nSource (ns.getD (u.getD i.toNat default).toNat default) = 4 then nFixed (ns.getD (u.getD i.toNat default).toNat default)
    else if nSource (ns.getD (u.getD i.toNat default).toNat default) = 1 then portV (ns.getD (u.getD i.toNat default).toNat default) (v.getD (i - 1).toNat default)
    else portV (ns.getD (u.getD i.toNat default).toNat default) ((lookR (routesV (ns, ls, hs) (u.getD i.toNat default) at') to).2.1.getD 0 default)) := rfl
  refine ⟨by omega, by omega, hr.1, hr.2, by omega, by omega, ok, tb.s, tb.okL (by decide), ?_⟩
  rw [eV]
  generalize srcOK (ns, ls, hs) at' (u, v, e) i to = K at eK ⊢
  generalize lookB (routesV (ns, ls, hs) (u.getD i.toNat default) at') to = lb at *
  generalize lookR (routesV (ns, ls, hs) (u.getD i.toNat default) at') to = r at *
  generalize ns.getD (u.getD i.toNat default).toNat default = X at *
  intro b hb
  (repeat refine ⟨fun h_ => (by first | (simp; done) | (simp [h_]; done) | (simp_all; done)), ?_⟩)
  intro b2 hb2
  (repeat refine ⟨fun h_ => (by first | (simp; done) | (simp [h_]; done) | (simp_all; done)), ?_⟩)
  have tot : (bif b2 then true else decide ((r.2.1.length : Int) = 0)) = decide (nSilent X = true ∨ lb = false ∨ r.2.1.length = 0) := by
    rw [hb2, hb, show X.2.2.2.2.2.2.2.2.2.2.2.1 = nSilent X from rfl]
    cases nSilent X <;> cases lb <;> by_cases hz : r.2.1.length = 0 <;> simp [hz]
  rw [tot]
  refine ifP_split (fun h1 => ?_) (fun h1 => ?_)
  · rw [if_pos (of_decide_eq_true h1)] at eK
    rw [eK, if_pos rfl]; exact ⟨rfl, rfl⟩
  have h1 := of_decide_eq_false h1
  rw [if_neg h1] at eK
  have hlen : 0 < r.2.1.length := by
    have : ¬ r.2.1.length = 0 := fun k => h1 (.inr (.inr k))
    omega
  refine ifP_split (fun h2 => ?_) (fun h2 => ?_)
  · rw [if_pos (show nSource X = 3 from of_decide_eq_true h2)] at eK
    rw [eK, if_neg (by decide), if_pos (show nSource X = 3 from of_decide_eq_true h2)]; exact ⟨rfl, rfl⟩
  have h2 : ¬ nSource X = 3 := of_decide_eq_false h2
  rw [if_neg h2] at eK ⊢
  refine ifP_split (fun h3 => ?_) (fun h3 => ?_)
  · rw [if_pos (show nSource X = 4 from of_decide_eq_true h3)] at eK
    rw [eK, if_neg (by decide), if_pos (show nSource X = 4 from of_decide_eq_true h3)]; exact ⟨rfl, rfl⟩
  have h3 : ¬ nSource X = 4 := of_decide_eq_false h3
  rw [if_neg h3] at eK ⊢
  have pv : ∀ k, portL X k < 0 → portV X k = 0 := fun k hk => by unfold portV; rw [if_neg (by omega)]
  refine ifP_split (fun h4 => ?_) (fun h4 => ?_)
  · have h4 : nSource X = 1 := of_decide_eq_true h4
    rw [if_pos h4] at eK ⊢
    refine ⟨by omega, by omega, ?_, eK.symm⟩
    split
    · rename_i q
      rw [eK] at q
      exact pv _ (by have := of_decide_eq_false q; omega)
    · rfl
  have h4 : ¬ nSource X = 1 := of_decide_eq_false h4
  rw [if_neg h4] at eK ⊢
  refine ifP_split (fun h5 => ?_) (fun h5 => ?_)
  · rw [if_pos (show 1 < r.2.1.length by have := of_decide_eq_true h5; omega)] at eK
    rw [eK, if_pos rfl]; exact ⟨rfl, rfl⟩
  · rw [if_neg (show ¬ 1 < r.2.1.length by have := of_decide_eq_false h5; omega)] at eK
    refine ⟨by omega, by omega, ?_, eK.symm⟩
    split
    · rename_i q
      rw [eK] at q
      exact pv _ (by have := of_decide_eq_false q; rw [show Int.toNat (0 : Int) = 0 from rfl]; omega)
    · rfl
theorem ok_truth_Source : SpecOK Tryz.prog GL 14 ct_truth_Source.spec := Ct.okH _ Tryz.func14 (by kernel_rfl) (withSpec_ok (withSpec_ok (withSpec_ok (withSpec_ok noSpecs_ok ok_topology_Routes) ok_fib_Lookup) ok_truth_several) ok_truth_Source_1) hmix an_truth_Source (hideMp (by kernel_rfl) vc_truth_Source)
def sumD (n : Net) (l : List Int) : Int := l.foldl (fun s k => s + lDelay (n.2.1.getD k.toNat default)) 0
def sumH (n : Net) (l : List Int) : Int := l.foldl (fun s k => s + (lDelay (n.2.1.getD k.toNat default) + lJitter (n.2.1.getD k.toNat default))) 0
structure okD2 (n : Net) (l : List Int) : Prop where
  len : l.length ≤ 1000
  k : ∀ k ∈ l, 0 ≤ k ∧ k < n.2.1.length
  d : ∀ x ∈ n.2.1, (0 ≤ lDelay x ∧ lDelay x ≤ 1000) ∧ 0 ≤ lJitter x ∧ lJitter x ≤ 1000
theorem sum_bound {n : Net} : ∀ (l : List Int), (∀ k ∈ l, 0 ≤ k ∧ k < n.2.1.length) → (∀ x ∈ n.2.1, (0 ≤ lDelay x ∧ lDelay x ≤ 1000) ∧ 0 ≤ lJitter x ∧ lJitter x ≤ 1000) → ∀ k : Nat, k ≤ l.length → (0 ≤ sumD n (l.take k) ∧ sumD n (l.take k) ≤ 1000 * k) ∧ 0 ≤ sumH n (l.take k) ∧ sumH n (l.take k) ≤ 2000 * k := by
  intro l hk hd k
  induction k with
  | zero => intro _; exact ⟨⟨Int.le_refl _, Int.le_refl _⟩, Int.le_refl _, Int.le_refl _⟩
  | succ k ih =>
    intro h
    have ih := ih (by omega)
    have e : l.take (k + 1) = l.take k ++ [l.getD k default] := by
      have := take_step (l := l) (k := (k : Int)) (by omega) (by omega)
      rw [show ((k : Int) + 1).toNat = k + 1 by omega, Int.toNat_natCast] at this; exact this
    have hm := hk _ (getD_memN (xs := l) (i := k) (by omega))
    have hx := hd _ (getD_mem hm.1 hm.2)
    unfold sumD sumH at ih ⊢
    rw [e, List.foldl_append, List.foldl_append]
    simp only [List.foldl_cons, List.foldl_nil]
    omega
def ct_truth_Delay : Ct := ⟨[.agg cNet, .val (.sl cI)], [.val cI, .val cI], fun d => [okD2 d.1 d.2.1], fun d => ((sumD d.1 d.2.1, sumH d.1 d.2.1, ()), ())⟩
def an_truth_Delay : PDs ct_truth_Delay.ps → Anns := (fun d => { loops := (fun n => match n with | 2 => some (fun S => { ι := Int × Int × Int, qn := ⟨fun k_ => ∀ (j : Int) (a : Int) (b : Int), k_ (j, a, b), fun k_ h_ i => h_ i.1 i.2.1 i.2.2, fun k_ => ∃ (j : Int) (a : Int) (b : Int), k_ (j, a, b), fun k_ ⟨j, a, b, h_⟩ => ⟨_, h_⟩⟩, μ := fun i => (d.2.1.length - i.1).toNat, inv := fun i => 0 ≤ i.1 ∧ i.1 ≤ d.2.1.length ∧ i.2.1 = sumD d.1 (d.2.1.take i.1.toNat) ∧ i.2.2 = sumH d.1 (d.2.1.take i.1.toNat), keep := [2, 8, 9], slots := fun i => [(4, .int .i64 i.2.1), (5, .int .i64 i.2.2), (10, .int .i64 i.1)], keepN := [48], names := fun i => [] }) | _ => none) })
theorem vc_truth_Delay : ∀ (x : List Node) (x1 : List Link) (x2 : List Change) (x3 : List Int), ((x.length <= maxLen /\ ∀ (x4 : Node), x4 ∈ x -> CT.wf cNode x4) /\ (x1.length <= maxLen /\ ∀ (x : Link), x ∈ x1 -> CT.wf cLink x) /\ x2.length <= maxLen /\ ∀ (x : Change), x ∈ x2 -> CT.wf cChange x) /\ (x3.length <= maxLen /\ ∀ (x : Int), x ∈ x3 -> R64 x) /\ True -> okD2 (x, x1, x2) x3 -> (∃ (j : Int) (a : Int), ∃ (b : Int), (0 <= j /\ j <= (x3.length : Int) /\ a = sumD (x, x1, x2) (List.take j.toNat x3) /\ b = sumH (x, x1, x2) (List.take j.toNat x3)) /\ (0 : Int) = a /\ (0 : Int) = b /\ x3 = x3 /\ (x3.length : Int) = (x3.length : Int) /\ (0 : Int) = j /\ x = x /\ x1 = x1 /\ x2 = x2 /\ True) /\ ∀ (j a b : Int), 0 <= j /\ j <= (x3.length : Int) /\ a = sumD (x, x1, x2) (List.take j.toNat x3) /\ b = sumH (x, x1, x2) (List.take j.toNat x3) -> ifP (decide (j < (x3.length : Int))) (0 <= j /\ j <
 (x3.length : Int) /\ ∀ (b1 : Bool), b1 = decide (0 <= x3.getD j.toNat default) -> (b1 -> (b1 -> b1) /\ True) /\ (b1 -> (b1 -> b1) /\ True) /\ (b1 -> (b1 -> b1) /\ (b1 -> b1) /\ True) /\ (b1 -> b1) /\ ifP (bif b1 then decide (x3.getD j.toNat default < (x1.length : Int)) else false) (0 <= x3.getD j.toNat default /\ x3.getD j.toNat default < (x1.length : Int) /\ 0 <= x3.getD j.toNat default /\ x3.getD j.toNat default < (x1.length : Int) /\ 0 <= x3.getD j.toNat default /\ x3.getD j.toNat default < (x1.length : Int) /\ ∃ (j_1 : Int) (a_3 : Int), ∃ (b2 : Int), (0 <= j_1 /\ j_1 <= (x3.length : Int) /\ a_3 = sumD (x, x1, x2) (List.take j_1.toNat x3) /\ b2 = sumH (x, x1, x2) (List.take j_1.toNat x3)) /\ Int.toNat ((x3.length : Int) - j_1) < Int.toNat ((x3.length : Int) - j) /\ IntKind.wrap .i64 (a + (x1.getD (Int.toNat (x3.getD j.toNat default)) default).2.2.1) = a_3 /\ IntKind.wrap .i64 (b +
 IntKind.wrap .i64 ((x1.getD (Int.toNat (x3.getD j.toNat default)) default).2.2.1 + (x1.getD (Int.toNat (x3.getD j.toNat default)) default).2.2.2.1)) = b2 /\ x3 = x3 /\ (x3.length : Int) = (x3.length : Int) /\ IntKind.wrap .i64 (j + (1 : Int)) = j_1 /\ x = x /\ x1 = x1 /\ x2 = x2 /\ True) (∃ (j_1 : Int) (a_3 : Int), ∃ (b2 : Int), (0 <= j_1 /\ j_1 <= (x3.length : Int) /\ a_3 = sumD (x, x1, x2) (List.take j_1.toNat x3) /\ b2 = sumH (x, x1, x2) (List.take j_1.toNat x3)) /\ Int.toNat ((x3.length : Int) - j_1) < Int.toNat ((x3.length : Int) - j) /\ a = a_3 /\ b = b2 /\ x3 = x3 /\ (x3.length : Int) = (x3.length : Int) /\ IntKind.wrap .i64 (j + (1 : Int)) = j_1 /\ x = x /\ x1 = x1 /\ x2 = x2 /\ True)) (a = sumD (x, x1, x2) x3 /\ b = sumH (x, x1, x2) x3) := by
  rintro ns ls hs l - ⟨hn, hk, hd⟩
  refine ⟨⟨0, 0, 0, ⟨by omega, by omega, rfl, rfl⟩, (by repeat' first | exact trivial | refine ⟨trivial, ?_⟩ | refine ⟨(by with_reducible rfl), ?_⟩ | refine ⟨w64 (by omega) (by omega), ?_⟩ | refine ⟨rfl, ?_⟩)⟩, ?_⟩
  rintro j a b ⟨j0, j1, ea, eb⟩
  have B := sum_bound (n := (ns, ls, hs)) l hk hd j.toNat (by omega)
  rw [← ea, ← eb] at B
  refine ifP_split (fun hj => ?_) (fun hj => ?_)
  rotate_left
  · have hj := of_decide_eq_false hj
    rw [List.take_of_length_le (by omega)] at ea eb
    exact ⟨ea, eb⟩
  have hj := of_decide_eq_true hj
  have km := hk _ (getD_mem j0 hj)
  dsimp only at km
  have hx := hd _ (getD_mem (xs := ls) km.1 km.2)
  have st := take_step (l := l) j0 hj
  have e1 : sumD (ns, ls, hs) (l.take (j + 1).toNat) = a + lDelay (ls.getD (l.getD j.toNat default).toNat default) := by
    rw [st, ea]; unfold sumD; rw [List.foldl_append]; rfl
  have e2 : sumH (ns, ls, hs) (l.take (j + 1).toNat) = b + (lDelay (ls.getD (l.getD j.toNat default).toNat default) + lJitter (ls.getD (l.getD j.toNat default).toNat default)) := by
    rw [st, eb]; unfold sumH; rw [List.foldl_append]; rfl
  refine ⟨j0, hj, ?_⟩
  intro b1 hb1
  (repeat refine ⟨fun h_ => (by first | (simp; done) | (simp [h_]; done) | (simp_all; done)), ?_⟩)
  rw [hb1, band_d]
  refine ifP_split (fun h => ?_) (fun h => absurd km (of_decide_eq_false h))
  rw [show (ls.getD (l.getD j.toNat default).toNat default).2.2.1 = lDelay (ls.getD (l.getD j.toNat default).toNat default) from rfl, show (ls.getD (l.getD j.toNat default).toNat default).2.2.2.1 = lJitter (ls.getD (l.getD j.toNat default).toNat default) from rfl]
  generalize lDelay (ls.getD (l.getD j.toNat default).toNat default) = x at *
  generalize lJitter (ls.getD (l.getD j.toNat default).toNat default) = y at *
  rw [w64 (n := a + x) (by omega) (by omega), w64 (n := x + y) (by omega) (by omega), w64 (n := b + (x + y)) (by omega) (by omega)]
  exact ⟨km.1, km.2, km.1, km.2, km.1, km.2, j + 1, _, _, ⟨by omega, by omega, e1.symm, e2.symm⟩, by omega, (by repeat' first | exact trivial | refine ⟨trivial, ?_⟩ | refine ⟨(by with_reducible rfl), ?_⟩ | refine ⟨w64 (by omega) (by omega), ?_⟩ | refine ⟨rfl, ?_⟩)⟩
theorem ok_truth_Delay : SpecOK Tryz.prog GL 16 ct_truth_Delay.spec := Ct.okH _ Tryz.func16 (by kernel_rfl) noSpecs_ok hmix an_truth_Delay (hideMp (by kernel_rfl) vc_truth_Delay)
end Go.RS


/- Netr: routes of drawn networks: what holds of them at any time. -/
namespace Go.RS
open Go.SX Go.Proofs
set_option maxRecDepth 100000
set_option linter.unusedVariables false

theorem nodup_len {α : Type} [DecidableEq α] : ∀ {l m : List α}, l.Nodup → (∀ x ∈ l, x ∈ m) → l.length ≤ m.length
  | [], m, _, _ => by simp
  | x :: l, m, h, hs => by
    have hx := hs x List.mem_cons_self
    have hn := List.nodup_cons.1 h
    have := nodup_len (l := l) (m := m.erase x) hn.2 fun y hy => (List.mem_erase_of_ne (fun e : y = x => hn.1 (e ▸ hy))).2 (hs y (List.mem_cons_of_mem _ hy))
    rw [List.length_erase_of_mem hx] at this
    have hp := List.length_pos_of_mem hx
    rw [List.length_cons]; omega
theorem foldl_inv {α β : Type} (I : β → Prop) (f : β → α → β) : ∀ {l : List α} {b : β}, I b → (∀ x ∈ l, ∀ b, I b → I (f b x)) → I (l.foldl f b)
  | [], b, h, _ => h
  | x :: l, b, h, hf => foldl_inv I f (l := l) (hf x List.mem_cons_self b h) fun y hy => hf y (List.mem_cons_of_mem _ hy)
theorem mem_insN {k x : Int} : ∀ {l : List Int}, x ∈ insN k l → x = k ∨ x ∈ l
  | [], h => by simp [insN] at h; exact .inl h
  | y :: r, h => by
    rw [insN] at h
    split at h
    · rcases List.mem_cons.1 h with e | h
      · exact .inl e
      · exact .inr h
    · rcases List.mem_cons.1 h with e | h
      · exact .inr (e ▸ List.mem_cons_self)
      · rcases mem_insN h with e | h
        · exact .inl e
        · exact .inr (List.mem_cons_of_mem _ h)
theorem insN_pw {k : Int} : ∀ {l : List Int}, l.Pairwise (· < ·) → k ∉ l → (insN k l).Pairwise (· < ·)
  | [], _, _ => by rw [insN]; exact List.pairwise_singleton _ _
  | y :: r, h, hk => by
    have h := List.pairwise_cons.1 h
    rw [insN]
    split
    · rename_i hy
      refine List.pairwise_cons.2 ⟨fun z hz => ?_, List.pairwise_cons.2 h⟩
      rcases List.mem_cons.1 hz with rfl | hz
      · exact hy
      · exact Int.lt_trans hy (h.1 z hz)
    · rename_i hy
      have : k ≠ y := fun e => hk (e ▸ List.mem_cons_self)
      refine List.pairwise_cons.2 ⟨fun z hz => ?_, insN_pw h.2 fun e => hk (List.mem_cons_of_mem _ e)⟩
      rcases mem_insN hz with rfl | hz
      · omega
      · exact h.1 z hz
theorem insN_ne (k : Int) (l : List Int) : insN k l ≠ [] := by
  intro e
  have := insN_len k l
  rw [e] at this; simp at this
theorem mem_putL {l : List Rt} {r x : Rt} (h : x ∈ putL l r) : x = r ∨ x ∈ l := by
  unfold putL at h
  rcases List.mem_append.1 h with h | h
  · exact .inr (List.mem_filter.1 h).1
  · rcases List.mem_cons.1 h with e | h
    · exact .inl e
    · exact .inr (List.mem_filter.1 h).1

def lnk (ls : List Link) (i k : Int) : Prop := 0 ≤ k ∧ k < ls.length ∧ (lA (ls.getD k.toNat default) = i ∨ lB (ls.getD k.toNat default) = i)
structure rtOK (ls : List Link) (aa : List Int) (i : Int) (r : Rt) : Prop where
  len : r.1.2 = 32
  mem : r.1.1 ∈ aa
  ne : r.2.1 ≠ []
  pw : r.2.1.Pairwise (· < ·)
  ln : ∀ k ∈ r.2.1, lnk ls i k
  w0 : 1 ≤ r.2.2
  w1 : r.2.2 ≤ 3
def tabOK (ls : List Link) (aa : List Int) (i : Int) (t : List Rt) : Prop := sortedR t ∧ ∀ r ∈ t, rtOK ls aa i r
theorem tabOK_len {ls : List Link} {aa : List Int} {i : Int} {t : List Rt} (h : tabOK ls aa i t) : t.length ≤ aa.length := by
  have hn : (t.map fun r => r.1.1).Nodup := by
    refine List.Pairwise.map (R := fun a b : Rt => a.1.1 ≠ b.1.1) _ (fun a b h => h) (h.1.imp_of_mem fun {a b} ha hb k => ?_)
    have e1 := (h.2 a ha).len
    have e2 := (h.2 b hb).len
    unfold plt at k
    omega
  have := nodup_len hn (m := aa) fun x hx => by
    obtain ⟨r, hr, rfl⟩ := List.mem_map.1 hx
    exact (h.2 r hr).mem
  simpa using this
theorem rtOK_len {ls : List Link} {aa : List Int} {i : Int} {r : Rt} (h : rtOK ls aa i r) : r.2.1.length ≤ ls.length := by
  have hn : r.2.1.Nodup := h.pw.imp fun k => by omega
  have := nodup_len hn (m := (List.range ls.length).map fun (n : Nat) => (n : Int)) fun x hx => by
    obtain ⟨k0, k1, _⟩ := h.ln x hx
    exact List.mem_map.2 ⟨x.toNat, List.mem_range.2 (by omega), by omega⟩
  simpa using this
theorem tabOK_route {ls : List Link} {aa : List Int} {i : Int} {t : List Rt} (h : tabOK ls aa i t) {p : Pfx} {k way : Int} (hp : p.2 = 32) (ha : p.1 ∈ aa) (hk : lnk ls i k) (h0 : 1 ≤ way) (h1 : way ≤ 3) :
    tabOK ls aa i (routeL t p k way) := by
  have put : ∀ r : Rt, rtOK ls aa i r → tabOK ls aa i (putL t r) := fun r hr =>
    ⟨putL_sorted h.1, fun x hx => by
      rcases mem_putL hx with rfl | hx
      · exact hr
      · exact h.2 x hx⟩
  unfold routeL
  split
  · rename_i hf
    have hx : t.getD (rFind t p) default ∈ t := by
      have := getD_mem (xs := t) (i := (rFind t p : Nat)) (by omega) (by omega)
      simpa using this
    have hx := h.2 _ hx
    split
    · exact h
    · rename_i hn
      exact put _ ⟨hp, ha, insN_ne _ _, insN_pw hx.pw hn, fun y hy => by
        rcases mem_insN hy with rfl | hy
        · exact hk
        · exact hx.ln y hy, hx.w0, hx.w1⟩
  · exact put _ ⟨hp, ha, by simp, List.pairwise_singleton _ _, fun y hy => by rw [List.mem_singleton.1 hy]; exact hk, h0, h1⟩

structure RI (ls : List Link) (aa : List Int) (ns0 ns : List Node) : Prop where
  n : ns.length = ns0.length
  e : ∀ i : Nat, i < ns0.length → setRoutes (ns.getD i default) [] = setRoutes (ns0.getD i default) []
  t : ∀ i : Nat, i < ns0.length → tabOK ls aa i (nRoutes (ns.getD i default))
theorem RI.ports {ls aa ns0 ns} (h : RI ls aa ns0 ns) {i : Nat} (hi : i < ns0.length) : nPorts (ns.getD i default) = nPorts (ns0.getD i default) := by
  have := congrArg nPorts (h.e i hi); exact this
theorem RI.host {ls aa ns0 ns} (h : RI ls aa ns0 ns) {i : Nat} (hi : i < ns0.length) : nHost (ns.getD i default) = nHost (ns0.getD i default) := by
  have := congrArg nHost (h.e i hi); exact this
theorem RI.route {ls aa ns0 ns} (h : RI ls aa ns0 ns) {a : Int} {p : Pfx} {k way : Int} (a0 : 0 ≤ a) (a1 : a < ns0.length) (hp : p.2 = 32) (ha : p.1 ∈ aa) (hk : lnk ls a k) (h0 : 1 ≤ way) (h1 : way ≤ 3) :
    RI ls aa ns0 (routeN ns a p k way) := by
  have hl : a.toNat < ns.length := by have := h.n; omega
  unfold routeN
  refine ⟨by rw [List.length_set]; exact h.n, fun i hi => ?_, fun i hi => ?_⟩
  · by_cases e : a.toNat = i
    · subst e
      rw [getD_set hl]; exact h.e _ hi
    · rw [getD_setne e]; exact h.e _ hi
  · by_cases e : a.toNat = i
    · subst e
      rw [getD_set hl]
      have := tabOK_route (h.t _ hi) (p := p) (k := k) (way := way) hp ha (by rwa [show ((a.toNat : Nat) : Int) = a by omega]) h0 h1
      exact this
    · rw [getD_setne e]; exact h.t _ hi
theorem RI.step {ls aa ns0 ns} (h : RI ls aa ns0 ns) {d : List Int} {to : Int} {p : Pfx} {plain : Bool} {k way a b : Int} (a0 : 0 ≤ a) (a1 : a < ns0.length) (hp : p.2 = 32) (ha : p.1 ∈ aa) (hk : lnk ls a k) (h0 : 1 ≤ way) (h1 : way ≤ 3) :
    RI ls aa ns0 (stepE d to p plain k way ns a b) := by
  unfold stepE
  split
  · exact h
  · split
    · exact h
    · exact h.route a0 a1 hp ha hk h0 h1
def goodEnds (n : Nat) (ls : List Link) : Prop := ∀ l ∈ ls, 0 ≤ l.1 ∧ l.1 < n ∧ 0 ≤ l.2.1 ∧ l.2.1 < n
theorem goodEnds.at' {n : Nat} {ls : List Link} (hg : goodEnds n ls) {k : Nat} (hk : k < ls.length) : (0 ≤ lA (ls.getD k default) ∧ lA (ls.getD k default) < n) ∧ 0 ≤ lB (ls.getD k default) ∧ lB (ls.getD k default) < n := by
  have hx : ls.getD k default ∈ ls := by
    have := getD_mem (xs := ls) (i := (k : Nat)) (by omega) (by omega)
    simpa using this
  obtain ⟨q1, q2, q3, q4⟩ := hg _ hx
  exact ⟨⟨q1, q2⟩, q3, q4⟩
theorem lnkA {ls : List Link} {k : Nat} (hk : k < ls.length) : lnk ls (lA (ls.getD k default)) k := ⟨by omega, by omega, .inl (by simp)⟩
theorem lnkB {ls : List Link} {k : Nat} (hk : k < ls.length) : lnk ls (lB (ls.getD k default)) k := ⟨by omega, by omega, .inr (by simp)⟩
theorem RI.stepK {ls aa ns0 ns} (h : RI ls aa ns0 ns) (hg : goodEnds ns0.length ls) {d : List Int} {to : Int} {p : Pfx} {plain : Bool} {way : Int} {k : Nat} (hk : k < ls.length) (hp : p.2 = 32) (ha : p.1 ∈ aa) (h0 : 1 ≤ way) (h1 : way ≤ 3) :
    RI ls aa ns0 (stepK ls d to p plain way ns k) := by
  have hh := hg.at' hk
  unfold Go.RS.stepK
  exact (h.step hh.1.1 hh.1.2 hp ha (lnkA hk) h0 h1).step hh.2.1 hh.2.2 hp ha (lnkB hk) h0 h1
theorem RI.stepKs {ls aa ns0 ns} (h : RI ls aa ns0 ns) (hg : goodEnds ns0.length ls) {d : List Int} {to : Int} {p : Pfx} {plain : Bool} {way : Int} (hp : p.2 = 32) (ha : p.1 ∈ aa) (h0 : 1 ≤ way) (h1 : way ≤ 3) {n : Nat} (hn : n ≤ ls.length) :
    RI ls aa ns0 ((List.range n).foldl (Go.RS.stepK ls d to p plain way) ns) :=
  foldl_inv _ _ h fun k hk b hb => hb.stepK hg (by have := List.mem_range.1 hk; omega) hp ha h0 h1
theorem RI.stepP {ls aa ns0 ns} (h : RI ls aa ns0 ns) (hg : goodEnds ns0.length ls) {d : List Int} {to : Int} {plain : Bool} {way : Int} {q : Port} (ha : q.1 ∈ aa) (h0 : 1 ≤ way) (h1 : way ≤ 3) :
    RI ls aa ns0 (stepP ls d to plain way ns q) :=
  h.stepKs (p := (q.1, 32)) hg rfl ha h0 h1 (Nat.le_refl _)
def allA (ns : List Node) : List Int := ns.flatMap fun x => (nPorts x).map (·.1)
theorem mem_allA {ns : List Node} {i : Nat} (hi : i < ns.length) {q : Port} (hq : q ∈ nPorts (ns.getD i default)) : q.1 ∈ allA ns := by
  have hx : ns.getD i default ∈ ns := by
    have := getD_mem (xs := ns) (i := (i : Nat)) (by omega) (by omega)
    simpa using this
  exact List.mem_flatMap.2 ⟨_, hx, List.mem_map.2 ⟨q, hq, rfl⟩⟩
theorem RI.stepPs {ls ns0 ns} (h : RI ls (allA ns0) ns0 ns) (hg : goodEnds ns0.length ls) {d : List Int} {to : Int} {plain : Bool} {way : Int} (h0 : 1 ≤ way) (h1 : way ≤ 3) {l : List Port} (hl : ∀ q ∈ l, q.1 ∈ allA ns0) :
    RI ls (allA ns0) ns0 (l.foldl (Go.RS.stepP ls d to plain way) ns) :=
  foldl_inv _ _ h fun q hq b hb => hb.stepP hg (hl q hq) h0 h1
theorem wayC_ok {c : Codes} (h : okB c) : okB (wayC c).2 ∧ 1 ≤ (wayC c).1 ∧ (wayC c).1 ≤ 3 := by
  have k := nextV_ok h 3
  have k2 := nextV_ok k.1 3
  have := nextV_lt h (n := 3) (by omega)
  unfold wayC
  split
  · refine ⟨k2.1, ?_⟩
    dsimp only
    split <;> omega
  · exact ⟨k.1, by dsimp only; omega, by dsimp only; omega⟩
theorem RI.stepT {ls ns0} {s : List Node × Codes} (h : RI ls (allA ns0) ns0 s.1 ∧ okB s.2) (hg : goodEnds ns0.length ls) {plain : Bool} {to : Nat} (ht : to < ns0.length) :
    RI ls (allA ns0) ns0 (stepT ls plain s to).1 ∧ okB (stepT ls plain s to).2 := by
  have w := wayC_ok h.2
  unfold Go.RS.stepT
  refine ⟨h.1.stepPs hg w.2.1 w.2.2 fun q hq => ?_, w.1⟩
  rw [h.1.ports ht] at hq
  exact mem_allA ht hq
theorem RI.stepTs {ls ns0} {s : List Node × Codes} (h : RI ls (allA ns0) ns0 s.1 ∧ okB s.2) (hg : goodEnds ns0.length ls) {plain : Bool} {n : Nat} (hn : n ≤ ns0.length) :
    RI ls (allA ns0) ns0 ((List.range n).foldl (Go.RS.stepT ls plain) s).1 ∧ okB ((List.range n).foldl (Go.RS.stepT ls plain) s).2 :=
  foldl_inv (fun s : List Node × Codes => RI ls (allA ns0) ns0 s.1 ∧ okB s.2) _ h fun k hk b hb => RI.stepT hb hg (by have := List.mem_range.1 hk; omega)
theorem RI.start {ls : List Link} {ns0 : List Node} (h : ∀ x ∈ ns0, nRoutes x = []) : RI ls (allA ns0) ns0 ns0 := by
  refine ⟨rfl, fun _ _ => rfl, fun i hi => ?_⟩
  have hx : ns0.getD i default ∈ ns0 := by
    have := getD_mem (xs := ns0) (i := (i : Nat)) (by omega) (by omega)
    simpa using this
  rw [h _ hx]
  exact ⟨List.Pairwise.nil, fun r hr => by cases hr⟩
end Go.RS


/- Netg: how drawn networks grow: what holds of their nodes and links. -/
namespace Go.RS
open Go.SX Go.Proofs
set_option maxRecDepth 100000
set_option linter.unusedVariables false

def port1 (i : Int) (k : Nat) (l : Link) : List Port := (if lA l = i then [(baseA k + 1, (k : Int))] else []) ++ (if lB l = i then [(baseA k + 2, (k : Int))] else [])
def portsF (i : Int) : Nat → List Link → List Port
  | _, [] => []
  | k, l :: r => port1 i k l ++ portsF i (k + 1) r
theorem portsF_snoc (i : Int) (l : Link) : ∀ (k : Nat) (ls : List Link), portsF i k (ls ++ [l]) = portsF i k ls ++ port1 i (k + ls.length) l
  | k, [] => by simp [portsF]
  | k, x :: r => by
    rw [List.cons_append, portsF, portsF_snoc i l (k + 1) r, portsF, List.append_assoc, List.length_cons, show k + 1 + r.length = k + (r.length + 1) by omega]
theorem port1_len (i : Int) (k : Nat) (l : Link) : (port1 i k l).length ≤ 2 := by
  unfold port1
  split <;> split <;> simp
theorem portsF_len (i : Int) : ∀ (k : Nat) (ls : List Link), (portsF i k ls).length ≤ 2 * ls.length
  | k, [] => by simp [portsF]
  | k, x :: r => by
    have := portsF_len i (k + 1) r
    have := port1_len i k x
    rw [portsF, List.length_append, List.length_cons]; omega
theorem portsF_none {i : Int} : ∀ {k : Nat} {ls : List Link}, (∀ x ∈ ls, lA x ≠ i ∧ lB x ≠ i) → portsF i k ls = []
  | k, [], _ => rfl
  | k, x :: r, h => by
    have hx := h x List.mem_cons_self
    rw [portsF, portsF_none fun y hy => h y (List.mem_cons_of_mem _ hy), port1, if_neg hx.1, if_neg hx.2]; rfl
theorem mem_portsF {i : Int} {q : Port} : ∀ {k : Nat} {ls : List Link}, q ∈ portsF i k ls ↔ ∃ j, j < ls.length ∧ ((lA (ls.getD j default) = i ∧ q = (baseA (k + j : Nat) + 1, ((k + j : Nat) : Int))) ∨ (lB (ls.getD j default) = i ∧ q = (baseA (k + j : Nat) + 2, ((k + j : Nat) : Int))))
  | k, [] => by simp [portsF]
  | k, x :: r => by
    rw [portsF, List.mem_append, mem_portsF (k := k + 1) (ls := r)]
    constructor
    · rintro (h | ⟨j, hj, h⟩)
      · refine ⟨0, by simp, ?_⟩
        unfold port1 at h
        rcases List.mem_append.1 h with h | h
        · split at h
          · rename_i e
            exact .inl ⟨e, by simpa using h⟩
          · cases h
        · split at h
          · rename_i e
            exact .inr ⟨e, by simpa using h⟩
          · cases h
      · refine ⟨j + 1, by rw [List.length_cons]; omega, ?_⟩
        rw [List.getD_cons_succ, show k + (j + 1) = k + 1 + j by omega]; exact h
    · rintro ⟨j, hj, h⟩
      cases j with
      | zero =>
        refine .inl ?_
        rw [List.getD_cons_zero] at h
        unfold port1
        rcases h with ⟨e, h⟩ | ⟨e, h⟩
        · rw [if_pos e]; exact List.mem_append.2 (.inl (by simpa using h))
        · rw [if_pos e]; exact List.mem_append.2 (.inr (by simpa using h))
      | succ j =>
        refine .inr ⟨j, by rw [List.length_cons] at hj; omega, ?_⟩
        rw [List.getD_cons_succ, show k + (j + 1) = k + 1 + j by omega] at h; exact h

theorem getD_app_lt {α : Type} [Inhabited α] {l m : List α} {i : Nat} (h : i < l.length) : (l ++ m).getD i default = l.getD i default := by
  rw [List.getD_eq_getElem?_getD, List.getElem?_append_left h, List.getD_eq_getElem?_getD]
theorem getD_app_eq {α : Type} [Inhabited α] {l : List α} {x : α} : (l ++ [x]).getD l.length default = x := by
  rw [List.getD_eq_getElem?_getD]; simp
theorem addPort_get {ns : List Node} {x : Int} {p : Port} (x0 : 0 ≤ x) {i : Nat} (hi : i < ns.length) :
    (addPort ns x p).getD i default = ((ns.getD i default).1 ++ (if x = i then [p] else []), (ns.getD i default).2) := by
  unfold addPort
  by_cases e : x = i
  · have : x.toNat = i := by omega
    rw [this, getD_set hi, if_pos e]
  · have : x.toNat ≠ i := by omega
    rw [getD_setne this, if_neg e, List.append_nil]
theorem addPort_len (ns : List Node) (x : Int) (p : Port) : (addPort ns x p).length = ns.length := by unfold addPort; exact List.length_set

structure GI (s : Scene) (nn nl : Nat) : Prop where
  n : s.1.1.length = nn
  l : s.1.2.1.length = nl
  h : s.1.2.2 = []
  c : okB s.2
  g : ∀ x ∈ s.1.2.1, (0 ≤ lA x ∧ lA x < nn) ∧ (0 ≤ lB x ∧ lB x < nn) ∧ lA x ≠ lB x ∧ (1 ≤ lDelay x ∧ lDelay x ≤ 20) ∧ lJitter x = 0 ∧ lLoss x = 0 ∧ 0 ≤ lSeed x ∧ lSeed x ≤ 255
  p : ∀ i : Nat, i < nn → nPorts (s.1.1.getD i default) = portsF i 0 s.1.2.1
  d : ∀ i : Nat, i < nn → ∃ host f sd, (s.1.1.getD i default).2 = (newNode i host f sd).2 ∧ (f = 64 ∨ f = 255 ∨ f = 128) ∧ 0 ≤ sd ∧ sd ≤ 255
theorem GI.node {s : Scene} {nn nl : Nat} (h : GI s nn nl) (host : Bool) : GI (nodeS s host) (nn + 1) nl := by
  have k3 := nextV_lt h.c (n := 3) (by omega)
  have c3 := (nextV_ok h.c 3).1
  have k4 := nextV_lt c3 (n := 256) (by omega)
  have c4 := (nextV_ok c3 256).1
  refine ⟨by simp only [nodeS, List.length_append, List.length_cons, List.length_nil, h.n], h.l, h.h, c4, fun x hx => ?_, fun i hi => ?_, fun i hi => ?_⟩
  · have := h.g x hx
    omega
  · by_cases e : i < nn
    · rw [show (nodeS s host).1.1.getD i default = s.1.1.getD i default from getD_app_lt (by rw [h.n]; exact e)]
      exact h.p i e
    · have e : i = s.1.1.length := by rw [h.n]; omega
      subst e
      rw [show (nodeS s host).1.1.getD s.1.1.length default = newNode s.1.1.length host _ _ from getD_app_eq]
      refine (portsF_none fun x hx => ?_).symm
      have := h.g x hx
      have := h.n
      omega
  · by_cases e : i < nn
    · rw [show (nodeS s host).1.1.getD i default = s.1.1.getD i default from getD_app_lt (by rw [h.n]; exact e)]
      exact h.d i e
    · have e : i = s.1.1.length := by rw [h.n]; omega
      subst e
      rw [show (nodeS s host).1.1.getD s.1.1.length default = newNode s.1.1.length host _ _ from getD_app_eq]
      refine ⟨host, _, _, rfl, ?_, k4.1, by omega⟩
      rcases (show (nextV s.2 3).1 = 0 ∨ (nextV s.2 3).1 = 1 ∨ (nextV s.2 3).1 = 2 by omega) with e | e | e <;> rw [e] <;> simp
theorem GI.link {s : Scene} {nn nl : Nat} (h : GI s nn nl) {a b : Int} (a0 : 0 ≤ a) (a1 : a < nn) (b0 : 0 ≤ b) (b1 : b < nn) (ne : a ≠ b) : GI (linkS s a b) nn (nl + 1) := by
  have k3 := nextV_lt h.c (n := 20) (by omega)
  have c3 := (nextV_ok h.c 20).1
  have k4 := nextV_lt c3 (n := 256) (by omega)
  have c4 := (nextV_ok c3 256).1
  refine ⟨by simp only [linkS, addPort_len, h.n], by simp only [linkS, List.length_append, List.length_cons, List.length_nil, h.l], h.h, c4, fun x hx => ?_, fun i hi => ?_, fun i hi => ?_⟩
  · rcases List.mem_append.1 hx with hx | hx
    · exact h.g x hx
    · rw [List.mem_singleton.1 hx]
      refine ⟨⟨a0, a1⟩, ⟨b0, b1⟩, ne, ?_, rfl, rfl, k4.1, ?_⟩
      · show 1 ≤ 1 + (nextV s.2 20).1 ∧ 1 + (nextV s.2 20).1 ≤ 20
        omega
      · show (nextV (nextV s.2 20).2 256).1 ≤ 255
        omega
  · have hp := h.p i hi
    unfold linkS
    dsimp only
    rw [addPort_get b0 (by rw [addPort_len, h.n]; exact hi), addPort_get a0 (by rw [h.n]; exact hi), portsF_snoc, ← hp, Nat.zero_add]
    simp only [nPorts, port1, lA, lB, List.append_assoc]
    rfl
  · unfold linkS
    dsimp only
    rw [addPort_get b0 (by rw [addPort_len, h.n]; exact hi), addPort_get a0 (by rw [h.n]; exact hi)]
    exact h.d i hi
theorem GI.codes {s : Scene} {nn nl : Nat} (h : GI s nn nl) {c : Codes} (hc : okB c) : GI (s.1, c) nn nl := ⟨h.n, h.l, h.h, hc, h.g, h.p, h.d⟩
theorem GI.start {c : Codes} (hc : okB c) : GI (([], [], []), c) 0 0 :=
  ⟨rfl, rfl, rfl, hc, fun x hx => (by cases hx), fun i hi => (by omega), fun i hi => (by omega)⟩
theorem GI.routes {s : Scene} {nn nl : Nat} (h : GI s nn nl) : ∀ x ∈ s.1.1, nRoutes x = [] := fun x hx => by
  obtain ⟨i, hi, e⟩ := List.mem_iff_getElem.1 hx
  obtain ⟨host, f, sd, hd, -⟩ := h.d i (by rw [← h.n]; exact hi)
  have : s.1.1.getD i default = x := by rw [List.getD_eq_getElem?_getD, List.getElem?_eq_getElem hi, e]; rfl
  rw [this] at hd
  show x.2.2.2.2.1 = []
  rw [hd]; rfl
theorem GI.plen {s : Scene} {nn nl : Nat} (h : GI s nn nl) : ∀ x ∈ s.1.1, x.1.length ≤ 2 * nl := fun x hx => by
  obtain ⟨i, hi, e⟩ := List.mem_iff_getElem.1 hx
  have hp := h.p i (by rw [← h.n]; exact hi)
  have : s.1.1.getD i default = x := by rw [List.getD_eq_getElem?_getD, List.getElem?_eq_getElem hi, e]; rfl
  rw [this] at hp
  have := portsF_len i 0 s.1.2.1
  rw [← hp, h.l] at this; exact this
theorem allA_len : ∀ {ns : List Node} {m : Nat}, (∀ x ∈ ns, x.1.length ≤ m) → (allA ns).length ≤ ns.length * m
  | [], m, _ => by simp [allA]
  | x :: r, m, h => by
    have k := allA_len (ns := r) (m := m) fun y hy => h y (List.mem_cons_of_mem _ hy)
    have hx := h x List.mem_cons_self
    unfold allA at k ⊢
    rw [List.flatMap_cons, List.length_append, List.length_map, List.length_cons, Nat.succ_mul]
    show (nPorts x).length + _ ≤ _
    have : (nPorts x).length ≤ m := hx
    omega
theorem GI.ends {s : Scene} {nn nl : Nat} (h : GI s nn nl) : goodEnds s.1.1.length s.1.2.1 := fun x hx => by
  have := h.g x hx
  rw [h.n]
  exact ⟨this.1.1, this.1.2, this.2.1.1, this.2.1.2⟩
theorem GI.chain {s : Scene} (h : GI s 1 0) : ∀ k : Nat, GI ((List.range k).foldl chainS s) (k + 1) k
  | 0 => h
  | k + 1 => by
    rw [List.range_succ, List.foldl_append]
    exact ((GI.chain h k).node false).link (by omega) (by omega) (by omega) (by omega) (by omega)
def lineN (c : Codes) : Int := 1 + (nextV (nodeS (([], [], []), c) true).2 5).1
def line0 (c : Codes) : Scene := ((nodeS (([], [], []), c) true).1, (nextV (nodeS (([], [], []), c) true).2 5).2)
theorem line0_ok {c : Codes} (h : okB c) : GI (line0 c) 1 0 := ((GI.start h).node true).codes (nextV_ok ((GI.start h).node true).c 5).1
theorem lineN_ok {c : Codes} (h : okB c) : 1 ≤ lineN c ∧ lineN c ≤ 5 := by
  have := nextV_lt ((GI.start h).node true).c (n := 5) (by omega)
  unfold lineN; omega
theorem lineS_eq (c : Codes) : lineS c = (lineN c, linkS (nodeS ((List.range (lineN c).toNat).foldl chainS (line0 c)) true) (lineN c) (lineN c + 1)) := rfl
theorem line_ok {c : Codes} (h : okB c) : GI (lineS c).2 ((lineN c).toNat + 2) ((lineN c).toNat + 1) := by
  have := lineN_ok h
  rw [lineS_eq]
  exact (((line0_ok h).chain _).node true).link (by omega) (by omega) (by omega) (by omega) (by omega)
theorem GI.short {s : Scene} {nn nl : Nat} (h : GI s nn nl) {n : Int} (n1 : 1 ≤ n) (hn : n + 2 ≤ nn) : ∃ m, nl ≤ m ∧ m ≤ nl + 1 ∧ GI (shortS n s) nn m := by
  have ka := nextV_lt h.c (n := n) (by omega)
  have ca := (nextV_ok h.c n).1
  have kb := nextV_lt ca (n := n) (by omega)
  have cb := (nextV_ok ca n).1
  unfold shortS
  dsimp only
  split
  · exact ⟨nl, by omega, by omega, h.codes cb⟩
  · rename_i e
    exact ⟨nl + 1, by omega, by omega, (h.codes cb).link (by omega) (by omega) (by omega) (by omega) (by omega)⟩
theorem GI.shorts {s : Scene} {nn nl : Nat} (h : GI s nn nl) {n : Int} (n1 : 1 ≤ n) (hn : n + 2 ≤ nn) : ∀ k : Nat, ∃ m, nl ≤ m ∧ m ≤ nl + k ∧ GI ((List.range k).foldl (fun s _ => shortS n s) s) nn m
  | 0 => ⟨nl, by omega, by omega, h⟩
  | k + 1 => by
    obtain ⟨m, m0, m1, hm⟩ := GI.shorts h n1 hn k
    obtain ⟨m', q0, q1, hq⟩ := hm.short n1 hn
    refine ⟨m', by omega, by omega, ?_⟩
    rw [List.range_succ, List.foldl_append]; exact hq
def more1 (plain : Bool) (n : Int) (s : Scene) (k : Nat) : Scene := if 1 < n ∧ plain = false then (List.range k).foldl (fun s _ => shortS n s) (s.1, (nextV s.2 4).2) else (s.1, (nextV s.2 4).2)
theorem more1_ok {s : Scene} {nn nl : Nat} (h : GI s nn nl) {plain : Bool} {n : Int} (n1 : 1 ≤ n) (hn : n + 2 ≤ nn) (k : Nat) : ∃ m, nl ≤ m ∧ m ≤ nl + k ∧ GI (more1 plain n s k) nn m := by
  have hc := h.codes (nextV_ok h.c 4).1
  unfold more1
  split
  · exact hc.shorts n1 hn k
  · exact ⟨nl, by omega, by omega, hc⟩
theorem moreS_eq (plain : Bool) (n : Int) (s : Scene) : moreS plain n s = (let s1 := more1 plain n s (nextV s.2 4).1.toNat
    if plain = true ∧ 2 < n then
      if (nextV s1.2 2).1 = 1 then linkS (s1.1, (nextV (nextV s1.2 2).2 (n - 1)).2) (1 + (nextV (nextV s1.2 2).2 (n - 1)).1) n else (s1.1, (nextV s1.2 2).2)
    else s1) := rfl
theorem moreS_ok {s : Scene} {nn nl : Nat} (h : GI s nn nl) {plain : Bool} {n : Int} (n1 : 1 ≤ n) (hn : n + 2 ≤ nn) : ∃ m, nl ≤ m ∧ m ≤ nl + 4 ∧ GI (moreS plain n s) nn m := by
  have k4 := nextV_lt h.c (n := 4) (by omega)
  obtain ⟨m, m0, m1, hm⟩ := more1_ok h (plain := plain) n1 hn (nextV s.2 4).1.toNat
  rw [moreS_eq]
  dsimp only
  generalize more1 plain n s (nextV s.2 4).1.toNat = t at hm ⊢
  have c2 := (nextV_ok hm.c 2).1
  have c3 := (nextV_ok c2 (n - 1)).1
  split
  · rename_i e
    split
    · have k5 := nextV_lt c2 (n := n - 1) (by omega)
      exact ⟨m + 1, by omega, by omega, (hm.codes c3).link (by omega) (by omega) (by omega) (by omega) (by omega)⟩
    · exact ⟨m, by omega, by omega, hm.codes c2⟩
  · exact ⟨m, by omega, by omega, hm⟩
theorem net_ok {c : Codes} (h : okB c) (plain : Bool) : ∃ m, 2 ≤ m ∧ m ≤ 10 ∧ GI (moreS plain (lineS c).1 (lineS c).2) ((lineN c).toNat + 2) m := by
  have hn := lineN_ok h
  obtain ⟨m, m0, m1, hm⟩ := moreS_ok (line_ok h) (plain := plain) (n := lineN c) hn.1 (by omega)
  exact ⟨m, by omega, by omega, hm⟩
end Go.RS

