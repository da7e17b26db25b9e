/- Refv: the reference's vantage points. -/
import Derived.Test.YtdegakknelbjiaaGreatDoorVant
import Derived.Test.YtdegakknelbjiaaGreatDoorRefread
namespace Go.RS
open Go.SX Go.Proofs
set_option maxRecDepth 100000
set_option linter.unusedVariables false

def un0 (x : Pend) : Prop := x.2.2.2.1 = false → x.2.2.2.2.1 = false ∧ x.2.2.2.2.2.2 = ans0
/-- What holds of the vantage points of the laws. -/
structure VOK (v : Vant) : Prop where
  run : 0 ≤ v.2.1 ∧ v.2.1 ≤ 63
  next : 0 ≤ v.2.2.1 ∧ v.2.2.1 ≤ 1000
  src : ∀ x ∈ vW v, x.1.1 = vAddr v
  un : ∀ x ∈ vW v, un0 x
theorem mem_expire {v : Vant} {o : Pend → Bool} {x : Pend} (h : x ∈ vW (finP v o)) : x ∈ vW v := (List.mem_filter.1 h).1
theorem VOK.fin {v : Vant} (h : VOK v) (o : Pend → Bool) : VOK (finP v o) :=
  ⟨h.run, h.next, fun x hx => h.src x (mem_expire hx), fun x hx => h.un x (mem_expire hx)⟩
def matchD (p : Probe) (x : Pend) : Bool := decide (x.1.2.1 = p.2.1 ∧ x.1.2.2.1 = p.2.2.1 ∧ x.1.2.2.2.1 = p.2.2.2.1 ∧ x.1.2.2.2.2.1 = p.2.2.2.2.1)
def andOv (all : Bool) (t at' : Int) (x : Pend) : Bool := all || overAt t at' x
def decAns : DecidableEq Ans := inferInstance
def decBack : DecidableEq (Bool × Bool × Int × Ans) := @instDecidableEqProd _ _ inferInstance (@instDecidableEqProd _ _ inferInstance (@instDecidableEqProd _ _ inferInstance decAns))
instance decPend : DecidableEq Pend := @instDecidableEqProd _ _ inferInstance (@instDecidableEqProd _ _ inferInstance (@instDecidableEqProd _ _ inferInstance decBack))
def decVal : DecidableEq (Int × Int × Int × Int × Bool × Bool × Int × Ans) := @instDecidableEqProd _ _ inferInstance (@instDecidableEqProd _ _ inferInstance (@instDecidableEqProd _ _ inferInstance (@instDecidableEqProd _ _ inferInstance decBack)))
instance decRes : DecidableEq Res := @instDecidableEqProd _ _ inferInstance (@instDecidableEqProd _ _ inferInstance (@instDecidableEqProd _ _ inferInstance (@instDecidableEqProd _ _ inferInstance decVal)))
def sameR (a b : List Res) : Bool := decide (a = b)
def decLists : DecidableEq (List Pend × List Res) := @instDecidableEqProd _ _ inferInstance inferInstance
instance decVant : DecidableEq Vant := @instDecidableEqProd _ _ inferInstance (@instDecidableEqProd _ _ inferInstance (@instDecidableEqProd _ _ inferInstance (@instDecidableEqProd _ _ inferInstance (@instDecidableEqProd _ _ inferInstance decLists))))
def sameV (a b : Vant) : Bool := decide (a = b)
theorem res_beq (a b : Res) : (decide (a.1 = b.1) && (decide (a.2.1 = b.2.1) && (decide (a.2.2.1 = b.2.2.1) && (decide (a.2.2.2.1 = b.2.2.2.1) && (decide (a.2.2.2.2.1 = b.2.2.2.2.1) && (decide (a.2.2.2.2.2.1 = b.2.2.2.2.2.1) && (decide (a.2.2.2.2.2.2.1 = b.2.2.2.2.2.2.1) && (decide (a.2.2.2.2.2.2.2.1 = b.2.2.2.2.2.2.2.1) && (a.2.2.2.2.2.2.2.2.1 == b.2.2.2.2.2.2.2.2.1 && (a.2.2.2.2.2.2.2.2.2.1 == b.2.2.2.2.2.2.2.2.2.1 && (decide (a.2.2.2.2.2.2.2.2.2.2.1 = b.2.2.2.2.2.2.2.2.2.2.1) && (decide (a.2.2.2.2.2.2.2.2.2.2.2.1 = b.2.2.2.2.2.2.2.2.2.2.2.1) && (decide (a.2.2.2.2.2.2.2.2.2.2.2.2.1 = b.2.2.2.2.2.2.2.2.2.2.2.2.1) && (decide (a.2.2.2.2.2.2.2.2.2.2.2.2.2.1 = b.2.2.2.2.2.2.2.2.2.2.2.2.2.1) && (decide (a.2.2.2.2.2.2.2.2.2.2.2.2.2.2.1 = b.2.2.2.2.2.2.2.2.2.2.2.2.2.2.1) && (decide (a.2.2.2.2.2.2.2.2.2.2.2.2.2.2.2.1 = b.2.2.2.2.2.2.2.2.2.2.2.2.2.2.2.1) && (decide (a.2.2.2.2.2.2.2.2.2.2.2.2.2.2.2.2 = b.2.2.2.2.2.2.2.2.2.2.2.2.2.2.2.2) && true))))) && true)))))))))))) = decide (a = b) := by
  obtain ⟨a1, a2, a3, a4, a5, a6, a7, a8, a9, a10, a11, a12, a13, a14, a15, a16, a17⟩ := a
  obtain ⟨b1, b2, b3, b4, b5, b6, b7, b8, b9, b10, b11, b12, b13, b14, b15, b16, b17⟩ := b
  rw [Bool.eq_iff_iff]
  simp only [Bool.and_eq_true, decide_eq_true_eq, beq_iff_eq, Prod.mk.injEq, and_true]
theorem pend_beq (a b : Pend) : ((decide (a.1.1 = b.1.1) && (decide (a.1.2.1 = b.1.2.1) && (decide (a.1.2.2.1 = b.1.2.2.1) && (decide (a.1.2.2.2.1 = b.1.2.2.2.1) && (decide (a.1.2.2.2.2.1 = b.1.2.2.2.2.1) && (decide (a.1.2.2.2.2.2 = b.1.2.2.2.2.2) && true)))))) && (decide (a.2.1 = b.2.1) && (decide (a.2.2.1 = b.2.2.1) && (a.2.2.2.1 == b.2.2.2.1 && (a.2.2.2.2.1 == b.2.2.2.2.1 && (decide (a.2.2.2.2.2.1 = b.2.2.2.2.2.1) && ((decide (a.2.2.2.2.2.2.1 = b.2.2.2.2.2.2.1) && (decide (a.2.2.2.2.2.2.2.1 = b.2.2.2.2.2.2.2.1) && (decide (a.2.2.2.2.2.2.2.2.1 = b.2.2.2.2.2.2.2.2.1) && (decide (a.2.2.2.2.2.2.2.2.2.1 = b.2.2.2.2.2.2.2.2.2.1) && (decide (a.2.2.2.2.2.2.2.2.2.2.1 = b.2.2.2.2.2.2.2.2.2.2.1) && (decide (a.2.2.2.2.2.2.2.2.2.2.2 = b.2.2.2.2.2.2.2.2.2.2.2) && true)))))) && true))))))) = decide (a = b) := by
  obtain ⟨⟨p1, p2, p3, p4, p5, p6⟩, a2, a3, a4, a5, a6, a7, a8, a9, a10, a11, a12⟩ := a
  obtain ⟨⟨q1, q2, q3, q4, q5, q6⟩, b2, b3, b4, b5, b6, b7, b8, b9, b10, b11, b12⟩ := b
  rw [Bool.eq_iff_iff]
  simp only [Bool.and_eq_true, decide_eq_true_eq, beq_iff_eq, Prod.mk.injEq, and_true]
theorem take_same2 {α : Type} [Inhabited α] {l m : List α} {i : Int} (h0 : 0 ≤ i) (h1 : i < l.length) (h2 : i < m.length) (h : l.take i.toNat = m.take i.toNat) (he : l.getD i.toNat default = m.getD i.toNat default) : l.take (i + 1).toNat = m.take (i + 1).toNat := by
  rw [take_next h0 h1, take_next h0 h2, h, he]
theorem tag_ok {v : Vant} (h : VOK v) (hn : v.2.2.1 < 1000) : 0 ≤ tagV v.2.1 v.2.2.1 ∧ tagV v.2.1 v.2.2.1 ≤ 65534 := by
  have h1 := h.run
  have h2 := h.next
  unfold tagV
  rw [w64 (n := v.2.1 * 1000) (by omega) (by omega), w64 (by omega) (by omega)]; omega
theorem tag_probe {v : Vant} {dst pr fl ttl t : Int} (h : probeErr (prP v dst pr fl ttl 0) = 0) (ht : 0 ≤ t ∧ t ≤ 65534) : probeErr (prP v dst pr fl ttl t) = 0 := by
  obtain ⟨h1, h2, h3, h4⟩ := probe_ok.1 h
  exact probe_ok.2 ⟨h1, h2, ht, h4⟩
def ct_ref18_New : Ct := ⟨[.val cI, .val cI, .val cU32, .val cI], [.agg cVant, .val cI], fun d => [], fun d => ((newV d.1 d.2.1 d.2.2.1 d.2.2.2.1, newE d.1 d.2.1 d.2.2.1 d.2.2.2.1, ()), ())⟩
def an_ref18_New : PDs ct_ref18_New.ps → Anns := (fun _ => {})
theorem vc_ref18_New :
    ∀ (x x_1 x_2 x_3 : Int), ((-9223372036854775808 : Int) ≤ x ∧ x ≤ (9223372036854775807 : Int)) ∧ ((-9223372036854775808 : Int) ≤ x_1 ∧ x_1 ≤ (9223372036854775807 : Int)) ∧ ((0 : Int) ≤ x_2 ∧ x_2 ≤
     (4294967295 : Int)) ∧ ((-9223372036854775808 : Int) ≤ x_3 ∧ x_3 ≤ (9223372036854775807 : Int)) ∧ True → True → ∀ (b : Bool), b = decide (x < (0 : Int)) → ((!b) = true → ((!b) = true → (!b) = true) ∧
     True) ∧ (b = false → (!b) = true) ∧ ∀ (b_1 : Bool), (b_1 = bif b then true else decide ((16 : Int) ≤ x)) → ((!b_1) = true → ((!b_1) = true → (!b_1) = true) ∧ True) ∧ (b_1 = false → (!b_1) = true) ∧ ∀
     (b : Bool), (b = bif b_1 then true else decide (x_1 < (0 : Int))) → ((!b) = true → ((!b) = true → (!b) = true) ∧ True) ∧ (b = false → (!b) = true) ∧ ∀ (b_2 : Bool), (b_2 = bif b then true else decide
     ((64 : Int) ≤ x_1)) → ((!b_2) = true → ((!b_2) = true → (!b_2) = true) ∧ True) ∧ (b_2 = false → (!b_2) = true) ∧ ∀ (b : Bool), (b = bif b_2 then true else decide (x_3 < (1 : Int))) → ((!b) = true →
     ((!b) = true → (!b) = true) ∧ True) ∧ (b = false → (!b) = true) ∧ ifP (bif b then true else decide ((1073741824 : Int) < x_3)) (((0 : Int), (0 : Int), (0 : Int), (0 : Int), (0 : Int), ([] : List ((Int
     × Int × Int × Int × Int × Int) × Int × Int × Bool × Bool × Int × Int × Int × Int × Int × Int × Int)), ([] : List (Int × Int × Int × Int × Int × Int × Int × Int × Bool × Bool × Int × Int × Int × Int ×
     Int × Int × Int))) = newV x x_1 x_2 x_3 ∧ (1 : Int) = newE x x_1 x_2 x_3) (ifP (!decide (usable x_2)) (((0 : Int), (0 : Int), (0 : Int), (0 : Int), (0 : Int), ([] : List ((Int × Int × Int × Int × Int
     × Int) × Int × Int × Bool × Bool × Int × Int × Int × Int × Int × Int × Int)), ([] : List (Int × Int × Int × Int × Int × Int × Int × Int × Bool × Bool × Int × Int × Int × Int × Int × Int × Int))) =
     newV x x_1 x_2 x_3 ∧ (10 : Int) = newE x x_1 x_2 x_3) ((x, x_1, (0 : Int), x_2, x_3, ([] : List ((Int × Int × Int × Int × Int × Int) × Int × Int × Bool × Bool × Int × Int × Int × Int × Int × Int ×
     Int)), ([] : List (Int × Int × Int × Int × Int × Int × Int × Int × Bool × Bool × Int × Int × Int × Int × Int × Int × Int))) = newV x x_1 x_2 x_3 ∧ (0 : Int) = newE x x_1 x_2 x_3)) := by
  intro x x_1 x_2 x_3 _ _
  have bad : newE x x_1 x_2 x_3 ≠ 0 → ((0, 0, 0, 0, 0, [], []) : Vant) = newV x x_1 x_2 x_3 := fun h => by rw [newV, if_neg h]; rfl
  (repeat (intro (b_ : Bool) (hb_ : b_ = _); (repeat refine ⟨(by first | (simp +contextual; done) | (rw [hb_]; simp +contextual; done) | (rw [hb_]; simp; omega) | (rw [hb_]; simp; intros; omega) | (rw [hb_]; simp +contextual; intros; omega) | (intros; simp_all; done) | (intros; simp_all; omega)), ?_⟩))); subst_vars
  refine ifP_or (fun h => ?_) (fun h h6 => ?_)
  · have h : ¬ newOK x x_1 x_3 := by
      rintro ⟨q1, q2, q3⟩
      simp [Bool.cond_eq_ite] at h
      omega
    have e : newE x x_1 x_2 x_3 = 1 := by rw [newE, if_pos h]
    exact ⟨bad (by rw [e]; decide), e.symm⟩
  have ok : newOK x x_1 x_3 := by
    simp [Bool.cond_eq_ite] at h h6
    refine ⟨⟨?_, ?_⟩, ⟨?_, ?_⟩, ?_, h6⟩ <;> omega
  refine ifP_split (fun hu => ?_) (fun hu => ?_)
  · have e : newE x x_1 x_2 x_3 = 10 := by rw [newE, if_neg (fun q => q ok), if_pos (nd_t hu)]
    exact ⟨bad (by rw [e]; decide), e.symm⟩
  · have e : newE x x_1 x_2 x_3 = 0 := by rw [newE, if_neg (fun q => q ok), if_neg (fun q => q (nd_f hu))]
    exact ⟨by rw [newV, if_pos e], e.symm⟩
theorem ok_ref18_New : SpecOK Tryz.prog GL 10 ct_ref18_New.spec := Ct.ok' _ Tryz.func10 (by kernel_rfl) (withSpec_ok noSpecs_ok ok_ref01_Usable) hmix an_ref18_New (Eq.mpr (by kernel_rfl) vc_ref18_New)

def ct_ref18_Tag : Ct := ⟨[.val cI, .val cI], [.val cI], fun d => [], fun d => ((tagV d.1 d.2.1, ()), ())⟩
def an_ref18_Tag : PDs ct_ref18_Tag.ps → Anns := (fun _ => {})
theorem vc_ref18_Tag :
    ∀ (x x_1 : Int), ((-9223372036854775808 : Int) ≤ x ∧ x ≤ (9223372036854775807 : Int)) ∧ ((-9223372036854775808 : Int) ≤ x_1 ∧ x_1 ≤ (9223372036854775807 : Int)) ∧ True → True → IntKind.wrap
     IntKind.i64 (IntKind.wrap IntKind.i64 (x * (1000 : Int)) + x_1) = tagV x x_1 := by
  intro x x_1 _ _
  rfl
theorem ok_ref18_Tag : SpecOK Tryz.prog GL 13 ct_ref18_Tag.spec := Ct.ok' _ Tryz.func13 (by kernel_rfl) noSpecs_ok hmix an_ref18_Tag (Eq.mpr (by kernel_rfl) vc_ref18_Tag)

def ct_ref18_result : Ct := ⟨[.agg cVant, .agg cPend], [.agg cRes], fun d => [un0 d.2.1], fun d => ((resOf d.1 d.2.1, ()), ())⟩
def an_ref18_result : PDs ct_ref18_result.ps → Anns := (fun _ => {})
theorem vc_ref18_result :
    ∀ (d : Int × Int × Int × Int × Int × List ((Int × Int × Int × Int × Int × Int) × Int × Int × Bool × Bool × Int × Int × Int × Int × Int × Int × Int) × List (Int × Int × Int × Int × Int × Int × Int ×
     Int × Bool × Bool × Int × Int × Int × Int × Int × Int × Int)) (d_1 : (Int × Int × Int × Int × Int × Int) × Int × Int × Bool × Bool × Int × Int × Int × Int × Int × Int × Int), CT.wf cVant d ∧ CT.wf
     cPend d_1 ∧ True → (d_1.2.2.2.1 = false → d_1.2.2.2.2.1 = false ∧ d_1.2.2.2.2.2.2 = ans0) → ifP d_1.2.2.2.1 ((d.1, d.2.1, d_1.2.1, d_1.2.2.1, d_1.1.2.1, d_1.1.2.2.1, d_1.1.2.2.2.1, d_1.1.2.2.2.2.2,
     true, d_1.2.2.2.2) = resOf d d_1) ((d.1, d.2.1, d_1.2.1, d_1.2.2.1, d_1.1.2.1, d_1.1.2.2.1, d_1.1.2.2.2.1, d_1.1.2.2.2.2.2, false, false, IntKind.wrap IntKind.i64 (d_1.2.2.1 + d.2.2.2.2.1), (0 : Int),
     (0 : Int), (0 : Int), (0 : Int), (0 : Int), (0 : Int)) = resOf d d_1) := by
  intro d x _ hu
  unfold resOf
  refine ifP_split (fun h => ?_) (fun h => ?_)
  · rw [if_pos h]; simp only [h]
  · obtain ⟨h1, h2⟩ := hu h
    rw [if_neg (by rw [h]; decide), h, h1, h2]; rfl
theorem ok_ref18_result : SpecOK Tryz.prog GL 68 ct_ref18_result.spec := Ct.ok' _ Tryz.func68 (by kernel_rfl) noSpecs_ok hmix an_ref18_result (Eq.mpr (by kernel_rfl) vc_ref18_result)

def ct_ref18_expire : Ct := ⟨[.agg cVant, .val cI, .val .bool], [.agg oVant], fun d => [vSmall d.1, ∀ x ∈ vW d.1, un0 x], fun d => ((finP d.1 (andOv d.2.2.1 (vT d.1) d.2.1), ()), ())⟩
def an_ref18_expire : PDs ct_ref18_expire.ps → Anns := (fun d => { loops := (fun n => match n with | 4 => some (fun S => { ι := Int × (List Pend) × (List Res), qn := ⟨fun k_ => ∀ (k : Int) (ls : (List Pend)) (rs : (List Res)), k_ (k, ls, rs), fun k_ h_ i => h_ i.1 i.2.1 i.2.2, fun k_ => ∃ (k : Int) (ls : (List Pend)) (rs : (List Res)), k_ (k, ls, rs), fun k_ ⟨k, ls, rs, h_⟩ => ⟨_, h_⟩⟩, μ := fun i => ((vW d.1).length - i.1).toNat, inv := fun i => 0 ≤ i.1 ∧ i.1 ≤ (vW d.1).length ∧ i.2.1 = ((vW d.1).take i.1.toNat).filter (fun x => !(andOv d.2.2.1 (vT d.1) d.2.1) x) ∧ i.2.2 = vR d.1 ++ (((vW d.1).take i.1.toNat).filter (andOv d.2.2.1 (vT d.1) d.2.1)).map (resOf d.1), keep := [1, 2, 3, 6], slots := fun i => [(9, .int .i64 i.1), (7, .own 524288 17), (8, .own 524289 17)], keepN := [64, 112], names := fun i => [(524288, .live (.row 67 cPend i.2.1)), (524289, .live (.row 58 cRes i.2.2))] }) | _ => none) })
theorem vc_ref18_expire :
    ∀ (d : Int × Int × Int × Int × Int × List ((Int × Int × Int × Int × Int × Int) × Int × Int × Bool × Bool × Int × Int × Int × Int × Int × Int × Int) × List (Int × Int × Int × Int × Int × Int × Int ×
     Int × Bool × Bool × Int × Int × Int × Int × Int × Int × Int)) (x : Int) (x_1 : Bool), CT.wf cVant d ∧ ((-9223372036854775808 : Int) ≤ x ∧ x ≤ (9223372036854775807 : Int)) ∧ True ∧ True → (vSmall d ∧ ∀
     (x : Pend), x ∈ vW d → un0 x) → List.length d.2.2.2.2.2.2 * (128 : Nat) ≤ (140737488355328 : Nat) ∧ (∃ (k : Int), ∃ (ls : List Pend), ∃ (rs : List Res), ((0 : Int) ≤ k ∧ k ≤ (↑(List.length (vW d)) :
     Int) ∧ ls = List.filter (fun (x_2 : Pend) => !andOv x_1 (vT d) x x_2) (List.take (Int.toNat k) (vW d)) ∧ rs = vR d ++ List.map (resOf d) (List.filter (andOv x_1 (vT d) x) (List.take (Int.toNat k) (vW
     d)))) ∧ x = x ∧ x_1 = x_1 ∧ (0 : Int) = k ∧ d.1 = d.1 ∧ d.2.1 = d.2.1 ∧ d.2.2.1 = d.2.2.1 ∧ d.2.2.2.1 = d.2.2.2.1 ∧ d.2.2.2.2.1 = d.2.2.2.2.1 ∧ d.2.2.2.2.2.1 = d.2.2.2.2.2.1 ∧ d.2.2.2.2.2.2 =
     d.2.2.2.2.2.2 ∧ (0 : Int) = (0 : Int) ∧ (0 : Int) = (0 : Int) ∧ (0 : Int) = (0 : Int) ∧ (0 : Int) = (0 : Int) ∧ (0 : Int) = (0 : Int) ∧ ls = ([] : List ((Int × Int × Int × Int × Int × Int) × Int × Int
     × Bool × Bool × Int × Int × Int × Int × Int × Int × Int)) ∧ d.2.2.2.2.2.2 = rs ∧ True) ∧ ∀ (k : Int) (ls : List Pend) (rs : List Res), (0 : Int) ≤ k ∧ k ≤ (↑(List.length (vW d)) : Int) ∧ ls =
     List.filter (fun (x_2 : Pend) => !andOv x_1 (vT d) x x_2) (List.take (Int.toNat k) (vW d)) ∧ rs = vR d ++ List.map (resOf d) (List.filter (andOv x_1 (vT d) x) (List.take (Int.toNat k) (vW d))) → ifP
     (decide (k < (↑(List.length d.2.2.2.2.2.1) : Int))) (∀ (b : Bool), b = x_1 → ((!b) = true → ((!b) = true → (!b) = true) ∧ True) ∧ ((!b) = true → ((!b) = true → (!b) = true) ∧ ((!b) = true → (!b) =
     true) ∧ (0 : Int) ≤ k ∧ k < (↑(List.length d.2.2.2.2.2.1) : Int) ∧ True) ∧ ((!b) = true → ((!b) = true → (!b) = true) ∧ True) ∧ ((!b) = true → ((!b) = true → (!b) = true) ∧ True) ∧ ((!b) = true →
     ((!b) = true → (!b) = true) ∧ True) ∧ ((!b) = true → ((!b) = true → (!b) = true) ∧ ((!b) = true → (!b) = true) ∧ True) ∧ ((!b) = true → ((!b) = true → (!b) = true) ∧ ((!b) = true → (!b) = true) ∧
     True) ∧ (b = false → (!b) = true) ∧ ifP (bif b then true else decide (IntKind.wrap IntKind.i64 ((List.getD d.2.2.2.2.2.1 (Int.toNat k) default).2.2.1 + d.2.2.2.2.1) ≤ x)) ((0 : Int) ≤ k ∧ k <
     (↑(List.length d.2.2.2.2.2.1) : Int) ∧ un0 (List.getD d.2.2.2.2.2.1 (Int.toNat k) default) ∧ (List.length rs + List.length [(d.1, d.2.1, (List.getD d.2.2.2.2.2.1 (Int.toNat k) default).2.1, (List.getD
     d.2.2.2.2.2.1 (Int.toNat k) default).2.2.1, (List.getD d.2.2.2.2.2.1 (Int.toNat k) default).1.2.1, (List.getD d.2.2.2.2.2.1 (Int.toNat k) default).1.2.2.1, (List.getD d.2.2.2.2.2.1 (Int.toNat k)
     default).1.2.2.2.1, (List.getD d.2.2.2.2.2.1 (Int.toNat k) default).1.2.2.2.2.2, (List.getD d.2.2.2.2.2.1 (Int.toNat k) default).2.2.2.1, (List.getD d.2.2.2.2.2.1 (Int.toNat k) default).2.2.2.2.1, if
     (List.getD d.2.2.2.2.2.1 (Int.toNat k) default).2.2.2.1 = true then (List.getD d.2.2.2.2.2.1 (Int.toNat k) default).2.2.2.2.2.1 else IntKind.wrap IntKind.i64 ((List.getD d.2.2.2.2.2.1 (Int.toNat k)
     default).2.2.1 + d.2.2.2.2.1), (List.getD d.2.2.2.2.2.1 (Int.toNat k) default).2.2.2.2.2.2)]) * (128 : Nat) ≤ (140737488355328 : Nat) ∧ ∃ (k_1 : Int), ∃ (ls_1 : List Pend), ∃ (rs_1 : List Res), ((0 :
     Int) ≤ k_1 ∧ k_1 ≤ (↑(List.length (vW d)) : Int) ∧ ls_1 = List.filter (fun (x_2 : Pend) => !andOv x_1 (vT d) x x_2) (List.take (Int.toNat k_1) (vW d)) ∧ rs_1 = vR d ++ List.map (resOf d) (List.filter
     (andOv x_1 (vT d) x) (List.take (Int.toNat k_1) (vW d)))) ∧ Int.toNat ((↑(List.length (vW d)) : Int) - k_1) < Int.toNat ((↑(List.length (vW d)) : Int) - k) ∧ x = x ∧ x_1 = x_1 ∧ IntKind.wrap
     IntKind.i64 (k + (1 : Int)) = k_1 ∧ d.1 = d.1 ∧ d.2.1 = d.2.1 ∧ d.2.2.1 = d.2.2.1 ∧ d.2.2.2.1 = d.2.2.2.1 ∧ d.2.2.2.2.1 = d.2.2.2.2.1 ∧ d.2.2.2.2.2.1 = d.2.2.2.2.2.1 ∧ d.2.2.2.2.2.2 = d.2.2.2.2.2.2 ∧
     (0 : Int) = (0 : Int) ∧ (0 : Int) = (0 : Int) ∧ (0 : Int) = (0 : Int) ∧ (0 : Int) = (0 : Int) ∧ (0 : Int) = (0 : Int) ∧ ls = ls_1 ∧ rs ++ [(d.1, d.2.1, (List.getD d.2.2.2.2.2.1 (Int.toNat k)
     default).2.1, (List.getD d.2.2.2.2.2.1 (Int.toNat k) default).2.2.1, (List.getD d.2.2.2.2.2.1 (Int.toNat k) default).1.2.1, (List.getD d.2.2.2.2.2.1 (Int.toNat k) default).1.2.2.1, (List.getD
     d.2.2.2.2.2.1 (Int.toNat k) default).1.2.2.2.1, (List.getD d.2.2.2.2.2.1 (Int.toNat k) default).1.2.2.2.2.2, (List.getD d.2.2.2.2.2.1 (Int.toNat k) default).2.2.2.1, (List.getD d.2.2.2.2.2.1
     (Int.toNat k) default).2.2.2.2.1, if (List.getD d.2.2.2.2.2.1 (Int.toNat k) default).2.2.2.1 = true then (List.getD d.2.2.2.2.2.1 (Int.toNat k) default).2.2.2.2.2.1 else IntKind.wrap IntKind.i64
     ((List.getD d.2.2.2.2.2.1 (Int.toNat k) default).2.2.1 + d.2.2.2.2.1), (List.getD d.2.2.2.2.2.1 (Int.toNat k) default).2.2.2.2.2.2)] = rs_1 ∧ True) ((0 : Int) ≤ k ∧ k < (↑(List.length d.2.2.2.2.2.1) :
     Int) ∧ (List.length ls + List.length [List.getD d.2.2.2.2.2.1 (Int.toNat k) default]) * (120 : Nat) ≤ (140737488355328 : Nat) ∧ ∃ (k_1 : Int), ∃ (ls_1 : List Pend), ∃ (rs_1 : List Res), ((0 : Int) ≤
     k_1 ∧ k_1 ≤ (↑(List.length (vW d)) : Int) ∧ ls_1 = List.filter (fun (x_2 : Pend) => !andOv x_1 (vT d) x x_2) (List.take (Int.toNat k_1) (vW d)) ∧ rs_1 = vR d ++ List.map (resOf d) (List.filter (andOv
     x_1 (vT d) x) (List.take (Int.toNat k_1) (vW d)))) ∧ Int.toNat ((↑(List.length (vW d)) : Int) - k_1) < Int.toNat ((↑(List.length (vW d)) : Int) - k) ∧ x = x ∧ x_1 = x_1 ∧ IntKind.wrap IntKind.i64 (k +
     (1 : Int)) = k_1 ∧ d.1 = d.1 ∧ d.2.1 = d.2.1 ∧ d.2.2.1 = d.2.2.1 ∧ d.2.2.2.1 = d.2.2.2.1 ∧ d.2.2.2.2.1 = d.2.2.2.2.1 ∧ d.2.2.2.2.2.1 = d.2.2.2.2.2.1 ∧ d.2.2.2.2.2.2 = d.2.2.2.2.2.2 ∧ (0 : Int) = (0 :
     Int) ∧ (0 : Int) = (0 : Int) ∧ (0 : Int) = (0 : Int) ∧ (0 : Int) = (0 : Int) ∧ (0 : Int) = (0 : Int) ∧ ls ++ [List.getD d.2.2.2.2.2.1 (Int.toNat k) default] = ls_1 ∧ rs = rs_1 ∧ True)) ((d.1, d.2.1,
     d.2.2.1, d.2.2.2.1, d.2.2.2.2.1, ls, rs) = finP d (andOv x_1 (vT d) x)) := by
  rintro d x all ⟨-, -, -, -⟩ ⟨⟨hw, hr⟩, hu⟩
  have eW : d.2.2.2.2.2.1 = vW d := rfl
  have eR : d.2.2.2.2.2.2 = vR d := rfl
  rw [eW, eR]
  refine ⟨by omega, ⟨0, [], vR d, ⟨by omega, by omega, by simp, by simp⟩, (by repeat' first | exact trivial | refine ⟨trivial, ?_⟩ | refine ⟨(by with_reducible rfl), ?_⟩ | refine ⟨w64 (by omega) (by omega), ?_⟩ | refine ⟨rfl, ?_⟩)⟩, ?_⟩
  rintro k ls rs ⟨k0, k1, rfl, rfl⟩
  refine ifP_split (fun hk => ?_) (fun hk => ?_)
  · have hk := of_decide_eq_true hk
    have f1 := filter_next k0 hk (andOv all (vT d) x)
    have f2 := filter_next k0 hk (fun y => !andOv all (vT d) x y)
    have l1 := List.length_filter_le (andOv all (vT d) x) ((vW d).take k.toNat)
    have l2 := List.length_filter_le (fun y => !andOv all (vT d) x y) ((vW d).take k.toNat)
    have l3 : ((vW d).take k.toNat).length ≤ (vW d).length := by rw [List.length_take]; omega
    have hmem := getD_mem k0 hk
    (repeat (intro (b_ : Bool) (hb_ : b_ = _); (repeat refine ⟨(by first | (simp +contextual; done) | (rw [hb_]; simp +contextual; done) | (rw [hb_]; simp; omega) | (rw [hb_]; simp; intros; omega) | (rw [hb_]; simp +contextual; intros; omega) | (intros; simp_all; done) | (intros; simp_all; omega)), ?_⟩))); subst_vars
    have eo : ∀ c : Bool, andOv b_ (vT d) x ((vW d).getD k.toNat default) = c ↔ (b_ || decide (IntKind.i64.wrap (((vW d).getD k.toNat default).2.2.1 + d.2.2.2.2.1) ≤ x)) = c := fun c => Iff.rfl
    refine ifP_or (fun ho => ?_) (fun ho1 ho2 => ?_)
    · have ho : andOv b_ (vT d) x ((vW d).getD k.toNat default) = true := (eo true).2 (by rcases ho with h | h; exact (by rw [h]; rfl); exact (by rw [h, Bool.or_true]))
      rw [ho] at f1
      rw [show (!andOv b_ (vT d) x ((vW d).getD k.toNat default)) = false by rw [ho]; rfl] at f2
      refine ⟨k0, hk, hu _ hmem, by simp only [List.length_append, List.length_map, List.length_singleton]; omega, k + 1, _, _, ⟨by omega, by omega, rfl, rfl⟩, by omega, ?_⟩
      repeat first | refine ⟨trivial, ?_⟩ | refine ⟨(by with_reducible rfl), ?_⟩ | refine ⟨w64 (by omega) (by omega), ?_⟩
      refine ⟨?_, ?_, trivial⟩
      · rw [f2]; simp
      · rw [f1]; simp only [if_true, List.map_append, List.map_cons, List.map_nil, List.append_assoc]; rfl
    · have ho : andOv b_ (vT d) x ((vW d).getD k.toNat default) = false := (eo false).2 (by rw [ho1, ho2]; rfl)
      rw [ho] at f1
      rw [show (!andOv b_ (vT d) x ((vW d).getD k.toNat default)) = true by rw [ho]; rfl] at f2
      refine ⟨k0, hk, by simp only [List.length_singleton]; omega, k + 1, _, _, ⟨by omega, by omega, rfl, rfl⟩, by omega, ?_⟩
      repeat first | refine ⟨trivial, ?_⟩ | refine ⟨(by with_reducible rfl), ?_⟩ | refine ⟨w64 (by omega) (by omega), ?_⟩
      refine ⟨?_, ?_, trivial⟩
      · rw [f2]; simp
      · rw [f1]; simp
  · have hk := of_decide_eq_false hk
    have e : (vW d).take k.toNat = vW d := List.take_of_length_le (by omega)
    rw [e]
    rfl
theorem ok_ref18_expire : SpecOK Tryz.prog GL 39 ct_ref18_expire.spec := Ct.ok' _ Tryz.func39 (by kernel_rfl) (withSpec_ok noSpecs_ok ok_ref18_result) hmix an_ref18_expire (Eq.mpr (by kernel_rfl) vc_ref18_expire)

def ct_ref18_Expire : Ct := ⟨[.agg cVant, .val cI], [.agg oVant], fun d => [vSmall d.1, ∀ x ∈ vW d.1, un0 x], fun d => ((expireV d.1 d.2.1, ()), ())⟩
def an_ref18_Expire : PDs ct_ref18_Expire.ps → Anns := (fun _ => {})
theorem vc_ref18_Expire :
    ∀ (d : Int × Int × Int × Int × Int × List ((Int × Int × Int × Int × Int × Int) × Int × Int × Bool × Bool × Int × Int × Int × Int × Int × Int × Int) × List (Int × Int × Int × Int × Int × Int × Int ×
     Int × Bool × Bool × Int × Int × Int × Int × Int × Int × Int)) (x : Int), CT.wf cVant d ∧ ((-9223372036854775808 : Int) ≤ x ∧ x ≤ (9223372036854775807 : Int)) ∧ True → (vSmall d ∧ ∀ (x : Pend), x ∈ vW
     d → un0 x) → vSmall d ∧ (∀ (x : Pend), x ∈ vW d → un0 x) ∧ (d.1, d.2.1, d.2.2.1, d.2.2.2.1, d.2.2.2.2.1, List.filter (fun (x_1 : Pend) => !andOv false (vT d) x x_1) (vW d), vR d ++ List.map (resOf d)
     (List.filter (andOv false (vT d) x) (vW d))) = expireV d x := by
  rintro d x - ⟨⟨hw, hr⟩, hu⟩
  exact ⟨⟨hw, hr⟩, hu, rfl⟩
theorem ok_ref18_Expire : SpecOK Tryz.prog GL 16 ct_ref18_Expire.spec := Ct.ok' _ Tryz.func16 (by kernel_rfl) (withSpec_ok noSpecs_ok ok_ref18_expire) hmix an_ref18_Expire (Eq.mpr (by kernel_rfl) vc_ref18_Expire)

def ct_ref18_Finish : Ct := ⟨[.agg cVant], [.agg cVant], fun d => [vSmall d.1, ∀ x ∈ vW d.1, un0 x], fun d => ((finishV d.1, ()), ())⟩
def an_ref18_Finish : PDs ct_ref18_Finish.ps → Anns := (fun _ => {})
theorem vc_ref18_Finish :
    ∀ (d : Int × Int × Int × Int × Int × List ((Int × Int × Int × Int × Int × Int) × Int × Int × Bool × Bool × Int × Int × Int × Int × Int × Int × Int) × List (Int × Int × Int × Int × Int × Int × Int ×
     Int × Bool × Bool × Int × Int × Int × Int × Int × Int × Int)), CT.wf cVant d ∧ True → (vSmall d ∧ ∀ (x : Pend), x ∈ vW d → un0 x) → vSmall d ∧ (∀ (x : Pend), x ∈ vW d → un0 x) ∧ (d.1, d.2.1, d.2.2.1,
     d.2.2.2.1, d.2.2.2.2.1, List.filter (fun (x : Pend) => !andOv true (vT d) (0 : Int) x) (vW d), vR d ++ List.map (resOf d) (List.filter (andOv true (vT d) (0 : Int)) (vW d))) = finishV d := by
  rintro d - ⟨⟨hw, hr⟩, hu⟩
  exact ⟨⟨hw, hr⟩, hu, rfl⟩
theorem ok_ref18_Finish : SpecOK Tryz.prog GL 30 ct_ref18_Finish.spec := Ct.ok' _ Tryz.func30 (by kernel_rfl) (withSpec_ok noSpecs_ok ok_ref18_expire) hmix an_ref18_Finish (Eq.mpr (by kernel_rfl) vc_ref18_Finish)

def ct_ref18_Probe : Ct := ⟨[.agg cVant, .val cI, .val cU32, .val cI, .val cI, .val cI], [.agg cVant, .own 5 cU8, .val cI], fun d => [vSmall d.1, VOK d.1], fun d => ((prV d.1 d.2.1 d.2.2.1 d.2.2.2.1 d.2.2.2.2.1 d.2.2.2.2.2.1, prB d.1 d.2.1 d.2.2.1 d.2.2.2.1 d.2.2.2.2.1 d.2.2.2.2.2.1, prE d.1 d.2.1 d.2.2.1 d.2.2.2.1 d.2.2.2.2.1 d.2.2.2.2.2.1, ()), ())⟩
def an_ref18_Probe : PDs ct_ref18_Probe.ps → Anns := (fun _ => {})
theorem vc_ref18_Probe :
    ∀ (d : Int × Int × Int × Int × Int × List ((Int × Int × Int × Int × Int × Int) × Int × Int × Bool × Bool × Int × Int × Int × Int × Int × Int × Int) × List (Int × Int × Int × Int × Int × Int × Int ×
     Int × Bool × Bool × Int × Int × Int × Int × Int × Int × Int)) (x x_1 x_2 x_3 x_4 : Int), CT.wf cVant d ∧ ((-9223372036854775808 : Int) ≤ x ∧ x ≤ (9223372036854775807 : Int)) ∧ ((0 : Int) ≤ x_1 ∧ x_1 ≤
     (4294967295 : Int)) ∧ ((-9223372036854775808 : Int) ≤ x_2 ∧ x_2 ≤ (9223372036854775807 : Int)) ∧ ((-9223372036854775808 : Int) ≤ x_3 ∧ x_3 ≤ (9223372036854775807 : Int)) ∧ ((-9223372036854775808 :
     Int) ≤ x_4 ∧ x_4 ≤ (9223372036854775807 : Int)) ∧ True → vSmall d ∧ VOK d → ifP (!decide (probeErr (d.2.2.2.1, x_1, x_2, x_3, (0 : Int), x_4) = (0 : Int))) (d = prV d x x_1 x_2 x_3 x_4 ∧ ([] : List
     Int) = prB d x x_1 x_2 x_3 x_4 ∧ probeErr (d.2.2.2.1, x_1, x_2, x_3, (0 : Int), x_4) = prE d x x_1 x_2 x_3 x_4) (ifP (!decide (usable x_1)) (d = prV d x x_1 x_2 x_3 x_4 ∧ ([] : List Int) = prB d x x_1
     x_2 x_3 x_4 ∧ (10 : Int) = prE d x x_1 x_2 x_3 x_4) (vSmall d ∧ (∀ (x : Pend), x ∈ vW d → un0 x) ∧ ∀ (b : Bool), b = decide ((1000 : Int) ≤ d.2.2.1) → ((!b) = true → ((!b) = true → (!b) = true) ∧
     True) ∧ ((!b) = true → ((!b) = true → (!b) = true) ∧ True) ∧ ((!b) = true → ((!b) = true → (!b) = true) ∧ True) ∧ (b = false → (!b) = true) ∧ ifP (bif b then true else decide ((256 : Int) ≤
     (↑(List.length (List.filter (fun (x_5 : Pend) => !overAt (vT d) x x_5) (vW d))) : Int))) (d = prV d x x_1 x_2 x_3 x_4 ∧ ([] : List Int) = prB d x x_1 x_2 x_3 x_4 ∧ (5 : Int) = prE d x x_1 x_2 x_3 x_4)
     ((List.length (List.filter (fun (x_5 : Pend) => !overAt (vT d) x x_5) (vW d)) + List.length [((d.2.2.2.1, x_1, x_2, x_3, tagV d.2.1 d.2.2.1, x_4), d.2.2.1, x, false, false, (0 : Int), (0 : Int), (0 :
     Int), (0 : Int), (0 : Int), (0 : Int), (0 : Int))]) * (120 : Nat) ≤ (140737488355328 : Nat) ∧ (d.1, d.2.1, IntKind.wrap IntKind.i64 (d.2.2.1 + (1 : Int)), d.2.2.2.1, d.2.2.2.2.1, List.filter (fun (x_5
     : Pend) => !overAt (vT d) x x_5) (vW d) ++ [((d.2.2.2.1, x_1, x_2, x_3, tagV d.2.1 d.2.2.1, x_4), d.2.2.1, x, false, false, (0 : Int), (0 : Int), (0 : Int), (0 : Int), (0 : Int), (0 : Int), (0 :
     Int))], vR d ++ List.map (resOf d) (List.filter (overAt (vT d) x) (vW d))) = prV d x x_1 x_2 x_3 x_4 ∧ build (d.2.2.2.1, x_1, x_2, x_3, tagV d.2.1 d.2.2.1, x_4) = prB d x x_1 x_2 x_3 x_4 ∧ (0 : Int) =
     prE d x x_1 x_2 x_3 x_4))) := by
  rintro d x dst pr fl ttl ⟨-, -, -, -, -, -, -⟩ ⟨⟨hw, hr⟩, hok⟩
  have bad : prE d x dst pr fl ttl ≠ 0 → d = prV d x dst pr fl ttl ∧ ([] : List Int) = prB d x dst pr fl ttl := fun h => by
    rw [prV, prB, if_neg h, if_neg h]; exact ⟨rfl, rfl⟩
  refine ifP_split (fun h => ?_) (fun h => ?_)
  · have h : ¬ probeErr (prP d dst pr fl ttl 0) = 0 := nd_t h
    have e : prE d x dst pr fl ttl = probeErr (prP d dst pr fl ttl 0) := by rw [prE, if_pos h]
    obtain ⟨h1, h2⟩ := bad (by rw [e]; exact h)
    exact ⟨h1, h2, e.symm⟩
  have h : probeErr (prP d dst pr fl ttl 0) = 0 := nd_f h
  refine ifP_split (fun hu => ?_) (fun hu => ⟨⟨hw, hr⟩, hok.un, ?_⟩)
  · have hu : ¬ usable dst := nd_t hu
    have e : prE d x dst pr fl ttl = 10 := by rw [prE, if_neg (fun k => k h), if_pos hu]
    obtain ⟨h1, h2⟩ := bad (by rw [e]; decide)
    exact ⟨h1, h2, e.symm⟩
  have hu : usable dst := nd_f hu
  have eF : List.filter (fun (x_5 : Pend) => !overAt (vT d) x x_5) (vW d) = vW (expireV d x) := rfl
  rw [eF]
  have ht := tag_ok (v := d) hok
  have hrun := hok.run
  have hnext := hok.next
  (repeat (intro (b_ : Bool) (hb_ : b_ = _); (repeat refine ⟨(by first | (simp; done) | (rw [hb_]; simp; done) | (rw [hb_]; simp; omega) | (rw [hb_]; simp; intros; omega) | (rw [hb_]; simp +contextual; done)), ?_⟩); subst hb_))
  refine ifP_or (fun h5 => ?_) (fun h5 h6 => ?_)
  · have h5 : 1000 ≤ d.2.2.1 ∨ 256 ≤ (vW (expireV d x)).length := by
      rcases h5 with h5 | h5 <;> have := of_decide_eq_true h5 <;> omega
    have e : prE d x dst pr fl ttl = 5 := by rw [prE, if_neg (fun k => k h), if_neg (fun k => k hu), if_pos h5]
    obtain ⟨h1, h2⟩ := bad (by rw [e]; decide)
    exact ⟨h1, h2, e.symm⟩
  have h5 := of_decide_eq_false h5
  have h6 := of_decide_eq_false h6
  have h5' : ¬ (1000 ≤ d.2.2.1 ∨ 256 ≤ (vW (expireV d x)).length) := by omega
  have e : prE d x dst pr fl ttl = 0 := by
    rw [prE, if_neg (fun k => k h), if_neg (fun k => k hu), if_neg h5']
    exact tag_probe h (ht (by omega))
  refine ⟨by simp only [List.length_singleton]; omega, ?_, by rw [prB, if_pos e]; rfl, e.symm⟩
  rw [prV, if_pos e, w64 (by omega) (by omega)]
  rfl
theorem ok_ref18_Probe : SpecOK Tryz.prog GL 26 ct_ref18_Probe.spec := Ct.ok' _ Tryz.func26 (by kernel_rfl) (withSpec_ok (withSpec_ok (withSpec_ok (withSpec_ok (withSpec_ok noSpecs_ok ok_ref07_Check) ok_ref01_Usable) ok_ref18_Expire) ok_ref18_Tag) ok_ref07_Build) hmix an_ref18_Probe (Eq.mpr (by kernel_rfl) vc_ref18_Probe)

def ct_ref18_Receive : Ct := ⟨[.agg cVant, .val cI, .val (.sl cU8)], [.agg cVant, .val cI], fun d => [vSmall d.1, VOK d.1, (d.2.2.1.length : Int) ≤ 1000000], fun d => ((rcV d.1 d.2.1 d.2.2.1, rcE d.1 d.2.1 d.2.2.1, ()), ())⟩
def an_ref18_Receive : PDs ct_ref18_Receive.ps → Anns := (fun d => { loops := (fun n => match n with | 6 => some (fun S => { ι := Int, μ := fun i => ((vW (expireV d.1 d.2.1)).length - i).toNat, inv := fun i => 0 ≤ i ∧ i ≤ (vW (expireV d.1 d.2.1)).length ∧ ∀ x ∈ (vW (expireV d.1 d.2.1)).take i.toNat, matchD (readA d.2.2.1).1 x = false, keep := [0, 1, 2, 3, 6, 8, 9], slots := fun i => [(11, .int .i64 i)], keepN := [64, 112, 144, 160, 256, 257], names := fun i => [] }) | _ => none) })
theorem vc_ref18_Receive :
    ∀ (d : Int × Int × Int × Int × Int × List ((Int × Int × Int × Int × Int × Int) × Int × Int × Bool × Bool × Int × Int × Int × Int × Int × Int × Int) × List (Int × Int × Int × Int × Int × Int × Int ×
     Int × Bool × Bool × Int × Int × Int × Int × Int × Int × Int)) (x : Int) (x_1 : List Int), CT.wf cVant d ∧ ((-9223372036854775808 : Int) ≤ x ∧ x ≤ (9223372036854775807 : Int)) ∧ (List.length x_1 ≤
     maxLen ∧ ∀ (x : Int), x ∈ x_1 → (0 : Int) ≤ x ∧ x ≤ (255 : Int)) ∧ True → vSmall d ∧ VOK d ∧ (↑(List.length x_1) : Int) ≤ (1000000 : Int) → vSmall d ∧ (∀ (x : Pend), x ∈ vW d → un0 x) ∧ ∀ (x_2 x_3 x_4
     x_5 x_6 : Int) (x_7 : List ((Int × Int × Int × Int × Int × Int) × Int × Int × Bool × Bool × Int × Int × Int × Int × Int × Int × Int)) (x_8 : List (Int × Int × Int × Int × Int × Int × Int × Int × Bool
     × Bool × Int × Int × Int × Int × Int × Int × Int)), (x_2, x_3, x_4, x_5, x_6, x_7, x_8) = expireV d x → (↑(List.length x_1) : Int) ≤ (1000000 : Int) ∧ ∀ (x_9 x_10 x_11 x_12 x_13 x_14 x_15 x_16 x_17
     x_18 x_19 x_20 x_21 : Int), (x_9, x_10, x_11, x_12, x_13, x_14) = (readA x_1).1 ∧ (x_15, x_16, x_17, x_18, x_19, x_20) = (readA x_1).2 ∧ x_21 = readAE x_1 → ∀ (b : Bool), b = !decide (x_21 = (0 :
     Int)) → ((!b) = true → ((!b) = true → (!b) = true) ∧ True) ∧ ((!b) = true → ((!b) = true → (!b) = true) ∧ True) ∧ ((!b) = true → ((!b) = true → (!b) = true) ∧ ((!b) = true → (!b) = true) ∧ True) ∧ (b
     = false → (!b) = true) ∧ ifP (bif b then true else !decide (x_9 = x_5)) ((x_2, x_3, x_4, x_5, x_6, x_7, x_8) = rcV d x x_1 ∧ (17 : Int) = rcE d x x_1) ((∃ (x_22 : Int), ((0 : Int) ≤ x_22 ∧ x_22 ≤
     (↑(List.length (vW (expireV d x))) : Int) ∧ ∀ (x_23 : Pend), x_23 ∈ List.take (Int.toNat x_22) (vW (expireV d x)) → matchD (readA x_1).1 x_23 = false) ∧ d.1 = d.1 ∧ d.2.1 = d.2.1 ∧ d.2.2.1 = d.2.2.1 ∧
     d.2.2.2.1 = d.2.2.2.1 ∧ d.2.2.2.2.1 = d.2.2.2.2.1 ∧ d.2.2.2.2.2.1 = d.2.2.2.2.2.1 ∧ d.2.2.2.2.2.2 = d.2.2.2.2.2.2 ∧ x = x ∧ x_1 = x_1 ∧ (0 : Int) = x_22 ∧ x_2 = x_2 ∧ x_3 = x_3 ∧ x_4 = x_4 ∧ x_5 = x_5
     ∧ x_6 = x_6 ∧ (0 : Int) = (0 : Int) ∧ (0 : Int) = (0 : Int) ∧ (0 : Int) = (0 : Int) ∧ (0 : Int) = (0 : Int) ∧ (0 : Int) = (0 : Int) ∧ x_9 = x_9 ∧ x_10 = x_10 ∧ x_11 = x_11 ∧ x_12 = x_12 ∧ x_13 = x_13
     ∧ x_14 = x_14 ∧ x_15 = x_15 ∧ x_16 = x_16 ∧ x_17 = x_17 ∧ x_18 = x_18 ∧ x_19 = x_19 ∧ x_20 = x_20 ∧ x_7 = x_7 ∧ x_8 = x_8 ∧ True) ∧ ∀ (x_22 : Int), ((0 : Int) ≤ x_22 ∧ x_22 ≤ (↑(List.length (vW
     (expireV d x))) : Int) ∧ ∀ (x_23 : Pend), x_23 ∈ List.take (Int.toNat x_22) (vW (expireV d x)) → matchD (readA x_1).1 x_23 = false) → ifP (decide (x_22 < (↑(List.length x_7) : Int))) ((0 : Int) ≤ x_22
     ∧ x_22 < (↑(List.length x_7) : Int) ∧ ∀ (b : Bool), b = !decide ((List.getD x_7 (Int.toNat x_22) default).1.2.1 = x_10) → ((!b) = true → ((!b) = true → (!b) = true) ∧ True) ∧ ((!b) = true → ((!b) =
     true → (!b) = true) ∧ True) ∧ ((!b) = true → ((!b) = true → (!b) = true) ∧ True) ∧ ((!b) = true → ((!b) = true → (!b) = true) ∧ ((!b) = true → (!b) = true) ∧ True) ∧ (b = false → (!b) = true) ∧ ∀ (b_1
     : Bool), (b_1 = bif b then true else !decide ((List.getD x_7 (Int.toNat x_22) default).1.2.2.1 = x_11)) → ((!b_1) = true → ((!b_1) = true → (!b_1) = true) ∧ True) ∧ ((!b_1) = true → ((!b_1) = true →
     (!b_1) = true) ∧ True) ∧ ((!b_1) = true → ((!b_1) = true → (!b_1) = true) ∧ True) ∧ ((!b_1) = true → ((!b_1) = true → (!b_1) = true) ∧ ((!b_1) = true → (!b_1) = true) ∧ True) ∧ (b_1 = false → (!b_1) =
     true) ∧ ∀ (b : Bool), (b = bif b_1 then true else !decide ((List.getD x_7 (Int.toNat x_22) default).1.2.2.2.1 = x_12)) → ((!b) = true → ((!b) = true → (!b) = true) ∧ True) ∧ ((!b) = true → ((!b) =
     true → (!b) = true) ∧ True) ∧ ((!b) = true → ((!b) = true → (!b) = true) ∧ True) ∧ ((!b) = true → ((!b) = true → (!b) = true) ∧ ((!b) = true → (!b) = true) ∧ True) ∧ (b = false → (!b) = true) ∧ ifP
     (bif b then true else !decide ((List.getD x_7 (Int.toNat x_22) default).1.2.2.2.2.1 = x_13)) (∃ (x_23 : Int), ((0 : Int) ≤ x_23 ∧ x_23 ≤ (↑(List.length (vW (expireV d x))) : Int) ∧ ∀ (x_24 : Pend),
     x_24 ∈ List.take (Int.toNat x_23) (vW (expireV d x)) → matchD (readA x_1).1 x_24 = false) ∧ Int.toNat ((↑(List.length (vW (expireV d x))) : Int) - x_23) < Int.toNat ((↑(List.length (vW (expireV d x)))
     : Int) - x_22) ∧ d.1 = d.1 ∧ d.2.1 = d.2.1 ∧ d.2.2.1 = d.2.2.1 ∧ d.2.2.2.1 = d.2.2.2.1 ∧ d.2.2.2.2.1 = d.2.2.2.2.1 ∧ d.2.2.2.2.2.1 = d.2.2.2.2.2.1 ∧ d.2.2.2.2.2.2 = d.2.2.2.2.2.2 ∧ x = x ∧ x_1 = x_1 ∧
     IntKind.wrap IntKind.i64 (x_22 + (1 : Int)) = x_23 ∧ x_2 = x_2 ∧ x_3 = x_3 ∧ x_4 = x_4 ∧ x_5 = x_5 ∧ x_6 = x_6 ∧ (0 : Int) = (0 : Int) ∧ (0 : Int) = (0 : Int) ∧ (0 : Int) = (0 : Int) ∧ (0 : Int) = (0
     : Int) ∧ (0 : Int) = (0 : Int) ∧ x_9 = x_9 ∧ x_10 = x_10 ∧ x_11 = x_11 ∧ x_12 = x_12 ∧ x_13 = x_13 ∧ x_14 = x_14 ∧ x_15 = x_15 ∧ x_16 = x_16 ∧ x_17 = x_17 ∧ x_18 = x_18 ∧ x_19 = x_19 ∧ x_20 = x_20 ∧
     x_7 = x_7 ∧ x_8 = x_8 ∧ True) (ifP (!(List.getD x_7 (Int.toNat x_22) default).2.2.2.1) ((0 : Int) ≤ x_22 ∧ x_22 < (↑(List.length x_7) : Int) ∧ (x_2, x_3, x_4, x_5, x_6, List.set x_7 (Int.toNat x_22)
     ((List.getD x_7 (Int.toNat x_22) default).1, (List.getD x_7 (Int.toNat x_22) default).2.1, (List.getD x_7 (Int.toNat x_22) default).2.2.1, true, (List.getD x_7 (Int.toNat x_22) default).2.2.2.2.1, x,
     x_15, x_16, x_17, x_18, x_19, x_20), x_8) = rcV d x x_1 ∧ (0 : Int) = rcE d x x_1) (ifP (!(decide ((List.getD x_7 (Int.toNat x_22) default).2.2.2.2.2.2.1 = x_15) && (decide ((List.getD x_7 (Int.toNat
     x_22) default).2.2.2.2.2.2.2.1 = x_16) && (decide ((List.getD x_7 (Int.toNat x_22) default).2.2.2.2.2.2.2.2.1 = x_17) && (decide ((List.getD x_7 (Int.toNat x_22) default).2.2.2.2.2.2.2.2.2.1 = x_18)
     && (decide ((List.getD x_7 (Int.toNat x_22) default).2.2.2.2.2.2.2.2.2.2.1 = x_19) && (decide ((List.getD x_7 (Int.toNat x_22) default).2.2.2.2.2.2.2.2.2.2.2 = x_20) && true))))))) ((0 : Int) ≤ x_22 ∧
     x_22 < (↑(List.length x_7) : Int) ∧ (x_2, x_3, x_4, x_5, x_6, List.set x_7 (Int.toNat x_22) ((List.getD x_7 (Int.toNat x_22) default).1, (List.getD x_7 (Int.toNat x_22) default).2.1, (List.getD x_7
     (Int.toNat x_22) default).2.2.1, (List.getD x_7 (Int.toNat x_22) default).2.2.2.1, true, (List.getD x_7 (Int.toNat x_22) default).2.2.2.2.2), x_8) = rcV d x x_1 ∧ (0 : Int) = rcE d x x_1) ((0 : Int) ≤
     x_22 ∧ x_22 < (↑(List.length x_7) : Int) ∧ (x_2, x_3, x_4, x_5, x_6, List.set x_7 (Int.toNat x_22) (List.getD x_7 (Int.toNat x_22) default), x_8) = rcV d x x_1 ∧ (0 : Int) = rcE d x x_1)))) ((x_2,
     x_3, x_4, x_5, x_6, x_7, x_8) = rcV d x x_1 ∧ (8 : Int) = rcE d x x_1)) := by
  rintro d x b ⟨-, -, -, -⟩ ⟨hs, hok, hl⟩
  refine ⟨hs, hok.un, ?_⟩
  rintro a1 a2 a3 a4 a5 a6 a7 ha
  have e4 : a4 = vAddr d := congrArg (fun q : Vant => q.2.2.2.1) ha
  have e6 : a6 = vW (expireV d x) := congrArg (fun q : Vant => q.2.2.2.2.2.1) ha
  refine ⟨hl, ?_⟩
  rintro p1 p2 p3 p4 p5 p6 c1 c2 c3 c4 c5 c6 e ⟨hp, hc, rfl⟩
  have ep1 : p1 = (readA b).1.1 := congrArg (fun q : Probe => q.1) hp
  have bad : rcE d x b ≠ 0 → (a1, a2, a3, a4, a5, a6, a7) = rcV d x b := fun h => by rw [rcV, if_neg h]; exact ha
  (repeat (intro (b_ : Bool) (hb_ : b_ = _); (repeat refine ⟨(by first | (simp; done) | (rw [hb_]; simp; done) | (rw [hb_]; simp; omega) | (rw [hb_]; simp; intros; omega) | (rw [hb_]; simp +contextual; done)), ?_⟩); subst hb_))
  refine ifP_or (fun h => ?_) (fun h1 h2 => ?_)
  · have e : rcE d x b = 17 := by
      rw [rcE, if_pos]
      rcases h with h | h
      · exact .inl (nd_t h)
      · rw [← ep1, ← e4]; exact .inr (nd_t h)
    exact ⟨bad (by rw [e]; decide), e.symm⟩
  have h1 : readAE b = 0 := nd_f h1
  have h2 : p1 = a4 := nd_f h2
  have hno : ¬ (readAE b ≠ 0 ∨ (readA b).1.1 ≠ vAddr d) := by rw [← ep1, ← e4]; exact fun k => k.elim (fun k => k h1) (fun k => k h2)
  have mD : ∀ z ∈ a6, matchP (readA b).1 z = matchD (readA b).1 z := fun z hz => by
    have hz1 : z.1.1 = (readA b).1.1 := by
      rw [← ep1, h2, e4]; rw [e6] at hz; exact hok.src z (mem_expire hz)
    unfold matchP matchD noT
    rw [decide_eq_decide]
    obtain ⟨⟨z1, z2, z3, z4, z5, z6⟩, zr⟩ := z
    simp only at hz1 ⊢
    rw [hz1]
    generalize (readA b).1 = q
    obtain ⟨q1, q2, q3, q4, q5, q6⟩ := q
    simp only [Prod.mk.injEq, true_and, and_true]
  have er : a6.findIdx (matchP (readA b).1) = rcI (expireV d x) (readA b).1 := by rw [e6]; rfl
  have wfl : ((vW (expireV d x)).length : Int) ≤ 100000 := by
    have := List.length_filter_le (fun y => !overAt (vT d) x y) (vW d)
    have h0 := hs.1
    have e0 : (vW (expireV d x)).length = ((vW d).filter fun y => !overAt (vT d) x y).length := rfl
    omega
  rw [← e6] at wfl ⊢
  refine ⟨⟨0, ⟨by omega, by omega, by simp⟩, (by repeat' first | exact trivial | refine ⟨trivial, ?_⟩ | refine ⟨(by with_reducible rfl), ?_⟩ | refine ⟨w64 (by omega) (by omega), ?_⟩ | refine ⟨rfl, ?_⟩)⟩, ?_⟩
  rintro i ⟨i0, i1, hi⟩
  have hi' : ∀ z ∈ a6.take i.toNat, matchP (readA b).1 z = false := fun z hz => by rw [mD z (List.mem_of_mem_take hz)]; exact hi z hz
  refine ifP_split (fun hk => ?_) (fun hk => ?_)
  rotate_left
  · have hk := of_decide_eq_false hk
    have hn := findI_none hk hi'
    rw [er] at hn
    have hlt : ¬ rcI (expireV d x) (readA b).1 < a6.length := fun k => by rw [if_pos k] at hn; omega
    have e : rcE d x b = 8 := by rw [rcE, if_neg hno, if_neg (by rw [← e6]; exact hlt)]
    exact ⟨bad (by rw [e]; decide), e.symm⟩
  have hk := of_decide_eq_true hk
  have hmem := getD_mem i0 hk
  refine ⟨i0, hk, ?_⟩
  have hp2 : p2 = (readA b).1.2.1 := congrArg (fun q : Probe => q.2.1) hp
  have hp3 : p3 = (readA b).1.2.2.1 := congrArg (fun q : Probe => q.2.2.1) hp
  have hp4 : p4 = (readA b).1.2.2.2.1 := congrArg (fun q : Probe => q.2.2.2.1) hp
  have hp5 : p5 = (readA b).1.2.2.2.2.1 := congrArg (fun q : Probe => q.2.2.2.2.1) hp
  (repeat (intro (b_ : Bool) (hb_ : b_ = _); (repeat refine ⟨(by first | (simp +contextual; done) | (rw [hb_]; simp +contextual; done) | (rw [hb_]; simp; omega) | (rw [hb_]; simp; intros; omega) | (rw [hb_]; simp +contextual; intros; omega) | (intros; simp_all; done) | (intros; simp_all; omega)), ?_⟩))); (repeat (subst hb_))
  refine ifP_or (fun h => ?_) (fun h h5 => ?_)
  · have hf : matchD (readA b).1 (a6.getD i.toNat default) = false := by
      refine decide_eq_false ?_
      rintro ⟨k1, k2, k3, k4⟩
      rw [hp2, hp3, hp4, hp5, k1, k2, k3, k4] at h
      simp at h
    exact ⟨i + 1, ⟨by omega, by omega, all_next i0 hk hi hf⟩, by omega, (by repeat' first | exact trivial | refine ⟨trivial, ?_⟩ | refine ⟨(by with_reducible rfl), ?_⟩ | refine ⟨w64 (by omega) (by omega), ?_⟩ | refine ⟨rfl, ?_⟩)⟩
  have hm : matchP (readA b).1 (a6.getD i.toNat default) = true := by
    rw [mD _ hmem]
    refine decide_eq_true ?_
    rw [← hp2, ← hp3, ← hp4, ← hp5]
    generalize a6.getD i.toNat default = y at h h5 ⊢
    simp [Bool.cond_eq_ite] at h h5
    exact ⟨h.1.1, h.1.2, h.2, h5⟩
  have hin := findI_at i0 hk hi' hm
  rw [er] at hin
  have hlt : rcI (expireV d x) (readA b).1 < a6.length := Classical.byContradiction fun k => by rw [if_neg k] at hin; omega
  rw [if_pos hlt] at hin
  have hin : i.toNat = rcI (expireV d x) (readA b).1 := by omega
  have e : rcE d x b = 0 := by rw [rcE, if_neg hno, if_pos (by rw [← e6]; exact hlt)]
  have ev : rcV d x b = (a1, a2, a3, a4, a5, a6.set i.toNat (updP x (readA b).2 (a6.getD i.toNat default)), a7) := by
    rw [rcV, if_pos e, hin, ← ha]; rfl
  rw [ev, e, ← hc]
  have hil : i.toNat < a6.length := by omega
  generalize i.toNat = n at hil
  have self : a6.set n (a6.getD n default) = a6 := by
    rw [List.getD_eq_getElem?_getD, List.getElem?_eq_getElem hil, Option.getD_some, List.set_getElem_self]
  generalize hy : a6.getD n default = y at *
  refine ifP_split (fun h => ⟨i0, hk, ?_, rfl⟩) (fun h => ifP_split (fun h2 => ⟨i0, hk, ?_, rfl⟩) (fun h2 => ⟨i0, hk, ?_, rfl⟩))
  · have h : y.2.2.2.1 = false := by simpa only [Bool.not_eq_true'] using h
    rw [updP, if_pos h]
  · have h : y.2.2.2.1 = true := by simpa only [Bool.not_eq_false'] using h
    rw [updP, if_neg (by rw [h]; decide), if_pos]
    intro k
    rw [k] at h2
    simp at h2
  · have h : y.2.2.2.1 = true := by simpa only [Bool.not_eq_false'] using h
    have k : y.2.2.2.2.2.2 = (c1, c2, c3, c4, c5, c6) := by
      simp at h2
      obtain ⟨k1, k2, k3, k4, k5, k6⟩ := h2
      simp only [Prod.ext_iff]
      exact ⟨k1, k2, k3, k4, k5, k6⟩
    rw [updP, if_neg (by rw [h]; decide), if_neg (fun q => q k)]
theorem ok_ref18_Receive : SpecOK Tryz.prog GL 18 ct_ref18_Receive.spec := Ct.ok' _ Tryz.func18 (by kernel_rfl) (withSpec_ok (withSpec_ok noSpecs_ok (Ct.named ok_ref18_Expire)) (Ct.named ok_ref08_Read)) hmix an_ref18_Receive (Eq.mpr (by kernel_rfl) vc_ref18_Receive)

def ct_ref18_Crash : Ct := ⟨[.agg cVant], [.agg cVant, .val cI], fun d => [], fun d => ((crV d.1, crE d.1, ()), ())⟩
def an_ref18_Crash : PDs ct_ref18_Crash.ps → Anns := (fun _ => {})
theorem vc_ref18_Crash :
    ∀ (d : Int × Int × Int × Int × Int × List ((Int × Int × Int × Int × Int × Int) × Int × Int × Bool × Bool × Int × Int × Int × Int × Int × Int × Int) × List (Int × Int × Int × Int × Int × Int × Int ×
     Int × Bool × Bool × Int × Int × Int × Int × Int × Int × Int)), CT.wf cVant d ∧ True → True → ifP (decide ((63 : Int) ≤ d.2.1)) (((0 : Int), (0 : Int), (0 : Int), (0 : Int), (0 : Int), ([] : List ((Int
     × Int × Int × Int × Int × Int) × Int × Int × Bool × Bool × Int × Int × Int × Int × Int × Int × Int)), ([] : List (Int × Int × Int × Int × Int × Int × Int × Int × Bool × Bool × Int × Int × Int × Int ×
     Int × Int × Int))) = crV d ∧ (5 : Int) = crE d) ((d.1, IntKind.wrap IntKind.i64 (d.2.1 + (1 : Int)), (0 : Int), d.2.2.2.1, d.2.2.2.2.1, ([] : List ((Int × Int × Int × Int × Int × Int) × Int × Int ×
     Bool × Bool × Int × Int × Int × Int × Int × Int × Int)), ([] : List (Int × Int × Int × Int × Int × Int × Int × Int × Bool × Bool × Int × Int × Int × Int × Int × Int × Int))) = crV d ∧ (0 : Int) = crE
     d) := by
  rintro d ⟨hwf, -⟩ -
  refine ifP_split (fun h => ?_) (fun h => ?_)
  · have h := of_decide_eq_true h
    have e : crE d = 5 := by rw [crE, if_pos h]
    exact ⟨by rw [crV, if_neg (by rw [e]; decide)]; rfl, e.symm⟩
  · have h := of_decide_eq_false h
    have hr := hwf.2.1.1
    have e : crE d = 0 := by rw [crE, if_neg h]
    refine ⟨?_, e.symm⟩
    rw [crV, if_pos e, w64 (by have : (-9223372036854775808 : Int) ≤ d.2.1 := hr; omega) (by omega)]
theorem ok_ref18_Crash : SpecOK Tryz.prog GL 23 ct_ref18_Crash.spec := Ct.ok' _ Tryz.func23 (by kernel_rfl) noSpecs_ok hmix an_ref18_Crash (Eq.mpr (by kernel_rfl) vc_ref18_Crash)

def ct_ref18_SameResults : Ct := ⟨[.val (.sl cRes), .val (.sl cRes)], [.val .bool], fun d => [], fun d => ((sameR d.1 d.2.1, ()), ())⟩
def an_ref18_SameResults : PDs ct_ref18_SameResults.ps → Anns := (fun d => { loops := (fun n => match n with | 4 => some (fun S => { ι := Int, μ := fun i => (d.1.length - i).toNat, inv := fun i => 0 ≤ i ∧ d.1.length = d.2.1.length ∧ i ≤ d.1.length ∧ d.1.take i.toNat = d.2.1.take i.toNat, keep := [0, 1, 2, 3], slots := fun i => [(5, .int .i64 i)], names := fun i => [] }) | _ => none) })
theorem vc_ref18_SameResults :
    ∀ (x x_1 : List (Int × Int × Int × Int × Int × Int × Int × Int × Bool × Bool × Int × Int × Int × Int × Int × Int × Int)), (List.length x ≤ maxLen ∧ ∀ (x_2 : Int × Int × Int × Int × Int × Int × Int ×
     Int × Bool × Bool × Int × Int × Int × Int × Int × Int × Int), x_2 ∈ x → ((-9223372036854775808 : Int) ≤ x_2.1 ∧ x_2.1 ≤ (9223372036854775807 : Int)) ∧ ((-9223372036854775808 : Int) ≤ x_2.2.1 ∧ x_2.2.1
     ≤ (9223372036854775807 : Int)) ∧ ((-9223372036854775808 : Int) ≤ x_2.2.2.1 ∧ x_2.2.2.1 ≤ (9223372036854775807 : Int)) ∧ ((-9223372036854775808 : Int) ≤ x_2.2.2.2.1 ∧ x_2.2.2.2.1 ≤ (9223372036854775807
     : Int)) ∧ ((0 : Int) ≤ x_2.2.2.2.2.1 ∧ x_2.2.2.2.2.1 ≤ (4294967295 : Int)) ∧ ((-9223372036854775808 : Int) ≤ x_2.2.2.2.2.2.1 ∧ x_2.2.2.2.2.2.1 ≤ (9223372036854775807 : Int)) ∧ ((-9223372036854775808 :
     Int) ≤ x_2.2.2.2.2.2.2.1 ∧ x_2.2.2.2.2.2.2.1 ≤ (9223372036854775807 : Int)) ∧ ((-9223372036854775808 : Int) ≤ x_2.2.2.2.2.2.2.2.1 ∧ x_2.2.2.2.2.2.2.2.1 ≤ (9223372036854775807 : Int)) ∧ True ∧ True ∧
     ((-9223372036854775808 : Int) ≤ x_2.2.2.2.2.2.2.2.2.2.2.1 ∧ x_2.2.2.2.2.2.2.2.2.2.2.1 ≤ (9223372036854775807 : Int)) ∧ ((0 : Int) ≤ x_2.2.2.2.2.2.2.2.2.2.2.2.1 ∧ x_2.2.2.2.2.2.2.2.2.2.2.2.1 ≤
     (4294967295 : Int)) ∧ ((-9223372036854775808 : Int) ≤ x_2.2.2.2.2.2.2.2.2.2.2.2.2.1 ∧ x_2.2.2.2.2.2.2.2.2.2.2.2.2.1 ≤ (9223372036854775807 : Int)) ∧ ((-9223372036854775808 : Int) ≤
     x_2.2.2.2.2.2.2.2.2.2.2.2.2.2.1 ∧ x_2.2.2.2.2.2.2.2.2.2.2.2.2.2.1 ≤ (9223372036854775807 : Int)) ∧ ((-9223372036854775808 : Int) ≤ x_2.2.2.2.2.2.2.2.2.2.2.2.2.2.2.1 ∧ x_2.2.2.2.2.2.2.2.2.2.2.2.2.2.2.1
     ≤ (9223372036854775807 : Int)) ∧ ((-9223372036854775808 : Int) ≤ x_2.2.2.2.2.2.2.2.2.2.2.2.2.2.2.2.1 ∧ x_2.2.2.2.2.2.2.2.2.2.2.2.2.2.2.2.1 ≤ (9223372036854775807 : Int)) ∧ (-9223372036854775808 : Int)
     ≤ x_2.2.2.2.2.2.2.2.2.2.2.2.2.2.2.2.2 ∧ x_2.2.2.2.2.2.2.2.2.2.2.2.2.2.2.2.2 ≤ (9223372036854775807 : Int)) ∧ (List.length x_1 ≤ maxLen ∧ ∀ (x : Int × Int × Int × Int × Int × Int × Int × Int × Bool ×
     Bool × Int × Int × Int × Int × Int × Int × Int), x ∈ x_1 → ((-9223372036854775808 : Int) ≤ x.1 ∧ x.1 ≤ (9223372036854775807 : Int)) ∧ ((-9223372036854775808 : Int) ≤ x.2.1 ∧ x.2.1 ≤
     (9223372036854775807 : Int)) ∧ ((-9223372036854775808 : Int) ≤ x.2.2.1 ∧ x.2.2.1 ≤ (9223372036854775807 : Int)) ∧ ((-9223372036854775808 : Int) ≤ x.2.2.2.1 ∧ x.2.2.2.1 ≤ (9223372036854775807 : Int)) ∧
     ((0 : Int) ≤ x.2.2.2.2.1 ∧ x.2.2.2.2.1 ≤ (4294967295 : Int)) ∧ ((-9223372036854775808 : Int) ≤ x.2.2.2.2.2.1 ∧ x.2.2.2.2.2.1 ≤ (9223372036854775807 : Int)) ∧ ((-9223372036854775808 : Int) ≤
     x.2.2.2.2.2.2.1 ∧ x.2.2.2.2.2.2.1 ≤ (9223372036854775807 : Int)) ∧ ((-9223372036854775808 : Int) ≤ x.2.2.2.2.2.2.2.1 ∧ x.2.2.2.2.2.2.2.1 ≤ (9223372036854775807 : Int)) ∧ True ∧ True ∧
     ((-9223372036854775808 : Int) ≤ x.2.2.2.2.2.2.2.2.2.2.1 ∧ x.2.2.2.2.2.2.2.2.2.2.1 ≤ (9223372036854775807 : Int)) ∧ ((0 : Int) ≤ x.2.2.2.2.2.2.2.2.2.2.2.1 ∧ x.2.2.2.2.2.2.2.2.2.2.2.1 ≤ (4294967295 :
     Int)) ∧ ((-9223372036854775808 : Int) ≤ x.2.2.2.2.2.2.2.2.2.2.2.2.1 ∧ x.2.2.2.2.2.2.2.2.2.2.2.2.1 ≤ (9223372036854775807 : Int)) ∧ ((-9223372036854775808 : Int) ≤ x.2.2.2.2.2.2.2.2.2.2.2.2.2.1 ∧
     x.2.2.2.2.2.2.2.2.2.2.2.2.2.1 ≤ (9223372036854775807 : Int)) ∧ ((-9223372036854775808 : Int) ≤ x.2.2.2.2.2.2.2.2.2.2.2.2.2.2.1 ∧ x.2.2.2.2.2.2.2.2.2.2.2.2.2.2.1 ≤ (9223372036854775807 : Int)) ∧
     ((-9223372036854775808 : Int) ≤ x.2.2.2.2.2.2.2.2.2.2.2.2.2.2.2.1 ∧ x.2.2.2.2.2.2.2.2.2.2.2.2.2.2.2.1 ≤ (9223372036854775807 : Int)) ∧ (-9223372036854775808 : Int) ≤ x.2.2.2.2.2.2.2.2.2.2.2.2.2.2.2.2
     ∧ x.2.2.2.2.2.2.2.2.2.2.2.2.2.2.2.2 ≤ (9223372036854775807 : Int)) ∧ True → True → ifP (!decide ((↑(List.length x) : Int) = (↑(List.length x_1) : Int))) (false = sameR x x_1) ((∃ (x_2 : Int), ((0 :
     Int) ≤ x_2 ∧ List.length x = List.length x_1 ∧ x_2 ≤ (↑(List.length x) : Int) ∧ List.take (Int.toNat x_2) x = List.take (Int.toNat x_2) x_1) ∧ x = x ∧ x_1 = x_1 ∧ (0 : Int) = x_2 ∧ True) ∧ ∀ (x_2 :
     Int), (0 : Int) ≤ x_2 ∧ List.length x = List.length x_1 ∧ x_2 ≤ (↑(List.length x) : Int) ∧ List.take (Int.toNat x_2) x = List.take (Int.toNat x_2) x_1 → ifP (decide (x_2 < (↑(List.length x) : Int)))
     ((0 : Int) ≤ x_2 ∧ x_2 < (↑(List.length x) : Int) ∧ (0 : Int) ≤ x_2 ∧ x_2 < (↑(List.length x_1) : Int) ∧ ifP (!(decide ((List.getD x (Int.toNat x_2) default).1 = (List.getD x_1 (Int.toNat x_2)
     default).1) && (decide ((List.getD x (Int.toNat x_2) default).2.1 = (List.getD x_1 (Int.toNat x_2) default).2.1) && (decide ((List.getD x (Int.toNat x_2) default).2.2.1 = (List.getD x_1 (Int.toNat
     x_2) default).2.2.1) && (decide ((List.getD x (Int.toNat x_2) default).2.2.2.1 = (List.getD x_1 (Int.toNat x_2) default).2.2.2.1) && (decide ((List.getD x (Int.toNat x_2) default).2.2.2.2.1 =
     (List.getD x_1 (Int.toNat x_2) default).2.2.2.2.1) && (decide ((List.getD x (Int.toNat x_2) default).2.2.2.2.2.1 = (List.getD x_1 (Int.toNat x_2) default).2.2.2.2.2.1) && (decide ((List.getD x
     (Int.toNat x_2) default).2.2.2.2.2.2.1 = (List.getD x_1 (Int.toNat x_2) default).2.2.2.2.2.2.1) && (decide ((List.getD x (Int.toNat x_2) default).2.2.2.2.2.2.2.1 = (List.getD x_1 (Int.toNat x_2)
     default).2.2.2.2.2.2.2.1) && ((List.getD x (Int.toNat x_2) default).2.2.2.2.2.2.2.2.1 == (List.getD x_1 (Int.toNat x_2) default).2.2.2.2.2.2.2.2.1 && ((List.getD x (Int.toNat x_2)
     default).2.2.2.2.2.2.2.2.2.1 == (List.getD x_1 (Int.toNat x_2) default).2.2.2.2.2.2.2.2.2.1 && (decide ((List.getD x (Int.toNat x_2) default).2.2.2.2.2.2.2.2.2.2.1 = (List.getD x_1 (Int.toNat x_2)
     default).2.2.2.2.2.2.2.2.2.2.1) && (decide ((List.getD x (Int.toNat x_2) default).2.2.2.2.2.2.2.2.2.2.2.1 = (List.getD x_1 (Int.toNat x_2) default).2.2.2.2.2.2.2.2.2.2.2.1) && (decide ((List.getD x
     (Int.toNat x_2) default).2.2.2.2.2.2.2.2.2.2.2.2.1 = (List.getD x_1 (Int.toNat x_2) default).2.2.2.2.2.2.2.2.2.2.2.2.1) && (decide ((List.getD x (Int.toNat x_2) default).2.2.2.2.2.2.2.2.2.2.2.2.2.1 =
     (List.getD x_1 (Int.toNat x_2) default).2.2.2.2.2.2.2.2.2.2.2.2.2.1) && (decide ((List.getD x (Int.toNat x_2) default).2.2.2.2.2.2.2.2.2.2.2.2.2.2.1 = (List.getD x_1 (Int.toNat x_2)
     default).2.2.2.2.2.2.2.2.2.2.2.2.2.2.1) && (decide ((List.getD x (Int.toNat x_2) default).2.2.2.2.2.2.2.2.2.2.2.2.2.2.2.1 = (List.getD x_1 (Int.toNat x_2) default).2.2.2.2.2.2.2.2.2.2.2.2.2.2.2.1) &&
     (decide ((List.getD x (Int.toNat x_2) default).2.2.2.2.2.2.2.2.2.2.2.2.2.2.2.2 = (List.getD x_1 (Int.toNat x_2) default).2.2.2.2.2.2.2.2.2.2.2.2.2.2.2.2) && true))))) && true))))))))))))) (false =
     sameR x x_1) (∃ (x_3 : Int), ((0 : Int) ≤ x_3 ∧ List.length x = List.length x_1 ∧ x_3 ≤ (↑(List.length x) : Int) ∧ List.take (Int.toNat x_3) x = List.take (Int.toNat x_3) x_1) ∧ Int.toNat
     ((↑(List.length x) : Int) - x_3) < Int.toNat ((↑(List.length x) : Int) - x_2) ∧ x = x ∧ x_1 = x_1 ∧ IntKind.wrap IntKind.i64 (x_2 + (1 : Int)) = x_3 ∧ True)) (true = sameR x x_1)) := by
  rintro a b ⟨⟨ha, -⟩, ⟨hb, -⟩, -⟩ -
  simp only [maxLen] at ha hb
  unfold sameR
  refine ifP_split (fun h => (decide_eq_false (fun k => nd_t h (by rw [k]))).symm) (fun h => ?_)
  have h := nd_f h
  refine ⟨⟨0, ⟨by omega, by omega, by omega, by simp⟩, (by repeat' first | exact trivial | refine ⟨trivial, ?_⟩ | refine ⟨(by with_reducible rfl), ?_⟩ | refine ⟨w64 (by omega) (by omega), ?_⟩ | refine ⟨rfl, ?_⟩)⟩, ?_⟩
  rintro i ⟨i0, il, i1, it⟩
  refine ifP_split (fun hi => ?_) (fun hi => ?_)
  · have hi := of_decide_eq_true hi
    refine ⟨i0, hi, i0, by omega, ?_⟩
    refine ifP_split (fun hd => ?_) (fun hd => ?_)
    · have hd : (!decide (a.getD i.toNat default = b.getD i.toNat default)) = true := by rw [← res_beq]; exact hd
      exact (decide_eq_false (fun k => nd_t hd (by rw [k]))).symm
    · have hd : (!decide (a.getD i.toNat default = b.getD i.toNat default)) = false := by rw [← res_beq]; exact hd
      exact ⟨i + 1, ⟨by omega, il, by omega, take_same2 i0 hi (by omega) it (nd_f hd)⟩, by omega, (by repeat' first | exact trivial | refine ⟨trivial, ?_⟩ | refine ⟨(by with_reducible rfl), ?_⟩ | refine ⟨w64 (by omega) (by omega), ?_⟩ | refine ⟨rfl, ?_⟩)⟩
  · have hi := of_decide_eq_false hi
    rw [List.take_of_length_le (by omega), List.take_of_length_le (by omega)] at it
    exact (decide_eq_true it).symm
theorem ok_ref18_SameResults : SpecOK Tryz.prog GL 36 ct_ref18_SameResults.spec := Ct.ok' _ Tryz.func36 (by kernel_rfl) noSpecs_ok hmix an_ref18_SameResults (Eq.mpr (by kernel_rfl) vc_ref18_SameResults)

def ct_ref18_Same : Ct := ⟨[.agg cVant, .agg cVant], [.val .bool], fun d => [], fun d => ((sameV d.1 d.2.1, ()), ())⟩
def an_ref18_Same : PDs ct_ref18_Same.ps → Anns := (fun d => { loops := (fun n => match n with | 4 => some (fun S => { ι := Int, μ := fun i => ((vW d.1).length - i).toNat, inv := fun i => 0 ≤ i ∧ (vW d.1).length = (vW d.2.1).length ∧ i ≤ (vW d.1).length ∧ (vW d.1).take i.toNat = (vW d.2.1).take i.toNat ∧ d.1.1 = d.2.1.1 ∧ d.1.2.1 = d.2.1.2.1 ∧ d.1.2.2.1 = d.2.1.2.2.1 ∧ d.1.2.2.2.1 = d.2.1.2.2.2.1 ∧ d.1.2.2.2.2.1 = d.2.1.2.2.2.2.1 ∧ vR d.1 = vR d.2.1, keep := [0, 1, 2, 3], slots := fun i => [(5, .int .i64 i)], keepN := [48, 64], names := fun i => [] }) | _ => none) })
theorem vc_ref18_Same :
    ∀ (d d_1 : Int × Int × Int × Int × Int × List ((Int × Int × Int × Int × Int × Int) × Int × Int × Bool × Bool × Int × Int × Int × Int × Int × Int × Int) × List (Int × Int × Int × Int × Int × Int × Int
     × Int × Bool × Bool × Int × Int × Int × Int × Int × Int × Int)), CT.wf cVant d ∧ CT.wf cVant d_1 ∧ True → True → ∀ (b : Bool), b = !decide (d.1 = d_1.1) → ((!b) = true → ((!b) = true → (!b) = true) ∧
     True) ∧ ((!b) = true → ((!b) = true → (!b) = true) ∧ True) ∧ ((!b) = true → ((!b) = true → (!b) = true) ∧ ((!b) = true → (!b) = true) ∧ True) ∧ (b = false → (!b) = true) ∧ ∀ (b_1 : Bool), (b_1 = bif b
     then true else !decide (d.2.1 = d_1.2.1)) → ((!b_1) = true → ((!b_1) = true → (!b_1) = true) ∧ True) ∧ ((!b_1) = true → ((!b_1) = true → (!b_1) = true) ∧ True) ∧ ((!b_1) = true → ((!b_1) = true →
     (!b_1) = true) ∧ ((!b_1) = true → (!b_1) = true) ∧ True) ∧ (b_1 = false → (!b_1) = true) ∧ ∀ (b : Bool), (b = bif b_1 then true else !decide (d.2.2.1 = d_1.2.2.1)) → ((!b) = true → ((!b) = true → (!b)
     = true) ∧ True) ∧ ((!b) = true → ((!b) = true → (!b) = true) ∧ True) ∧ ((!b) = true → ((!b) = true → (!b) = true) ∧ ((!b) = true → (!b) = true) ∧ True) ∧ (b = false → (!b) = true) ∧ ∀ (b_2 : Bool),
     (b_2 = bif b then true else !decide (d.2.2.2.1 = d_1.2.2.2.1)) → ((!b_2) = true → ((!b_2) = true → (!b_2) = true) ∧ True) ∧ ((!b_2) = true → ((!b_2) = true → (!b_2) = true) ∧ True) ∧ ((!b_2) = true →
     ((!b_2) = true → (!b_2) = true) ∧ ((!b_2) = true → (!b_2) = true) ∧ True) ∧ (b_2 = false → (!b_2) = true) ∧ ∀ (b : Bool), (b = bif b_2 then true else !decide (d.2.2.2.2.1 = d_1.2.2.2.2.1)) → ((!b) =
     true → ((!b) = true → (!b) = true) ∧ True) ∧ ((!b) = true → ((!b) = true → (!b) = true) ∧ True) ∧ ((!b) = true → ((!b) = true → (!b) = true) ∧ True) ∧ ((!b) = true → ((!b) = true → (!b) = true) ∧
     True) ∧ ((!b) = true → ((!b) = true → (!b) = true) ∧ ((!b) = true → (!b) = true) ∧ True) ∧ (b = false → (!b) = true) ∧ ∀ (b_3 : Bool), (b_3 = bif b then true else !decide ((↑(List.length
     d.2.2.2.2.2.1) : Int) = (↑(List.length d_1.2.2.2.2.2.1) : Int))) → ((!b_3) = true → ((!b_3) = true → (!b_3) = true) ∧ True) ∧ ((!b_3) = true → ((!b_3) = true → (!b_3) = true) ∧ True) ∧ ((!b_3) = true
     → ((!b_3) = true → (!b_3) = true) ∧ ((!b_3) = true → (!b_3) = true) ∧ True) ∧ ((!b_3) = true → ((!b_3) = true → (!b_3) = true) ∧ True) ∧ (b_3 = false → (!b_3) = true) ∧ ifP (bif b_3 then true else
     !sameR d.2.2.2.2.2.2 d_1.2.2.2.2.2.2) (false = sameV d d_1) ((∃ (x : Int), ((0 : Int) ≤ x ∧ List.length (vW d) = List.length (vW d_1) ∧ x ≤ (↑(List.length (vW d)) : Int) ∧ List.take (Int.toNat x) (vW
     d) = List.take (Int.toNat x) (vW d_1) ∧ d.1 = d_1.1 ∧ d.2.1 = d_1.2.1 ∧ d.2.2.1 = d_1.2.2.1 ∧ d.2.2.2.1 = d_1.2.2.2.1 ∧ d.2.2.2.2.1 = d_1.2.2.2.2.1 ∧ vR d = vR d_1) ∧ d.1 = d.1 ∧ d.2.1 = d.2.1 ∧
     d.2.2.1 = d.2.2.1 ∧ d.2.2.2.1 = d.2.2.2.1 ∧ d.2.2.2.2.1 = d.2.2.2.2.1 ∧ d.2.2.2.2.2.1 = d.2.2.2.2.2.1 ∧ d.2.2.2.2.2.2 = d.2.2.2.2.2.2 ∧ d_1.1 = d_1.1 ∧ d_1.2.1 = d_1.2.1 ∧ d_1.2.2.1 = d_1.2.2.1 ∧
     d_1.2.2.2.1 = d_1.2.2.2.1 ∧ d_1.2.2.2.2.1 = d_1.2.2.2.2.1 ∧ d_1.2.2.2.2.2.1 = d_1.2.2.2.2.2.1 ∧ d_1.2.2.2.2.2.2 = d_1.2.2.2.2.2.2 ∧ (0 : Int) = x ∧ d.1 = d.1 ∧ d.2.1 = d.2.1 ∧ d.2.2.1 = d.2.2.1 ∧
     d.2.2.2.1 = d.2.2.2.1 ∧ d.2.2.2.2.1 = d.2.2.2.2.1 ∧ d.2.2.2.2.2.1 = d.2.2.2.2.2.1 ∧ d.2.2.2.2.2.2 = d.2.2.2.2.2.2 ∧ d_1.1 = d_1.1 ∧ d_1.2.1 = d_1.2.1 ∧ d_1.2.2.1 = d_1.2.2.1 ∧ d_1.2.2.2.1 =
     d_1.2.2.2.1 ∧ d_1.2.2.2.2.1 = d_1.2.2.2.2.1 ∧ d_1.2.2.2.2.2.1 = d_1.2.2.2.2.2.1 ∧ d_1.2.2.2.2.2.2 = d_1.2.2.2.2.2.2 ∧ True) ∧ ∀ (x : Int), (0 : Int) ≤ x ∧ List.length (vW d) = List.length (vW d_1) ∧ x
     ≤ (↑(List.length (vW d)) : Int) ∧ List.take (Int.toNat x) (vW d) = List.take (Int.toNat x) (vW d_1) ∧ d.1 = d_1.1 ∧ d.2.1 = d_1.2.1 ∧ d.2.2.1 = d_1.2.2.1 ∧ d.2.2.2.1 = d_1.2.2.2.1 ∧ d.2.2.2.2.1 =
     d_1.2.2.2.2.1 ∧ vR d = vR d_1 → ifP (decide (x < (↑(List.length d.2.2.2.2.2.1) : Int))) ((0 : Int) ≤ x ∧ x < (↑(List.length d.2.2.2.2.2.1) : Int) ∧ (0 : Int) ≤ x ∧ x < (↑(List.length d_1.2.2.2.2.2.1)
     : Int) ∧ ifP (!(decide ((List.getD d.2.2.2.2.2.1 (Int.toNat x) default).1.1 = (List.getD d_1.2.2.2.2.2.1 (Int.toNat x) default).1.1) && (decide ((List.getD d.2.2.2.2.2.1 (Int.toNat x) default).1.2.1 =
     (List.getD d_1.2.2.2.2.2.1 (Int.toNat x) default).1.2.1) && (decide ((List.getD d.2.2.2.2.2.1 (Int.toNat x) default).1.2.2.1 = (List.getD d_1.2.2.2.2.2.1 (Int.toNat x) default).1.2.2.1) && (decide
     ((List.getD d.2.2.2.2.2.1 (Int.toNat x) default).1.2.2.2.1 = (List.getD d_1.2.2.2.2.2.1 (Int.toNat x) default).1.2.2.2.1) && (decide ((List.getD d.2.2.2.2.2.1 (Int.toNat x) default).1.2.2.2.2.1 =
     (List.getD d_1.2.2.2.2.2.1 (Int.toNat x) default).1.2.2.2.2.1) && (decide ((List.getD d.2.2.2.2.2.1 (Int.toNat x) default).1.2.2.2.2.2 = (List.getD d_1.2.2.2.2.2.1 (Int.toNat x) default).1.2.2.2.2.2)
     && true))))) && (decide ((List.getD d.2.2.2.2.2.1 (Int.toNat x) default).2.1 = (List.getD d_1.2.2.2.2.2.1 (Int.toNat x) default).2.1) && (decide ((List.getD d.2.2.2.2.2.1 (Int.toNat x) default).2.2.1
     = (List.getD d_1.2.2.2.2.2.1 (Int.toNat x) default).2.2.1) && ((List.getD d.2.2.2.2.2.1 (Int.toNat x) default).2.2.2.1 == (List.getD d_1.2.2.2.2.2.1 (Int.toNat x) default).2.2.2.1 && ((List.getD
     d.2.2.2.2.2.1 (Int.toNat x) default).2.2.2.2.1 == (List.getD d_1.2.2.2.2.2.1 (Int.toNat x) default).2.2.2.2.1 && (decide ((List.getD d.2.2.2.2.2.1 (Int.toNat x) default).2.2.2.2.2.1 = (List.getD
     d_1.2.2.2.2.2.1 (Int.toNat x) default).2.2.2.2.2.1) && (decide ((List.getD d.2.2.2.2.2.1 (Int.toNat x) default).2.2.2.2.2.2.1 = (List.getD d_1.2.2.2.2.2.1 (Int.toNat x) default).2.2.2.2.2.2.1) &&
     (decide ((List.getD d.2.2.2.2.2.1 (Int.toNat x) default).2.2.2.2.2.2.2.1 = (List.getD d_1.2.2.2.2.2.1 (Int.toNat x) default).2.2.2.2.2.2.2.1) && (decide ((List.getD d.2.2.2.2.2.1 (Int.toNat x)
     default).2.2.2.2.2.2.2.2.1 = (List.getD d_1.2.2.2.2.2.1 (Int.toNat x) default).2.2.2.2.2.2.2.2.1) && (decide ((List.getD d.2.2.2.2.2.1 (Int.toNat x) default).2.2.2.2.2.2.2.2.2.1 = (List.getD
     d_1.2.2.2.2.2.1 (Int.toNat x) default).2.2.2.2.2.2.2.2.2.1) && (decide ((List.getD d.2.2.2.2.2.1 (Int.toNat x) default).2.2.2.2.2.2.2.2.2.2.1 = (List.getD d_1.2.2.2.2.2.1 (Int.toNat x)
     default).2.2.2.2.2.2.2.2.2.2.1) && (decide ((List.getD d.2.2.2.2.2.1 (Int.toNat x) default).2.2.2.2.2.2.2.2.2.2.2 = (List.getD d_1.2.2.2.2.2.1 (Int.toNat x) default).2.2.2.2.2.2.2.2.2.2.2) &&
     true))))) && true)))))))) (false = sameV d d_1) (∃ (x_1 : Int), ((0 : Int) ≤ x_1 ∧ List.length (vW d) = List.length (vW d_1) ∧ x_1 ≤ (↑(List.length (vW d)) : Int) ∧ List.take (Int.toNat x_1) (vW d) =
     List.take (Int.toNat x_1) (vW d_1) ∧ d.1 = d_1.1 ∧ d.2.1 = d_1.2.1 ∧ d.2.2.1 = d_1.2.2.1 ∧ d.2.2.2.1 = d_1.2.2.2.1 ∧ d.2.2.2.2.1 = d_1.2.2.2.2.1 ∧ vR d = vR d_1) ∧ Int.toNat ((↑(List.length (vW d)) :
     Int) - x_1) < Int.toNat ((↑(List.length (vW d)) : Int) - x) ∧ d.1 = d.1 ∧ d.2.1 = d.2.1 ∧ d.2.2.1 = d.2.2.1 ∧ d.2.2.2.1 = d.2.2.2.1 ∧ d.2.2.2.2.1 = d.2.2.2.2.1 ∧ d.2.2.2.2.2.1 = d.2.2.2.2.2.1 ∧
     d.2.2.2.2.2.2 = d.2.2.2.2.2.2 ∧ d_1.1 = d_1.1 ∧ d_1.2.1 = d_1.2.1 ∧ d_1.2.2.1 = d_1.2.2.1 ∧ d_1.2.2.2.1 = d_1.2.2.2.1 ∧ d_1.2.2.2.2.1 = d_1.2.2.2.2.1 ∧ d_1.2.2.2.2.2.1 = d_1.2.2.2.2.2.1 ∧
     d_1.2.2.2.2.2.2 = d_1.2.2.2.2.2.2 ∧ IntKind.wrap IntKind.i64 (x + (1 : Int)) = x_1 ∧ d.1 = d.1 ∧ d.2.1 = d.2.1 ∧ d.2.2.1 = d.2.2.1 ∧ d.2.2.2.1 = d.2.2.2.1 ∧ d.2.2.2.2.1 = d.2.2.2.2.1 ∧ d.2.2.2.2.2.1 =
     d.2.2.2.2.2.1 ∧ d.2.2.2.2.2.2 = d.2.2.2.2.2.2 ∧ d_1.1 = d_1.1 ∧ d_1.2.1 = d_1.2.1 ∧ d_1.2.2.1 = d_1.2.2.1 ∧ d_1.2.2.2.1 = d_1.2.2.2.1 ∧ d_1.2.2.2.2.1 = d_1.2.2.2.2.1 ∧ d_1.2.2.2.2.2.1 =
     d_1.2.2.2.2.2.1 ∧ d_1.2.2.2.2.2.2 = d_1.2.2.2.2.2.2 ∧ True)) (true = sameV d d_1)) := by
  rintro a b ⟨ha, hb, -⟩ -
  have la : ((vW a).length : Int) ≤ 9223372036854775807 := by have := ha.2.2.2.2.2.1.1; simp only [maxLen] at this; show ((a.2.2.2.2.2.1.length : Nat) : Int) ≤ _; omega
  have ext : a = b ↔ (a.1 = b.1 ∧ a.2.1 = b.2.1 ∧ a.2.2.1 = b.2.2.1 ∧ a.2.2.2.1 = b.2.2.2.1 ∧ a.2.2.2.2.1 = b.2.2.2.2.1 ∧ vW a = vW b ∧ vR a = vR b) := by
    obtain ⟨a1, a2, a3, a4, a5, a6, a7⟩ := a
    obtain ⟨b1, b2, b3, b4, b5, b6, b7⟩ := b
    simp only [vW, vR, Prod.mk.injEq]
  have eW : ∀ v : Vant, v.2.2.2.2.2.1 = vW v := fun _ => rfl
  have eR : ∀ v : Vant, v.2.2.2.2.2.2 = vR v := fun _ => rfl
  simp only [eW, eR]
  unfold sameV
  (repeat (intro (b_ : Bool) (hb_ : b_ = _); (repeat refine ⟨(by first | (simp +contextual; done) | (rw [hb_]; simp +contextual; done) | (rw [hb_]; simp; omega) | (rw [hb_]; simp; intros; omega) | (rw [hb_]; simp +contextual; intros; omega) | (intros; simp_all; done) | (intros; simp_all; omega)), ?_⟩))); subst_vars
  refine ifP_or (fun h => ?_) (fun h h6 => ?_)
  · refine (decide_eq_false (fun k => ?_)).symm
    subst k
    simp [Bool.cond_eq_ite, sameR] at h
  have h6 : vR a = vR b := by
    unfold sameR at h6; exact nd_f h6
  simp [Bool.cond_eq_ite] at h
  obtain ⟨⟨⟨⟨⟨h1, h2⟩, h3⟩, h4⟩, h5⟩, hl⟩ := h
  refine ⟨⟨0, ⟨by omega, by omega, by omega, by simp, h1, h2, h3, h4, h5, h6⟩, (by repeat' first | exact trivial | refine ⟨trivial, ?_⟩ | refine ⟨(by with_reducible rfl), ?_⟩ | refine ⟨w64 (by omega) (by omega), ?_⟩ | refine ⟨rfl, ?_⟩)⟩, ?_⟩
  rintro i ⟨i0, il, i1, it, -⟩
  refine ifP_split (fun hi => ?_) (fun hi => ?_)
  · have hi := of_decide_eq_true hi
    refine ⟨i0, hi, i0, by omega, ?_⟩
    refine ifP_split (fun hd => ?_) (fun hd => ?_)
    · have hd : (!decide ((vW a).getD i.toNat default = (vW b).getD i.toNat default)) = true := by rw [← pend_beq]; exact hd
      exact (decide_eq_false (fun k => nd_t hd (by rw [k]))).symm
    · have hd : (!decide ((vW a).getD i.toNat default = (vW b).getD i.toNat default)) = false := by rw [← pend_beq]; exact hd
      refine ⟨i + 1, ⟨by omega, il, by omega, take_same2 i0 hi (by omega) it (nd_f hd), h1, h2, h3, h4, h5, h6⟩, by omega, (by repeat' first | exact trivial | refine ⟨trivial, ?_⟩ | refine ⟨(by with_reducible rfl), ?_⟩ | refine ⟨w64 (by omega) (by omega), ?_⟩ | refine ⟨rfl, ?_⟩)⟩
  · have hi := of_decide_eq_false hi
    rw [List.take_of_length_le (by omega), List.take_of_length_le (by omega)] at it
    exact (decide_eq_true (ext.2 ⟨h1, h2, h3, h4, h5, it, h6⟩)).symm
theorem ok_ref18_Same : SpecOK Tryz.prog GL 11 ct_ref18_Same.spec := Ct.ok' _ Tryz.func11 (by kernel_rfl) (withSpec_ok noSpecs_ok ok_ref18_SameResults) hmix an_ref18_Same (Eq.mpr (by kernel_rfl) vc_ref18_Same)

def ct_ExpireD : Ct := ⟨[.agg cVant, .val cI], [.agg cVant], fun d => [vSmall d.1], fun d => ((expireV d.1 d.2.1, ()), ())⟩
def an_ExpireD : PDs ct_ExpireD.ps → Anns := (fun _ => {})
theorem vc_ExpireD :
    ∀ (d : Int × Int × Int × Int × Int × List ((Int × Int × Int × Int × Int × Int) × Int × Int × Bool × Bool × Int × Int × Int × Int × Int × Int × Int) × List (Int × Int × Int × Int × Int × Int × Int ×
     Int × Bool × Bool × Int × Int × Int × Int × Int × Int × Int)) (x : Int), CT.wf cVant d ∧ ((-9223372036854775808 : Int) ≤ x ∧ x ≤ (9223372036854775807 : Int)) ∧ True → (↑(List.length (vW d)) : Int) ≤
     (100000 : Int) ∧ (↑(List.length (vR d)) : Int) ≤ (100000 : Int) → vSmall d ∧ (d.1, d.2.1, d.2.2.1, d.2.2.2.1, d.2.2.2.2.1, List.filter (fun (x_1 : Pend) => !overAt (vT d) x x_1) (vW d), vR d ++
     List.map (resOf d) (List.filter (overAt (vT d) x) (vW d))) = expireV d x := by
  rintro d x - ⟨hw, hr⟩
  exact ⟨⟨hw, hr⟩, rfl⟩
theorem ok_ExpireD : SpecOK Tryz.prog GL 15 ct_ExpireD.spec := Ct.ok' _ Tryz.func15 (by kernel_rfl) (withSpec_ok noSpecs_ok ok_finishE) hmix an_ExpireD (Eq.mpr (by kernel_rfl) vc_ExpireD)

def ct_ExpireDR : Ct := ⟨[.agg cVant, .val cI], [.agg cVant], fun d => [vSmall d.1, ∀ x ∈ vW d.1, un0 x], fun d => ((expireV d.1 d.2.1, ()), ())⟩
def an_ExpireDR : PDs ct_ExpireDR.ps → Anns := (fun _ => {})
theorem vc_ExpireDR :
    ∀ (d : Int × Int × Int × Int × Int × List ((Int × Int × Int × Int × Int × Int) × Int × Int × Bool × Bool × Int × Int × Int × Int × Int × Int × Int) × List (Int × Int × Int × Int × Int × Int × Int ×
     Int × Bool × Bool × Int × Int × Int × Int × Int × Int × Int)) (x : Int), CT.wf cVant d ∧ ((-9223372036854775808 : Int) ≤ x ∧ x ≤ (9223372036854775807 : Int)) ∧ True → (vSmall d ∧ ∀ (x : Pend), x ∈ vW
     d → un0 x) → vSmall d ∧ (∀ (x : Pend), x ∈ vW d → un0 x) ∧ (d.1, d.2.1, d.2.2.1, d.2.2.2.1, d.2.2.2.2.1, List.filter (fun (x_1 : Pend) => !andOv false (vT d) x x_1) (vW d), vR d ++ List.map (resOf d)
     (List.filter (andOv false (vT d) x) (vW d))) = expireV d x := by
  rintro d x - ⟨⟨hw, hr⟩, hu⟩
  exact ⟨⟨hw, hr⟩, hu, rfl⟩
theorem ok_ExpireDR : SpecOK Tryz.prog GL 16 ct_ExpireDR.spec := Ct.ok' _ Tryz.func16 (by kernel_rfl) (withSpec_ok noSpecs_ok ok_ref18_expire) hmix an_ExpireDR (Eq.mpr (by kernel_rfl) vc_ExpireDR)
end Go.RS

