/- Refv: the reference's vantage points. -/
import Derived.Test.YtdegakknelbjiaaGreatDoorVant
import Derived.Test.YtdegakknelbjiaaGreatDoorRefread
namespace Go.RS
open Go.SX Go.Proofs
set_option maxRecDepth 100000
set_option linter.unusedVariables false

def un0 (x : Pend) : Prop := x.2.2.2.1 = false → x.2.2.2.2.1 = false ∧ x.2.2.2.2.2.2 = ans0
/-- What holds of the vantage points of the laws. -/
structure VOK (v : Vant) : Prop where
  run : 0 ≤ v.2.1 ∧ v.2.1 ≤ 63
  next : 0 ≤ v.2.2.1 ∧ v.2.2.1 ≤ 1000
  src : ∀ x ∈ vW v, x.1.1 = vAddr v
  un : ∀ x ∈ vW v, un0 x
theorem mem_expire {v : Vant} {o : Pend → Bool} {x : Pend} (h : x ∈ vW (finP v o)) : x ∈ vW v := (List.mem_filter.1 h).1
theorem VOK.fin {v : Vant} (h : VOK v) (o : Pend → Bool) : VOK (finP v o) :=
  ⟨h.run, h.next, fun x hx => h.src x (mem_expire hx), fun x hx => h.un x (mem_expire hx)⟩
def matchD (p : Probe) (x : Pend) : Bool := decide (x.1.2.1 = p.2.1 ∧ x.1.2.2.1 = p.2.2.1 ∧ x.1.2.2.2.1 = p.2.2.2.1 ∧ x.1.2.2.2.2.1 = p.2.2.2.2.1)
def andOv (all : Bool) (t at' : Int) (x : Pend) : Bool := all || overAt t at' x
def decAns : DecidableEq Ans := inferInstance
def decBack : DecidableEq (Bool × Bool × Int × Ans) := @instDecidableEqProd _ _ inferInstance (@instDecidableEqProd _ _ inferInstance (@instDecidableEqProd _ _ inferInstance decAns))
instance decPend : DecidableEq Pend := @instDecidableEqProd _ _ inferInstance (@instDecidableEqProd _ _ inferInstance (@instDecidableEqProd _ _ inferInstance decBack))
def decVal : DecidableEq (Int × Int × Int × Int × Bool × Bool × Int × Ans) := @instDecidableEqProd _ _ inferInstance (@instDecidableEqProd _ _ inferInstance (@instDecidableEqProd _ _ inferInstance (@instDecidableEqProd _ _ inferInstance decBack)))
instance decRes : DecidableEq Res := @instDecidableEqProd _ _ inferInstance (@instDecidableEqProd _ _ inferInstance (@instDecidableEqProd _ _ inferInstance (@instDecidableEqProd _ _ inferInstance decVal)))
def sameR (a b : List Res) : Bool := decide (a = b)
def decLists : DecidableEq (List Pend × List Res) := @instDecidableEqProd _ _ inferInstance inferInstance
instance decVant : DecidableEq Vant := @instDecidableEqProd _ _ inferInstance (@instDecidableEqProd _ _ inferInstance (@instDecidableEqProd _ _ inferInstance (@instDecidableEqProd _ _ inferInstance (@instDecidableEqProd _ _ inferInstance decLists))))
def sameV (a b : Vant) : Bool := decide (a = b)
theorem res_beq (a b : Res) : (decide (a.1 = b.1) && (decide (a.2.1 = b.2.1) && (decide (a.2.2.1 = b.2.2.1) && (decide (a.2.2.2.1 = b.2.2.2.1) && (decide (a.2.2.2.2.1 = b.2.2.2.2.1) && (decide (a.2.2.2.2.2.1 = b.2.2.2.2.2.1) && (decide (a.2.2.2.2.2.2.1 = b.2.2.2.2.2.2.1) && (decide (a.2.2.2.2.2.2.2.1 = b.2.2.2.2.2.2.2.1) && (a.2.2.2.2.2.2.2.2.1 == b.2.2.2.2.2.2.2.2.1 && (a.2.2.2.2.2.2.2.2.2.1 == b.2.2.2.2.2.2.2.2.2.1 && (decide (a.2.2.2.2.2.2.2.2.2.2.1 = b.2.2.2.2.2.2.2.2.2.2.1) && (decide (a.2.2.2.2.2.2.2.2.2.2.2.1 = b.2.2.2.2.2.2.2.2.2.2.2.1) && (decide (a.2.2.2.2.2.2.2.2.2.2.2.2.1 = b.2.2.2.2.2.2.2.2.2.2.2.2.1) && (decide (a.2.2.2.2.2.2.2.2.2.2.2.2.2.1 = b.2.2.2.2.2.2.2.2.2.2.2.2.2.1) && (decide (a.2.2.2.2.2.2.2.2.2.2.2.2.2.2.1 = b.2.2.2.2.2.2.2.2.2.2.2.2.2.2.1) && (decide (a.2.2.2.2.2.2.2.2.2.2.2.2.2.2.2.1 = b.2.2.2.2.2.2.2.2.2.2.2.2.2.2.2.1) && (decide (a.2.2.2.2.2.2.2.2.2.2.2.2.2.2.2.2 = b.2.2.2.2.2.2.2.2.2.2.2.2.2.2.2.2) && true))))) && true)))))))))))) = decide (a = b) := by
  obtain ⟨a1, a2, a3, a4, a5, a6, a7, a8, a9, a10, a11, a12, a13, a14, a15, a16, a17⟩ := a
  obtain ⟨b1, b2, b3, b4, b5, b6, b7, b8, b9, b10, b11, b12, b13, b14, b15, b16, b17⟩ := b
  rw [Bool.eq_iff_iff]
  simp only [Bool.and_eq_true, decide_eq_true_eq, beq_iff_eq, Prod.mk.injEq, and_true]
theorem pend_beq (a b : Pend) : ((decide (a.1.1 = b.1.1) && (decide (a.1.2.1 = b.1.2.1) && (decide (a.1.2.2.1 = b.1.2.2.1) && (decide (a.1.2.2.2.1 = b.1.2.2.2.1) && (decide (a.1.2.2.2.2.1 = b.1.2.2.2.2.1) && (decide (a.1.2.2.2.2.2 = b.1.2.2.2.2.2) && true)))))) && (decide (a.2.1 = b.2.1) && (decide (a.2.2.1 = b.2.2.1) && (a.2.2.2.1 == b.2.2.2.1 && (a.2.2.2.2.1 == b.2.2.2.2.1 && (decide (a.2.2.2.2.2.1 = b.2.2.2.2.2.1) && ((decide (a.2.2.2.2.2.2.1 = b.2.2.2.2.2.2.1) && (decide (a.2.2.2.2.2.2.2.1 = b.2.2.2.2.2.2.2.1) && (decide (a.2.2.2.2.2.2.2.2.1 = b.2.2.2.2.2.2.2.2.1) && (decide (a.2.2.2.2.2.2.2.2.2.1 = b.2.2.2.2.2.2.2.2.2.1) && (decide (a.2.2.2.2.2.2.2.2.2.2.1 = b.2.2.2.2.2.2.2.2.2.2.1) && (decide (a.2.2.2.2.2.2.2.2.2.2.2 = b.2.2.2.2.2.2.2.2.2.2.2) && true)))))) && true))))))) = decide (a = b) := by
  obtain ⟨⟨p1, p2, p3, p4, p5, p6⟩, a2, a3, a4, a5, a6, a7, a8, a9, a10, a11, a12⟩ := a
  obtain ⟨⟨q1, q2, q3, q4, q5, q6⟩, b2, b3, b4, b5, b6, b7, b8, b9, b10, b11, b12⟩ := b
  rw [Bool.eq_iff_iff]
  simp only [Bool.and_eq_true, decide_eq_true_eq, beq_iff_eq, Prod.mk.injEq, and_true]
theorem take_same2 {α : Type} [Inhabited α] {l m : List α} {i : Int} (h0 : 0 ≤ i) (h1 : i < l.length) (h2 : i < m.length) (h : l.take i.toNat = m.take i.toNat) (he : l.getD i.toNat default = m.getD i.toNat default) : l.take (i + 1).toNat = m.take (i + 1).toNat := by
  rw [take_next h0 h1, take_next h0 h2, h, he]
theorem tag_ok {v : Vant} (h : VOK v) (hn : v.2.2.1 < 1000) : 0 ≤ tagV v.2.1 v.2.2.1 ∧ tagV v.2.1 v.2.2.1 ≤ 65534 := by
  have h1 := h.run
  have h2 := h.next
  unfold tagV
  rw [w64 (n := v.2.1 * 1000) (by omega) (by omega), w64 (by omega) (by omega)]; omega
theorem tag_probe {v : Vant} {dst pr fl ttl t : Int} (h : probeErr (prP v dst pr fl ttl 0) = 0) (ht : 0 ≤ t ∧ t ≤ 65534) : probeErr (prP v dst pr fl ttl t) = 0 := by
  obtain ⟨h1, h2, h3, h4⟩ := probe_ok.1 h
  exact probe_ok.2 ⟨h1, h2, ht, h4⟩









def ct_ref18_SameResults : Ct := ⟨[.val (.sl cRes), .val (.sl cRes)], [.val .bool], fun d => [], fun d => ((sameR d.1 d.2.1, ()), ())⟩
def an_ref18_SameResults : PDs ct_ref18_SameResults.ps → Anns := (fun d => { loops := (fun n => match n with | 4 => some (fun S => { ι := Int, μ := fun i => (d.1.length - i).toNat, inv := fun i => 0 ≤ i ∧ d.1.length = d.2.1.length ∧ i ≤ d.1.length ∧ d.1.take i.toNat = d.2.1.take i.toNat, keep := [0, 1, 2, 3], slots := fun i => [(5, .int .i64 i)], names := fun i => [] }) | _ => none) })
theorem vc_ref18_SameResults :
    ∀ (x x_1 : List (Int × Int × Int × Int × Int × Int × Int × Int × Bool × Bool × Int × Int × Int × Int × Int × Int × Int)), (List.length x ≤ maxLen ∧ ∀ (x_2 : Int × Int × Int × Int × Int × Int × Int ×
     Int × Bool × Bool × Int × Int × Int × Int × Int × Int × Int), x_2 ∈ x → ((-9223372036854775808 : Int) ≤ x_2.1 ∧ x_2.1 ≤ (9223372036854775807 : Int)) ∧ ((-9223372036854775808 : Int) ≤ x_2.2.1 ∧ x_2.2.1
     ≤ (9223372036854775807 : Int)) ∧ ((-9223372036854775808 : Int) ≤ x_2.2.2.1 ∧ x_2.2.2.1 ≤ (9223372036854775807 : Int)) ∧ ((-9223372036854775808 : Int) ≤ x_2.2.2.2.1 ∧ x_2.2.2.2.1 ≤ (9223372036854775807
     : Int)) ∧ ((0 : Int) ≤ x_2.2.2.2.2.1 ∧ x_2.2.2.2.2.1 ≤ (4294967295 : Int)) ∧ ((-9223372036854775808 : Int) ≤ x_2.2.2.2.2.2.1 ∧ x_2.2.2.2.2.2.1 ≤ (9223372036854775807 : Int)) ∧ ((-9223372036854775808 :
     Int) ≤ x_2.2.2.2.2.2.2.1 ∧ x_2.2.2.2.2.2.2.1 ≤ (9223372036854775807 : Int)) ∧ ((-9223372036854775808 : Int) ≤ x_2.2.2.2.2.2.2.2.1 ∧ x_2.2.2.2.2.2.2.2.1 ≤ (9223372036854775807 : Int)) ∧ True ∧ True ∧
     ((-9223372036854775808 : Int) ≤ x_2.2.2.2.2.2.2.2.2.2.2.1 ∧ x_2.2.2.2.2.2.2.2.2.2.2.1 ≤ (9223372036854775807 : Int)) ∧ ((0 : Int) ≤ x_2.2.2.2.2.2.2.2.2.2.2.2.1 ∧ x_2.2.2.2.2.2.2.2.2.2.2.2.1 ≤
     (4294967295 : Int)) ∧ ((-9223372036854775808 : Int) ≤ x_2.2.2.2.2.2.2.2.2.2.2.2.2.1 ∧ x_2.2.2.2.2.2.2.2.2.2.2.2.2.1 ≤ (9223372036854775807 : Int)) ∧ ((-9223372036854775808 : Int) ≤
     x_2.2.2.2.2.2.2.2.2.2.2.2.2.2.1 ∧ x_2.2.2.2.2.2.2.2.2.2.2.2.2.2.1 ≤ (9223372036854775807 : Int)) ∧ ((-9223372036854775808 : Int) ≤ x_2.2.2.2.2.2.2.2.2.2.2.2.2.2.2.1 ∧ x_2.2.2.2.2.2.2.2.2.2.2.2.2.2.2.1
     ≤ (9223372036854775807 : Int)) ∧ ((-9223372036854775808 : Int) ≤ x_2.2.2.2.2.2.2.2.2.2.2.2.2.2.2.2.1 ∧ x_2.2.2.2.2.2.2.2.2.2.2.2.2.2.2.2.1 ≤ (9223372036854775807 : Int)) ∧ (-9223372036854775808 : Int)
     ≤ x_2.2.2.2.2.2.2.2.2.2.2.2.2.2.2.2.2 ∧ x_2.2.2.2.2.2.2.2.2.2.2.2.2.2.2.2.2 ≤ (9223372036854775807 : Int)) ∧ (List.length x_1 ≤ maxLen ∧ ∀ (x : Int × Int × Int × Int × Int × Int × Int × Int × Bool ×
     Bool × Int × Int × Int × Int × Int × Int × Int), x ∈ x_1 → ((-9223372036854775808 : Int) ≤ x.1 ∧ x.1 ≤ (9223372036854775807 : Int)) ∧ ((-9223372036854775808 : Int) ≤ x.2.1 ∧ x.2.1 ≤
     (9223372036854775807 : Int)) ∧ ((-9223372036854775808 : Int) ≤ x.2.2.1 ∧ x.2.2.1 ≤ (9223372036854775807 : Int)) ∧ ((-9223372036854775808 : Int) ≤ x.2.2.2.1 ∧ x.2.2.2.1 ≤ (9223372036854775807 : Int)) ∧
     ((0 : Int) ≤ x.2.2.2.2.1 ∧ x.2.2.2.2.1 ≤ (4294967295 : Int)) ∧ ((-9223372036854775808 : Int) ≤ x.2.2.2.2.2.1 ∧ x.2.2.2.2.2.1 ≤ (9223372036854775807 : Int)) ∧ ((-9223372036854775808 : Int) ≤
     x.2.2.2.2.2.2.1 ∧ x.2.2.2.2.2.2.1 ≤ (9223372036854775807 : Int)) ∧ ((-9223372036854775808 : Int) ≤ x.2.2.2.2.2.2.2.1 ∧ x.2.2.2.2.2.2.2.1 ≤ (9223372036854775807 : Int)) ∧ True ∧ True ∧
     ((-9223372036854775808 : Int) ≤ x.2.2.2.2.2.2.2.2.2.2.1 ∧ x.2.2.2.2.2.2.2.2.2.2.1 ≤ (9223372036854775807 : Int)) ∧ ((0 : Int) ≤ x.2.2.2.2.2.2.2.2.2.2.2.1 ∧ x.2.2.2.2.2.2.2.2.2.2.2.1 ≤ (4294967295 :
     Int)) ∧ ((-9223372036854775808 : Int) ≤ x.2.2.2.2.2.2.2.2.2.2.2.2.1 ∧ x.2.2.2.2.2.2.2.2.2.2.2.2.1 ≤ (9223372036854775807 : Int)) ∧ ((-9223372036854775808 : Int) ≤ x.2.2.2.2.2.2.2.2.2.2.2.2.2.1 ∧
     x.2.2.2.2.2.2.2.2.2.2.2.2.2.1 ≤ (9223372036854775807 : Int)) ∧ ((-9223372036854775808 : Int) ≤ x.2.2.2.2.2.2.2.2.2.2.2.2.2.2.1 ∧ x.2.2.2.2.2.2.2.2.2.2.2.2.2.2.1 ≤ (9223372036854775807 : Int)) ∧
     ((-9223372036854775808 : Int) ≤ x.2.2.2.2.2.2.2.2.2.2.2.2.2.2.2.1 ∧ x.2.2.2.2.2.2.2.2.2.2.2.2.2.2.2.1 ≤ (9223372036854775807 : Int)) ∧ (-9223372036854775808 : Int) ≤ x.2.2.2.2.2.2.2.2.2.2.2.2.2.2.2.2
     ∧ x.2.2.2.2.2.2.2.2.2.2.2.2.2.2.2.2 ≤ (9223372036854775807 : Int)) ∧ True → True → ifP (!decide ((↑(List.length x) : Int) = (↑(List.length x_1) : Int))) (false = sameR x x_1) ((∃ (x_2 : Int), ((0 :
     Int) ≤ x_2 ∧ List.length x = List.length x_1 ∧ x_2 ≤ (↑(List.length x) : Int) ∧ List.take (Int.toNat x_2) x = List.take (Int.toNat x_2) x_1) ∧ x = x ∧ x_1 = x_1 ∧ (0 : Int) = x_2 ∧ True) ∧ ∀ (x_2 :
     Int), (0 : Int) ≤ x_2 ∧ List.length x = List.length x_1 ∧ x_2 ≤ (↑(List.length x) : Int) ∧ List.take (Int.toNat x_2) x = List.take (Int.toNat x_2) x_1 → ifP (decide (x_2 < (↑(List.length x) : Int)))
     ((0 : Int) ≤ x_2 ∧ x_2 < (↑(List.length x) : Int) ∧ (0 : Int) ≤ x_2 ∧ x_2 < (↑(List.length x_1) : Int) ∧ ifP (!(decide ((List.getD x (Int.toNat x_2) default).1 = (List.getD x_1 (Int.toNat x_2)
     default).1) && (decide ((List.getD x (Int.toNat x_2) default).2.1 = (List.getD x_1 (Int.toNat x_2) default).2.1) && (decide ((List.getD x (Int.toNat x_2) default).2.2.1 = (List.getD x_1 (Int.toNat
     x_2) default).2.2.1) && (decide ((List.getD x (Int.toNat x_2) default).2.2.2.1 = (List.getD x_1 (Int.toNat x_2) default).2.2.2.1) && (decide ((List.getD x (Int.toNat x_2) default).2.2.2.2.1 =
     (List.getD x_1 (Int.toNat x_2) default).2.2.2.2.1) && (decide ((List.getD x (Int.toNat x_2) default).2.2.2.2.2.1 = (List.getD x_1 (Int.toNat x_2) default).2.2.2.2.2.1) && (decide ((List.getD x
     (Int.toNat x_2) default).2.2.2.2.2.2.1 = (List.getD x_1 (Int.toNat x_2) default).2.2.2.2.2.2.1) && (decide ((List.getD x (Int.toNat x_2) default).2.2.2.2.2.2.2.1 = (List.getD x_1 (Int.toNat x_2)
     default).2.2.2.2.2.2.2.1) && ((List.getD x (Int.toNat x_2) default).2.2.2.2.2.2.2.2.1 == (List.getD x_1 (Int.toNat x_2) default).2.2.2.2.2.2.2.2.1 && ((List.getD x (Int.toNat x_2)
     default).2.2.2.2.2.2.2.2.2.1 == (List.getD x_1 (Int.toNat x_2) default).2.2.2.2.2.2.2.2.2.1 && (decide ((List.getD x (Int.toNat x_2) default).2.2.2.2.2.2.2.2.2.2.1 = (List.getD x_1 (Int.toNat x_2)
     default).2.2.2.2.2.2.2.2.2.2.1) && (decide ((List.getD x (Int.toNat x_2) default).2.2.2.2.2.2.2.2.2.2.2.1 = (List.getD x_1 (Int.toNat x_2) default).2.2.2.2.2.2.2.2.2.2.2.1) && (decide ((List.getD x
     (Int.toNat x_2) default).2.2.2.2.2.2.2.2.2.2.2.2.1 = (List.getD x_1 (Int.toNat x_2) default).2.2.2.2.2.2.2.2.2.2.2.2.1) && (decide ((List.getD x (Int.toNat x_2) default).2.2.2.2.2.2.2.2.2.2.2.2.2.1 =
     (List.getD x_1 (Int.toNat x_2) default).2.2.2.2.2.2.2.2.2.2.2.2.2.1) && (decide ((List.getD x (Int.toNat x_2) default).2.2.2.2.2.2.2.2.2.2.2.2.2.2.1 = (List.getD x_1 (Int.toNat x_2)
     default).2.2.2.2.2.2.2.2.2.2.2.2.2.2.1) && (decide ((List.getD x (Int.toNat x_2) default).2.2.2.2.2.2.2.2.2.2.2.2.2.2.2.1 = (List.getD x_1 (Int.toNat x_2) default).2.2.2.2.2.2.2.2.2.2.2.2.2.2.2.1) &&
     (decide ((List.getD x (Int.toNat x_2) default).2.2.2.2.2.2.2.2.2.2.2.2.2.2.2.2 = (List.getD x_1 (Int.toNat x_2) default).2.2.2.2.2.2.2.2.2.2.2.2.2.2.2.2) && true))))) && true))))))))))))) (false =
     sameR x x_1) (∃ (x_3 : Int), ((0 : Int) ≤ x_3 ∧ List.length x = List.length x_1 ∧ x_3 ≤ (↑(List.length x) : Int) ∧ List.take (Int.toNat x_3) x = List.take (Int.toNat x_3) x_1) ∧ Int.toNat
     ((↑(List.length x) : Int) - x_3) < Int.toNat ((↑(List.length x) : Int) - x_2) ∧ x = x ∧ x_1 = x_1 ∧ IntKind.wrap IntKind.i64 (x_2 + (1 : Int)) = x_3 ∧ True)) (true = sameR x x_1)) := by
  rintro a b ⟨⟨ha, -⟩, ⟨hb, -⟩, -⟩ -
  simp only [maxLen] at ha hb
  unfold sameR
  refine ifP_split (fun h => (decide_eq_false (fun k => nd_t h (by rw [k]))).symm) (fun h => ?_)
  have h := nd_f h
  refine ⟨⟨0, ⟨by omega, by omega, by omega, by simp⟩, (by repeat' first | exact trivial | refine ⟨trivial, ?_⟩ | refine ⟨(by with_reducible rfl), ?_⟩ | refine ⟨w64 (by omega) (by omega), ?_⟩ | refine ⟨rfl, ?_⟩)⟩, ?_⟩
  rintro i ⟨i0, il, i1, it⟩
  refine ifP_split (fun hi => ?_) (fun hi => ?_)
  · have hi := of_decide_eq_true hi
    refine ⟨i0, hi, i0, by omega, ?_⟩
    refine ifP_split (fun hd => ?_) (fun hd => ?_)
    · have hd : (!decide (a.getD i.toNat default = b.getD i.toNat default)) = true := by rw [← res_beq]; exact hd
      exact (decide_eq_false (fun k => nd_t hd (by rw [k]))).symm
    · have hd : (!decide (a.getD i.toNat default = b.getD i.toNat default)) = false := by rw [← res_beq]; exact hd
      exact ⟨i + 1, ⟨by omega, il, by omega, take_same2 i0 hi (by omega) it (nd_f hd)⟩, by omega, (by repeat' first | exact trivial | refine ⟨trivial, ?_⟩ | refine ⟨(by with_reducible rfl), ?_⟩ | refine ⟨w64 (by omega) (by omega), ?_⟩ | refine ⟨rfl, ?_⟩)⟩
  · have hi := of_decide_eq_false hi
    rw [List.take_of_length_le (by omega), List.take_of_length_le (by omega)] at it
    exact (decide_eq_true it).symm
theorem ok_ref18_SameResults : SpecOK Tryz.prog GL 36 ct_ref18_SameResults.spec := Ct.ok' _ Tryz.func36 (by kernel_rfl) noSpecs_ok hmix an_ref18_SameResults (Eq.mpr (by kernel_rfl) vc_ref18_SameResults)

def ct_ref18_Same : Ct := ⟨[.agg cVant, .agg cVant], [.val .bool], fun d => [], fun d => ((sameV d.1 d.2.1, ()), ())⟩
def an_ref18_Same : PDs ct_ref18_Same.ps → Anns := (fun d => { loops := (fun n => match n with | 4 => some (fun S => { ι := Int, μ := fun i => ((vW d.1).length - i).toNat, inv := fun i => 0 ≤ i ∧ (vW d.1).length = (vW d.2.1).length ∧ i ≤ (vW d.1).length ∧ (vW d.1).take i.toNat = (vW d.2.1).take i.toNat ∧ d.1.1 = d.2.1.1 ∧ d.1.2.1 = d.2.1.2.1 ∧ d.1.2.2.1 = d.2.1.2.2.1 ∧ d.1.2.2.2.1 = d.2.1.2.2.2.1 ∧ d.1.2.2.2.2.1 = d.2.1.2.2.2.2.1 ∧ vR d.1 = vR d.2.1, keep := [0, 1, 2, 3], slots := fun i => [(5, .int .i64 i)], keepN := [48, 64], names := fun i => [] }) | _ => none) })
theorem vc_ref18_Same :
    ∀ (d d_1 : Int × Int × Int × Int × Int × List ((Int × Int × Int × Int × Int × Int) × Int × Int × Bool × Bool × Int × Int × Int × Int × Int × Int × Int) × List (Int × Int × Int × Int × Int × Int × Int
     × Int × Bool × Bool × Int × Int × Int × Int × Int × Int × Int)), CT.wf cVant d ∧ CT.wf cVant d_1 ∧ True → True → ∀ (b : Bool), b = !decide (d.1 = d_1.1) → ((!b) = true → ((!b) = true → (!b) = true) ∧
     True) ∧ ((!b) = true → ((!b) = true → (!b) = true) ∧ True) ∧ ((!b) = true → ((!b) = true → (!b) = true) ∧ ((!b) = true → (!b) = true) ∧ True) ∧ (b = false → (!b) = true) ∧ ∀ (b_1 : Bool), (b_1 = bif b
     then true else !decide (d.2.1 = d_1.2.1)) → ((!b_1) = true → ((!b_1) = true → (!b_1) = true) ∧ True) ∧ ((!b_1) = true → ((!b_1) = true → (!b_1) = true) ∧ True) ∧ ((!b_1) = true → ((!b_1) = true →
     (!b_1) = true) ∧ ((!b_1) = true → (!b_1) = true) ∧ True) ∧ (b_1 = false → (!b_1) = true) ∧ ∀ (b : Bool), (b = bif b_1 then true else !decide (d.2.2.1 = d_1.2.2.1)) → ((!b) = true → ((!b) = true → (!b)
     = true) ∧ True) ∧ ((!b) = true → ((!b) = true → (!b) = true) ∧ True) ∧ ((!b) = true → ((!b) = true → (!b) = true) ∧ ((!b) = true → (!b) = true) ∧ True) ∧ (b = false → (!b) = true) ∧ ∀ (b_2 : Bool),
     (b_2 = bif b then true else !decide (d.2.2.2.1 = d_1.2.2.2.1)) → ((!b_2) = true → ((!b_2) = true → (!b_2) = true) ∧ True) ∧ ((!b_2) = true → ((!b_2) = true → (!b_2) = true) ∧ True) ∧ ((!b_2) = true →
     ((!b_2) = true → (!b_2) = true) ∧ ((!b_2) = true → (!b_2) = true) ∧ True) ∧ (b_2 = false → (!b_2) = true) ∧ ∀ (b : Bool), (b = bif b_2 then true else !decide (d.2.2.2.2.1 = d_1.2.2.2.2.1)) → ((!b) =
     true → ((!b) = true → (!b) = true) ∧ True) ∧ ((!b) = true → ((!b) = true → (!b) = true) ∧ True) ∧ ((!b) = true → ((!b) = true → (!b) = true) ∧ True) ∧ ((!b) = true → ((!b) = true → (!b) = true) ∧
     True) ∧ ((!b) = true → ((!b) = true → (!b) = true) ∧ ((!b) = true → (!b) = true) ∧ True) ∧ (b = false → (!b) = true) ∧ ∀ (b_3 : Bool), (b_3 = bif b then true else !decide ((↑(List.length
     d.2.2.2.2.2.1) : Int) = (↑(List.length d_1.2.2.2.2.2.1) : Int))) → ((!b_3) = true → ((!b_3) = true → (!b_3) = true) ∧ True) ∧ ((!b_3) = true → ((!b_3) = true → (!b_3) = true) ∧ True) ∧ ((!b_3) = true
     → ((!b_3) = true → (!b_3) = true) ∧ ((!b_3) = true → (!b_3) = true) ∧ True) ∧ ((!b_3) = true → ((!b_3) = true → (!b_3) = true) ∧ True) ∧ (b_3 = false → (!b_3) = true) ∧ ifP (bif b_3 then true else
     !sameR d.2.2.2.2.2.2 d_1.2.2.2.2.2.2) (false = sameV d d_1) ((∃ (x : Int), ((0 : Int) ≤ x ∧ List.length (vW d) = List.length (vW d_1) ∧ x ≤ (↑(List.length (vW d)) : Int) ∧ List.take (Int.toNat x) (vW
     d) = List.take (Int.toNat x) (vW d_1) ∧ d.1 = d_1.1 ∧ d.2.1 = d_1.2.1 ∧ d.2.2.1 = d_1.2.2.1 ∧ d.2.2.2.1 = d_1.2.2.2.1 ∧ d.2.2.2.2.1 = d_1.2.2.2.2.1 ∧ vR d = vR d_1) ∧ d.1 = d.1 ∧ d.2.1 = d.2.1 ∧
     d.2.2.1 = d.2.2.1 ∧ d.2.2.2.1 = d.2.2.2.1 ∧ d.2.2.2.2.1 = d.2.2.2.2.1 ∧ d.2.2.2.2.2.1 = d.2.2.2.2.2.1 ∧ d.2.2.2.2.2.2 = d.2.2.2.2.2.2 ∧ d_1.1 = d_1.1 ∧ d_1.2.1 = d_1.2.1 ∧ d_1.2.2.1 = d_1.2.2.1 ∧
     d_1.2.2.2.1 = d_1.2.2.2.1 ∧ d_1.2.2.2.2.1 = d_1.2.2.2.2.1 ∧ d_1.2.2.2.2.2.1 = d_1.2.2.2.2.2.1 ∧ d_1.2.2.2.2.2.2 = d_1.2.2.2.2.2.2 ∧ (0 : Int) = x ∧ d.1 = d.1 ∧ d.2.1 = d.2.1 ∧ d.2.2.1 = d.2.2.1 ∧
     d.2.2.2.1 = d.2.2.2.1 ∧ d.2.2.2.2.1 = d.2.2.2.2.1 ∧ d.2.2.2.2.2.1 = d.2.2.2.2.2.1 ∧ d.2.2.2.2.2.2 = d.2.2.2.2.2.2 ∧ d_1.1 = d_1.1 ∧ d_1.2.1 = d_1.2.1 ∧ d_1.2.2.1 = d_1.2.2.1 ∧ d_1.2.2.2.1 =
     d_1.2.2.2.1 ∧ d_1.2.2.2.2.1 = d_1.2.2.2.2.1 ∧ d_1.2.2.2.2.2.1 = d_1.2.2.2.2.2.1 ∧ d_1.2.2.2.2.2.2 = d_1.2.2.2.2.2.2 ∧ True) ∧ ∀ (x : Int), (0 : Int) ≤ x ∧ List.length (vW d) = List.length (vW d_1) ∧ x
     ≤ (↑(List.length (vW d)) : Int) ∧ List.take (Int.toNat x) (vW d) = List.take (Int.toNat x) (vW d_1) ∧ d.1 = d_1.1 ∧ d.2.1 = d_1.2.1 ∧ d.2.2.1 = d_1.2.2.1 ∧ d.2.2.2.1 = d_1.2.2.2.1 ∧ d.2.2.2.2.1 =
     d_1.2.2.2.2.1 ∧ vR d = vR d_1 → ifP (decide (x < (↑(List.length d.2.2.2.2.2.1) : Int))) ((0 : Int) ≤ x ∧ x < (↑(List.length d.2.2.2.2.2.1) : Int) ∧ (0 : Int) ≤ x ∧ x < (↑(List.length d_1.2.2.2.2.2.1)
     : Int) ∧ ifP (!(decide ((List.getD d.2.2.2.2.2.1 (Int.toNat x) default).1.1 = (List.getD d_1.2.2.2.2.2.1 (Int.toNat x) default).1.1) && (decide ((List.getD d.2.2.2.2.2.1 (Int.toNat x) default).1.2.1 =
     (List.getD d_1.2.2.2.2.2.1 (Int.toNat x) default).1.2.1) && (decide ((List.getD d.2.2.2.2.2.1 (Int.toNat x) default).1.2.2.1 = (List.getD d_1.2.2.2.2.2.1 (Int.toNat x) default).1.2.2.1) && (decide
     ((List.getD d.2.2.2.2.2.1 (Int.toNat x) default).1.2.2.2.1 = (List.getD d_1.2.2.2.2.2.1 (Int.toNat x) default).1.2.2.2.1) && (decide ((List.getD d.2.2.2.2.2.1 (Int.toNat x) default).1.2.2.2.2.1 =
     (List.getD d_1.2.2.2.2.2.1 (Int.toNat x) default).1.2.2.2.2.1) && (decide ((List.getD d.2.2.2.2.2.1 (Int.toNat x) default).1.2.2.2.2.2 = (List.getD d_1.2.2.2.2.2.1 (Int.toNat x) default).1.2.2.2.2.2)
     && true))))) && (decide ((List.getD d.2.2.2.2.2.1 (Int.toNat x) default).2.1 = (List.getD d_1.2.2.2.2.2.1 (Int.toNat x) default).2.1) && (decide ((List.getD d.2.2.2.2.2.1 (Int.toNat x) default).2.2.1
     = (List.getD d_1.2.2.2.2.2.1 (Int.toNat x) default).2.2.1) && ((List.getD d.2.2.2.2.2.1 (Int.toNat x) default).2.2.2.1 == (List.getD d_1.2.2.2.2.2.1 (Int.toNat x) default).2.2.2.1 && ((List.getD
     d.2.2.2.2.2.1 (Int.toNat x) default).2.2.2.2.1 == (List.getD d_1.2.2.2.2.2.1 (Int.toNat x) default).2.2.2.2.1 && (decide ((List.getD d.2.2.2.2.2.1 (Int.toNat x) default).2.2.2.2.2.1 = (List.getD
     d_1.2.2.2.2.2.1 (Int.toNat x) default).2.2.2.2.2.1) && (decide ((List.getD d.2.2.2.2.2.1 (Int.toNat x) default).2.2.2.2.2.2.1 = (List.getD d_1.2.2.2.2.2.1 (Int.toNat x) default).2.2.2.2.2.2.1) &&
     (decide ((List.getD d.2.2.2.2.2.1 (Int.toNat x) default).2.2.2.2.2.2.2.1 = (List.getD d_1.2.2.2.2.2.1 (Int.toNat x) default).2.2.2.2.2.2.2.1) && (decide ((List.getD d.2.2.2.2.2.1 (Int.toNat x)
     default).2.2.2.2.2.2.2.2.1 = (List.getD d_1.2.2.2.2.2.1 (Int.toNat x) default).2.2.2.2.2.2.2.2.1) && (decide ((List.getD d.2.2.2.2.2.1 (Int.toNat x) default).2.2.2.2.2.2.2.2.2.1 = (List.getD
     d_1.2.2.2.2.2.1 (Int.toNat x) default).2.2.2.2.2.2.2.2.2.1) && (decide ((List.getD d.2.2.2.2.2.1 (Int.toNat x) default).2.2.2.2.2.2.2.2.2.2.1 = (List.getD d_1.2.2.2.2.2.1 (Int.toNat x)
     default).2.2.2.2.2.2.2.2.2.2.1) && (decide ((List.getD d.2.2.2.2.2.1 (Int.toNat x) default).2.2.2.2.2.2.2.2.2.2.2 = (List.getD d_1.2.2.2.2.2.1 (Int.toNat x) default).2.2.2.2.2.2.2.2.2.2.2) &&
     true))))) && true)))))))) (false = sameV d d_1) (∃ (x_1 : Int), ((0 : Int) ≤ x_1 ∧ List.length (vW d) = List.length (vW d_1) ∧ x_1 ≤ (↑(List.length (vW d)) : Int) ∧ List.take (Int.toNat x_1) (vW d) =
     List.take (Int.toNat x_1) (vW d_1) ∧ d.1 = d_1.1 ∧ d.2.1 = d_1.2.1 ∧ d.2.2.1 = d_1.2.2.1 ∧ d.2.2.2.1 = d_1.2.2.2.1 ∧ d.2.2.2.2.1 = d_1.2.2.2.2.1 ∧ vR d = vR d_1) ∧ Int.toNat ((↑(List.length (vW d)) :
     Int) - x_1) < Int.toNat ((↑(List.length (vW d)) : Int) - x) ∧ d.1 = d.1 ∧ d.2.1 = d.2.1 ∧ d.2.2.1 = d.2.2.1 ∧ d.2.2.2.1 = d.2.2.2.1 ∧ d.2.2.2.2.1 = d.2.2.2.2.1 ∧ d.2.2.2.2.2.1 = d.2.2.2.2.2.1 ∧
     d.2.2.2.2.2.2 = d.2.2.2.2.2.2 ∧ d_1.1 = d_1.1 ∧ d_1.2.1 = d_1.2.1 ∧ d_1.2.2.1 = d_1.2.2.1 ∧ d_1.2.2.2.1 = d_1.2.2.2.1 ∧ d_1.2.2.2.2.1 = d_1.2.2.2.2.1 ∧ d_1.2.2.2.2.2.1 = d_1.2.2.2.2.2.1 ∧
     d_1.2.2.2.2.2.2 = d_1.2.2.2.2.2.2 ∧ IntKind.wrap IntKind.i64 (x + (1 : Int)) = x_1 ∧ d.1 = d.1 ∧ d.2.1 = d.2.1 ∧ d.2.2.1 = d.2.2.1 ∧ d.2.2.2.1 = d.2.2.2.1 ∧ d.2.2.2.2.1 = d.2.2.2.2.1 ∧ d.2.2.2.2.2.1 =
     d.2.2.2.2.2.1 ∧ d.2.2.2.2.2.2 = d.2.2.2.2.2.2 ∧ d_1.1 = d_1.1 ∧ d_1.2.1 = d_1.2.1 ∧ d_1.2.2.1 = d_1.2.2.1 ∧ d_1.2.2.2.1 = d_1.2.2.2.1 ∧ d_1.2.2.2.2.1 = d_1.2.2.2.2.1 ∧ d_1.2.2.2.2.2.1 =
     d_1.2.2.2.2.2.1 ∧ d_1.2.2.2.2.2.2 = d_1.2.2.2.2.2.2 ∧ True)) (true = sameV d d_1)) := by
  rintro a b ⟨ha, hb, -⟩ -
  have la : ((vW a).length : Int) ≤ 9223372036854775807 := by have := ha.2.2.2.2.2.1.1; simp only [maxLen] at this; show ((a.2.2.2.2.2.1.length : Nat) : Int) ≤ _; omega
  have ext : a = b ↔ (a.1 = b.1 ∧ a.2.1 = b.2.1 ∧ a.2.2.1 = b.2.2.1 ∧ a.2.2.2.1 = b.2.2.2.1 ∧ a.2.2.2.2.1 = b.2.2.2.2.1 ∧ vW a = vW b ∧ vR a = vR b) := by
    obtain ⟨a1, a2, a3, a4, a5, a6, a7⟩ := a
    obtain ⟨b1, b2, b3, b4, b5, b6, b7⟩ := b
    simp only [vW, vR, Prod.mk.injEq]
  have eW : ∀ v : Vant, v.2.2.2.2.2.1 = vW v := fun _ => rfl
  have eR : ∀ v : Vant, v.2.2.2.2.2.2 = vR v := fun _ => rfl
  simp only [eW, eR]
  unfold sameV
  (repeat (intro (b_ : Bool) (hb_ : b_ = _); (repeat refine ⟨(by first | (simp +contextual; done) | (rw [hb_]; simp +contextual; done) | (rw [hb_]; simp; omega) | (rw [hb_]; simp; intros; omega) | (rw [hb_]; simp +contextual; intros; omega) | (intros; simp_all; done) | (intros; simp_all; omega)), ?_⟩))); subst_vars
  refine ifP_or (fun h => ?_) (fun h h6 => ?_)
  · refine (decide_eq_false (fun k => ?_)).symm
    subst k
    simp [Bool.cond_eq_ite, sameR] at h
  have h6 : vR a = vR b := by
    unfold sameR at h6; exact nd_f h6
  simp [Bool.cond_eq_ite] at h
  obtain ⟨⟨⟨⟨⟨h1, h2⟩, h3⟩, h4⟩, h5⟩, hl⟩ := h
  refine ⟨⟨0, ⟨by omega, by omega, by omega, by simp, h1, h2, h3, h4, h5, h6⟩, (by repeat' first | exact trivial | refine ⟨trivial, ?_⟩ | refine ⟨(by with_reducible rfl), ?_⟩ | refine ⟨w64 (by omega) (by omega), ?_⟩ | refine ⟨rfl, ?_⟩)⟩, ?_⟩
  rintro i ⟨i0, il, i1, it, -⟩
  refine ifP_split (fun hi => ?_) (fun hi => ?_)
  · have hi := of_decide_eq_true hi
    refine ⟨i0, hi, i0, by omega, ?_⟩
    refine ifP_split (fun hd => ?_) (fun hd => ?_)
    · have hd : (!decide ((vW a).getD i.toNat default = (vW b).getD i.toNat default)) = true := by rw [← pend_beq]; exact hd
      exact (decide_eq_false (fun k => nd_t hd (by rw [k]))).symm
    · have hd : (!decide ((vW a).getD i.toNat default = (vW b).getD i.toNat default)) = false := by rw [← pend_beq]; exact hd
      refine ⟨i + 1, ⟨by omega, il, by omega, take_same2 i0 hi (by omega) it (nd_f hd), h1, h2, h3, h4, h5, h6⟩, by omega, (by repeat' first | exact trivial | refine ⟨trivial, ?_⟩ | refine ⟨(by with_reducible rfl), ?_⟩ | refine ⟨w64 (by omega) (by omega), ?_⟩ | refine ⟨rfl, ?_⟩)⟩
  · have hi := of_decide_eq_false hi
    rw [List.take_of_length_le (by omega), List.take_of_length_le (by omega)] at it
    exact (decide_eq_true (ext.2 ⟨h1, h2, h3, h4, h5, it, h6⟩)).symm
theorem ok_ref18_Same : SpecOK Tryz.prog GL 11 ct_ref18_Same.spec := Ct.ok' _ Tryz.func11 (by kernel_rfl) (withSpec_ok noSpecs_ok ok_ref18_SameResults) hmix an_ref18_Same (Eq.mpr (by kernel_rfl) vc_ref18_Same)


end Go.RS

