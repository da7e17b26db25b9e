/- Refv: the reference's vantage points. -/
import Derived.Test.YtdegakknelbjiaaGreatDoorVant
import Derived.Test.YtdegakknelbjiaaGreatDoorRefread
namespace Go.RS
open Go.SX Go.Proofs
set_option maxRecDepth 100000
set_option linter.unusedVariables false

def un0 (x : Pend) : Prop := x.2.2.2.1 = false → x.2.2.2.2.1 = false ∧ x.2.2.2.2.2.2 = ans0
/-- What holds of the vantage points of the laws. -/
structure VOK (v : Vant) : Prop where
  run : 0 ≤ v.2.1 ∧ v.2.1 ≤ 63
  next : 0 ≤ v.2.2.1 ∧ v.2.2.1 ≤ 1000
  src : ∀ x ∈ vW v, x.1.1 = vAddr v
  un : ∀ x ∈ vW v, un0 x
theorem mem_expire {v : Vant} {o : Pend → Bool} {x : Pend} (h : x ∈ vW (finP v o)) : x ∈ vW v := (List.mem_filter.1 h).1
theorem VOK.fin {v : Vant} (h : VOK v) (o : Pend → Bool) : VOK (finP v o) :=
  ⟨h.run, h.next, fun x hx => h.src x (mem_expire hx), fun x hx => h.un x (mem_expire hx)⟩
def matchD (p : Probe) (x : Pend) : Bool := decide (x.1.2.1 = p.2.1 ∧ x.1.2.2.1 = p.2.2.1 ∧ x.1.2.2.2.1 = p.2.2.2.1 ∧ x.1.2.2.2.2.1 = p.2.2.2.2.1)
def andOv (all : Bool) (t at' : Int) (x : Pend) : Bool := all || overAt t at' x
def decAns : DecidableEq Ans := inferInstance
def decBack : DecidableEq (Bool × Bool × Int × Ans) := @instDecidableEqProd _ _ inferInstance (@instDecidableEqProd _ _ inferInstance (@instDecidableEqProd _ _ inferInstance decAns))
instance decPend : DecidableEq Pend := @instDecidableEqProd _ _ inferInstance (@instDecidableEqProd _ _ inferInstance (@instDecidableEqProd _ _ inferInstance decBack))
def decVal : DecidableEq (Int × Int × Int × Int × Bool × Bool × Int × Ans) := @instDecidableEqProd _ _ inferInstance (@instDecidableEqProd _ _ inferInstance (@instDecidableEqProd _ _ inferInstance (@instDecidableEqProd _ _ inferInstance decBack)))
instance decRes : DecidableEq Res := @instDecidableEqProd _ _ inferInstance (@instDecidableEqProd _ _ inferInstance (@instDecidableEqProd _ _ inferInstance (@instDecidableEqProd _ _ inferInstance decVal)))
def sameR (a b : List Res) : Bool := decide (a = b)
def decLists : DecidableEq (List Pend × List Res) := @instDecidableEqProd _ _ inferInstance inferInstance
instance decVant : DecidableEq Vant := @instDecidableEqProd _ _ inferInstance (@instDecidableEqProd _ _ inferInstance (@instDecidableEqProd _ _ inferInstance (@instDecidableEqProd _ _ inferInstance (@instDecidableEqProd _ _ inferInstance decLists))))
def sameV (a b : Vant) : Bool := decide (a = b)
theorem res_beq (a b : Res) : (decide (a.1 = b.1) && (decide (a.2.1 = b.2.1) && (decide (a.2.2.1 = b.2.2.1) && (decide (a.2.2.2.1 = b.2.2.2.1) && (decide (a.2.2.2.2.1 = b.2.2.2.2.1) && (decide (a.2.2.2.2.2.1 = b.2.2.2.2.2.1) && (decide (a.2.2.2.2.2.2.1 = b.2.2.2.2.2.2.1) && (decide (a.2.2.2.2.2.2.2.1 = b.2.2.2.2.2.2.2.1) && (a.2.2.2.2.2.2.2.2.1 == b.2.2.2.2.2.2.2.2.1 && (a.2.2.2.2.2.2.2.2.2.1 == b.2.2.2.2.2.2.2.2.2.1 && (decide (a.2.2.2.2.2.2.2.2.2.2.1 = b.2.2.2.2.2.2.2.2.2.2.1) && (decide (a.2.2.2.2.2.2.2.2.2.2.2.1 = b.2.2.2.2.2.2.2.2.2.2.2.1) && (decide (a.2.2.2.2.2.2.2.2.2.2.2.2.1 = b.2.2.2.2.2.2.2.2.2.2.2.2.1) && (decide (a.2.2.2.2.2.2.2.2.2.2.2.2.2.1 = b.2.2.2.2.2.2.2.2.2.2.2.2.2.1) && (decide (a.2.2.2.2.2.2.2.2.2.2.2.2.2.2.1 = b.2.2.2.2.2.2.2.2.2.2.2.2.2.2.1) && (decide (a.2.2.2.2.2.2.2.2.2.2.2.2.2.2.2.1 = b.2.2.2.2.2.2.2.2.2.2.2.2.2.2.2.1) && (decide (a.2.2.2.2.2.2.2.2.2.2.2.2.2.2.2.2 = b.2.2.2.2.2.2.2.2.2.2.2.2.2.2.2.2) && true))))) && true)))))))))))) = decide (a = b) := by
  obtain ⟨a1, a2, a3, a4, a5, a6, a7, a8, a9, a10, a11, a12, a13, a14, a15, a16, a17⟩ := a
  obtain ⟨b1, b2, b3, b4, b5, b6, b7, b8, b9, b10, b11, b12, b13, b14, b15, b16, b17⟩ := b
  rw [Bool.eq_iff_iff]
  simp only [Bool.and_eq_true, decide_eq_true_eq, beq_iff_eq, Prod.mk.injEq, and_true]
theorem pend_beq (a b : Pend) : ((decide (a.1.1 = b.1.1) && (decide (a.1.2.1 = b.1.2.1) && (decide (a.1.2.2.1 = b.1.2.2.1) && (decide (a.1.2.2.2.1 = b.1.2.2.2.1) && (decide (a.1.2.2.2.2.1 = b.1.2.2.2.2.1) && (decide (a.1.2.2.2.2.2 = b.1.2.2.2.2.2) && true)))))) && (decide (a.2.1 = b.2.1) && (decide (a.2.2.1 = b.2.2.1) && (a.2.2.2.1 == b.2.2.2.1 && (a.2.2.2.2.1 == b.2.2.2.2.1 && (decide (a.2.2.2.2.2.1 = b.2.2.2.2.2.1) && ((decide (a.2.2.2.2.2.2.1 = b.2.2.2.2.2.2.1) && (decide (a.2.2.2.2.2.2.2.1 = b.2.2.2.2.2.2.2.1) && (decide (a.2.2.2.2.2.2.2.2.1 = b.2.2.2.2.2.2.2.2.1) && (decide (a.2.2.2.2.2.2.2.2.2.1 = b.2.2.2.2.2.2.2.2.2.1) && (decide (a.2.2.2.2.2.2.2.2.2.2.1 = b.2.2.2.2.2.2.2.2.2.2.1) && (decide (a.2.2.2.2.2.2.2.2.2.2.2 = b.2.2.2.2.2.2.2.2.2.2.2) && true)))))) && true))))))) = decide (a = b) := by
  obtain ⟨⟨p1, p2, p3, p4, p5, p6⟩, a2, a3, a4, a5, a6, a7, a8, a9, a10, a11, a12⟩ := a
  obtain ⟨⟨q1, q2, q3, q4, q5, q6⟩, b2, b3, b4, b5, b6, b7, b8, b9, b10, b11, b12⟩ := b
  rw [Bool.eq_iff_iff]
  simp only [Bool.and_eq_true, decide_eq_true_eq, beq_iff_eq, Prod.mk.injEq, and_true]
theorem take_same2 {α : Type} [Inhabited α] {l m : List α} {i : Int} (h0 : 0 ≤ i) (h1 : i < l.length) (h2 : i < m.length) (h : l.take i.toNat = m.take i.toNat) (he : l.getD i.toNat default = m.getD i.toNat default) : l.take (i + 1).toNat = m.take (i + 1).toNat := by
  rw [take_next h0 h1, take_next h0 h2, h, he]
theorem tag_ok {v : Vant} (h : VOK v) (hn : v.2.2.1 < 1000) : 0 ≤ tagV v.2.1 v.2.2.1 ∧ tagV v.2.1 v.2.2.1 ≤ 65534 := by
  have h1 := h.run
  have h2 := h.next
  unfold tagV
  rw [w64 (n := v.2.1 * 1000) (by omega) (by omega), w64 (by omega) (by omega)]; omega
theorem tag_probe {v : Vant} {dst pr fl ttl t : Int} (h : probeErr (prP v dst pr fl ttl 0) = 0) (ht : 0 ≤ t ∧ t ≤ 65534) : probeErr (prP v dst pr fl ttl t) = 0 := by
  obtain ⟨h1, h2, h3, h4⟩ := probe_ok.1 h
  exact probe_ok.2 ⟨h1, h2, ht, h4⟩












end Go.RS

