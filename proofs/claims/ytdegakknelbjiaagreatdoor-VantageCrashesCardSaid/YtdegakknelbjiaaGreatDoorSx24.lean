/- SX, part 24: what is to be shown of a function, under one name. -/
import Derived.Test.YtdegakknelbjiaaGreatDoorSx23
import Derived.KernelRfl
namespace Go.SX
set_option linter.unusedVariables false

def bodyOf (fn : Func) : Code := match fn.body with
  | some c => c
  | none => .skip

/-- What is to be shown of a function that computes: the symbolic run of the whole body. -/
def Ct.vc (P : Program) (sp : Specs) (c : Ct) (fn : Func) (an : PDs c.ps → Anns) : Prop :=
  allP c.ps fun d => wfP c.ps d → conjE (c.pre d) → forceSt (startSt c.ps d fn.ntmps) (sx P sp (an d) (bodyOf fn) (retG P c.ps c.rs fn.results.toList fun y => conjE (eqRs c.rs y.1 (c.out d).1 ++ eqBs c.ps y.2 (c.out d).2)))

theorem Ct.ok' {P : Program} {sp : Specs} (c : Ct) {f : FuncId} {fn : Func} (hf : P.funcs[f]? = some fn) (hb : fn.body = some (bodyOf fn)) (hs : SpecsOK P sp) (hmix : P.follows .mixedOrders = true) (an : PDs c.ps → Anns)
    (vc : Ct.vc P sp c fn an) : SpecOK P sp.gl f c.spec := c.ok hf hb hs hmix an vc

def Cn.vc (P : Program) (sp : Specs) (c : Cn) (fn : Func) (an : PDs c.ps → Anns) : Prop :=
  allP c.ps fun d => wfP c.ps d → conjE (c.pre d) → forceSt (startSt c.ps d fn.ntmps) (sx P sp (an d) (bodyOf fn) (retG P c.ps c.rs fn.results.toList (c.post d)))

theorem Cn.ok' {P : Program} {sp : Specs} (c : Cn) {f : FuncId} {fn : Func} (hf : P.funcs[f]? = some fn) (hb : fn.body = some (bodyOf fn)) (hs : SpecsOK P sp) (hmix : P.follows .mixedOrders = true) (an : PDs c.ps → Anns)
    (vc : Cn.vc P sp c fn an) : SpecOK P sp.gl f c.spec := c.ok hf hb hs hmix an vc

def noSpecs (G : Globs) : Specs := ⟨fun _ => none, G⟩
theorem noSpecs_ok {P : Program} {G : Globs} : SpecsOK P (noSpecs G) := fun f s h => by cases h

def withSpec (sp : Specs) (f : FuncId) (s : Spec) : Specs := ⟨fun g => match Nat.beq g f with
  | true => some s
  | false => sp.fn g, sp.gl⟩
theorem withSpec_ok {P : Program} {sp : Specs} {f : FuncId} {s : Spec} (h : SpecsOK P sp) (hs : SpecOK P sp.gl f s) : SpecsOK P (withSpec sp f s) := fun g t e => by
  unfold withSpec at e
  simp only at e
  split at e
  · rename_i hb; cases e; rw [Nat.eq_of_beq_eq_true hb]; exact hs
  · exact h g t e

/-- In slot 'd' a part of an owned slice becomes the owner. -/
def withOwn (sp : Specs) (d : Nat) : Specs := withSpec sp (4000000000 + d) fun _ _ => .fail
theorem withOwn_ok {P : Program} {sp : Specs} {d : Nat} (h : SpecsOK P sp) : SpecsOK P (withOwn sp d) := withSpec_ok h fun _ _ _ _ _ e => by cases e
/-- In slot 'd' an array's element at a place that is known is taken. -/
def withConc (sp : Specs) (d : Nat) : Specs := withSpec sp (4100000000 + d) fun _ _ => .fail
theorem withConc_ok {P : Program} {sp : Specs} {d : Nat} (h : SpecsOK P sp) : SpecsOK P (withConc sp d) := withSpec_ok h fun _ _ _ _ _ e => by cases e

theorem ifP_iff {b : Bool} {y n : Prop} : ifP b y n ↔ (b = true → y) ∧ (b = false → n) := by cases b <;> simp [ifP]
theorem ifP_dec {p : Prop} [Decidable p] {y n : Prop} : ifP (decide p) y n ↔ (p → y) ∧ (¬ p → n) := by
  rw [ifP_iff]; simp
end Go.SX
