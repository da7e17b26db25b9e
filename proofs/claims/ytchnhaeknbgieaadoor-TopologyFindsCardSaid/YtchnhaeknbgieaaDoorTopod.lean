/- Nodek: the first error of a node, in the program and in the reference; the reference's parts of a node. -/
import Derived.Test.YtchnhaeknbgieaaDoorNodec
import Derived.Test.YtchnhaeknbgieaaDoorReply
namespace Go.RS
open Go.SX Go.Proofs
set_option maxRecDepth 100000
set_option linter.unusedVariables false

/-- The first number that is not 0. -/
def first (f : Nat → Int) : Nat → Int
  | 0 => 0
  | n + 1 => if first f n ≠ 0 then first f n else f n
theorem first_next {f : Nat → Int} {i : Int} (h0 : 0 ≤ i) (h : first f i.toNat = 0) (hf : f i.toNat = 0) : first f (i + 1).toNat = 0 := by
  rw [show (i + 1).toNat = i.toNat + 1 by omega, first, if_neg (by simp [h]), hf]
theorem first_keep {f : Nat → Int} {a : Nat} (h : first f a ≠ 0) : ∀ k, first f (a + k) = first f a
  | 0 => rfl
  | k + 1 => by rw [← Nat.add_assoc, first, if_pos (by rw [first_keep h k]; exact h), first_keep h k]
theorem first_hit {f : Nat → Int} {i : Int} {n : Nat} (h0 : 0 ≤ i) (h1 : i < n) (h : first f i.toNat = 0) (hf : f i.toNat ≠ 0) : f i.toNat = first f n := by
  have e : first f (i.toNat + 1) = f i.toNat := by rw [first, if_neg (by simp [h])]
  have k := first_keep (a := i.toNat + 1) (by rw [e]; exact hf) (n - (i.toNat + 1))
  rw [show i.toNat + 1 + (n - (i.toNat + 1)) = n by omega] at k
  rw [k, e]
theorem first_zero {f : Nat → Int} : ∀ {n : Nat}, first f n = 0 → ∀ i, i < n → f i = 0
  | 0, _, i, hi => by omega
  | n + 1, h, i, hi => by
    by_cases k : first f n = 0
    · rw [first, if_neg (by simp [k])] at h
      by_cases e : i = n
      · rw [e]; exact h
      · exact first_zero k i (by omega)
    · rw [first, if_pos k] at h; exact absurd h k
def portBad (x : Node) (i : Nat) : Int :=
  if ¬ usable ((nPorts x).getD i default).1 ∨ portA x ((nPorts x).getD i default).1 < i then 10
  else if ((nPorts x).getD i default).2 < 0 ∨ portL x ((nPorts x).getD i default).2 < i then 11 else 0
def loopBad (x : Node) : Prop := nLoop x ≠ 0 ∧ (¬ usable (nLoop x) ∨ 0 ≤ portA x (nLoop x))
instance (x : Node) : Decidable (loopBad x) := by unfold loopBad; infer_instance
def formBad (x : Node) : Prop := nOwner x < 0 ∨ (nSource x < 1 ∨ 4 < nSource x) ∨ (nSource x = 3 ∧ nLoop x = 0) ∨ (nFixed x ≠ 0 ∧ ¬ usable (nFixed x)) ∨ (nSource x = 4 ∧ nFixed x = 0) ∨ (nFirst x < 1 ∨ 255 < nFirst x) ∨ (nPorts x).length = 0
instance (x : Node) : Decidable (formBad x) := by unfold formBad; infer_instance
def nodeV (x : Node) : Int :=
  if 32 < (nPorts x).length then 5
  else if first (portBad x) (nPorts x).length ≠ 0 then first (portBad x) (nPorts x).length
  else if loopBad x then 10
  else if formBad x then 13
  else if idCheck x ≠ 0 then idCheck x
  else if bCheck (nLimit x) ≠ 0 then bCheck (nLimit x)
  else check (nRoutes x) (pLinks x)
theorem ifP_twice {c : Bool} {y n m : Prop} (hy : c = true → y) (hm : c = false → m) : ifP c (ifP c y n) m := by
  cases c with
  | true => exact hy rfl
  | false => exact hm rfl
theorem nodeV_bad {x : Node} (h : (nPorts x).length ≤ 32) {i : Int} (h0 : 0 ≤ i) (h1 : i < (nPorts x).length) (hf : first (portBad x) i.toNat = 0) (hb : portBad x i.toNat ≠ 0) : portBad x i.toNat = nodeV x := by
  have e := first_hit h0 h1 hf hb
  unfold nodeV
  rw [if_neg (by omega), ← e, if_pos hb]
theorem nodeV_loop {x : Node} (h : (nPorts x).length ≤ 32) (hf : first (portBad x) (nPorts x).length = 0) (hl : loopBad x) : 10 = nodeV x := by
  unfold nodeV
  rw [if_neg (by omega), if_neg (by simp [hf]), if_pos hl]
theorem nodeV_form {x : Node} (h : (nPorts x).length ≤ 32) (hf : first (portBad x) (nPorts x).length = 0) (hl : ¬ loopBad x) (hb : formBad x) : 13 = nodeV x := by
  unfold nodeV
  rw [if_neg (by omega), if_neg (by simp [hf]), if_neg hl, if_pos hb]
theorem nodeV_rest {x : Node} (h : (nPorts x).length ≤ 32) (hf : first (portBad x) (nPorts x).length = 0) (hl : ¬ loopBad x) (hb : ¬ formBad x) : nodeV x = if idCheck x ≠ 0 then idCheck x else if bCheck (nLimit x) ≠ 0 then bCheck (nLimit x) else check (nRoutes x) (pLinks x) := by
  unfold nodeV
  rw [if_neg (by omega), if_neg (by simp [hf]), if_neg hl, if_neg hb]
theorem portBad_a {x : Node} {i : Int} (h0 : 0 ≤ i) (h : ¬ usable ((nPorts x).getD i.toNat default).1 ∨ portA x ((nPorts x).getD i.toNat default).1 < i) : portBad x i.toNat = 10 := by
  unfold portBad
  rw [show ((i.toNat : Nat) : Int) = i by omega, if_pos h]
theorem portBad_l {x : Node} {i : Int} (h0 : 0 ≤ i) (h : ¬ (¬ usable ((nPorts x).getD i.toNat default).1 ∨ portA x ((nPorts x).getD i.toNat default).1 < i)) (k : ((nPorts x).getD i.toNat default).2 < 0 ∨ portL x ((nPorts x).getD i.toNat default).2 < i) : portBad x i.toNat = 11 := by
  unfold portBad
  rw [show ((i.toNat : Nat) : Int) = i by omega, if_neg h, if_pos k]
theorem portBad_n {x : Node} {i : Int} (h0 : 0 ≤ i) (h : ¬ (¬ usable ((nPorts x).getD i.toNat default).1 ∨ portA x ((nPorts x).getD i.toNat default).1 < i)) (k : ¬ (((nPorts x).getD i.toNat default).2 < 0 ∨ portL x ((nPorts x).getD i.toNat default).2 < i)) : portBad x i.toNat = 0 := by
  unfold portBad
  rw [show ((i.toNat : Nat) : Int) = i by omega, if_neg h, if_neg k]
def ct_node_Check : Ct := ⟨[.agg cNode], [.val cI], fun d => [], fun d => ((nodeV d.1, ()), ())⟩
def an_node_Check : PDs ct_node_Check.ps → Anns := (fun d => { loops := (fun n => match n with | 4 => some (fun S => { ι := Int, μ := fun i => ((nPorts d.1).length - i).toNat, inv := fun i => 0 ≤ i ∧ i ≤ (nPorts d.1).length ∧ first (portBad d.1) i.toNat = 0, keep := [1, 12, 13], slots := fun i => [(14, .int .i64 i)], keepN := [32], names := fun i => [] }) | _ => none), cuts := (fun n => match n with | 21 => some (fun S => { ι := Unit, inv := fun i => (nPorts d.1).length ≤ 32 ∧ first (portBad d.1) (nPorts d.1).length = 0 ∧ ¬ loopBad d.1 ∧ ¬ formBad d.1, keep := [1], slots := fun i => [], keepN := [32], names := fun i => [] }) | _ => none), unr := fun n => match n with | 22 => 4 | _ => 0 })
theorem vc_node_Check :
    ∀ (d : List (Int × Int) × Int × Int × Bool × List ((Int × Int) × List Int × Int) × Int × Int × Int × Int × Int × (Int × Int) × Bool × Bool × Int × Int), CT.wf cNode d ∧ True → True → ifP (decide ((32
     : Int) < (↑(List.length d.1) : Int))) ((5 : Int) = nodeV d) ((∃ (x : Int), ((0 : Int) ≤ x ∧ x ≤ (↑(List.length (nPorts d)) : Int) ∧ first (portBad d) (Int.toNat x) = (0 : Int)) ∧ d.1 = d.1 ∧
     (↑(List.length d.1) : Int) = (↑(List.length d.1) : Int) ∧ (0 : Int) = x ∧ d.1 = d.1 ∧ d.2.1 = d.2.1 ∧ d.2.2.1 = d.2.2.1 ∧ d.2.2.2.1 = d.2.2.2.1 ∧ d.2.2.2.2.1 = d.2.2.2.2.1 ∧ d.2.2.2.2.2.1 =
     d.2.2.2.2.2.1 ∧ d.2.2.2.2.2.2.1 = d.2.2.2.2.2.2.1 ∧ d.2.2.2.2.2.2.2.1 = d.2.2.2.2.2.2.2.1 ∧ d.2.2.2.2.2.2.2.2.1 = d.2.2.2.2.2.2.2.2.1 ∧ d.2.2.2.2.2.2.2.2.2.1 = d.2.2.2.2.2.2.2.2.2.1 ∧
     d.2.2.2.2.2.2.2.2.2.2.1.1 = d.2.2.2.2.2.2.2.2.2.2.1.1 ∧ d.2.2.2.2.2.2.2.2.2.2.1.2 = d.2.2.2.2.2.2.2.2.2.2.1.2 ∧ d.2.2.2.2.2.2.2.2.2.2.2.1 = d.2.2.2.2.2.2.2.2.2.2.2.1 ∧ d.2.2.2.2.2.2.2.2.2.2.2.2.1 =
     d.2.2.2.2.2.2.2.2.2.2.2.2.1 ∧ d.2.2.2.2.2.2.2.2.2.2.2.2.2.1 = d.2.2.2.2.2.2.2.2.2.2.2.2.2.1 ∧ d.2.2.2.2.2.2.2.2.2.2.2.2.2.2 = d.2.2.2.2.2.2.2.2.2.2.2.2.2.2 ∧ True) ∧ ∀ (x : Int), (0 : Int) ≤ x ∧ x ≤
     (↑(List.length (nPorts d)) : Int) ∧ first (portBad d) (Int.toNat x) = (0 : Int) → ifP (decide (x < (↑(List.length d.1) : Int))) ((0 : Int) ≤ x ∧ x < (↑(List.length d.1) : Int) ∧ ∀ (b : Bool), b =
     !decide (usable (List.getD d.1 (Int.toNat x) default).1) → ((!b) = true → ((!b) = true → (!b) = true) ∧ True) ∧ ((!b) = true → ((!b) = true → (!b) = true) ∧ ((!b) = true → (!b) = true) ∧ True) ∧ ((!b)
     = true → ((!b) = true → (!b) = true) ∧ ((!b) = true → (!b) = true) ∧ True) ∧ (b = false → (!b) = true) ∧ ifP (bif b then true else decide (portA d (List.getD d.1 (Int.toNat x) default).1 < x)) ((10 :
     Int) = nodeV d) (∀ (b : Bool), b = decide ((List.getD d.1 (Int.toNat x) default).2 < (0 : Int)) → ((!b) = true → ((!b) = true → (!b) = true) ∧ True) ∧ ((!b) = true → ((!b) = true → (!b) = true) ∧
     ((!b) = true → (!b) = true) ∧ True) ∧ ((!b) = true → ((!b) = true → (!b) = true) ∧ ((!b) = true → (!b) = true) ∧ True) ∧ (b = false → (!b) = true) ∧ ifP (bif b then true else decide (portL d
     (List.getD d.1 (Int.toNat x) default).2 < x)) ((11 : Int) = nodeV d) (∃ (x_1 : Int), ((0 : Int) ≤ x_1 ∧ x_1 ≤ (↑(List.length (nPorts d)) : Int) ∧ first (portBad d) (Int.toNat x_1) = (0 : Int)) ∧
     Int.toNat ((↑(List.length (nPorts d)) : Int) - x_1) < Int.toNat ((↑(List.length (nPorts d)) : Int) - x) ∧ d.1 = d.1 ∧ (↑(List.length d.1) : Int) = (↑(List.length d.1) : Int) ∧ IntKind.wrap IntKind.i64
     (x + (1 : Int)) = x_1 ∧ d.1 = d.1 ∧ d.2.1 = d.2.1 ∧ d.2.2.1 = d.2.2.1 ∧ d.2.2.2.1 = d.2.2.2.1 ∧ d.2.2.2.2.1 = d.2.2.2.2.1 ∧ d.2.2.2.2.2.1 = d.2.2.2.2.2.1 ∧ d.2.2.2.2.2.2.1 = d.2.2.2.2.2.2.1 ∧
     d.2.2.2.2.2.2.2.1 = d.2.2.2.2.2.2.2.1 ∧ d.2.2.2.2.2.2.2.2.1 = d.2.2.2.2.2.2.2.2.1 ∧ d.2.2.2.2.2.2.2.2.2.1 = d.2.2.2.2.2.2.2.2.2.1 ∧ d.2.2.2.2.2.2.2.2.2.2.1.1 = d.2.2.2.2.2.2.2.2.2.2.1.1 ∧
     d.2.2.2.2.2.2.2.2.2.2.1.2 = d.2.2.2.2.2.2.2.2.2.2.1.2 ∧ d.2.2.2.2.2.2.2.2.2.2.2.1 = d.2.2.2.2.2.2.2.2.2.2.2.1 ∧ d.2.2.2.2.2.2.2.2.2.2.2.2.1 = d.2.2.2.2.2.2.2.2.2.2.2.2.1 ∧
     d.2.2.2.2.2.2.2.2.2.2.2.2.2.1 = d.2.2.2.2.2.2.2.2.2.2.2.2.2.1 ∧ d.2.2.2.2.2.2.2.2.2.2.2.2.2.2 = d.2.2.2.2.2.2.2.2.2.2.2.2.2.2 ∧ True))) (∀ (b : Bool), b = !decide (d.2.1 = (0 : Int)) → (b = true → (b
     = true → b = true) ∧ True) ∧ (b = true → (b = true → b = true) ∧ True) ∧ (b = true → (b = true → b = true) ∧ True) ∧ (b = true → (b = true → b = true) ∧ True) ∧ ∀ (b_1 : Bool), b_1 = !decide (usable
     d.2.1) → ((b && !b_1) = true → ((b && !b_1) = true → (b && !b_1) = true) ∧ True) ∧ ((b && !b_1) = true → ((b && !b_1) = true → (b && !b_1) = true) ∧ ((b && !b_1) = true → (b && !b_1) = true) ∧ True) ∧
     ((b && !b_1) = true → ((b && !b_1) = true → (b && !b_1) = true) ∧ True) ∧ (b = true → (b = true → b = true) ∧ (b_1 = false → (b && !b_1) = true) ∧ True) ∧ (b = true → b = true) ∧ ifP (bif b then bif
     b_1 then true else decide ((0 : Int) ≤ portA d d.2.1) else false) ((10 : Int) = nodeV d) (ifP (decide (d.2.2.1 < (0 : Int))) (ifP (decide (d.2.2.1 < (0 : Int))) ((13 : Int) = nodeV d) (∃ (x : Unit),
     (List.length (nPorts d) ≤ (32 : Nat) ∧ first (portBad d) (List.length (nPorts d)) = (0 : Int) ∧ ¬loopBad d ∧ ¬formBad d) ∧ d.1 = d.1 ∧ d.2.1 = d.2.1 ∧ d.2.2.1 = d.2.2.1 ∧ d.2.2.2.1 = d.2.2.2.1 ∧
     d.2.2.2.2.1 = d.2.2.2.2.1 ∧ d.2.2.2.2.2.1 = d.2.2.2.2.2.1 ∧ d.2.2.2.2.2.2.1 = d.2.2.2.2.2.2.1 ∧ d.2.2.2.2.2.2.2.1 = d.2.2.2.2.2.2.2.1 ∧ d.2.2.2.2.2.2.2.2.1 = d.2.2.2.2.2.2.2.2.1 ∧
     d.2.2.2.2.2.2.2.2.2.1 = d.2.2.2.2.2.2.2.2.2.1 ∧ d.2.2.2.2.2.2.2.2.2.2.1.1 = d.2.2.2.2.2.2.2.2.2.2.1.1 ∧ d.2.2.2.2.2.2.2.2.2.2.1.2 = d.2.2.2.2.2.2.2.2.2.2.1.2 ∧ d.2.2.2.2.2.2.2.2.2.2.2.1 =
     d.2.2.2.2.2.2.2.2.2.2.2.1 ∧ d.2.2.2.2.2.2.2.2.2.2.2.2.1 = d.2.2.2.2.2.2.2.2.2.2.2.2.1 ∧ d.2.2.2.2.2.2.2.2.2.2.2.2.2.1 = d.2.2.2.2.2.2.2.2.2.2.2.2.2.1 ∧ d.2.2.2.2.2.2.2.2.2.2.2.2.2.2 =
     d.2.2.2.2.2.2.2.2.2.2.2.2.2.2 ∧ True)) (∀ (b : Bool), b = decide (d.2.2.2.2.2.1 < (1 : Int)) → ((!b) = true → ((!b) = true → (!b) = true) ∧ True) ∧ ((!b) = true → ((!b) = true → (!b) = true) ∧ True) ∧
     (b = false → (!b) = true) ∧ ifP (bif b then true else decide ((4 : Int) < d.2.2.2.2.2.1)) (ifP (bif b then true else decide ((4 : Int) < d.2.2.2.2.2.1)) ((13 : Int) = nodeV d) (∃ (x : Unit),
     (List.length (nPorts d) ≤ (32 : Nat) ∧ first (portBad d) (List.length (nPorts d)) = (0 : Int) ∧ ¬loopBad d ∧ ¬formBad d) ∧ d.1 = d.1 ∧ d.2.1 = d.2.1 ∧ d.2.2.1 = d.2.2.1 ∧ d.2.2.2.1 = d.2.2.2.1 ∧
     d.2.2.2.2.1 = d.2.2.2.2.1 ∧ d.2.2.2.2.2.1 = d.2.2.2.2.2.1 ∧ d.2.2.2.2.2.2.1 = d.2.2.2.2.2.2.1 ∧ d.2.2.2.2.2.2.2.1 = d.2.2.2.2.2.2.2.1 ∧ d.2.2.2.2.2.2.2.2.1 = d.2.2.2.2.2.2.2.2.1 ∧
     d.2.2.2.2.2.2.2.2.2.1 = d.2.2.2.2.2.2.2.2.2.1 ∧ d.2.2.2.2.2.2.2.2.2.2.1.1 = d.2.2.2.2.2.2.2.2.2.2.1.1 ∧ d.2.2.2.2.2.2.2.2.2.2.1.2 = d.2.2.2.2.2.2.2.2.2.2.1.2 ∧ d.2.2.2.2.2.2.2.2.2.2.2.1 =
     d.2.2.2.2.2.2.2.2.2.2.2.1 ∧ d.2.2.2.2.2.2.2.2.2.2.2.2.1 = d.2.2.2.2.2.2.2.2.2.2.2.2.1 ∧ d.2.2.2.2.2.2.2.2.2.2.2.2.2.1 = d.2.2.2.2.2.2.2.2.2.2.2.2.2.1 ∧ d.2.2.2.2.2.2.2.2.2.2.2.2.2.2 =
     d.2.2.2.2.2.2.2.2.2.2.2.2.2.2 ∧ True)) (∀ (b : Bool), b = decide (d.2.2.2.2.2.1 = (3 : Int)) → (b = true → (b = true → b = true) ∧ True) ∧ (b = true → (b = true → b = true) ∧ True) ∧ (b = true → b =
     true) ∧ ifP (bif b then decide (d.2.1 = (0 : Int)) else false) (ifP (bif b then decide (d.2.1 = (0 : Int)) else false) ((13 : Int) = nodeV d) (∃ (x : Unit), (List.length (nPorts d) ≤ (32 : Nat) ∧
     first (portBad d) (List.length (nPorts d)) = (0 : Int) ∧ ¬loopBad d ∧ ¬formBad d) ∧ d.1 = d.1 ∧ d.2.1 = d.2.1 ∧ d.2.2.1 = d.2.2.1 ∧ d.2.2.2.1 = d.2.2.2.1 ∧ d.2.2.2.2.1 = d.2.2.2.2.1 ∧ d.2.2.2.2.2.1 =
     d.2.2.2.2.2.1 ∧ d.2.2.2.2.2.2.1 = d.2.2.2.2.2.2.1 ∧ d.2.2.2.2.2.2.2.1 = d.2.2.2.2.2.2.2.1 ∧ d.2.2.2.2.2.2.2.2.1 = d.2.2.2.2.2.2.2.2.1 ∧ d.2.2.2.2.2.2.2.2.2.1 = d.2.2.2.2.2.2.2.2.2.1 ∧
     d.2.2.2.2.2.2.2.2.2.2.1.1 = d.2.2.2.2.2.2.2.2.2.2.1.1 ∧ d.2.2.2.2.2.2.2.2.2.2.1.2 = d.2.2.2.2.2.2.2.2.2.2.1.2 ∧ d.2.2.2.2.2.2.2.2.2.2.2.1 = d.2.2.2.2.2.2.2.2.2.2.2.1 ∧ d.2.2.2.2.2.2.2.2.2.2.2.2.1 =
     d.2.2.2.2.2.2.2.2.2.2.2.2.1 ∧ d.2.2.2.2.2.2.2.2.2.2.2.2.2.1 = d.2.2.2.2.2.2.2.2.2.2.2.2.2.1 ∧ d.2.2.2.2.2.2.2.2.2.2.2.2.2.2 = d.2.2.2.2.2.2.2.2.2.2.2.2.2.2 ∧ True)) (∀ (b : Bool), b = !decide
     (d.2.2.2.2.2.2.1 = (0 : Int)) → (b = true → (b = true → b = true) ∧ True) ∧ (b = true → (b = true → b = true) ∧ True) ∧ (b = true → (b = true → b = true) ∧ True) ∧ (b = true → b = true) ∧ ifP (bif b
     then !decide (usable d.2.2.2.2.2.2.1) else false) (ifP (bif b then !decide (usable d.2.2.2.2.2.2.1) else false) ((13 : Int) = nodeV d) (∃ (x : Unit), (List.length (nPorts d) ≤ (32 : Nat) ∧ first
     (portBad d) (List.length (nPorts d)) = (0 : Int) ∧ ¬loopBad d ∧ ¬formBad d) ∧ d.1 = d.1 ∧ d.2.1 = d.2.1 ∧ d.2.2.1 = d.2.2.1 ∧ d.2.2.2.1 = d.2.2.2.1 ∧ d.2.2.2.2.1 = d.2.2.2.2.1 ∧ d.2.2.2.2.2.1 =
     d.2.2.2.2.2.1 ∧ d.2.2.2.2.2.2.1 = d.2.2.2.2.2.2.1 ∧ d.2.2.2.2.2.2.2.1 = d.2.2.2.2.2.2.2.1 ∧ d.2.2.2.2.2.2.2.2.1 = d.2.2.2.2.2.2.2.2.1 ∧ d.2.2.2.2.2.2.2.2.2.1 = d.2.2.2.2.2.2.2.2.2.1 ∧
     d.2.2.2.2.2.2.2.2.2.2.1.1 = d.2.2.2.2.2.2.2.2.2.2.1.1 ∧ d.2.2.2.2.2.2.2.2.2.2.1.2 = d.2.2.2.2.2.2.2.2.2.2.1.2 ∧ d.2.2.2.2.2.2.2.2.2.2.2.1 = d.2.2.2.2.2.2.2.2.2.2.2.1 ∧ d.2.2.2.2.2.2.2.2.2.2.2.2.1 =
     d.2.2.2.2.2.2.2.2.2.2.2.2.1 ∧ d.2.2.2.2.2.2.2.2.2.2.2.2.2.1 = d.2.2.2.2.2.2.2.2.2.2.2.2.2.1 ∧ d.2.2.2.2.2.2.2.2.2.2.2.2.2.2 = d.2.2.2.2.2.2.2.2.2.2.2.2.2.2 ∧ True)) (∀ (b : Bool), b = decide
     (d.2.2.2.2.2.1 = (4 : Int)) → (b = true → (b = true → b = true) ∧ True) ∧ (b = true → (b = true → b = true) ∧ True) ∧ (b = true → b = true) ∧ ifP (bif b then decide (d.2.2.2.2.2.2.1 = (0 : Int)) else
     false) (ifP (bif b then decide (d.2.2.2.2.2.2.1 = (0 : Int)) else false) ((13 : Int) = nodeV d) (∃ (x : Unit), (List.length (nPorts d) ≤ (32 : Nat) ∧ first (portBad d) (List.length (nPorts d)) = (0 :
     Int) ∧ ¬loopBad d ∧ ¬formBad d) ∧ d.1 = d.1 ∧ d.2.1 = d.2.1 ∧ d.2.2.1 = d.2.2.1 ∧ d.2.2.2.1 = d.2.2.2.1 ∧ d.2.2.2.2.1 = d.2.2.2.2.1 ∧ d.2.2.2.2.2.1 = d.2.2.2.2.2.1 ∧ d.2.2.2.2.2.2.1 = d.2.2.2.2.2.2.1
     ∧ d.2.2.2.2.2.2.2.1 = d.2.2.2.2.2.2.2.1 ∧ d.2.2.2.2.2.2.2.2.1 = d.2.2.2.2.2.2.2.2.1 ∧ d.2.2.2.2.2.2.2.2.2.1 = d.2.2.2.2.2.2.2.2.2.1 ∧ d.2.2.2.2.2.2.2.2.2.2.1.1 = d.2.2.2.2.2.2.2.2.2.2.1.1 ∧
     d.2.2.2.2.2.2.2.2.2.2.1.2 = d.2.2.2.2.2.2.2.2.2.2.1.2 ∧ d.2.2.2.2.2.2.2.2.2.2.2.1 = d.2.2.2.2.2.2.2.2.2.2.2.1 ∧ d.2.2.2.2.2.2.2.2.2.2.2.2.1 = d.2.2.2.2.2.2.2.2.2.2.2.2.1 ∧
     d.2.2.2.2.2.2.2.2.2.2.2.2.2.1 = d.2.2.2.2.2.2.2.2.2.2.2.2.2.1 ∧ d.2.2.2.2.2.2.2.2.2.2.2.2.2.2 = d.2.2.2.2.2.2.2.2.2.2.2.2.2.2 ∧ True)) (∀ (b : Bool), b = decide (d.2.2.2.2.2.2.2.2.2.2.2.2.2.1 < (1 :
     Int)) → ((!b) = true → ((!b) = true → (!b) = true) ∧ True) ∧ ((!b) = true → ((!b) = true → (!b) = true) ∧ True) ∧ (b = false → (!b) = true) ∧ ifP (bif b then true else decide ((255 : Int) <
     d.2.2.2.2.2.2.2.2.2.2.2.2.2.1)) (ifP (bif b then true else decide ((255 : Int) < d.2.2.2.2.2.2.2.2.2.2.2.2.2.1)) ((13 : Int) = nodeV d) (∃ (x : Unit), (List.length (nPorts d) ≤ (32 : Nat) ∧ first
     (portBad d) (List.length (nPorts d)) = (0 : Int) ∧ ¬loopBad d ∧ ¬formBad d) ∧ d.1 = d.1 ∧ d.2.1 = d.2.1 ∧ d.2.2.1 = d.2.2.1 ∧ d.2.2.2.1 = d.2.2.2.1 ∧ d.2.2.2.2.1 = d.2.2.2.2.1 ∧ d.2.2.2.2.2.1 =
     d.2.2.2.2.2.1 ∧ d.2.2.2.2.2.2.1 = d.2.2.2.2.2.2.1 ∧ d.2.2.2.2.2.2.2.1 = d.2.2.2.2.2.2.2.1 ∧ d.2.2.2.2.2.2.2.2.1 = d.2.2.2.2.2.2.2.2.1 ∧ d.2.2.2.2.2.2.2.2.2.1 = d.2.2.2.2.2.2.2.2.2.1 ∧
     d.2.2.2.2.2.2.2.2.2.2.1.1 = d.2.2.2.2.2.2.2.2.2.2.1.1 ∧ d.2.2.2.2.2.2.2.2.2.2.1.2 = d.2.2.2.2.2.2.2.2.2.2.1.2 ∧ d.2.2.2.2.2.2.2.2.2.2.2.1 = d.2.2.2.2.2.2.2.2.2.2.2.1 ∧ d.2.2.2.2.2.2.2.2.2.2.2.2.1 =
     d.2.2.2.2.2.2.2.2.2.2.2.2.1 ∧ d.2.2.2.2.2.2.2.2.2.2.2.2.2.1 = d.2.2.2.2.2.2.2.2.2.2.2.2.2.1 ∧ d.2.2.2.2.2.2.2.2.2.2.2.2.2.2 = d.2.2.2.2.2.2.2.2.2.2.2.2.2.2 ∧ True)) (ifP (decide ((↑(List.length d.1) :
     Int) = (0 : Int))) ((13 : Int) = nodeV d) (∃ (x : Unit), (List.length (nPorts d) ≤ (32 : Nat) ∧ first (portBad d) (List.length (nPorts d)) = (0 : Int) ∧ ¬loopBad d ∧ ¬formBad d) ∧ d.1 = d.1 ∧ d.2.1 =
     d.2.1 ∧ d.2.2.1 = d.2.2.1 ∧ d.2.2.2.1 = d.2.2.2.1 ∧ d.2.2.2.2.1 = d.2.2.2.2.1 ∧ d.2.2.2.2.2.1 = d.2.2.2.2.2.1 ∧ d.2.2.2.2.2.2.1 = d.2.2.2.2.2.2.1 ∧ d.2.2.2.2.2.2.2.1 = d.2.2.2.2.2.2.2.1 ∧
     d.2.2.2.2.2.2.2.2.1 = d.2.2.2.2.2.2.2.2.1 ∧ d.2.2.2.2.2.2.2.2.2.1 = d.2.2.2.2.2.2.2.2.2.1 ∧ d.2.2.2.2.2.2.2.2.2.2.1.1 = d.2.2.2.2.2.2.2.2.2.2.1.1 ∧ d.2.2.2.2.2.2.2.2.2.2.1.2 =
     d.2.2.2.2.2.2.2.2.2.2.1.2 ∧ d.2.2.2.2.2.2.2.2.2.2.2.1 = d.2.2.2.2.2.2.2.2.2.2.2.1 ∧ d.2.2.2.2.2.2.2.2.2.2.2.2.1 = d.2.2.2.2.2.2.2.2.2.2.2.2.1 ∧ d.2.2.2.2.2.2.2.2.2.2.2.2.2.1 =
     d.2.2.2.2.2.2.2.2.2.2.2.2.2.1 ∧ d.2.2.2.2.2.2.2.2.2.2.2.2.2.2 = d.2.2.2.2.2.2.2.2.2.2.2.2.2.2 ∧ True))))))) ∧ ∀ (x : Unit), List.length (nPorts d) ≤ (32 : Nat) ∧ first (portBad d) (List.length (nPorts
     d)) = (0 : Int) ∧ ¬loopBad d ∧ ¬formBad d → List.length (nPorts d) ≤ (100000 : Nat) ∧ (0 : Int) ≤ (0 : Int) ∧ (0 : Int) < (↑(List.length [idCheck d, bCheck d.2.2.2.2.2.2.2.2.2.2.1, check d.2.2.2.2.1
     (pLinks d)]) : Int) ∧ ifP (!decide (List.getD [idCheck d, bCheck d.2.2.2.2.2.2.2.2.2.2.1, check d.2.2.2.2.1 (pLinks d)] (Int.toNat (0 : Int)) default = (0 : Int))) (List.getD [idCheck d, bCheck
     d.2.2.2.2.2.2.2.2.2.2.1, check d.2.2.2.2.1 (pLinks d)] (Int.toNat (0 : Int)) default = nodeV d) ((0 : Int) ≤ IntKind.wrap IntKind.i64 ((0 : Int) + (1 : Int)) ∧ IntKind.wrap IntKind.i64 ((0 : Int) + (1
     : Int)) < (↑(List.length [idCheck d, bCheck d.2.2.2.2.2.2.2.2.2.2.1, check d.2.2.2.2.1 (pLinks d)]) : Int) ∧ ifP (!decide (List.getD [idCheck d, bCheck d.2.2.2.2.2.2.2.2.2.2.1, check d.2.2.2.2.1
     (pLinks d)] (Int.toNat (IntKind.wrap IntKind.i64 ((0 : Int) + (1 : Int)))) default = (0 : Int))) (List.getD [idCheck d, bCheck d.2.2.2.2.2.2.2.2.2.2.1, check d.2.2.2.2.1 (pLinks d)] (Int.toNat
     (IntKind.wrap IntKind.i64 ((0 : Int) + (1 : Int)))) default = nodeV d) ((0 : Int) ≤ IntKind.wrap IntKind.i64 (IntKind.wrap IntKind.i64 ((0 : Int) + (1 : Int)) + (1 : Int)) ∧ IntKind.wrap IntKind.i64
     (IntKind.wrap IntKind.i64 ((0 : Int) + (1 : Int)) + (1 : Int)) < (↑(List.length [idCheck d, bCheck d.2.2.2.2.2.2.2.2.2.2.1, check d.2.2.2.2.1 (pLinks d)]) : Int) ∧ ifP (!decide (List.getD [idCheck d,
     bCheck d.2.2.2.2.2.2.2.2.2.2.1, check d.2.2.2.2.1 (pLinks d)] (Int.toNat (IntKind.wrap IntKind.i64 (IntKind.wrap IntKind.i64 ((0 : Int) + (1 : Int)) + (1 : Int)))) default = (0 : Int))) (List.getD
     [idCheck d, bCheck d.2.2.2.2.2.2.2.2.2.2.1, check d.2.2.2.2.1 (pLinks d)] (Int.toNat (IntKind.wrap IntKind.i64 (IntKind.wrap IntKind.i64 ((0 : Int) + (1 : Int)) + (1 : Int)))) default = nodeV d) ((0 :
     Int) = nodeV d)))))) := by
  rintro d - -
  have hd : d.1 = nPorts d := rfl
  rw [hd]
  refine ifP_split (fun h => ?_) (fun h => ?_)
  · unfold nodeV; rw [if_pos (by have := of_decide_eq_true h; omega)]
  have h32 : (nPorts d).length ≤ 32 := by have := of_decide_eq_false h; omega
  clear h
  refine ⟨⟨0, ⟨by omega, by omega, rfl⟩, (by repeat' first | exact trivial | refine ⟨trivial, ?_⟩ | refine ⟨(by with_reducible rfl), ?_⟩ | refine ⟨w64 (by omega) (by omega), ?_⟩ | refine ⟨rfl, ?_⟩)⟩, ?_⟩
  rintro x ⟨x0, x1, hf⟩
  refine ifP_split (fun hx => ?_) (fun hx => ?_)
  · have hx := of_decide_eq_true hx
    refine ⟨x0, hx, ?_⟩
    (repeat (intro (b_ : Bool) (hb_ : b_ = _); (repeat refine ⟨(by first | (simp; done) | (rw [hb_]; simp; done) | (rw [hb_]; simp; omega) | (rw [hb_]; simp; intros; omega) | (rw [hb_]; simp +contextual; done)), ?_⟩); subst hb_))
    refine ifP_or (fun ho => ?_) (fun h1 h2 => ?_)
    · have e := portBad_a (x := d) x0 (ho.imp nd_t of_decide_eq_true)
      rw [← nodeV_bad h32 x0 hx hf (by rw [e]; decide), e]
    have hn : ¬ (¬ usable ((nPorts d).getD x.toNat default).1 ∨ portA d ((nPorts d).getD x.toNat default).1 < x) := by
      rintro (k | k)
      · exact k (nd_f h1)
      · exact of_decide_eq_false h2 k
    (repeat (intro (b_ : Bool) (hb_ : b_ = _); (repeat refine ⟨(by first | (simp; done) | (rw [hb_]; simp; done) | (rw [hb_]; simp; omega) | (rw [hb_]; simp; intros; omega) | (rw [hb_]; simp +contextual; done)), ?_⟩); subst hb_))
    refine ifP_or (fun ho => ?_) (fun h1 h2 => ?_)
    · have e := portBad_l (x := d) x0 hn (ho.imp of_decide_eq_true of_decide_eq_true)
      rw [← nodeV_bad h32 x0 hx hf (by rw [e]; decide), e]
    · have e := portBad_n (x := d) x0 hn (by
        rintro (k | k)
        · exact of_decide_eq_false h1 k
        · exact of_decide_eq_false h2 k)
      exact ⟨x + 1, ⟨by omega, by omega, first_next x0 hf e⟩, by omega, (by repeat' first | exact trivial | refine ⟨trivial, ?_⟩ | refine ⟨(by with_reducible rfl), ?_⟩ | refine ⟨w64 (by omega) (by omega), ?_⟩ | refine ⟨rfl, ?_⟩)⟩
  have hx := of_decide_eq_false hx
  rw [show x.toNat = (nPorts d).length by omega] at hf
  rw [show d.2.1 = nLoop d from rfl]
  intro b hb
  refine ⟨by simp, by simp, by simp, by simp, ?_⟩
  intro b1 hb1
  (repeat refine ⟨(by cases b <;> cases b1 <;> simp), ?_⟩)
  have hL : (bif b then bif b1 then true else decide (0 ≤ portA d (nLoop d)) else false) = decide (loopBad d) := by
    rw [hb, hb1]
    unfold loopBad
    by_cases k1 : nLoop d = 0 <;> by_cases k2 : usable (nLoop d) <;> by_cases k3 : 0 ≤ portA d (nLoop d) <;> simp [k1, k2, k3]
  rw [hL]
  refine ifP_split (fun h => nodeV_loop h32 hf (of_decide_eq_true h)) (fun hl => ?_)
  have hl := of_decide_eq_false hl
  clear hL hb hb1
  refine ⟨?_, ?_⟩
  · have bad := fun h => nodeV_form (x := d) h32 hf hl h
    refine ifP_twice (fun h => bad (.inl (of_decide_eq_true h))) (fun c1 => ?_)
    (repeat (intro (b_ : Bool) (hb_ : b_ = _); (repeat refine ⟨(by first | (simp; done) | (rw [hb_]; simp; done) | (rw [hb_]; simp; omega) | (rw [hb_]; simp; intros; omega) | (rw [hb_]; simp +contextual; done)), ?_⟩); subst hb_))
    rw [bor_d]
    refine ifP_twice (fun h => bad (.inr (.inl (of_decide_eq_true h)))) (fun c2 => ?_)
    (repeat (intro (b_ : Bool) (hb_ : b_ = _); (repeat refine ⟨(by first | (simp; done) | (rw [hb_]; simp; done) | (rw [hb_]; simp; omega) | (rw [hb_]; simp; intros; omega) | (rw [hb_]; simp +contextual; done)), ?_⟩); subst hb_))
    rw [band_d]
    refine ifP_twice (fun h => bad (.inr (.inr (.inl (of_decide_eq_true h))))) (fun c3 => ?_)
    (repeat (intro (b_ : Bool) (hb_ : b_ = _); (repeat refine ⟨(by first | (simp; done) | (rw [hb_]; simp; done) | (rw [hb_]; simp; omega) | (rw [hb_]; simp; intros; omega) | (rw [hb_]; simp +contextual; done)), ?_⟩); subst hb_))
    rw [band_nn]
    refine ifP_twice (fun h => bad (.inr (.inr (.inr (.inl (of_decide_eq_true h)))))) (fun c4 => ?_)
    (repeat (intro (b_ : Bool) (hb_ : b_ = _); (repeat refine ⟨(by first | (simp; done) | (rw [hb_]; simp; done) | (rw [hb_]; simp; omega) | (rw [hb_]; simp; intros; omega) | (rw [hb_]; simp +contextual; done)), ?_⟩); subst hb_))
    rw [band_d]
    refine ifP_twice (fun h => bad (.inr (.inr (.inr (.inr (.inl (of_decide_eq_true h))))))) (fun c5 => ?_)
    (repeat (intro (b_ : Bool) (hb_ : b_ = _); (repeat refine ⟨(by first | (simp; done) | (rw [hb_]; simp; done) | (rw [hb_]; simp; omega) | (rw [hb_]; simp; intros; omega) | (rw [hb_]; simp +contextual; done)), ?_⟩); subst hb_))
    rw [bor_d]
    refine ifP_twice (fun h => bad (.inr (.inr (.inr (.inr (.inr (.inl (of_decide_eq_true h)))))))) (fun c6 => ?_)
    refine ifP_split (fun h => bad (.inr (.inr (.inr (.inr (.inr (.inr ?_))))))) (fun c7 => ?_)
    · have := of_decide_eq_true h; omega
    refine ⟨(), ⟨h32, hf, hl, ?_⟩, (by repeat' first | exact trivial | refine ⟨trivial, ?_⟩ | refine ⟨(by with_reducible rfl), ?_⟩ | refine ⟨w64 (by omega) (by omega), ?_⟩ | refine ⟨rfl, ?_⟩)⟩
    rintro (k | k | k | k | k | k | k)
    · exact of_decide_eq_false c1 k
    · exact of_decide_eq_false c2 k
    · exact of_decide_eq_false c3 k
    · exact of_decide_eq_false c4 k
    · exact of_decide_eq_false c5 k
    · exact of_decide_eq_false c6 k
    · have := of_decide_eq_false c7; omega
  rintro - ⟨-, -, -, hb⟩
  have e := nodeV_rest h32 hf hl hb
  rw [show IntKind.wrap IntKind.i64 (IntKind.wrap IntKind.i64 ((0 : Int) + 1) + 1) = 2 by decide, show IntKind.wrap IntKind.i64 ((0 : Int) + 1) = 1 by decide, e]
  refine ⟨by omega, by omega, by simp, ifP_split (fun h => ?_) (fun h => ?_)⟩
  · rw [if_pos (show idCheck d ≠ 0 from nd_t h)]; rfl
  rw [if_neg (show ¬ idCheck d ≠ 0 from fun k => k (nd_f h))]
  refine ⟨by omega, by simp, ifP_split (fun h => ?_) (fun h => ?_)⟩
  · rw [if_pos (show bCheck (nLimit d) ≠ 0 from nd_t h)]; rfl
  rw [if_neg (show ¬ bCheck (nLimit d) ≠ 0 from fun k => k (nd_f h))]
  refine ⟨by omega, by simp, ifP_split (fun h => ?_) (fun h => ?_)⟩
  · rfl
  · exact (show check (nRoutes d) (pLinks d) = 0 from nd_f h).symm
theorem ok_node_Check : SpecOK Tryd.prog GL 59 ct_node_Check.spec := Ct.okH _ Tryd.func59 (by kernel_rfl) (withSpec_ok (withSpec_ok (withSpec_ok (withSpec_ok (withSpec_ok (withSpec_ok (withSpec_ok noSpecs_ok ok_node_usable) ok_node_port) ok_node_PortOf) ok_identifier_Check) ok_bucket_Check) ok_fib_Check) ok_node_links) hmix an_node_Check (hideMp (by kernel_rfl) vc_node_Check)



def ct_ref13_Owns : Ct := ⟨[.agg cNode, .val cU32], [.val .bool], fun d => [], fun d => ((ownsA d.1 d.2.1, ()), ())⟩
def an_ref13_Owns : PDs ct_ref13_Owns.ps → Anns := (fun d => { loops := (fun n => match n with | 2 => some (fun S => { ι := Int, μ := fun i => ((nPorts d.1).length - i).toNat, inv := fun i => 0 ≤ i ∧ i ≤ (nPorts d.1).length ∧ ∀ x ∈ (nPorts d.1).take i.toNat, isA d.2.1 x = false, keep := [1, 2], slots := fun i => [(5, .int .i64 i)], keepN := [48], names := fun i => [] }) | _ => none) })
theorem vc_ref13_Owns :
    ∀ (d : List (Int × Int) × Int × Int × Bool × List ((Int × Int) × List Int × Int) × Int × Int × Int × Int × Int × (Int × Int) × Bool × Bool × Int × Int) (x : Int), CT.wf cNode d ∧ ((0 : Int) ≤ x ∧ x ≤
     (4294967295 : Int)) ∧ True → True → (∃ (x_1 : Int), ((0 : Int) ≤ x_1 ∧ x_1 ≤ (↑(List.length (nPorts d)) : Int) ∧ ∀ (x_2 : Int × Int), x_2 ∈ List.take (Int.toNat x_1) (nPorts d) → isA x x_2 = false) ∧
     x = x ∧ (0 : Int) = x_1 ∧ d.1 = d.1 ∧ d.2.1 = d.2.1 ∧ d.2.2.1 = d.2.2.1 ∧ d.2.2.2.1 = d.2.2.2.1 ∧ d.2.2.2.2.1 = d.2.2.2.2.1 ∧ d.2.2.2.2.2.1 = d.2.2.2.2.2.1 ∧ d.2.2.2.2.2.2.1 = d.2.2.2.2.2.2.1 ∧
     d.2.2.2.2.2.2.2.1 = d.2.2.2.2.2.2.2.1 ∧ d.2.2.2.2.2.2.2.2.1 = d.2.2.2.2.2.2.2.2.1 ∧ d.2.2.2.2.2.2.2.2.2.1 = d.2.2.2.2.2.2.2.2.2.1 ∧ d.2.2.2.2.2.2.2.2.2.2.1.1 = d.2.2.2.2.2.2.2.2.2.2.1.1 ∧
     d.2.2.2.2.2.2.2.2.2.2.1.2 = d.2.2.2.2.2.2.2.2.2.2.1.2 ∧ d.2.2.2.2.2.2.2.2.2.2.2.1 = d.2.2.2.2.2.2.2.2.2.2.2.1 ∧ d.2.2.2.2.2.2.2.2.2.2.2.2.1 = d.2.2.2.2.2.2.2.2.2.2.2.2.1 ∧
     d.2.2.2.2.2.2.2.2.2.2.2.2.2.1 = d.2.2.2.2.2.2.2.2.2.2.2.2.2.1 ∧ d.2.2.2.2.2.2.2.2.2.2.2.2.2.2 = d.2.2.2.2.2.2.2.2.2.2.2.2.2.2 ∧ True) ∧ ∀ (x_1 : Int), ((0 : Int) ≤ x_1 ∧ x_1 ≤ (↑(List.length (nPorts
     d)) : Int) ∧ ∀ (x_2 : Int × Int), x_2 ∈ List.take (Int.toNat x_1) (nPorts d) → isA x x_2 = false) → ifP (decide (x_1 < (↑(List.length d.1) : Int))) ((0 : Int) ≤ x_1 ∧ x_1 < (↑(List.length d.1) : Int)
     ∧ ifP (decide ((List.getD d.1 (Int.toNat x_1) default).1 = x)) (true = ownsA d x) (∃ (x_2 : Int), ((0 : Int) ≤ x_2 ∧ x_2 ≤ (↑(List.length (nPorts d)) : Int) ∧ ∀ (x_3 : Int × Int), x_3 ∈ List.take
     (Int.toNat x_2) (nPorts d) → isA x x_3 = false) ∧ Int.toNat ((↑(List.length (nPorts d)) : Int) - x_2) < Int.toNat ((↑(List.length (nPorts d)) : Int) - x_1) ∧ x = x ∧ IntKind.wrap IntKind.i64 (x_1 + (1
     : Int)) = x_2 ∧ d.1 = d.1 ∧ d.2.1 = d.2.1 ∧ d.2.2.1 = d.2.2.1 ∧ d.2.2.2.1 = d.2.2.2.1 ∧ d.2.2.2.2.1 = d.2.2.2.2.1 ∧ d.2.2.2.2.2.1 = d.2.2.2.2.2.1 ∧ d.2.2.2.2.2.2.1 = d.2.2.2.2.2.2.1 ∧
     d.2.2.2.2.2.2.2.1 = d.2.2.2.2.2.2.2.1 ∧ d.2.2.2.2.2.2.2.2.1 = d.2.2.2.2.2.2.2.2.1 ∧ d.2.2.2.2.2.2.2.2.2.1 = d.2.2.2.2.2.2.2.2.2.1 ∧ d.2.2.2.2.2.2.2.2.2.2.1.1 = d.2.2.2.2.2.2.2.2.2.2.1.1 ∧
     d.2.2.2.2.2.2.2.2.2.2.1.2 = d.2.2.2.2.2.2.2.2.2.2.1.2 ∧ d.2.2.2.2.2.2.2.2.2.2.2.1 = d.2.2.2.2.2.2.2.2.2.2.2.1 ∧ d.2.2.2.2.2.2.2.2.2.2.2.2.1 = d.2.2.2.2.2.2.2.2.2.2.2.2.1 ∧
     d.2.2.2.2.2.2.2.2.2.2.2.2.2.1 = d.2.2.2.2.2.2.2.2.2.2.2.2.2.1 ∧ d.2.2.2.2.2.2.2.2.2.2.2.2.2.2 = d.2.2.2.2.2.2.2.2.2.2.2.2.2.2 ∧ True)) (∀ (b : Bool), b = !decide (d.2.1 = (0 : Int)) → (b = true → (b =
     true → b = true) ∧ True) ∧ (b = true → (b = true → b = true) ∧ (b = true → b = true) ∧ True) ∧ (b = true → b = true) ∧ (bif b then decide (d.2.1 = x) else false) = ownsA d x) := by
  rintro d a ⟨⟨⟨hl, -⟩, -⟩, -⟩ -
  have hd : d.1 = nPorts d := rfl
  rw [hd] at hl ⊢
  simp only [maxLen] at hl
  refine ⟨⟨0, ⟨by omega, by omega, by simp⟩, (by repeat' first | exact trivial | refine ⟨trivial, ?_⟩ | refine ⟨(by with_reducible rfl), ?_⟩ | refine ⟨w64 (by omega) (by omega), ?_⟩ | refine ⟨rfl, ?_⟩)⟩, ?_⟩
  rintro j ⟨j0, j1, hj⟩
  refine ifP_split (fun hk => ?_) (fun hk => ?_)
  · have hk := of_decide_eq_true hk
    refine ⟨j0, hk, ifP_split (fun hm => ?_) (fun hm => ?_)⟩
    · have e : j = portA d a := findI_at j0 hk hj hm
      unfold ownsA
      rw [← e, decide_eq_true j0]; rfl
    · exact ⟨j + 1, ⟨by omega, by omega, all_next j0 hk hj hm⟩, by omega, (by repeat' first | exact trivial | refine ⟨trivial, ?_⟩ | refine ⟨(by with_reducible rfl), ?_⟩ | refine ⟨w64 (by omega) (by omega), ?_⟩ | refine ⟨rfl, ?_⟩)⟩
  · have e : -1 = portA d a := findI_none (of_decide_eq_false hk) hj
    (repeat (intro (b_ : Bool) (hb_ : b_ = _); (repeat refine ⟨(by first | (simp; done) | (rw [hb_]; simp; done) | (rw [hb_]; simp; omega) | (rw [hb_]; simp; intros; omega) | (rw [hb_]; simp +contextual; done)), ?_⟩); subst hb_))
    unfold ownsA
    rw [← e, show d.2.1 = nLoop d from rfl]
    cases decide (nLoop d = 0) <;> rfl
theorem ok_ref13_Owns : SpecOK Tryd.prog GL 43 ct_ref13_Owns.spec := Ct.okH _ Tryd.func43 (by kernel_rfl) noSpecs_ok hmix an_ref13_Owns (hideMp (by kernel_rfl) vc_ref13_Owns)
end Go.RS


/- Netd: networks as the laws draw them: exact. -/
namespace Go.RS
open Go.SX Go.Proofs
set_option maxRecDepth 100000
set_option linter.unusedVariables false

abbrev cLink : CT := .pair cI (.pair cI (.pair cI (.pair cI (.pair cI cI))))
abbrev cChange : CT := .pair cI (.pair cI (.pair .bool cRt))
abbrev cNet : CT := .pair (.sl cNode) (.pair (.sl cLink) (.sl cChange))
/-- A, B, Delay, Jitter, Loss, Seed. -/
abbrev Link : Type := Int × Int × Int × Int × Int × Int
/-- At, Node, Remove, Route. -/
abbrev Change : Type := Int × Int × Bool × Rt
abbrev Net : Type := List Node × List Link × List Change
abbrev Codes : Type := List Int × Int
abbrev Port : Type := Int × Int
def lA (l : Link) : Int := l.1
def lB (l : Link) : Int := l.2.1
def lDelay (l : Link) : Int := l.2.2.1
def lJitter (l : Link) : Int := l.2.2.2.1
def lLoss (l : Link) : Int := l.2.2.2.2.1
def lSeed (l : Link) : Int := l.2.2.2.2.2
theorem getD_setne {α : Type} [Inhabited α] {l : List α} {i j : Nat} {a : α} (h : i ≠ j) : (l.set i a).getD j default = l.getD j default := by
  rw [List.getD_eq_getElem?_getD, List.getD_eq_getElem?_getD, List.getElem?_set_ne h]
/-! ### Choices, exactly -/
def codeAt (c : Codes) : Int := c.1.getD c.2.toNat default
def next1 (c : Codes) (n : Int) : Int × Codes := if (c.1.length : Int) ≤ c.2 ∨ n < 1 then (0, c) else ((codeAt c).tmod n, (c.1, c.2 + 1))
def nextV (c : Codes) (n : Int) : Int × Codes :=
  if (c.1.length : Int) ≤ c.2 ∨ n < 1 then (0, c)
  else if 256 < n then ((256 * codeAt c + (next1 (c.1, c.2 + 1) 256).1).tmod n, (next1 (c.1, c.2 + 1) 256).2)
  else ((codeAt c).tmod n, (c.1, c.2 + 1))
structure okB (c : Codes) : Prop where
  at' : okC c
  b : ∀ x ∈ c.1, 0 ≤ x ∧ x ≤ 255
theorem okB.code {c : Codes} (h : okB c) (hb : ¬ (c.1.length : Int) ≤ c.2) : 0 ≤ codeAt c ∧ codeAt c ≤ 255 := h.b _ (getD_mem h.at'.1 (by omega))
theorem next1_ok {c : Codes} (h : okB c) (n : Int) : okB (next1 c n).2 ∧ 0 ≤ (next1 c n).1 ∧ ((next1 c n).1 < n ∨ (next1 c n).1 = 0) := by
  unfold next1
  split
  · exact ⟨h, by simp, .inr rfl⟩
  · rename_i hb
    have hc := h.code (by omega)
    have ha := h.at'
    exact ⟨⟨⟨by have := ha.1; show 0 ≤ c.2 + 1; omega, by show c.2 + 1 ≤ (c.1.length : Int); omega⟩, h.b⟩, tmod_lo hc.1, .inl (tmod_hi hc.1 (by omega))⟩
theorem nextV_ok {c : Codes} (h : okB c) (n : Int) : okB (nextV c n).2 ∧ 0 ≤ (nextV c n).1 ∧ ((nextV c n).1 < n ∨ (nextV c n).1 = 0) := by
  unfold nextV
  split
  · exact ⟨h, by simp, .inr rfl⟩
  · rename_i hb
    have hc := h.code (by omega)
    have ha := h.at'
    have h1 : okB (c.1, c.2 + 1) := ⟨⟨by have := ha.1; show 0 ≤ c.2 + 1; omega, by show c.2 + 1 ≤ (c.1.length : Int); omega⟩, h.b⟩
    split
    · have k := next1_ok h1 256
      exact ⟨k.1, tmod_lo (by omega), .inl (tmod_hi (by omega) (by omega))⟩
    · exact ⟨h1, tmod_lo hc.1, .inl (tmod_hi hc.1 (by omega))⟩
theorem nextV_lt {c : Codes} (h : okB c) {n : Int} (hn : 0 < n) : 0 ≤ (nextV c n).1 ∧ (nextV c n).1 < n := by
  have := nextV_ok h n; omega
/-! ### Nodes and links -/
def newNode (i : Int) (host : Bool) (f sd : Int) : Node := ([], 0, 1 + i / 3, host, [], 1, 0, 0, 0, 0, (0, 0), false, false, f, sd)
abbrev Scene : Type := Net × Codes
def nodeS (s : Scene) (host : Bool) : Scene :=
  ((s.1.1 ++ [newNode s.1.1.length host (([64, 255, 128] : List Int).getD (nextV s.2 3).1.toNat default) (nextV (nextV s.2 3).2 256).1], s.1.2), (nextV (nextV s.2 3).2 256).2)
def addPort (ns : List Node) (x : Int) (p : Port) : List Node := ns.set x.toNat ((ns.getD x.toNat default).1 ++ [p], (ns.getD x.toNat default).2)
def baseA (l : Int) : Int := 167837696 + 4 * l
def linkS (s : Scene) (a b : Int) : Scene :=
  ((addPort (addPort s.1.1 a (baseA s.1.2.1.length + 1, s.1.2.1.length)) b (baseA s.1.2.1.length + 2, s.1.2.1.length),
    s.1.2.1 ++ [(a, b, 1 + (nextV s.2 20).1, 0, 0, (nextV (nextV s.2 20).2 256).1)], s.1.2.2), (nextV (nextV s.2 20).2 256).2)
/-! ### Routes -/
def insN (k : Int) : List Int → List Int
  | [] => [k]
  | x :: r => if k < x then k :: x :: r else x :: insN k r
theorem insN_none {k : Int} : ∀ {l : List Int}, (∀ x ∈ l, ¬ k < x) → insN k l = l ++ [k]
  | [], _ => rfl
  | x :: r, h => by rw [insN, if_neg (h x List.mem_cons_self), insN_none fun y hy => h y (List.mem_cons_of_mem _ hy)]; rfl
theorem insN_some {k : Int} {m : List Int} : ∀ {l : List Int}, (∃ x ∈ l, k < x) → insN k (l ++ m) = insN k l ++ m
  | [], h => by obtain ⟨x, hx, -⟩ := h; cases hx
  | y :: r, h => by
    rw [List.cons_append, insN, insN]
    by_cases hy : k < y
    · rw [if_pos hy, if_pos hy]; rfl
    · rw [if_neg hy, if_neg hy, insN_some (l := r)]; rfl
      obtain ⟨x, hx, hk⟩ := h
      rcases List.mem_cons.1 hx with rfl | hx
      · exact absurd hk hy
      · exact ⟨x, hx, hk⟩
theorem insN_new {k x : Int} : ∀ {l : List Int}, (∀ y ∈ l, ¬ k < y) → k < x → insN k (l ++ [x]) = l ++ [k] ++ [x]
  | [], _, h => by rw [List.nil_append, insN, if_pos h]; rfl
  | y :: r, h, hk => by rw [List.cons_append, insN, if_neg (h y List.mem_cons_self), insN_new (fun z hz => h z (List.mem_cons_of_mem _ hz)) hk]; rfl
theorem insN_len (k : Int) : ∀ l : List Int, (insN k l).length = l.length + 1
  | [] => rfl
  | x :: r => by rw [insN]; split <;> simp [insN_len k r]
def rFind (l : List Rt) (p : Pfx) : Nat := l.findIdx fun r => decide (r.1 = p)
def setRoutes (x : Node) (l : List Rt) : Node := (x.1, x.2.1, x.2.2.1, x.2.2.2.1, l, x.2.2.2.2.2)
def routeL (l : List Rt) (p : Pfx) (k way : Int) : List Rt :=
  if rFind l p < l.length then
    if k ∈ (l.getD (rFind l p) default).2.1 then l else putL l (p, insN k (l.getD (rFind l p) default).2.1, (l.getD (rFind l p) default).2.2)
  else putL l (p, [k], way)
def routeN (ns : List Node) (n : Int) (p : Pfx) (k way : Int) : List Node := ns.set n.toNat (setRoutes (ns.getD n.toNat default) (routeL (nRoutes (ns.getD n.toNat default)) p k way))
def relax (d : List Int) (l : Link) : List Int :=
  (d.set (lA l).toNat (min (d.getD (lA l).toNat default) (d.getD (lB l).toNat default + 1))).set (lB l).toNat (min (d.getD (lB l).toNat default) (d.getD (lA l).toNat default + 1))
def distL (nn : Nat) (ls : List Link) (to : Int) : List Int := (List.range nn).foldl (fun d _ => ls.foldl relax d) ((List.replicate nn (1000 : Int)).set to.toNat 0)
def stepE (d : List Int) (to : Int) (p : Pfx) (plain : Bool) (k way : Int) (ns : List Node) (a b : Int) : List Node :=
  if d.getD a.toNat default ≠ d.getD b.toNat default + 1 ∨ (b ≠ to ∧ nHost (ns.getD b.toNat default) = true) then ns
  else if plain = true ∧ hasL (nRoutes (ns.getD a.toNat default)) p = true then ns else routeN ns a p k way
def stepK (ls : List Link) (d : List Int) (to : Int) (p : Pfx) (plain : Bool) (way : Int) (ns : List Node) (k : Nat) : List Node :=
  stepE d to p plain k way (stepE d to p plain k way ns (lA (ls.getD k default)) (lB (ls.getD k default))) (lB (ls.getD k default)) (lA (ls.getD k default))
def stepP (ls : List Link) (d : List Int) (to : Int) (plain : Bool) (way : Int) (ns : List Node) (q : Port) : List Node :=
  (List.range ls.length).foldl (stepK ls d to (q.1, 32) plain way) ns
def wayC (c : Codes) : Int × Codes := if 1 + (nextV c 3).1 = 3 then (if 0 < (nextV (nextV c 3).2 3).1 then 1 else 3, (nextV (nextV c 3).2 3).2) else (1 + (nextV c 3).1, (nextV c 3).2)
def stepT (ls : List Link) (plain : Bool) (s : List Node × Codes) (to : Nat) : List Node × Codes :=
  ((nPorts (s.1.getD to default)).foldl (stepP ls (distL s.1.length ls to) to plain (wayC s.2).1) s.1, (wayC s.2).2)
def routesS (s : Scene) (plain : Bool) : Scene :=
  let r := (List.range s.1.1.length).foldl (stepT s.1.2.1 plain) (s.1.1, s.2)
  ((r.1, s.1.2), r.2)
/-! ### Special ways -/
def odSilent (x : Node) : Node := (x.1, x.2.1, x.2.2.1, x.2.2.2.1, x.2.2.2.2.1, x.2.2.2.2.2.1, x.2.2.2.2.2.2.1, x.2.2.2.2.2.2.2.1, x.2.2.2.2.2.2.2.2.1, x.2.2.2.2.2.2.2.2.2.1, x.2.2.2.2.2.2.2.2.2.2.1, true, x.2.2.2.2.2.2.2.2.2.2.2.2)
def odLimit (x : Node) (b : Int × Int) : Node := (x.1, x.2.1, x.2.2.1, x.2.2.2.1, x.2.2.2.2.1, x.2.2.2.2.2.1, x.2.2.2.2.2.2.1, x.2.2.2.2.2.2.2.1, x.2.2.2.2.2.2.2.2.1, x.2.2.2.2.2.2.2.2.2.1, b, x.2.2.2.2.2.2.2.2.2.2.2)
def odOpaque (x : Node) (b : Bool) : Node := (x.1, x.2.1, x.2.2.1, x.2.2.2.1, x.2.2.2.2.1, x.2.2.2.2.2.1, x.2.2.2.2.2.2.1, x.2.2.2.2.2.2.2.1, x.2.2.2.2.2.2.2.2.1, x.2.2.2.2.2.2.2.2.2.1, x.2.2.2.2.2.2.2.2.2.2.1, x.2.2.2.2.2.2.2.2.2.2.2.1, b, x.2.2.2.2.2.2.2.2.2.2.2.2.2)
def odSource (x : Node) (s : Int) : Node := (x.1, x.2.1, x.2.2.1, x.2.2.2.1, x.2.2.2.2.1, s, x.2.2.2.2.2.2)
def odLoop (x : Node) (a s : Int) : Node := (x.1, a, x.2.2.1, x.2.2.2.1, x.2.2.2.2.1, s, x.2.2.2.2.2.2)
def odFixed (x : Node) (a s : Int) : Node := (x.1, x.2.1, x.2.2.1, x.2.2.2.1, x.2.2.2.2.1, s, a, x.2.2.2.2.2.2.2)
def odIds (x : Node) (i b s : Int) : Node := (x.1, x.2.1, x.2.2.1, x.2.2.2.1, x.2.2.2.2.1, x.2.2.2.2.2.1, x.2.2.2.2.2.2.1, i, b, s, x.2.2.2.2.2.2.2.2.2.2)
def odWay (x : Node) (i : Int) (c : Codes) : Node × Codes :=
  let a := nextV c 10
  if a.1 = 1 then (odSilent x, a.2)
  else if a.1 = 2 then (odLimit x (1 + (nextV a.2 3).1, 1 + (nextV (nextV a.2 3).2 200).1), (nextV (nextV a.2 3).2 200).2)
  else if a.1 = 3 then (odOpaque x (!nHost x && decide (i % 2 = 1)), a.2)
  else if a.1 = 4 then (odSource x 2, a.2)
  else if a.1 = 5 then (odLoop x (167903232 + i) 3, a.2)
  else if a.1 = 6 then (odFixed x (167837696 + (nextV a.2 40).1) 4, (nextV a.2 40).2)
  else (x, a.2)
def odNode (x : Node) (i : Int) (c : Codes) : Node × Codes :=
  let y := odWay x i c
  (odIds y.1 (nextV y.2 6).1 (nextV (nextV y.2 6).2 65536).1 (nextV (nextV (nextV y.2 6).2 65536).2 1000).1, (nextV (nextV (nextV y.2 6).2 65536).2 1000).2)
def odNodes (s : List Node × Codes) (i : Nat) : List Node × Codes := (s.1.set i (odNode (s.1.getD i default) i s.2).1, (odNode (s.1.getD i default) i s.2).2)
def odLink (l : Link) (c : Codes) : Link × Codes :=
  let a := nextV c 6
  if a.1 = 1 then ((l.1, l.2.1, l.2.2.1, (nextV a.2 10).1, l.2.2.2.2), (nextV a.2 10).2)
  else if a.1 = 2 then ((l.1, l.2.1, l.2.2.1, l.2.2.2.1, ([65536, 20000, 3] : List Int).getD (nextV a.2 3).1.toNat default, l.2.2.2.2.2), (nextV a.2 3).2)
  else (l, a.2)
def odClear (ns : List Node) (l : Link) : List Node :=
  if nOpaque (ns.getD (lA l).toNat default) = true ∧ nOpaque (ns.getD (lB l).toNat default) = true then ns.set (lB l).toNat (odOpaque (ns.getD (lB l).toNat default) false) else ns
def odLinks (s : (List Node × List Link) × Codes) (i : Nat) : (List Node × List Link) × Codes :=
  let r := odLink (s.1.2.getD i default) s.2
  ((odClear s.1.1 r.1, s.1.2.set i r.1), r.2)
/-- The changes so far, the time, the choices. -/
def odChange (ns : List Node) (s : List Change × Int × Codes) : List Change × Int × Codes :=
  let a := nextV s.2.2 60
  let at' := s.2.1 + a.1
  let w := nextV a.2 ns.length
  let x := ns.getD w.1.toNat default
  if (nRoutes x).length = 0 then (s.1, at', w.2)
  else
    let r := nextV w.2 (nRoutes x).length
    let p := nextV r.2 (nPorts x).length
    let z := nextV p.2 4
    let rt := (nRoutes x).getD r.1.toNat default
    (s.1 ++ [(at', w.1, false, (rt.1, if z.1 = 3 then [] else [((nPorts x).getD p.1.toNat default).2], rt.2.2))], at', z.2)
def oddS (s : Scene) : Scene :=
  let n := (List.range s.1.1.length).foldl odNodes (s.1.1, s.2)
  let l := (List.range s.1.2.1.length).foldl odLinks ((n.1, s.1.2.1), n.2)
  let k := nextV l.2 4
  let h := (List.range k.1.toNat).foldl (fun s _ => odChange l.1.1 s) ([], 0, k.2)
  ((l.1.1, l.1.2, h.1), h.2.2)
/-! ### A network -/
def chainS (s : Scene) (k : Nat) : Scene := linkS (nodeS s false) k (k + 1)
/-- A shortcut, if its ends differ. -/
def shortS (n : Int) (s : Scene) : Scene :=
  let a := nextV s.2 n
  let b := nextV a.2 n
  if a.1 = b.1 then (s.1, b.2) else linkS (s.1, b.2) (1 + a.1) (1 + b.1)
def lineS (c : Codes) : Int × Scene :=
  let a := nodeS (([], [], []), c) true
  let m := nextV a.2 5
  let s := (List.range (1 + m.1).toNat).foldl chainS (a.1, m.2)
  (1 + m.1, linkS (nodeS s true) (1 + m.1) (1 + m.1 + 1))
def moreS (plain : Bool) (n : Int) (s : Scene) : Scene :=
  let k := nextV s.2 4
  let s1 := if 1 < n ∧ plain = false then (List.range k.1.toNat).foldl (fun s _ => shortS n s) (s.1, k.2) else (s.1, k.2)
  if plain = true ∧ 2 < n then
    if (nextV s1.2 2).1 = 1 then linkS (s1.1, (nextV (nextV s1.2 2).2 (n - 1)).2) (1 + (nextV (nextV s1.2 2).2 (n - 1)).1) n else (s1.1, (nextV s1.2 2).2)
  else s1
def netS (plain : Bool) (c : Codes) : Scene :=
  let s := routesS (moreS plain (lineS c).1 (lineS c).2) plain
  if plain then s else oddS s
def netV (plain : Bool) (c : Codes) : Net := (netS plain c).1
def netC (plain : Bool) (c : Codes) : Codes := (netS plain c).2
end Go.RS


/- Topo: networks: their errors and their parts. -/
namespace Go.RS
open Go.SX Go.Proofs
set_option maxRecDepth 100000
set_option linter.unusedVariables false

def adrs (x : Node) : List Int := pAddrs x ++ (if nLoop x = 0 then [] else [nLoop x])
def ct_topology_within : Ct := ⟨[.val cI, .val cI, .val cI], [.val .bool], fun _ => [], fun d => ((decide (d.2.1 ≤ d.1 ∧ d.1 ≤ d.2.2.1), ()), ())⟩
def an_topology_within : PDs ct_topology_within.ps → Anns := (fun _ => {})
theorem vc_topology_within :
    ∀ (x x_1 x_2 : Int), ((-9223372036854775808 : Int) ≤ x ∧ x ≤ (9223372036854775807 : Int)) ∧ ((-9223372036854775808 : Int) ≤ x_1 ∧ x_1 ≤ (9223372036854775807 : Int)) ∧ ((-9223372036854775808 : Int) ≤
     x_2 ∧ x_2 ≤ (9223372036854775807 : Int)) ∧ True → True → ∀ (b : Bool), b = decide (x_1 ≤ x) → (b = true → (b = true → b = true) ∧ (b = true → b = true) ∧ True) ∧ (b = true → b = true) ∧ (bif b then
     decide (x ≤ x_2) else false) = decide (x_1 ≤ x ∧ x ≤ x_2) := by
  rintro a b c - -
  (repeat (intro (b_ : Bool) (hb_ : b_ = _); (repeat refine ⟨(by first | (simp; done) | (rw [hb_]; simp; done) | (rw [hb_]; simp; omega) | (rw [hb_]; simp; intros; omega) | (rw [hb_]; simp +contextual; done)), ?_⟩); subst hb_))
  by_cases h1 : b ≤ a <;> by_cases h2 : a ≤ c <;> simp [h1, h2]
theorem ok_topology_within : SpecOK Tryd.prog GL 45 ct_topology_within.spec := Ct.okH _ Tryd.func45 (by kernel_rfl) noSpecs_ok hmix an_topology_within (hideMp (by kernel_rfl) vc_topology_within)

def ct_topology_addresses : Ct := ⟨[.agg cNode], [.own 43 cU32], fun d => [(nPorts d.1).length ≤ 100000], fun d => ((adrs d.1, ()), ())⟩
def an_topology_addresses : PDs ct_topology_addresses.ps → Anns := (fun d => { loops := (fun n => match n with | 3 => some (fun S => { ι := Int × (List Int), qn := ⟨fun k_ => ∀ (j : Int) (l : (List Int)), k_ (j, l), fun k_ h_ i => h_ i.1 i.2, fun k_ => ∃ (j : Int) (l : (List Int)), k_ (j, l), fun k_ ⟨j, l, h_⟩ => ⟨_, h_⟩⟩, μ := fun i => ((nPorts d.1).length - i.1).toNat, inv := fun i => 0 ≤ i.1 ∧ i.1 ≤ (nPorts d.1).length ∧ i.2 = (pAddrs d.1).take i.1.toNat, keep := [1, 7, 8], slots := fun i => [(3, .own 524288 1), (9, .int .i64 i.1)], keepN := [32], names := fun i => [(524288, .live (.row 43 cU32 i.2))] }) | _ => none) })
theorem vc_topology_addresses :
    ∀ (d : List (Int × Int) × Int × Int × Bool × List ((Int × Int) × List Int × Int) × Int × Int × Int × Int × Int × (Int × Int) × Bool × Bool × Int × Int), CT.wf cNode d ∧ True → List.length (nPorts d) ≤
     (100000 : Nat) → (∃ (j : Int), ∃ (l : List Int), ((0 : Int) ≤ j ∧ j ≤ (↑(List.length (nPorts d)) : Int) ∧ l = List.take (Int.toNat j) (pAddrs d)) ∧ d.1 = d.1 ∧ (↑(List.length d.1) : Int) =
     (↑(List.length d.1) : Int) ∧ (0 : Int) = j ∧ d.1 = d.1 ∧ d.2.1 = d.2.1 ∧ d.2.2.1 = d.2.2.1 ∧ d.2.2.2.1 = d.2.2.2.1 ∧ d.2.2.2.2.1 = d.2.2.2.2.1 ∧ d.2.2.2.2.2.1 = d.2.2.2.2.2.1 ∧ d.2.2.2.2.2.2.1 =
     d.2.2.2.2.2.2.1 ∧ d.2.2.2.2.2.2.2.1 = d.2.2.2.2.2.2.2.1 ∧ d.2.2.2.2.2.2.2.2.1 = d.2.2.2.2.2.2.2.2.1 ∧ d.2.2.2.2.2.2.2.2.2.1 = d.2.2.2.2.2.2.2.2.2.1 ∧ d.2.2.2.2.2.2.2.2.2.2.1.1 =
     d.2.2.2.2.2.2.2.2.2.2.1.1 ∧ d.2.2.2.2.2.2.2.2.2.2.1.2 = d.2.2.2.2.2.2.2.2.2.2.1.2 ∧ d.2.2.2.2.2.2.2.2.2.2.2.1 = d.2.2.2.2.2.2.2.2.2.2.2.1 ∧ d.2.2.2.2.2.2.2.2.2.2.2.2.1 = d.2.2.2.2.2.2.2.2.2.2.2.2.1 ∧
     d.2.2.2.2.2.2.2.2.2.2.2.2.2.1 = d.2.2.2.2.2.2.2.2.2.2.2.2.2.1 ∧ d.2.2.2.2.2.2.2.2.2.2.2.2.2.2 = d.2.2.2.2.2.2.2.2.2.2.2.2.2.2 ∧ l = ([] : List Int) ∧ True) ∧ ∀ (j : Int) (l : List Int), (0 : Int) ≤ j
     ∧ j ≤ (↑(List.length (nPorts d)) : Int) ∧ l = List.take (Int.toNat j) (pAddrs d) → ifP (decide (j < (↑(List.length d.1) : Int))) ((0 : Int) ≤ j ∧ j < (↑(List.length d.1) : Int) ∧ (List.length l +
     List.length [(List.getD d.1 (Int.toNat j) default).1]) * (4 : Nat) ≤ (140737488355328 : Nat) ∧ ∃ (j_1 : Int), ∃ (l_1 : List Int), ((0 : Int) ≤ j_1 ∧ j_1 ≤ (↑(List.length (nPorts d)) : Int) ∧ l_1 =
     List.take (Int.toNat j_1) (pAddrs d)) ∧ Int.toNat ((↑(List.length (nPorts d)) : Int) - j_1) < Int.toNat ((↑(List.length (nPorts d)) : Int) - j) ∧ d.1 = d.1 ∧ (↑(List.length d.1) : Int) =
     (↑(List.length d.1) : Int) ∧ IntKind.wrap IntKind.i64 (j + (1 : Int)) = j_1 ∧ d.1 = d.1 ∧ d.2.1 = d.2.1 ∧ d.2.2.1 = d.2.2.1 ∧ d.2.2.2.1 = d.2.2.2.1 ∧ d.2.2.2.2.1 = d.2.2.2.2.1 ∧ d.2.2.2.2.2.1 =
     d.2.2.2.2.2.1 ∧ d.2.2.2.2.2.2.1 = d.2.2.2.2.2.2.1 ∧ d.2.2.2.2.2.2.2.1 = d.2.2.2.2.2.2.2.1 ∧ d.2.2.2.2.2.2.2.2.1 = d.2.2.2.2.2.2.2.2.1 ∧ d.2.2.2.2.2.2.2.2.2.1 = d.2.2.2.2.2.2.2.2.2.1 ∧
     d.2.2.2.2.2.2.2.2.2.2.1.1 = d.2.2.2.2.2.2.2.2.2.2.1.1 ∧ d.2.2.2.2.2.2.2.2.2.2.1.2 = d.2.2.2.2.2.2.2.2.2.2.1.2 ∧ d.2.2.2.2.2.2.2.2.2.2.2.1 = d.2.2.2.2.2.2.2.2.2.2.2.1 ∧ d.2.2.2.2.2.2.2.2.2.2.2.2.1 =
     d.2.2.2.2.2.2.2.2.2.2.2.2.1 ∧ d.2.2.2.2.2.2.2.2.2.2.2.2.2.1 = d.2.2.2.2.2.2.2.2.2.2.2.2.2.1 ∧ d.2.2.2.2.2.2.2.2.2.2.2.2.2.2 = d.2.2.2.2.2.2.2.2.2.2.2.2.2.2 ∧ l ++ [(List.getD d.1 (Int.toNat j)
     default).1] = l_1 ∧ True) (ifP (!decide (d.2.1 = (0 : Int))) ((List.length l + List.length [d.2.1]) * (4 : Nat) ≤ (140737488355328 : Nat) ∧ l ++ [d.2.1] = adrs d) (l = adrs d)) := by
  rintro d - hl
  have hlen : (pAddrs d).length = (nPorts d).length := by simp [pAddrs]
  have hd : d.1 = nPorts d := rfl
  have hz : d.2.1 = nLoop d := rfl
  rw [hd, hz]
  refine ⟨⟨0, [], ⟨by omega, by omega, rfl⟩, (by repeat' first | exact trivial | refine ⟨trivial, ?_⟩ | refine ⟨(by with_reducible rfl), ?_⟩ | refine ⟨w64 (by omega) (by omega), ?_⟩ | refine ⟨rfl, ?_⟩)⟩, ?_⟩
  rintro j l ⟨j0, j1, rfl⟩
  refine ifP_split (fun hk => ?_) (fun hk => ?_)
  · have hk := of_decide_eq_true hk
    refine ⟨j0, hk, by simp only [List.length_take, List.length_cons, List.length_nil]; omega, j + 1, _, ⟨by omega, by omega, rfl⟩, by omega, ?_⟩
    (repeat first | refine ⟨trivial, ?_⟩ | refine ⟨(by with_reducible rfl), ?_⟩ | refine ⟨w64 (by omega) (by omega), ?_⟩)
    refine ⟨?_, trivial⟩
    rw [take_step j0 (by rw [hlen]; exact hk)]
    unfold pAddrs
    rw [List.getD_eq_getElem?_getD, List.getD_eq_getElem?_getD, List.getElem?_map, List.getElem?_eq_getElem (by omega)]
    rfl
  · have hk := of_decide_eq_false hk
    rw [List.take_of_length_le (by omega)]
    unfold adrs
    refine ifP_split (fun h => ?_) (fun h => ?_)
    · rw [if_neg (nd_t h)]
      exact ⟨by simp only [List.length_cons, List.length_nil]; omega, rfl⟩
    · rw [if_pos (nd_f h), List.append_nil]
theorem ok_topology_addresses : SpecOK Tryd.prog GL 62 ct_topology_addresses.spec := Ct.okH _ Tryd.func62 (by kernel_rfl) noSpecs_ok hmix an_topology_addresses (hideMp (by kernel_rfl) vc_topology_addresses)
/-- The entries of the map after some nodes' addresses. -/
def seenL (i : Int) (l : List Int) (m : List (Int × Int)) : List (Int × Int) := l.foldl (fun m a => mput a i m) m
def seenN (ns : List Node) (k : Nat) : List (Int × Int) := (List.range k).foldl (fun m (i : Nat) => seenL (i : Int) (adrs (ns.getD i default)) m) []
def twice (ns : List Node) : Bool := (List.range ns.length).any fun (i : Nat) => (adrs (ns.getD i default)).any fun a => mhas a (seenN ns i)
def namesV (n : Net) : Int := if twice n.1 then 10 else 0
theorem mhas_put {a b v : Int} : ∀ {m : List (Int × Int)}, mhas a (mput b v m) = (decide (a = b) || mhas a m)
  | [] => by simp only [mput, mhas]; cases decide (a = b) <;> rfl
  | p :: m => by
    simp only [mput]
    by_cases hb : b = p.1
    · rw [decide_eq_true hb, cond_true, mhas, mhas, ← hb]
      cases decide (a = b) <;> rfl
    · rw [decide_eq_false hb, cond_false, mhas, mhas, mhas_put]
      cases decide (a = p.1) <;> cases decide (a = b) <;> rfl
theorem mval_put {a b v : Int} : ∀ {m : List (Int × Int)}, mval a (mput b v m) = if a = b then v else mval a m
  | [] => by
    simp only [mput, mval]
    by_cases h : a = b
    · rw [decide_eq_true h, if_pos h]; rfl
    · rw [decide_eq_false h, if_neg h]; rfl
  | p :: m => by
    simp only [mput]
    by_cases hb : b = p.1
    · rw [decide_eq_true hb, cond_true, mval, mval, ← hb]
      by_cases h : a = b
      · rw [decide_eq_true h, if_pos h]; rfl
      · rw [decide_eq_false h, if_neg h]; rfl
    · rw [decide_eq_false hb, cond_false, mval, mval, mval_put]
      by_cases h : a = p.1
      · have hab : ¬ a = b := fun e => hb (e.symm.trans h)
        simp only [if_neg hab]
      · rw [decide_eq_false h]; rfl
theorem seenL_snoc (i a : Int) (l : List Int) (m : List (Int × Int)) : seenL i (l ++ [a]) m = mput a i (seenL i l m) := by
  unfold seenL; rw [List.foldl_append]; rfl
theorem seenL_has {i a : Int} {m : List (Int × Int)} : ∀ {l : List Int}, mhas a (seenL i l m) = (decide (a ∈ l) || mhas a m) ∧ mval a (seenL i l m) = if a ∈ l then i else mval a m := by
  intro l
  induction l generalizing m with
  | nil => simp [seenL]
  | cons b l ih =>
    have k := ih (m := mput b i m)
    unfold seenL at k ⊢
    rw [List.foldl_cons, k.1, k.2, mhas_put, mval_put]
    by_cases h1 : a = b <;> by_cases h2 : a ∈ l <;> simp [h1, h2]
theorem seenN_lt (ns : List Node) : ∀ (k : Nat) (a : Int), mhas a (seenN ns k) = true → mval a (seenN ns k) < k
  | 0, a, h => by cases h
  | k + 1, a, h => by
    have e : seenN ns (k + 1) = seenL k (adrs (ns.getD k default)) (seenN ns k) := by unfold seenN; rw [List.range_succ, List.foldl_append]; rfl
    rw [e] at h ⊢
    have q := seenL_has (i := (k : Int)) (a := a) (m := seenN ns k) (l := adrs (ns.getD k default))
    rw [q.1] at h
    rw [q.2]
    split
    · omega
    · rename_i hn
      rw [decide_eq_false hn, Bool.false_or] at h
      have := seenN_lt ns k a h
      omega
def ct_topology_names : Ct := ⟨[.agg cNet], [.val cI], fun d => [∀ x ∈ d.1.1, (nPorts x).length ≤ 100000], fun d => ((namesV d.1, ()), ())⟩
def an_topology_names : PDs ct_topology_names.ps → Anns := (fun d => { loops := (fun n => match n with | 3 => some (fun S => { ι := Int, μ := fun i => (d.1.1.length - i).toNat, inv := fun i => 0 ≤ i ∧ i ≤ d.1.1.length ∧ ∀ k : Nat, (k : Int) < i → ∀ a ∈ adrs (d.1.1.getD k default), mhas a (seenN d.1.1 k) = false, keep := [1, 12, 13], slots := fun i => [(14, .int .i64 i), (3, .mapp 524288)], keepN := [32], names := fun i => [(524288, .live (.mp .u32 .i64 (seenN d.1.1 i.toNat)))] }) | 6 => some (fun S => { ι := Int, μ := fun i => ((adrs (d.1.1.getD (S.i 14).toNat default)).length - i).toNat, inv := fun i => 0 ≤ i ∧ i ≤ (adrs (d.1.1.getD (S.i 14).toNat default)).length ∧ ∀ a ∈ (adrs (d.1.1.getD (S.i 14).toNat default)).take i.toNat, mhas a (seenN d.1.1 (S.i 14).toNat) = false, keep := [1, 4, 12, 13, 14, 20, 21], slots := fun i => [(22, .int .i64 i), (3, .mapp 524288)], keepN := [32, 336], names := fun i => [(524288, .live (.mp .u32 .i64 (seenL (S.i 14) ((adrs (d.1.1.getD (S.i 14).toNat default)).take i.toNat) (seenN d.1.1 (S.i 14).toNat))))] }) | _ => none) })
theorem vc_topology_names :
    ∀ (x : List (List (Int × Int) × Int × Int × Bool × List ((Int × Int) × List Int × Int) × Int × Int × Int × Int × Int × (Int × Int) × Bool × Bool × Int × Int)) (x_1 : List (Int × Int × Int × Int × Int
     × Int)) (x_2 : List (Int × Int × Bool × (Int × Int) × List Int × Int)), ((List.length x ≤ maxLen ∧ ∀ (x_3 : List (Int × Int) × Int × Int × Bool × List ((Int × Int) × List Int × Int) × Int × Int × Int
     × Int × Int × (Int × Int) × Bool × Bool × Int × Int), x_3 ∈ x → (List.length x_3.1 ≤ maxLen ∧ ∀ (x : Int × Int), x ∈ x_3.1 → ((0 : Int) ≤ x.1 ∧ x.1 ≤ (4294967295 : Int)) ∧ (-9223372036854775808 : Int)
     ≤ x.2 ∧ x.2 ≤ (9223372036854775807 : Int)) ∧ ((0 : Int) ≤ x_3.2.1 ∧ x_3.2.1 ≤ (4294967295 : Int)) ∧ ((-9223372036854775808 : Int) ≤ x_3.2.2.1 ∧ x_3.2.2.1 ≤ (9223372036854775807 : Int)) ∧ True ∧
     (List.length x_3.2.2.2.2.1 ≤ maxLen ∧ ∀ (x : (Int × Int) × List Int × Int), x ∈ x_3.2.2.2.2.1 → (((0 : Int) ≤ x.1.1 ∧ x.1.1 ≤ (4294967295 : Int)) ∧ (-9223372036854775808 : Int) ≤ x.1.2 ∧ x.1.2 ≤
     (9223372036854775807 : Int)) ∧ (List.length x.2.1 ≤ maxLen ∧ ∀ (x_4 : Int), x_4 ∈ x.2.1 → (-9223372036854775808 : Int) ≤ x_4 ∧ x_4 ≤ (9223372036854775807 : Int)) ∧ (-9223372036854775808 : Int) ≤ x.2.2
     ∧ x.2.2 ≤ (9223372036854775807 : Int)) ∧ ((-9223372036854775808 : Int) ≤ x_3.2.2.2.2.2.1 ∧ x_3.2.2.2.2.2.1 ≤ (9223372036854775807 : Int)) ∧ ((0 : Int) ≤ x_3.2.2.2.2.2.2.1 ∧ x_3.2.2.2.2.2.2.1 ≤
     (4294967295 : Int)) ∧ ((-9223372036854775808 : Int) ≤ x_3.2.2.2.2.2.2.2.1 ∧ x_3.2.2.2.2.2.2.2.1 ≤ (9223372036854775807 : Int)) ∧ ((-9223372036854775808 : Int) ≤ x_3.2.2.2.2.2.2.2.2.1 ∧
     x_3.2.2.2.2.2.2.2.2.1 ≤ (9223372036854775807 : Int)) ∧ ((-9223372036854775808 : Int) ≤ x_3.2.2.2.2.2.2.2.2.2.1 ∧ x_3.2.2.2.2.2.2.2.2.2.1 ≤ (9223372036854775807 : Int)) ∧ (((-9223372036854775808 : Int)
     ≤ x_3.2.2.2.2.2.2.2.2.2.2.1.1 ∧ x_3.2.2.2.2.2.2.2.2.2.2.1.1 ≤ (9223372036854775807 : Int)) ∧ (-9223372036854775808 : Int) ≤ x_3.2.2.2.2.2.2.2.2.2.2.1.2 ∧ x_3.2.2.2.2.2.2.2.2.2.2.1.2 ≤
     (9223372036854775807 : Int)) ∧ True ∧ True ∧ ((-9223372036854775808 : Int) ≤ x_3.2.2.2.2.2.2.2.2.2.2.2.2.2.1 ∧ x_3.2.2.2.2.2.2.2.2.2.2.2.2.2.1 ≤ (9223372036854775807 : Int)) ∧ (-9223372036854775808 :
     Int) ≤ x_3.2.2.2.2.2.2.2.2.2.2.2.2.2.2 ∧ x_3.2.2.2.2.2.2.2.2.2.2.2.2.2.2 ≤ (9223372036854775807 : Int)) ∧ (List.length x_1 ≤ maxLen ∧ ∀ (x : Int × Int × Int × Int × Int × Int), x ∈ x_1 →
     ((-9223372036854775808 : Int) ≤ x.1 ∧ x.1 ≤ (9223372036854775807 : Int)) ∧ ((-9223372036854775808 : Int) ≤ x.2.1 ∧ x.2.1 ≤ (9223372036854775807 : Int)) ∧ ((-9223372036854775808 : Int) ≤ x.2.2.1 ∧
     x.2.2.1 ≤ (9223372036854775807 : Int)) ∧ ((-9223372036854775808 : Int) ≤ x.2.2.2.1 ∧ x.2.2.2.1 ≤ (9223372036854775807 : Int)) ∧ ((-9223372036854775808 : Int) ≤ x.2.2.2.2.1 ∧ x.2.2.2.2.1 ≤
     (9223372036854775807 : Int)) ∧ (-9223372036854775808 : Int) ≤ x.2.2.2.2.2 ∧ x.2.2.2.2.2 ≤ (9223372036854775807 : Int)) ∧ List.length x_2 ≤ maxLen ∧ ∀ (x : Int × Int × Bool × (Int × Int) × List Int ×
     Int), x ∈ x_2 → ((-9223372036854775808 : Int) ≤ x.1 ∧ x.1 ≤ (9223372036854775807 : Int)) ∧ ((-9223372036854775808 : Int) ≤ x.2.1 ∧ x.2.1 ≤ (9223372036854775807 : Int)) ∧ True ∧ (((0 : Int) ≤
     x.2.2.2.1.1 ∧ x.2.2.2.1.1 ≤ (4294967295 : Int)) ∧ (-9223372036854775808 : Int) ≤ x.2.2.2.1.2 ∧ x.2.2.2.1.2 ≤ (9223372036854775807 : Int)) ∧ (List.length x.2.2.2.2.1 ≤ maxLen ∧ ∀ (x_3 : Int), x_3 ∈
     x.2.2.2.2.1 → (-9223372036854775808 : Int) ≤ x_3 ∧ x_3 ≤ (9223372036854775807 : Int)) ∧ (-9223372036854775808 : Int) ≤ x.2.2.2.2.2 ∧ x.2.2.2.2.2 ≤ (9223372036854775807 : Int)) ∧ True → (∀ (x_3 : List
     (Int × Int) × Int × Int × Bool × List ((Int × Int) × List Int × Int) × Int × Int × Int × Int × Int × (Int × Int) × Bool × Bool × Int × Int), x_3 ∈ x → List.length (nPorts x_3) ≤ (100000 : Nat)) → (∃
     (x_3 : Int), ((0 : Int) ≤ x_3 ∧ x_3 ≤ (↑(List.length x) : Int) ∧ ∀ (k : Nat), (↑k : Int) < x_3 → ∀ (a : Int), a ∈ adrs (List.getD x k default) → mhas a (seenN x k) = false) ∧ x = x ∧ (↑(List.length x)
     : Int) = (↑(List.length x) : Int) ∧ (0 : Int) = x_3 ∧ x = x ∧ x_1 = x_1 ∧ x_2 = x_2 ∧ ([] : List (Int × Int)) = seenN x (Int.toNat x_3) ∧ True) ∧ ∀ (x_3 : Int), ((0 : Int) ≤ x_3 ∧ x_3 ≤ (↑(List.length
     x) : Int) ∧ ∀ (k : Nat), (↑k : Int) < x_3 → ∀ (a : Int), a ∈ adrs (List.getD x k default) → mhas a (seenN x k) = false) → ifP (decide (x_3 < (↑(List.length x) : Int))) ((0 : Int) ≤ x_3 ∧ x_3 <
     (↑(List.length x) : Int) ∧ List.length (nPorts (List.getD x (Int.toNat x_3) default)) ≤ (100000 : Nat) ∧ (∃ (x_4 : Int), ((0 : Int) ≤ x_4 ∧ x_4 ≤ (↑(List.length (adrs (List.getD x (Int.toNat x_3)
     default))) : Int) ∧ ∀ (a : Int), a ∈ List.take (Int.toNat x_4) (adrs (List.getD x (Int.toNat x_3) default)) → mhas a (seenN x (Int.toNat x_3)) = false) ∧ x_3 = x_3 ∧ x = x ∧ (↑(List.length x) : Int) =
     (↑(List.length x) : Int) ∧ x_3 = x_3 ∧ (↑(List.length (adrs (List.getD x (Int.toNat x_3) default))) : Int) = (↑(List.length (adrs (List.getD x (Int.toNat x_3) default))) : Int) ∧ (0 : Int) = x_4 ∧ x =
     x ∧ x_1 = x_1 ∧ x_2 = x_2 ∧ adrs (List.getD x (Int.toNat x_3) default) = adrs (List.getD x (Int.toNat x_3) default) ∧ seenN x (Int.toNat x_3) = seenL x_3 (List.take (Int.toNat x_4) (adrs (List.getD x
     (Int.toNat x_3) default))) (seenN x (Int.toNat x_3)) ∧ True) ∧ ∀ (x_4 : Int), ((0 : Int) ≤ x_4 ∧ x_4 ≤ (↑(List.length (adrs (List.getD x (Int.toNat x_3) default))) : Int) ∧ ∀ (a : Int), a ∈ List.take
     (Int.toNat x_4) (adrs (List.getD x (Int.toNat x_3) default)) → mhas a (seenN x (Int.toNat x_3)) = false) → ifP (decide (x_4 < (↑(List.length (adrs (List.getD x (Int.toNat x_3) default))) : Int))) ((0
     : Int) ≤ x_4 ∧ x_4 < (↑(List.length (adrs (List.getD x (Int.toNat x_3) default))) : Int) ∧ ∀ (b : Bool), b = mhas (List.getD (adrs (List.getD x (Int.toNat x_3) default)) (Int.toNat x_4) default)
     (seenL x_3 (List.take (Int.toNat x_4) (adrs (List.getD x (Int.toNat x_3) default))) (seenN x (Int.toNat x_3))) → (b = true → (b = true → b = true) ∧ (b = true → b = true) ∧ True) ∧ (b = true → b =
     true) ∧ ifP (bif b then !decide (mval (List.getD (adrs (List.getD x (Int.toNat x_3) default)) (Int.toNat x_4) default) (seenL x_3 (List.take (Int.toNat x_4) (adrs (List.getD x (Int.toNat x_3)
     default))) (seenN x (Int.toNat x_3))) = x_3) else false) ((10 : Int) = namesV (x, x_1, x_2)) (∃ (x_5 : Int), ((0 : Int) ≤ x_5 ∧ x_5 ≤ (↑(List.length (adrs (List.getD x (Int.toNat x_3) default))) :
     Int) ∧ ∀ (a : Int), a ∈ List.take (Int.toNat x_5) (adrs (List.getD x (Int.toNat x_3) default)) → mhas a (seenN x (Int.toNat x_3)) = false) ∧ Int.toNat ((↑(List.length (adrs (List.getD x (Int.toNat
     x_3) default))) : Int) - x_5) < Int.toNat ((↑(List.length (adrs (List.getD x (Int.toNat x_3) default))) : Int) - x_4) ∧ x_3 = x_3 ∧ x = x ∧ (↑(List.length x) : Int) = (↑(List.length x) : Int) ∧ x_3 =
     x_3 ∧ (↑(List.length (adrs (List.getD x (Int.toNat x_3) default))) : Int) = (↑(List.length (adrs (List.getD x (Int.toNat x_3) default))) : Int) ∧ IntKind.wrap IntKind.i64 (x_4 + (1 : Int)) = x_5 ∧ x =
     x ∧ x_1 = x_1 ∧ x_2 = x_2 ∧ adrs (List.getD x (Int.toNat x_3) default) = adrs (List.getD x (Int.toNat x_3) default) ∧ mput (List.getD (adrs (List.getD x (Int.toNat x_3) default)) (Int.toNat x_4)
     default) x_3 (seenL x_3 (List.take (Int.toNat x_4) (adrs (List.getD x (Int.toNat x_3) default))) (seenN x (Int.toNat x_3))) = seenL x_3 (List.take (Int.toNat x_5) (adrs (List.getD x (Int.toNat x_3)
     default))) (seenN x (Int.toNat x_3)) ∧ True)) (∃ (x_5 : Int), ((0 : Int) ≤ x_5 ∧ x_5 ≤ (↑(List.length x) : Int) ∧ ∀ (k : Nat), (↑k : Int) < x_5 → ∀ (a : Int), a ∈ adrs (List.getD x k default) → mhas a
     (seenN x k) = false) ∧ Int.toNat ((↑(List.length x) : Int) - x_5) < Int.toNat ((↑(List.length x) : Int) - x_3) ∧ x = x ∧ (↑(List.length x) : Int) = (↑(List.length x) : Int) ∧ IntKind.wrap IntKind.i64
     (x_3 + (1 : Int)) = x_5 ∧ x = x ∧ x_1 = x_1 ∧ x_2 = x_2 ∧ seenL x_3 (List.take (Int.toNat x_4) (adrs (List.getD x (Int.toNat x_3) default))) (seenN x (Int.toNat x_3)) = seenN x (Int.toNat x_5) ∧
     True)) ((0 : Int) = namesV (x, x_1, x_2)) := by
  rintro ns ls hs ⟨⟨⟨hnl, -⟩, -⟩, -⟩ hp
  simp only [maxLen] at hnl
  have hlen : ∀ x ∈ ns, (adrs x).length ≤ 100001 := fun x hx => by
    have := hp x hx
    unfold adrs pAddrs
    rw [List.length_append, List.length_map]
    split <;> simp <;> omega
  refine ⟨⟨0, ⟨by omega, by omega, fun k hk => by omega⟩, (by repeat' first | exact trivial | refine ⟨trivial, ?_⟩ | refine ⟨(by with_reducible rfl), ?_⟩ | refine ⟨w64 (by omega) (by omega), ?_⟩ | refine ⟨rfl, ?_⟩)⟩, ?_⟩
  rintro i ⟨i0, i1, hI⟩
  refine ifP_split (fun hi => ?_) (fun hi => ?_)
  rotate_left
  · have hi := of_decide_eq_false hi
    unfold namesV
    rw [if_neg]
    intro h
    obtain ⟨k, hk, h2⟩ := List.any_eq_true.1 h
    obtain ⟨a, ha, h3⟩ := List.any_eq_true.1 h2
    have hk : k < ns.length := List.mem_range.1 hk
    rw [hI k (by omega) a ha] at h3
    cases h3
  have hi := of_decide_eq_true hi
  have hm := getD_mem i0 hi
  have hl := hlen _ hm
  refine ⟨i0, hi, hp _ hm, ⟨0, ⟨by omega, by omega, by simp⟩, (by repeat' first | exact trivial | refine ⟨trivial, ?_⟩ | refine ⟨(by with_reducible rfl), ?_⟩ | refine ⟨w64 (by omega) (by omega), ?_⟩ | refine ⟨rfl, ?_⟩)⟩, ?_⟩
  rintro j ⟨j0, j1, hJ⟩
  have ei : ((i.toNat : Nat) : Int) = i := by omega
  refine ifP_split (fun hj => ?_) (fun hj => ?_)
  rotate_left
  · have hj := of_decide_eq_false hj
    rw [List.take_of_length_le (by omega)] at hJ ⊢
    refine ⟨i + 1, ⟨by omega, by omega, fun k hk a ha => ?_⟩, by omega, ?_⟩
    · by_cases e : (k : Int) < i
      · exact hI k e a ha
      · have : k = i.toNat := by omega
        subst this
        exact hJ a ha
    · have e : seenL i (adrs (ns.getD i.toNat default)) (seenN ns i.toNat) = seenN ns (i + 1).toNat := by
        rw [show (i + 1).toNat = i.toNat + 1 by omega]
        unfold seenN
        rw [List.range_succ, List.foldl_append, List.foldl_cons, List.foldl_nil, ei]
      rw [e]
      exact (by repeat' first | exact trivial | refine ⟨trivial, ?_⟩ | refine ⟨(by with_reducible rfl), ?_⟩ | refine ⟨w64 (by omega) (by omega), ?_⟩ | refine ⟨rfl, ?_⟩)
  have hj := of_decide_eq_true hj
  have ha := getD_mem j0 hj
  have st := take_step j0 hj
  refine ⟨j0, hj, ?_⟩
  have q := seenL_has (i := i) (a := (adrs (ns.getD i.toNat default)).getD j.toNat default) (m := seenN ns i.toNat) (l := (adrs (ns.getD i.toNat default)).take j.toNat)
  generalize (adrs (ns.getD i.toNat default)).getD j.toNat default = a at ha st q ⊢
  have lt := seenN_lt ns i.toNat a
  rw [ei] at lt
  intro b hb
  (repeat refine ⟨by simp, ?_⟩)
  refine ifP_and (fun x1 x2 => ?_) (fun hno => ?_)
  · have x2 := nd_t x2
    rw [hb, q.1] at x1
    rw [q.2] at x2
    have hn : a ∉ (adrs (ns.getD i.toNat default)).take j.toNat := fun h => by rw [if_pos h] at x2; exact x2 rfl
    rw [decide_eq_false hn, Bool.false_or] at x1
    unfold namesV
    rw [if_pos]
    exact List.any_eq_true.2 ⟨i.toNat, List.mem_range.2 (show i.toNat < ns.length by omega), List.any_eq_true.2 ⟨a, ha, x1⟩⟩
  · have hz : mhas a (seenN ns i.toNat) = false := by
      by_cases hn : a ∈ (adrs (ns.getD i.toNat default)).take j.toNat
      · exact hJ a hn
      · rw [decide_eq_false hn, Bool.false_or] at q
        rw [if_neg hn] at q
        rcases hno with h | h
        · rw [hb, q.1] at h; exact h
        · have h := nd_f h
          rw [q.2] at h
          cases hq : mhas a (seenN ns i.toNat) with
          | false => rfl
          | true => have := lt hq; omega
    refine ⟨j + 1, ⟨by omega, by omega, fun y hy => ?_⟩, by omega, ?_⟩
    · rw [st] at hy
      rcases List.mem_append.1 hy with hy | hy
      · exact hJ y hy
      · rw [List.mem_singleton.1 hy]; exact hz
    · rw [st, seenL_snoc]
      exact (by repeat' first | exact trivial | refine ⟨trivial, ?_⟩ | refine ⟨(by with_reducible rfl), ?_⟩ | refine ⟨w64 (by omega) (by omega), ?_⟩ | refine ⟨rfl, ?_⟩)
theorem ok_topology_names : SpecOK Tryd.prog GL 37 ct_topology_names.spec := Ct.okH _ Tryd.func37 (by kernel_rfl) (withSpec_ok noSpecs_ok ok_topology_addresses) hmix an_topology_names (hideMp (by kernel_rfl) vc_topology_names)
def otherV (ls : List Link) (k x : Int) : Int := if k < 0 ∨ (ls.length : Int) ≤ k then -1 else if x = lA (ls.getD k.toNat default) then lB (ls.getD k.toNat default) else if x = lB (ls.getD k.toNat default) then lA (ls.getD k.toNat default) else -1
def sizesV (n : Net) : Int := if n.1.length < 1 ∨ 64 < n.1.length ∨ 128 < n.2.1.length ∨ 64 < n.2.2.length then 5 else 0
def ct_topology_sizes : Ct := ⟨[.agg cNet], [.val cI], fun _ => [], fun d => ((sizesV d.1, ()), ())⟩
def an_topology_sizes : PDs ct_topology_sizes.ps → Anns := (fun _ => {})
theorem vc_topology_sizes :
    ∀ (x : List (List (Int × Int) × Int × Int × Bool × List ((Int × Int) × List Int × Int) × Int × Int × Int × Int × Int × (Int × Int) × Bool × Bool × Int × Int)) (x_1 : List (Int × Int × Int × Int × Int
     × Int)) (x_2 : List (Int × Int × Bool × (Int × Int) × List Int × Int)), ((List.length x ≤ maxLen ∧ ∀ (x_3 : List (Int × Int) × Int × Int × Bool × List ((Int × Int) × List Int × Int) × Int × Int × Int
     × Int × Int × (Int × Int) × Bool × Bool × Int × Int), x_3 ∈ x → (List.length x_3.1 ≤ maxLen ∧ ∀ (x : Int × Int), x ∈ x_3.1 → ((0 : Int) ≤ x.1 ∧ x.1 ≤ (4294967295 : Int)) ∧ (-9223372036854775808 : Int)
     ≤ x.2 ∧ x.2 ≤ (9223372036854775807 : Int)) ∧ ((0 : Int) ≤ x_3.2.1 ∧ x_3.2.1 ≤ (4294967295 : Int)) ∧ ((-9223372036854775808 : Int) ≤ x_3.2.2.1 ∧ x_3.2.2.1 ≤ (9223372036854775807 : Int)) ∧ True ∧
     (List.length x_3.2.2.2.2.1 ≤ maxLen ∧ ∀ (x : (Int × Int) × List Int × Int), x ∈ x_3.2.2.2.2.1 → (((0 : Int) ≤ x.1.1 ∧ x.1.1 ≤ (4294967295 : Int)) ∧ (-9223372036854775808 : Int) ≤ x.1.2 ∧ x.1.2 ≤
     (9223372036854775807 : Int)) ∧ (List.length x.2.1 ≤ maxLen ∧ ∀ (x_4 : Int), x_4 ∈ x.2.1 → (-9223372036854775808 : Int) ≤ x_4 ∧ x_4 ≤ (9223372036854775807 : Int)) ∧ (-9223372036854775808 : Int) ≤ x.2.2
     ∧ x.2.2 ≤ (9223372036854775807 : Int)) ∧ ((-9223372036854775808 : Int) ≤ x_3.2.2.2.2.2.1 ∧ x_3.2.2.2.2.2.1 ≤ (9223372036854775807 : Int)) ∧ ((0 : Int) ≤ x_3.2.2.2.2.2.2.1 ∧ x_3.2.2.2.2.2.2.1 ≤
     (4294967295 : Int)) ∧ ((-9223372036854775808 : Int) ≤ x_3.2.2.2.2.2.2.2.1 ∧ x_3.2.2.2.2.2.2.2.1 ≤ (9223372036854775807 : Int)) ∧ ((-9223372036854775808 : Int) ≤ x_3.2.2.2.2.2.2.2.2.1 ∧
     x_3.2.2.2.2.2.2.2.2.1 ≤ (9223372036854775807 : Int)) ∧ ((-9223372036854775808 : Int) ≤ x_3.2.2.2.2.2.2.2.2.2.1 ∧ x_3.2.2.2.2.2.2.2.2.2.1 ≤ (9223372036854775807 : Int)) ∧ (((-9223372036854775808 : Int)
     ≤ x_3.2.2.2.2.2.2.2.2.2.2.1.1 ∧ x_3.2.2.2.2.2.2.2.2.2.2.1.1 ≤ (9223372036854775807 : Int)) ∧ (-9223372036854775808 : Int) ≤ x_3.2.2.2.2.2.2.2.2.2.2.1.2 ∧ x_3.2.2.2.2.2.2.2.2.2.2.1.2 ≤
     (9223372036854775807 : Int)) ∧ True ∧ True ∧ ((-9223372036854775808 : Int) ≤ x_3.2.2.2.2.2.2.2.2.2.2.2.2.2.1 ∧ x_3.2.2.2.2.2.2.2.2.2.2.2.2.2.1 ≤ (9223372036854775807 : Int)) ∧ (-9223372036854775808 :
     Int) ≤ x_3.2.2.2.2.2.2.2.2.2.2.2.2.2.2 ∧ x_3.2.2.2.2.2.2.2.2.2.2.2.2.2.2 ≤ (9223372036854775807 : Int)) ∧ (List.length x_1 ≤ maxLen ∧ ∀ (x : Int × Int × Int × Int × Int × Int), x ∈ x_1 →
     ((-9223372036854775808 : Int) ≤ x.1 ∧ x.1 ≤ (9223372036854775807 : Int)) ∧ ((-9223372036854775808 : Int) ≤ x.2.1 ∧ x.2.1 ≤ (9223372036854775807 : Int)) ∧ ((-9223372036854775808 : Int) ≤ x.2.2.1 ∧
     x.2.2.1 ≤ (9223372036854775807 : Int)) ∧ ((-9223372036854775808 : Int) ≤ x.2.2.2.1 ∧ x.2.2.2.1 ≤ (9223372036854775807 : Int)) ∧ ((-9223372036854775808 : Int) ≤ x.2.2.2.2.1 ∧ x.2.2.2.2.1 ≤
     (9223372036854775807 : Int)) ∧ (-9223372036854775808 : Int) ≤ x.2.2.2.2.2 ∧ x.2.2.2.2.2 ≤ (9223372036854775807 : Int)) ∧ List.length x_2 ≤ maxLen ∧ ∀ (x : Int × Int × Bool × (Int × Int) × List Int ×
     Int), x ∈ x_2 → ((-9223372036854775808 : Int) ≤ x.1 ∧ x.1 ≤ (9223372036854775807 : Int)) ∧ ((-9223372036854775808 : Int) ≤ x.2.1 ∧ x.2.1 ≤ (9223372036854775807 : Int)) ∧ True ∧ (((0 : Int) ≤
     x.2.2.2.1.1 ∧ x.2.2.2.1.1 ≤ (4294967295 : Int)) ∧ (-9223372036854775808 : Int) ≤ x.2.2.2.1.2 ∧ x.2.2.2.1.2 ≤ (9223372036854775807 : Int)) ∧ (List.length x.2.2.2.2.1 ≤ maxLen ∧ ∀ (x_3 : Int), x_3 ∈
     x.2.2.2.2.1 → (-9223372036854775808 : Int) ≤ x_3 ∧ x_3 ≤ (9223372036854775807 : Int)) ∧ (-9223372036854775808 : Int) ≤ x.2.2.2.2.2 ∧ x.2.2.2.2.2 ≤ (9223372036854775807 : Int)) ∧ True → True → ∀ (b :
     Bool), b = decide ((↑(List.length x) : Int) < (1 : Int)) → ((!b) = true → ((!b) = true → (!b) = true) ∧ True) ∧ ((!b) = true → ((!b) = true → (!b) = true) ∧ True) ∧ ((!b) = true → ((!b) = true → (!b)
     = true) ∧ True) ∧ (b = false → (!b) = true) ∧ ∀ (b_1 : Bool), (b_1 = bif b then true else decide ((64 : Int) < (↑(List.length x) : Int))) → ((!b_1) = true → ((!b_1) = true → (!b_1) = true) ∧ True) ∧
     ((!b_1) = true → ((!b_1) = true → (!b_1) = true) ∧ True) ∧ ((!b_1) = true → ((!b_1) = true → (!b_1) = true) ∧ True) ∧ (b_1 = false → (!b_1) = true) ∧ ∀ (b : Bool), (b = bif b_1 then true else decide
     ((128 : Int) < (↑(List.length x_1) : Int))) → ((!b) = true → ((!b) = true → (!b) = true) ∧ True) ∧ ((!b) = true → ((!b) = true → (!b) = true) ∧ True) ∧ ((!b) = true → ((!b) = true → (!b) = true) ∧
     True) ∧ (b = false → (!b) = true) ∧ ifP (bif b then true else decide ((64 : Int) < (↑(List.length x_2) : Int))) ((5 : Int) = sizesV (x, x_1, x_2)) ((0 : Int) = sizesV (x, x_1, x_2)) := by
  rintro ns ls hs - -
  (repeat (intro (b_ : Bool) (hb_ : b_ = _); (repeat refine ⟨(by first | (simp; done) | (rw [hb_]; simp; done) | (rw [hb_]; simp; omega) | (rw [hb_]; simp; intros; omega) | (rw [hb_]; simp +contextual; done)), ?_⟩); subst hb_))
  unfold sizesV
  refine ifP_split (fun h => ?_) (fun h => ?_)
  · simp [Bool.cond_eq_ite] at h
    rw [if_pos (by dsimp only; omega)]
  · simp [Bool.cond_eq_ite] at h
    rw [if_neg (by dsimp only; omega)]
theorem ok_topology_sizes : SpecOK Tryd.prog GL 33 ct_topology_sizes.spec := Ct.okH _ Tryd.func33 (by kernel_rfl) noSpecs_ok hmix an_topology_sizes (hideMp (by kernel_rfl) vc_topology_sizes)

def ct_topology_links : Ct := ⟨[.agg cNode], [.own 3 cI], fun d => [(nPorts d.1).length ≤ 100000], fun d => ((pLinks d.1, ()), ())⟩
def an_topology_links : PDs ct_topology_links.ps → Anns := (fun d => { loops := (fun n => match n with | 3 => some (fun S => { ι := Int × (List Int), qn := ⟨fun k_ => ∀ (j : Int) (l : (List Int)), k_ (j, l), fun k_ h_ i => h_ i.1 i.2, fun k_ => ∃ (j : Int) (l : (List Int)), k_ (j, l), fun k_ ⟨j, l, h_⟩ => ⟨_, h_⟩⟩, μ := fun i => ((nPorts d.1).length - i.1).toNat, inv := fun i => 0 ≤ i.1 ∧ i.1 ≤ (nPorts d.1).length ∧ i.2 = (pLinks d.1).take i.1.toNat, keep := [1, 7, 8], slots := fun i => [(3, .own 524288 1), (9, .int .i64 i.1)], keepN := [32], names := fun i => [(524288, .live (.row 3 cI i.2))] }) | _ => none) })
theorem vc_topology_links :
    ∀ (d : List (Int × Int) × Int × Int × Bool × List ((Int × Int) × List Int × Int) × Int × Int × Int × Int × Int × (Int × Int) × Bool × Bool × Int × Int), CT.wf cNode d ∧ True → List.length (nPorts d) ≤
     (100000 : Nat) → (∃ (j : Int), ∃ (l : List Int), ((0 : Int) ≤ j ∧ j ≤ (↑(List.length (nPorts d)) : Int) ∧ l = List.take (Int.toNat j) (pLinks d)) ∧ d.1 = d.1 ∧ (↑(List.length d.1) : Int) =
     (↑(List.length d.1) : Int) ∧ (0 : Int) = j ∧ d.1 = d.1 ∧ d.2.1 = d.2.1 ∧ d.2.2.1 = d.2.2.1 ∧ d.2.2.2.1 = d.2.2.2.1 ∧ d.2.2.2.2.1 = d.2.2.2.2.1 ∧ d.2.2.2.2.2.1 = d.2.2.2.2.2.1 ∧ d.2.2.2.2.2.2.1 =
     d.2.2.2.2.2.2.1 ∧ d.2.2.2.2.2.2.2.1 = d.2.2.2.2.2.2.2.1 ∧ d.2.2.2.2.2.2.2.2.1 = d.2.2.2.2.2.2.2.2.1 ∧ d.2.2.2.2.2.2.2.2.2.1 = d.2.2.2.2.2.2.2.2.2.1 ∧ d.2.2.2.2.2.2.2.2.2.2.1.1 =
     d.2.2.2.2.2.2.2.2.2.2.1.1 ∧ d.2.2.2.2.2.2.2.2.2.2.1.2 = d.2.2.2.2.2.2.2.2.2.2.1.2 ∧ d.2.2.2.2.2.2.2.2.2.2.2.1 = d.2.2.2.2.2.2.2.2.2.2.2.1 ∧ d.2.2.2.2.2.2.2.2.2.2.2.2.1 = d.2.2.2.2.2.2.2.2.2.2.2.2.1 ∧
     d.2.2.2.2.2.2.2.2.2.2.2.2.2.1 = d.2.2.2.2.2.2.2.2.2.2.2.2.2.1 ∧ d.2.2.2.2.2.2.2.2.2.2.2.2.2.2 = d.2.2.2.2.2.2.2.2.2.2.2.2.2.2 ∧ l = ([] : List Int) ∧ True) ∧ ∀ (j : Int) (l : List Int), (0 : Int) ≤ j
     ∧ j ≤ (↑(List.length (nPorts d)) : Int) ∧ l = List.take (Int.toNat j) (pLinks d) → ifP (decide (j < (↑(List.length d.1) : Int))) ((0 : Int) ≤ j ∧ j < (↑(List.length d.1) : Int) ∧ (List.length l +
     List.length [(List.getD d.1 (Int.toNat j) default).2]) * (8 : Nat) ≤ (140737488355328 : Nat) ∧ ∃ (j_1 : Int), ∃ (l_1 : List Int), ((0 : Int) ≤ j_1 ∧ j_1 ≤ (↑(List.length (nPorts d)) : Int) ∧ l_1 =
     List.take (Int.toNat j_1) (pLinks d)) ∧ Int.toNat ((↑(List.length (nPorts d)) : Int) - j_1) < Int.toNat ((↑(List.length (nPorts d)) : Int) - j) ∧ d.1 = d.1 ∧ (↑(List.length d.1) : Int) =
     (↑(List.length d.1) : Int) ∧ IntKind.wrap IntKind.i64 (j + (1 : Int)) = j_1 ∧ d.1 = d.1 ∧ d.2.1 = d.2.1 ∧ d.2.2.1 = d.2.2.1 ∧ d.2.2.2.1 = d.2.2.2.1 ∧ d.2.2.2.2.1 = d.2.2.2.2.1 ∧ d.2.2.2.2.2.1 =
     d.2.2.2.2.2.1 ∧ d.2.2.2.2.2.2.1 = d.2.2.2.2.2.2.1 ∧ d.2.2.2.2.2.2.2.1 = d.2.2.2.2.2.2.2.1 ∧ d.2.2.2.2.2.2.2.2.1 = d.2.2.2.2.2.2.2.2.1 ∧ d.2.2.2.2.2.2.2.2.2.1 = d.2.2.2.2.2.2.2.2.2.1 ∧
     d.2.2.2.2.2.2.2.2.2.2.1.1 = d.2.2.2.2.2.2.2.2.2.2.1.1 ∧ d.2.2.2.2.2.2.2.2.2.2.1.2 = d.2.2.2.2.2.2.2.2.2.2.1.2 ∧ d.2.2.2.2.2.2.2.2.2.2.2.1 = d.2.2.2.2.2.2.2.2.2.2.2.1 ∧ d.2.2.2.2.2.2.2.2.2.2.2.2.1 =
     d.2.2.2.2.2.2.2.2.2.2.2.2.1 ∧ d.2.2.2.2.2.2.2.2.2.2.2.2.2.1 = d.2.2.2.2.2.2.2.2.2.2.2.2.2.1 ∧ d.2.2.2.2.2.2.2.2.2.2.2.2.2.2 = d.2.2.2.2.2.2.2.2.2.2.2.2.2.2 ∧ l ++ [(List.getD d.1 (Int.toNat j)
     default).2] = l_1 ∧ True) (l = pLinks d) := by
  rintro d - hl
  have hlen : (pLinks d).length = (nPorts d).length := by simp [pLinks]
  refine ⟨⟨0, [], ⟨by omega, by omega, rfl⟩, (by repeat' first | exact trivial | refine ⟨trivial, ?_⟩ | refine ⟨(by with_reducible rfl), ?_⟩ | refine ⟨w64 (by omega) (by omega), ?_⟩ | refine ⟨rfl, ?_⟩)⟩, ?_⟩
  rintro j l ⟨j0, j1, rfl⟩
  have hd : d.1 = nPorts d := rfl
  rw [hd]
  refine ifP_split (fun hk => ?_) (fun hk => ?_)
  · have hk := of_decide_eq_true hk
    refine ⟨j0, hk, by simp only [List.length_take, List.length_cons, List.length_nil]; omega, j + 1, _, ⟨by omega, by omega, rfl⟩, by omega, ?_⟩
    (repeat first | refine ⟨trivial, ?_⟩ | refine ⟨(by with_reducible rfl), ?_⟩ | refine ⟨w64 (by omega) (by omega), ?_⟩)
    refine ⟨?_, trivial⟩
    rw [take_step j0 (by rw [hlen]; exact hk)]
    unfold pLinks
    rw [List.getD_eq_getElem?_getD, List.getD_eq_getElem?_getD, List.getElem?_map, List.getElem?_eq_getElem (by omega)]
    rfl
  · have hk := of_decide_eq_false hk
    rw [List.take_of_length_le (by omega)]
theorem ok_topology_links : SpecOK Tryd.prog GL 60 ct_topology_links.spec := Ct.okH _ Tryd.func60 (by kernel_rfl) noSpecs_ok hmix an_topology_links (hideMp (by kernel_rfl) vc_topology_links)

def ct_topology_Other : Ct := ⟨[.agg cNet, .val cI, .val cI], [.val cI], fun _ => [], fun d => ((otherV d.1.2.1 d.2.1 d.2.2.1, ()), ())⟩
def an_topology_Other : PDs ct_topology_Other.ps → Anns := (fun _ => {})
theorem vc_topology_Other :
    ∀ (x : List (List (Int × Int) × Int × Int × Bool × List ((Int × Int) × List Int × Int) × Int × Int × Int × Int × Int × (Int × Int) × Bool × Bool × Int × Int)) (x_1 : List (Int × Int × Int × Int × Int
     × Int)) (x_2 : List (Int × Int × Bool × (Int × Int) × List Int × Int)) (x_3 x_4 : Int), ((List.length x ≤ maxLen ∧ ∀ (x_5 : List (Int × Int) × Int × Int × Bool × List ((Int × Int) × List Int × Int) ×
     Int × Int × Int × Int × Int × (Int × Int) × Bool × Bool × Int × Int), x_5 ∈ x → (List.length x_5.1 ≤ maxLen ∧ ∀ (x : Int × Int), x ∈ x_5.1 → ((0 : Int) ≤ x.1 ∧ x.1 ≤ (4294967295 : Int)) ∧
     (-9223372036854775808 : Int) ≤ x.2 ∧ x.2 ≤ (9223372036854775807 : Int)) ∧ ((0 : Int) ≤ x_5.2.1 ∧ x_5.2.1 ≤ (4294967295 : Int)) ∧ ((-9223372036854775808 : Int) ≤ x_5.2.2.1 ∧ x_5.2.2.1 ≤
     (9223372036854775807 : Int)) ∧ True ∧ (List.length x_5.2.2.2.2.1 ≤ maxLen ∧ ∀ (x : (Int × Int) × List Int × Int), x ∈ x_5.2.2.2.2.1 → (((0 : Int) ≤ x.1.1 ∧ x.1.1 ≤ (4294967295 : Int)) ∧
     (-9223372036854775808 : Int) ≤ x.1.2 ∧ x.1.2 ≤ (9223372036854775807 : Int)) ∧ (List.length x.2.1 ≤ maxLen ∧ ∀ (x_6 : Int), x_6 ∈ x.2.1 → (-9223372036854775808 : Int) ≤ x_6 ∧ x_6 ≤ (9223372036854775807
     : Int)) ∧ (-9223372036854775808 : Int) ≤ x.2.2 ∧ x.2.2 ≤ (9223372036854775807 : Int)) ∧ ((-9223372036854775808 : Int) ≤ x_5.2.2.2.2.2.1 ∧ x_5.2.2.2.2.2.1 ≤ (9223372036854775807 : Int)) ∧ ((0 : Int) ≤
     x_5.2.2.2.2.2.2.1 ∧ x_5.2.2.2.2.2.2.1 ≤ (4294967295 : Int)) ∧ ((-9223372036854775808 : Int) ≤ x_5.2.2.2.2.2.2.2.1 ∧ x_5.2.2.2.2.2.2.2.1 ≤ (9223372036854775807 : Int)) ∧ ((-9223372036854775808 : Int) ≤
     x_5.2.2.2.2.2.2.2.2.1 ∧ x_5.2.2.2.2.2.2.2.2.1 ≤ (9223372036854775807 : Int)) ∧ ((-9223372036854775808 : Int) ≤ x_5.2.2.2.2.2.2.2.2.2.1 ∧ x_5.2.2.2.2.2.2.2.2.2.1 ≤ (9223372036854775807 : Int)) ∧
     (((-9223372036854775808 : Int) ≤ x_5.2.2.2.2.2.2.2.2.2.2.1.1 ∧ x_5.2.2.2.2.2.2.2.2.2.2.1.1 ≤ (9223372036854775807 : Int)) ∧ (-9223372036854775808 : Int) ≤ x_5.2.2.2.2.2.2.2.2.2.2.1.2 ∧
     x_5.2.2.2.2.2.2.2.2.2.2.1.2 ≤ (9223372036854775807 : Int)) ∧ True ∧ True ∧ ((-9223372036854775808 : Int) ≤ x_5.2.2.2.2.2.2.2.2.2.2.2.2.2.1 ∧ x_5.2.2.2.2.2.2.2.2.2.2.2.2.2.1 ≤ (9223372036854775807 :
     Int)) ∧ (-9223372036854775808 : Int) ≤ x_5.2.2.2.2.2.2.2.2.2.2.2.2.2.2 ∧ x_5.2.2.2.2.2.2.2.2.2.2.2.2.2.2 ≤ (9223372036854775807 : Int)) ∧ (List.length x_1 ≤ maxLen ∧ ∀ (x : Int × Int × Int × Int × Int
     × Int), x ∈ x_1 → ((-9223372036854775808 : Int) ≤ x.1 ∧ x.1 ≤ (9223372036854775807 : Int)) ∧ ((-9223372036854775808 : Int) ≤ x.2.1 ∧ x.2.1 ≤ (9223372036854775807 : Int)) ∧ ((-9223372036854775808 :
     Int) ≤ x.2.2.1 ∧ x.2.2.1 ≤ (9223372036854775807 : Int)) ∧ ((-9223372036854775808 : Int) ≤ x.2.2.2.1 ∧ x.2.2.2.1 ≤ (9223372036854775807 : Int)) ∧ ((-9223372036854775808 : Int) ≤ x.2.2.2.2.1 ∧
     x.2.2.2.2.1 ≤ (9223372036854775807 : Int)) ∧ (-9223372036854775808 : Int) ≤ x.2.2.2.2.2 ∧ x.2.2.2.2.2 ≤ (9223372036854775807 : Int)) ∧ List.length x_2 ≤ maxLen ∧ ∀ (x : Int × Int × Bool × (Int × Int)
     × List Int × Int), x ∈ x_2 → ((-9223372036854775808 : Int) ≤ x.1 ∧ x.1 ≤ (9223372036854775807 : Int)) ∧ ((-9223372036854775808 : Int) ≤ x.2.1 ∧ x.2.1 ≤ (9223372036854775807 : Int)) ∧ True ∧ (((0 :
     Int) ≤ x.2.2.2.1.1 ∧ x.2.2.2.1.1 ≤ (4294967295 : Int)) ∧ (-9223372036854775808 : Int) ≤ x.2.2.2.1.2 ∧ x.2.2.2.1.2 ≤ (9223372036854775807 : Int)) ∧ (List.length x.2.2.2.2.1 ≤ maxLen ∧ ∀ (x_5 : Int),
     x_5 ∈ x.2.2.2.2.1 → (-9223372036854775808 : Int) ≤ x_5 ∧ x_5 ≤ (9223372036854775807 : Int)) ∧ (-9223372036854775808 : Int) ≤ x.2.2.2.2.2 ∧ x.2.2.2.2.2 ≤ (9223372036854775807 : Int)) ∧
     ((-9223372036854775808 : Int) ≤ x_3 ∧ x_3 ≤ (9223372036854775807 : Int)) ∧ ((-9223372036854775808 : Int) ≤ x_4 ∧ x_4 ≤ (9223372036854775807 : Int)) ∧ True → True → ifP (!decide ((0 : Int) ≤ x_3 ∧ x_3
     ≤ IntKind.wrap IntKind.i64 ((↑(List.length x_1) : Int) - (1 : Int)))) ((-1 : Int) = otherV x_1 x_3 x_4) ((0 : Int) ≤ x_3 ∧ x_3 < (↑(List.length x_1) : Int) ∧ ifP (decide (x_4 = (List.getD x_1
     (Int.toNat x_3) default).1)) ((List.getD x_1 (Int.toNat x_3) default).2.1 = otherV x_1 x_3 x_4) (ifP (decide (x_4 = (List.getD x_1 (Int.toNat x_3) default).2.1)) ((List.getD x_1 (Int.toNat x_3)
     default).1 = otherV x_1 x_3 x_4) ((-1 : Int) = otherV x_1 x_3 x_4))) := by
  rintro ns ls hs k x ⟨⟨-, ⟨hl, -⟩, -⟩, -⟩ -
  simp only [maxLen] at hl
  rw [w64 (n := (ls.length : Int) - 1) (by omega) (by omega)]
  unfold otherV lA lB
  refine ifP_split (fun h => ?_) (fun h => ?_)
  · have h := nd_t h
    rw [if_pos (by omega)]
  have h := nd_f h
  rw [if_neg (by omega)]
  refine ⟨h.1, by omega, ifP_split (fun h1 => ?_) (fun h1 => ?_)⟩
  · rw [if_pos (of_decide_eq_true h1)]
  rw [if_neg (of_decide_eq_false h1)]
  refine ifP_split (fun h2 => ?_) (fun h2 => ?_)
  · rw [if_pos (of_decide_eq_true h2)]
  · rw [if_neg (of_decide_eq_false h2)]
theorem ok_topology_Other : SpecOK Tryd.prog GL 15 ct_topology_Other.spec := Ct.okH _ Tryd.func15 (by kernel_rfl) (withSpec_ok noSpecs_ok ok_topology_within) hmix an_topology_Other (hideMp (by kernel_rfl) vc_topology_Other)
def deafL (ns : List Node) (l : Link) : Bool := nOpaque (ns.getD (lA l).toNat default) && nOpaque (ns.getD (lB l).toNat default)
def tunnelsV (n : Net) : Int := if n.2.1.any (deafL n.1) then 13 else 0
def endsOK (n : Net) : Prop := ∀ l ∈ n.2.1, 0 ≤ lA l ∧ lA l < n.1.length ∧ 0 ≤ lB l ∧ lB l < n.1.length
def ct_topology_tunnels : Ct := ⟨[.agg cNet], [.val cI], fun d => [endsOK d.1], fun d => ((tunnelsV d.1, ()), ())⟩
def an_topology_tunnels : PDs ct_topology_tunnels.ps → Anns := (fun d => { loops := (fun n => match n with | 2 => some (fun S => { ι := Int, μ := fun i => (d.1.2.1.length - i).toNat, inv := fun i => 0 ≤ i ∧ i ≤ d.1.2.1.length ∧ ∀ x ∈ d.1.2.1.take i.toNat, deafL d.1.1 x = false, keep := [1, 6, 7], slots := fun i => [(8, .int .i64 i)], keepN := [32], names := fun i => [] }) | _ => none) })
theorem vc_topology_tunnels :
    ∀ (x : List (List (Int × Int) × Int × Int × Bool × List ((Int × Int) × List Int × Int) × Int × Int × Int × Int × Int × (Int × Int) × Bool × Bool × Int × Int)) (x_1 : List (Int × Int × Int × Int × Int
     × Int)) (x_2 : List (Int × Int × Bool × (Int × Int) × List Int × Int)), ((List.length x ≤ maxLen ∧ ∀ (x_3 : List (Int × Int) × Int × Int × Bool × List ((Int × Int) × List Int × Int) × Int × Int × Int
     × Int × Int × (Int × Int) × Bool × Bool × Int × Int), x_3 ∈ x → (List.length x_3.1 ≤ maxLen ∧ ∀ (x : Int × Int), x ∈ x_3.1 → ((0 : Int) ≤ x.1 ∧ x.1 ≤ (4294967295 : Int)) ∧ (-9223372036854775808 : Int)
     ≤ x.2 ∧ x.2 ≤ (9223372036854775807 : Int)) ∧ ((0 : Int) ≤ x_3.2.1 ∧ x_3.2.1 ≤ (4294967295 : Int)) ∧ ((-9223372036854775808 : Int) ≤ x_3.2.2.1 ∧ x_3.2.2.1 ≤ (9223372036854775807 : Int)) ∧ True ∧
     (List.length x_3.2.2.2.2.1 ≤ maxLen ∧ ∀ (x : (Int × Int) × List Int × Int), x ∈ x_3.2.2.2.2.1 → (((0 : Int) ≤ x.1.1 ∧ x.1.1 ≤ (4294967295 : Int)) ∧ (-9223372036854775808 : Int) ≤ x.1.2 ∧ x.1.2 ≤
     (9223372036854775807 : Int)) ∧ (List.length x.2.1 ≤ maxLen ∧ ∀ (x_4 : Int), x_4 ∈ x.2.1 → (-9223372036854775808 : Int) ≤ x_4 ∧ x_4 ≤ (9223372036854775807 : Int)) ∧ (-9223372036854775808 : Int) ≤ x.2.2
     ∧ x.2.2 ≤ (9223372036854775807 : Int)) ∧ ((-9223372036854775808 : Int) ≤ x_3.2.2.2.2.2.1 ∧ x_3.2.2.2.2.2.1 ≤ (9223372036854775807 : Int)) ∧ ((0 : Int) ≤ x_3.2.2.2.2.2.2.1 ∧ x_3.2.2.2.2.2.2.1 ≤
     (4294967295 : Int)) ∧ ((-9223372036854775808 : Int) ≤ x_3.2.2.2.2.2.2.2.1 ∧ x_3.2.2.2.2.2.2.2.1 ≤ (9223372036854775807 : Int)) ∧ ((-9223372036854775808 : Int) ≤ x_3.2.2.2.2.2.2.2.2.1 ∧
     x_3.2.2.2.2.2.2.2.2.1 ≤ (9223372036854775807 : Int)) ∧ ((-9223372036854775808 : Int) ≤ x_3.2.2.2.2.2.2.2.2.2.1 ∧ x_3.2.2.2.2.2.2.2.2.2.1 ≤ (9223372036854775807 : Int)) ∧ (((-9223372036854775808 : Int)
     ≤ x_3.2.2.2.2.2.2.2.2.2.2.1.1 ∧ x_3.2.2.2.2.2.2.2.2.2.2.1.1 ≤ (9223372036854775807 : Int)) ∧ (-9223372036854775808 : Int) ≤ x_3.2.2.2.2.2.2.2.2.2.2.1.2 ∧ x_3.2.2.2.2.2.2.2.2.2.2.1.2 ≤
     (9223372036854775807 : Int)) ∧ True ∧ True ∧ ((-9223372036854775808 : Int) ≤ x_3.2.2.2.2.2.2.2.2.2.2.2.2.2.1 ∧ x_3.2.2.2.2.2.2.2.2.2.2.2.2.2.1 ≤ (9223372036854775807 : Int)) ∧ (-9223372036854775808 :
     Int) ≤ x_3.2.2.2.2.2.2.2.2.2.2.2.2.2.2 ∧ x_3.2.2.2.2.2.2.2.2.2.2.2.2.2.2 ≤ (9223372036854775807 : Int)) ∧ (List.length x_1 ≤ maxLen ∧ ∀ (x : Int × Int × Int × Int × Int × Int), x ∈ x_1 →
     ((-9223372036854775808 : Int) ≤ x.1 ∧ x.1 ≤ (9223372036854775807 : Int)) ∧ ((-9223372036854775808 : Int) ≤ x.2.1 ∧ x.2.1 ≤ (9223372036854775807 : Int)) ∧ ((-9223372036854775808 : Int) ≤ x.2.2.1 ∧
     x.2.2.1 ≤ (9223372036854775807 : Int)) ∧ ((-9223372036854775808 : Int) ≤ x.2.2.2.1 ∧ x.2.2.2.1 ≤ (9223372036854775807 : Int)) ∧ ((-9223372036854775808 : Int) ≤ x.2.2.2.2.1 ∧ x.2.2.2.2.1 ≤
     (9223372036854775807 : Int)) ∧ (-9223372036854775808 : Int) ≤ x.2.2.2.2.2 ∧ x.2.2.2.2.2 ≤ (9223372036854775807 : Int)) ∧ List.length x_2 ≤ maxLen ∧ ∀ (x : Int × Int × Bool × (Int × Int) × List Int ×
     Int), x ∈ x_2 → ((-9223372036854775808 : Int) ≤ x.1 ∧ x.1 ≤ (9223372036854775807 : Int)) ∧ ((-9223372036854775808 : Int) ≤ x.2.1 ∧ x.2.1 ≤ (9223372036854775807 : Int)) ∧ True ∧ (((0 : Int) ≤
     x.2.2.2.1.1 ∧ x.2.2.2.1.1 ≤ (4294967295 : Int)) ∧ (-9223372036854775808 : Int) ≤ x.2.2.2.1.2 ∧ x.2.2.2.1.2 ≤ (9223372036854775807 : Int)) ∧ (List.length x.2.2.2.2.1 ≤ maxLen ∧ ∀ (x_3 : Int), x_3 ∈
     x.2.2.2.2.1 → (-9223372036854775808 : Int) ≤ x_3 ∧ x_3 ≤ (9223372036854775807 : Int)) ∧ (-9223372036854775808 : Int) ≤ x.2.2.2.2.2 ∧ x.2.2.2.2.2 ≤ (9223372036854775807 : Int)) ∧ True → (∀ (l : Link),
     l ∈ x_1 → (0 : Int) ≤ lA l ∧ lA l < (↑(List.length x) : Int) ∧ (0 : Int) ≤ lB l ∧ lB l < (↑(List.length x) : Int)) → (∃ (x_3 : Int), ((0 : Int) ≤ x_3 ∧ x_3 ≤ (↑(List.length x_1) : Int) ∧ ∀ (x_4 : Int
     × Int × Int × Int × Int × Int), x_4 ∈ List.take (Int.toNat x_3) x_1 → deafL x x_4 = false) ∧ x_1 = x_1 ∧ (↑(List.length x_1) : Int) = (↑(List.length x_1) : Int) ∧ (0 : Int) = x_3 ∧ x = x ∧ x_1 = x_1 ∧
     x_2 = x_2 ∧ True) ∧ ∀ (x_3 : Int), ((0 : Int) ≤ x_3 ∧ x_3 ≤ (↑(List.length x_1) : Int) ∧ ∀ (x_4 : Int × Int × Int × Int × Int × Int), x_4 ∈ List.take (Int.toNat x_3) x_1 → deafL x x_4 = false) → ifP
     (decide (x_3 < (↑(List.length x_1) : Int))) ((0 : Int) ≤ x_3 ∧ x_3 < (↑(List.length x_1) : Int) ∧ (0 : Int) ≤ (List.getD x_1 (Int.toNat x_3) default).1 ∧ (List.getD x_1 (Int.toNat x_3) default).1 <
     (↑(List.length x) : Int) ∧ ∀ (b : Bool), b = (List.getD x (Int.toNat (List.getD x_1 (Int.toNat x_3) default).1) default).2.2.2.2.2.2.2.2.2.2.2.2.1 → (b = true → (b = true → b = true) ∧ True) ∧ (b =
     true → (b = true → b = true) ∧ True) ∧ (b = true → (b = true → b = true) ∧ (b = true → b = true) ∧ (0 : Int) ≤ (List.getD x_1 (Int.toNat x_3) default).2.1 ∧ (List.getD x_1 (Int.toNat x_3) default).2.1
     < (↑(List.length x) : Int) ∧ True) ∧ (b = true → (b = true → b = true) ∧ True) ∧ (b = true → (b = true → b = true) ∧ True) ∧ (b = true → b = true) ∧ ifP (bif b then (List.getD x (Int.toNat (List.getD
     x_1 (Int.toNat x_3) default).2.1) default).2.2.2.2.2.2.2.2.2.2.2.2.1 else false) ((13 : Int) = tunnelsV (x, x_1, x_2)) (∃ (x_4 : Int), ((0 : Int) ≤ x_4 ∧ x_4 ≤ (↑(List.length x_1) : Int) ∧ ∀ (x_5 :
     Int × Int × Int × Int × Int × Int), x_5 ∈ List.take (Int.toNat x_4) x_1 → deafL x x_5 = false) ∧ Int.toNat ((↑(List.length x_1) : Int) - x_4) < Int.toNat ((↑(List.length x_1) : Int) - x_3) ∧ x_1 = x_1
     ∧ (↑(List.length x_1) : Int) = (↑(List.length x_1) : Int) ∧ IntKind.wrap IntKind.i64 (x_3 + (1 : Int)) = x_4 ∧ x = x ∧ x_1 = x_1 ∧ x_2 = x_2 ∧ True)) ((0 : Int) = tunnelsV (x, x_1, x_2)) := by
  rintro ns ls hs ⟨⟨-, ⟨hl, -⟩, -⟩, -⟩ he
  simp only [maxLen] at hl
  refine ⟨⟨0, ⟨by omega, by omega, by simp⟩, (by repeat' first | exact trivial | refine ⟨trivial, ?_⟩ | refine ⟨(by with_reducible rfl), ?_⟩ | refine ⟨w64 (by omega) (by omega), ?_⟩ | refine ⟨rfl, ?_⟩)⟩, ?_⟩
  rintro i ⟨i0, i1, hI⟩
  refine ifP_split (fun hi => ?_) (fun hi => ?_)
  rotate_left
  · have hi := of_decide_eq_false hi
    rw [List.take_of_length_le (by omega)] at hI
    unfold tunnelsV
    rw [if_neg]
    intro h
    obtain ⟨l, h1, h2⟩ := List.any_eq_true.1 h
    rw [hI l h1] at h2; cases h2
  have hi := of_decide_eq_true hi
  have hm := getD_mem i0 hi
  have e := he _ hm
  refine ⟨i0, hi, e.1, e.2.1, ?_⟩
  intro b hb
  (repeat first | refine ⟨fun h => ⟨fun _ => h, fun _ => h, e.2.2.1, e.2.2.2, trivial⟩, ?_⟩ | refine ⟨fun h => ⟨fun _ => h, e.2.2.1, e.2.2.2, trivial⟩, ?_⟩ | refine ⟨by simp, ?_⟩)
  refine ifP_and (fun x1 x2 => ?_) (fun hno => ?_)
  · unfold tunnelsV
    rw [if_pos]
    refine List.any_eq_true.2 ⟨_, hm, ?_⟩
    unfold deafL
    rw [Bool.and_eq_true]
    exact ⟨hb.symm.trans x1, x2⟩
  · refine ⟨i + 1, ⟨by omega, by omega, all_next i0 hi hI ?_⟩, by omega, (by repeat' first | exact trivial | refine ⟨trivial, ?_⟩ | refine ⟨(by with_reducible rfl), ?_⟩ | refine ⟨w64 (by omega) (by omega), ?_⟩ | refine ⟨rfl, ?_⟩)⟩
    unfold deafL
    rw [Bool.and_eq_false_iff]
    rcases hno with h | h
    · exact .inl (hb.symm.trans h)
    · exact .inr h
theorem ok_topology_tunnels : SpecOK Tryd.prog GL 38 ct_topology_tunnels.spec := Ct.okH _ Tryd.func38 (by kernel_rfl) noSpecs_ok hmix an_topology_tunnels (hideMp (by kernel_rfl) vc_topology_tunnels)
def loose (n : Net) (k : Nat) : Bool := decide (portL (n.1.getD (lA (n.2.1.getD k default)).toNat default) k < 0) || decide (portL (n.1.getD (lB (n.2.1.getD k default)).toNat default) k < 0)
def plugsV (n : Net) : Int := if (List.range n.2.1.length).any (loose n) then 11 else 0
def ct_topology_plugs : Ct := ⟨[.agg cNet], [.val cI], fun d => [endsOK d.1], fun d => ((plugsV d.1, ()), ())⟩
def an_topology_plugs : PDs ct_topology_plugs.ps → Anns := (fun d => { loops := (fun n => match n with | 2 => some (fun S => { ι := Int, μ := fun i => (d.1.2.1.length - i).toNat, inv := fun i => 0 ≤ i ∧ i ≤ d.1.2.1.length ∧ ∀ k : Nat, (k : Int) < i → loose d.1 k = false, keep := [1, 6, 7], slots := fun i => [(8, .int .i64 i)], keepN := [32], names := fun i => [] }) | _ => none) })
theorem vc_topology_plugs :
    ∀ (x : List (List (Int × Int) × Int × Int × Bool × List ((Int × Int) × List Int × Int) × Int × Int × Int × Int × Int × (Int × Int) × Bool × Bool × Int × Int)) (x_1 : List (Int × Int × Int × Int × Int
     × Int)) (x_2 : List (Int × Int × Bool × (Int × Int) × List Int × Int)), ((List.length x ≤ maxLen ∧ ∀ (x_3 : List (Int × Int) × Int × Int × Bool × List ((Int × Int) × List Int × Int) × Int × Int × Int
     × Int × Int × (Int × Int) × Bool × Bool × Int × Int), x_3 ∈ x → (List.length x_3.1 ≤ maxLen ∧ ∀ (x : Int × Int), x ∈ x_3.1 → ((0 : Int) ≤ x.1 ∧ x.1 ≤ (4294967295 : Int)) ∧ (-9223372036854775808 : Int)
     ≤ x.2 ∧ x.2 ≤ (9223372036854775807 : Int)) ∧ ((0 : Int) ≤ x_3.2.1 ∧ x_3.2.1 ≤ (4294967295 : Int)) ∧ ((-9223372036854775808 : Int) ≤ x_3.2.2.1 ∧ x_3.2.2.1 ≤ (9223372036854775807 : Int)) ∧ True ∧
     (List.length x_3.2.2.2.2.1 ≤ maxLen ∧ ∀ (x : (Int × Int) × List Int × Int), x ∈ x_3.2.2.2.2.1 → (((0 : Int) ≤ x.1.1 ∧ x.1.1 ≤ (4294967295 : Int)) ∧ (-9223372036854775808 : Int) ≤ x.1.2 ∧ x.1.2 ≤
     (9223372036854775807 : Int)) ∧ (List.length x.2.1 ≤ maxLen ∧ ∀ (x_4 : Int), x_4 ∈ x.2.1 → (-9223372036854775808 : Int) ≤ x_4 ∧ x_4 ≤ (9223372036854775807 : Int)) ∧ (-9223372036854775808 : Int) ≤ x.2.2
     ∧ x.2.2 ≤ (9223372036854775807 : Int)) ∧ ((-9223372036854775808 : Int) ≤ x_3.2.2.2.2.2.1 ∧ x_3.2.2.2.2.2.1 ≤ (9223372036854775807 : Int)) ∧ ((0 : Int) ≤ x_3.2.2.2.2.2.2.1 ∧ x_3.2.2.2.2.2.2.1 ≤
     (4294967295 : Int)) ∧ ((-9223372036854775808 : Int) ≤ x_3.2.2.2.2.2.2.2.1 ∧ x_3.2.2.2.2.2.2.2.1 ≤ (9223372036854775807 : Int)) ∧ ((-9223372036854775808 : Int) ≤ x_3.2.2.2.2.2.2.2.2.1 ∧
     x_3.2.2.2.2.2.2.2.2.1 ≤ (9223372036854775807 : Int)) ∧ ((-9223372036854775808 : Int) ≤ x_3.2.2.2.2.2.2.2.2.2.1 ∧ x_3.2.2.2.2.2.2.2.2.2.1 ≤ (9223372036854775807 : Int)) ∧ (((-9223372036854775808 : Int)
     ≤ x_3.2.2.2.2.2.2.2.2.2.2.1.1 ∧ x_3.2.2.2.2.2.2.2.2.2.2.1.1 ≤ (9223372036854775807 : Int)) ∧ (-9223372036854775808 : Int) ≤ x_3.2.2.2.2.2.2.2.2.2.2.1.2 ∧ x_3.2.2.2.2.2.2.2.2.2.2.1.2 ≤
     (9223372036854775807 : Int)) ∧ True ∧ True ∧ ((-9223372036854775808 : Int) ≤ x_3.2.2.2.2.2.2.2.2.2.2.2.2.2.1 ∧ x_3.2.2.2.2.2.2.2.2.2.2.2.2.2.1 ≤ (9223372036854775807 : Int)) ∧ (-9223372036854775808 :
     Int) ≤ x_3.2.2.2.2.2.2.2.2.2.2.2.2.2.2 ∧ x_3.2.2.2.2.2.2.2.2.2.2.2.2.2.2 ≤ (9223372036854775807 : Int)) ∧ (List.length x_1 ≤ maxLen ∧ ∀ (x : Int × Int × Int × Int × Int × Int), x ∈ x_1 →
     ((-9223372036854775808 : Int) ≤ x.1 ∧ x.1 ≤ (9223372036854775807 : Int)) ∧ ((-9223372036854775808 : Int) ≤ x.2.1 ∧ x.2.1 ≤ (9223372036854775807 : Int)) ∧ ((-9223372036854775808 : Int) ≤ x.2.2.1 ∧
     x.2.2.1 ≤ (9223372036854775807 : Int)) ∧ ((-9223372036854775808 : Int) ≤ x.2.2.2.1 ∧ x.2.2.2.1 ≤ (9223372036854775807 : Int)) ∧ ((-9223372036854775808 : Int) ≤ x.2.2.2.2.1 ∧ x.2.2.2.2.1 ≤
     (9223372036854775807 : Int)) ∧ (-9223372036854775808 : Int) ≤ x.2.2.2.2.2 ∧ x.2.2.2.2.2 ≤ (9223372036854775807 : Int)) ∧ List.length x_2 ≤ maxLen ∧ ∀ (x : Int × Int × Bool × (Int × Int) × List Int ×
     Int), x ∈ x_2 → ((-9223372036854775808 : Int) ≤ x.1 ∧ x.1 ≤ (9223372036854775807 : Int)) ∧ ((-9223372036854775808 : Int) ≤ x.2.1 ∧ x.2.1 ≤ (9223372036854775807 : Int)) ∧ True ∧ (((0 : Int) ≤
     x.2.2.2.1.1 ∧ x.2.2.2.1.1 ≤ (4294967295 : Int)) ∧ (-9223372036854775808 : Int) ≤ x.2.2.2.1.2 ∧ x.2.2.2.1.2 ≤ (9223372036854775807 : Int)) ∧ (List.length x.2.2.2.2.1 ≤ maxLen ∧ ∀ (x_3 : Int), x_3 ∈
     x.2.2.2.2.1 → (-9223372036854775808 : Int) ≤ x_3 ∧ x_3 ≤ (9223372036854775807 : Int)) ∧ (-9223372036854775808 : Int) ≤ x.2.2.2.2.2 ∧ x.2.2.2.2.2 ≤ (9223372036854775807 : Int)) ∧ True → (∀ (l : Link),
     l ∈ x_1 → (0 : Int) ≤ lA l ∧ lA l < (↑(List.length x) : Int) ∧ (0 : Int) ≤ lB l ∧ lB l < (↑(List.length x) : Int)) → (∃ (x_3 : Int), ((0 : Int) ≤ x_3 ∧ x_3 ≤ (↑(List.length x_1) : Int) ∧ ∀ (k : Nat),
     (↑k : Int) < x_3 → loose (x, x_1, x_2) k = false) ∧ x_1 = x_1 ∧ (↑(List.length x_1) : Int) = (↑(List.length x_1) : Int) ∧ (0 : Int) = x_3 ∧ x = x ∧ x_1 = x_1 ∧ x_2 = x_2 ∧ True) ∧ ∀ (x_3 : Int), ((0 :
     Int) ≤ x_3 ∧ x_3 ≤ (↑(List.length x_1) : Int) ∧ ∀ (k : Nat), (↑k : Int) < x_3 → loose (x, x_1, x_2) k = false) → ifP (decide (x_3 < (↑(List.length x_1) : Int))) ((0 : Int) ≤ x_3 ∧ x_3 < (↑(List.length
     x_1) : Int) ∧ (0 : Int) ≤ (List.getD x_1 (Int.toNat x_3) default).1 ∧ (List.getD x_1 (Int.toNat x_3) default).1 < (↑(List.length x) : Int) ∧ ∀ (b : Bool), b = decide (portL (List.getD x (Int.toNat
     (List.getD x_1 (Int.toNat x_3) default).1) default) x_3 < (0 : Int)) → ((!b) = true → ((!b) = true → (!b) = true) ∧ True) ∧ ((!b) = true → ((!b) = true → (!b) = true) ∧ True) ∧ ((!b) = true → ((!b) =
     true → (!b) = true) ∧ ((!b) = true → (!b) = true) ∧ (0 : Int) ≤ (List.getD x_1 (Int.toNat x_3) default).2.1 ∧ (List.getD x_1 (Int.toNat x_3) default).2.1 < (↑(List.length x) : Int) ∧ True) ∧ ((!b) =
     true → ((!b) = true → (!b) = true) ∧ True) ∧ ((!b) = true → ((!b) = true → (!b) = true) ∧ ((!b) = true → (!b) = true) ∧ True) ∧ ((!b) = true → ((!b) = true → (!b) = true) ∧ True) ∧ (b = false → (!b) =
     true) ∧ ifP (bif b then true else decide (portL (List.getD x (Int.toNat (List.getD x_1 (Int.toNat x_3) default).2.1) default) x_3 < (0 : Int))) ((11 : Int) = plugsV (x, x_1, x_2)) (∃ (x_4 : Int), ((0
     : Int) ≤ x_4 ∧ x_4 ≤ (↑(List.length x_1) : Int) ∧ ∀ (k : Nat), (↑k : Int) < x_4 → loose (x, x_1, x_2) k = false) ∧ Int.toNat ((↑(List.length x_1) : Int) - x_4) < Int.toNat ((↑(List.length x_1) : Int)
     - x_3) ∧ x_1 = x_1 ∧ (↑(List.length x_1) : Int) = (↑(List.length x_1) : Int) ∧ IntKind.wrap IntKind.i64 (x_3 + (1 : Int)) = x_4 ∧ x = x ∧ x_1 = x_1 ∧ x_2 = x_2 ∧ True)) ((0 : Int) = plugsV (x, x_1,
     x_2)) := by
  rintro ns ls hs ⟨⟨-, ⟨hl, -⟩, -⟩, -⟩ he
  simp only [maxLen] at hl
  refine ⟨⟨0, ⟨by omega, by omega, fun k hk => by omega⟩, (by repeat' first | exact trivial | refine ⟨trivial, ?_⟩ | refine ⟨(by with_reducible rfl), ?_⟩ | refine ⟨w64 (by omega) (by omega), ?_⟩ | refine ⟨rfl, ?_⟩)⟩, ?_⟩
  rintro i ⟨i0, i1, hI⟩
  refine ifP_split (fun hi => ?_) (fun hi => ?_)
  rotate_left
  · have hi := of_decide_eq_false hi
    unfold plugsV
    rw [if_neg]
    intro h
    obtain ⟨k, h1, h2⟩ := List.any_eq_true.1 h
    have h1 : k < ls.length := List.mem_range.1 h1
    rw [hI k (by omega)] at h2; cases h2
  have hi := of_decide_eq_true hi
  have hm := getD_mem i0 hi
  have e := he _ hm
  have ei : ((i.toNat : Nat) : Int) = i := by omega
  refine ⟨i0, hi, e.1, e.2.1, ?_⟩
  intro b hb
  (repeat first | refine ⟨fun h => ⟨fun _ => h, fun _ => h, e.2.2.1, e.2.2.2, trivial⟩, ?_⟩ | refine ⟨fun h => ⟨fun _ => h, e.2.2.1, e.2.2.2, trivial⟩, ?_⟩ | refine ⟨by simp, ?_⟩)
  refine ifP_or (fun ho => ?_) (fun x1 x2 => ?_)
  · unfold plugsV
    rw [if_pos]
    refine List.any_eq_true.2 ⟨i.toNat, List.mem_range.2 (show i.toNat < ls.length by omega), ?_⟩
    unfold loose
    rw [Bool.or_eq_true, ei]
    rcases ho with h | h
    · exact .inl (hb.symm.trans h)
    · exact .inr h
  · refine ⟨i + 1, ⟨by omega, by omega, fun k hk => ?_⟩, by omega, (by repeat' first | exact trivial | refine ⟨trivial, ?_⟩ | refine ⟨(by with_reducible rfl), ?_⟩ | refine ⟨w64 (by omega) (by omega), ?_⟩ | refine ⟨rfl, ?_⟩)⟩
    by_cases e2 : (k : Int) < i
    · exact hI k e2
    · have : k = i.toNat := by omega
      subst this
      unfold loose
      rw [Bool.or_eq_false_iff, ei]
      exact ⟨hb.symm.trans x1, x2⟩
theorem ok_topology_plugs : SpecOK Tryd.prog GL 36 ct_topology_plugs.spec := Ct.okH _ Tryd.func36 (by kernel_rfl) (withSpec_ok noSpecs_ok ok_node_PortOf) hmix an_topology_plugs (hideMp (by kernel_rfl) vc_topology_plugs)
def soundL (nn : Nat) (l : Link) : Prop := 0 ≤ lA l ∧ lA l < nn ∧ 0 ≤ lB l ∧ lB l < nn ∧ lA l ≠ lB l ∧ 1 ≤ lDelay l ∧ lDelay l ≤ 1073741824 ∧ 0 ≤ lJitter l ∧ lJitter l ≤ 1073741824 ∧ 0 ≤ lLoss l ∧ lLoss l ≤ 65536
instance (nn : Nat) (l : Link) : Decidable (soundL nn l) := by unfold soundL; infer_instance
def cablesV (n : Net) : Int := if n.2.1.all (fun l => decide (soundL n.1.length l)) then 0 else 11
def ct_topology_cables : Ct := ⟨[.agg cNet], [.val cI], fun d => [], fun d => ((cablesV d.1, ()), ())⟩
def an_topology_cables : PDs ct_topology_cables.ps → Anns := (fun d => { loops := (fun n => match n with | 3 => some (fun S => { ι := Int, μ := fun i => (d.1.2.1.length - i).toNat, inv := fun i => 0 ≤ i ∧ i ≤ d.1.2.1.length ∧ ∀ x ∈ d.1.2.1.take i.toNat, soundL d.1.1.length x, keep := [1, 3, 11, 12], slots := fun i => [(13, .int .i64 i)], keepN := [32], names := fun i => [] }) | _ => none) })
theorem vc_topology_cables :
    ∀ (x : List (List (Int × Int) × Int × Int × Bool × List ((Int × Int) × List Int × Int) × Int × Int × Int × Int × Int × (Int × Int) × Bool × Bool × Int × Int)) (x_1 : List (Int × Int × Int × Int × Int
     × Int)) (x_2 : List (Int × Int × Bool × (Int × Int) × List Int × Int)), ((List.length x ≤ maxLen ∧ ∀ (x_3 : List (Int × Int) × Int × Int × Bool × List ((Int × Int) × List Int × Int) × Int × Int × Int
     × Int × Int × (Int × Int) × Bool × Bool × Int × Int), x_3 ∈ x → (List.length x_3.1 ≤ maxLen ∧ ∀ (x : Int × Int), x ∈ x_3.1 → ((0 : Int) ≤ x.1 ∧ x.1 ≤ (4294967295 : Int)) ∧ (-9223372036854775808 : Int)
     ≤ x.2 ∧ x.2 ≤ (9223372036854775807 : Int)) ∧ ((0 : Int) ≤ x_3.2.1 ∧ x_3.2.1 ≤ (4294967295 : Int)) ∧ ((-9223372036854775808 : Int) ≤ x_3.2.2.1 ∧ x_3.2.2.1 ≤ (9223372036854775807 : Int)) ∧ True ∧
     (List.length x_3.2.2.2.2.1 ≤ maxLen ∧ ∀ (x : (Int × Int) × List Int × Int), x ∈ x_3.2.2.2.2.1 → (((0 : Int) ≤ x.1.1 ∧ x.1.1 ≤ (4294967295 : Int)) ∧ (-9223372036854775808 : Int) ≤ x.1.2 ∧ x.1.2 ≤
     (9223372036854775807 : Int)) ∧ (List.length x.2.1 ≤ maxLen ∧ ∀ (x_4 : Int), x_4 ∈ x.2.1 → (-9223372036854775808 : Int) ≤ x_4 ∧ x_4 ≤ (9223372036854775807 : Int)) ∧ (-9223372036854775808 : Int) ≤ x.2.2
     ∧ x.2.2 ≤ (9223372036854775807 : Int)) ∧ ((-9223372036854775808 : Int) ≤ x_3.2.2.2.2.2.1 ∧ x_3.2.2.2.2.2.1 ≤ (9223372036854775807 : Int)) ∧ ((0 : Int) ≤ x_3.2.2.2.2.2.2.1 ∧ x_3.2.2.2.2.2.2.1 ≤
     (4294967295 : Int)) ∧ ((-9223372036854775808 : Int) ≤ x_3.2.2.2.2.2.2.2.1 ∧ x_3.2.2.2.2.2.2.2.1 ≤ (9223372036854775807 : Int)) ∧ ((-9223372036854775808 : Int) ≤ x_3.2.2.2.2.2.2.2.2.1 ∧
     x_3.2.2.2.2.2.2.2.2.1 ≤ (9223372036854775807 : Int)) ∧ ((-9223372036854775808 : Int) ≤ x_3.2.2.2.2.2.2.2.2.2.1 ∧ x_3.2.2.2.2.2.2.2.2.2.1 ≤ (9223372036854775807 : Int)) ∧ (((-9223372036854775808 : Int)
     ≤ x_3.2.2.2.2.2.2.2.2.2.2.1.1 ∧ x_3.2.2.2.2.2.2.2.2.2.2.1.1 ≤ (9223372036854775807 : Int)) ∧ (-9223372036854775808 : Int) ≤ x_3.2.2.2.2.2.2.2.2.2.2.1.2 ∧ x_3.2.2.2.2.2.2.2.2.2.2.1.2 ≤
     (9223372036854775807 : Int)) ∧ True ∧ True ∧ ((-9223372036854775808 : Int) ≤ x_3.2.2.2.2.2.2.2.2.2.2.2.2.2.1 ∧ x_3.2.2.2.2.2.2.2.2.2.2.2.2.2.1 ≤ (9223372036854775807 : Int)) ∧ (-9223372036854775808 :
     Int) ≤ x_3.2.2.2.2.2.2.2.2.2.2.2.2.2.2 ∧ x_3.2.2.2.2.2.2.2.2.2.2.2.2.2.2 ≤ (9223372036854775807 : Int)) ∧ (List.length x_1 ≤ maxLen ∧ ∀ (x : Int × Int × Int × Int × Int × Int), x ∈ x_1 →
     ((-9223372036854775808 : Int) ≤ x.1 ∧ x.1 ≤ (9223372036854775807 : Int)) ∧ ((-9223372036854775808 : Int) ≤ x.2.1 ∧ x.2.1 ≤ (9223372036854775807 : Int)) ∧ ((-9223372036854775808 : Int) ≤ x.2.2.1 ∧
     x.2.2.1 ≤ (9223372036854775807 : Int)) ∧ ((-9223372036854775808 : Int) ≤ x.2.2.2.1 ∧ x.2.2.2.1 ≤ (9223372036854775807 : Int)) ∧ ((-9223372036854775808 : Int) ≤ x.2.2.2.2.1 ∧ x.2.2.2.2.1 ≤
     (9223372036854775807 : Int)) ∧ (-9223372036854775808 : Int) ≤ x.2.2.2.2.2 ∧ x.2.2.2.2.2 ≤ (9223372036854775807 : Int)) ∧ List.length x_2 ≤ maxLen ∧ ∀ (x : Int × Int × Bool × (Int × Int) × List Int ×
     Int), x ∈ x_2 → ((-9223372036854775808 : Int) ≤ x.1 ∧ x.1 ≤ (9223372036854775807 : Int)) ∧ ((-9223372036854775808 : Int) ≤ x.2.1 ∧ x.2.1 ≤ (9223372036854775807 : Int)) ∧ True ∧ (((0 : Int) ≤
     x.2.2.2.1.1 ∧ x.2.2.2.1.1 ≤ (4294967295 : Int)) ∧ (-9223372036854775808 : Int) ≤ x.2.2.2.1.2 ∧ x.2.2.2.1.2 ≤ (9223372036854775807 : Int)) ∧ (List.length x.2.2.2.2.1 ≤ maxLen ∧ ∀ (x_3 : Int), x_3 ∈
     x.2.2.2.2.1 → (-9223372036854775808 : Int) ≤ x_3 ∧ x_3 ≤ (9223372036854775807 : Int)) ∧ (-9223372036854775808 : Int) ≤ x.2.2.2.2.2 ∧ x.2.2.2.2.2 ≤ (9223372036854775807 : Int)) ∧ True → True → (∃ (x_3
     : Int), ((0 : Int) ≤ x_3 ∧ x_3 ≤ (↑(List.length x_1) : Int) ∧ ∀ (x_4 : Int × Int × Int × Int × Int × Int), x_4 ∈ List.take (Int.toNat x_3) x_1 → soundL (List.length x) x_4) ∧ IntKind.wrap IntKind.i64
     ((↑(List.length x) : Int) - (1 : Int)) = IntKind.wrap IntKind.i64 ((↑(List.length x) : Int) - (1 : Int)) ∧ x_1 = x_1 ∧ (↑(List.length x_1) : Int) = (↑(List.length x_1) : Int) ∧ (0 : Int) = x_3 ∧ x = x
     ∧ x_1 = x_1 ∧ x_2 = x_2 ∧ True) ∧ ∀ (x_3 : Int), ((0 : Int) ≤ x_3 ∧ x_3 ≤ (↑(List.length x_1) : Int) ∧ ∀ (x_4 : Int × Int × Int × Int × Int × Int), x_4 ∈ List.take (Int.toNat x_3) x_1 → soundL
     (List.length x) x_4) → ifP (decide (x_3 < (↑(List.length x_1) : Int))) ((0 : Int) ≤ x_3 ∧ x_3 < (↑(List.length x_1) : Int) ∧ ∀ (b : Bool), b = !decide ((0 : Int) ≤ (List.getD x_1 (Int.toNat x_3)
     default).1 ∧ (List.getD x_1 (Int.toNat x_3) default).1 ≤ IntKind.wrap IntKind.i64 ((↑(List.length x) : Int) - (1 : Int))) → ((!b) = true → ((!b) = true → (!b) = true) ∧ True) ∧ ((!b) = true → ((!b) =
     true → (!b) = true) ∧ ((!b) = true → (!b) = true) ∧ True) ∧ ((!b) = true → ((!b) = true → (!b) = true) ∧ True) ∧ (b = false → (!b) = true) ∧ ∀ (b_1 : Bool), (b_1 = bif b then true else !decide ((0 :
     Int) ≤ (List.getD x_1 (Int.toNat x_3) default).2.1 ∧ (List.getD x_1 (Int.toNat x_3) default).2.1 ≤ IntKind.wrap IntKind.i64 ((↑(List.length x) : Int) - (1 : Int)))) → ((!b_1) = true → ((!b_1) = true →
     (!b_1) = true) ∧ True) ∧ ((!b_1) = true → ((!b_1) = true → (!b_1) = true) ∧ True) ∧ ((!b_1) = true → ((!b_1) = true → (!b_1) = true) ∧ ((!b_1) = true → (!b_1) = true) ∧ True) ∧ (b_1 = false → (!b_1) =
     true) ∧ ∀ (b : Bool), (b = bif b_1 then true else decide ((List.getD x_1 (Int.toNat x_3) default).1 = (List.getD x_1 (Int.toNat x_3) default).2.1)) → ((!b) = true → ((!b) = true → (!b) = true) ∧ True)
     ∧ ((!b) = true → ((!b) = true → (!b) = true) ∧ True) ∧ ((!b) = true → ((!b) = true → (!b) = true) ∧ True) ∧ (b = false → (!b) = true) ∧ ∀ (b_2 : Bool), (b_2 = bif b then true else !decide ((1 : Int) ≤
     (List.getD x_1 (Int.toNat x_3) default).2.2.1 ∧ (List.getD x_1 (Int.toNat x_3) default).2.2.1 ≤ (1073741824 : Int))) → ((!b_2) = true → ((!b_2) = true → (!b_2) = true) ∧ True) ∧ ((!b_2) = true →
     ((!b_2) = true → (!b_2) = true) ∧ True) ∧ ((!b_2) = true → ((!b_2) = true → (!b_2) = true) ∧ True) ∧ (b_2 = false → (!b_2) = true) ∧ ∀ (b : Bool), (b = bif b_2 then true else !decide ((0 : Int) ≤
     (List.getD x_1 (Int.toNat x_3) default).2.2.2.1 ∧ (List.getD x_1 (Int.toNat x_3) default).2.2.2.1 ≤ (1073741824 : Int))) → ((!b) = true → ((!b) = true → (!b) = true) ∧ True) ∧ ((!b) = true → ((!b) =
     true → (!b) = true) ∧ True) ∧ ((!b) = true → ((!b) = true → (!b) = true) ∧ True) ∧ (b = false → (!b) = true) ∧ ifP (bif b then true else !decide ((0 : Int) ≤ (List.getD x_1 (Int.toNat x_3)
     default).2.2.2.2.1 ∧ (List.getD x_1 (Int.toNat x_3) default).2.2.2.2.1 ≤ (65536 : Int))) ((11 : Int) = cablesV (x, x_1, x_2)) (∃ (x_4 : Int), ((0 : Int) ≤ x_4 ∧ x_4 ≤ (↑(List.length x_1) : Int) ∧ ∀
     (x_5 : Int × Int × Int × Int × Int × Int), x_5 ∈ List.take (Int.toNat x_4) x_1 → soundL (List.length x) x_5) ∧ Int.toNat ((↑(List.length x_1) : Int) - x_4) < Int.toNat ((↑(List.length x_1) : Int) -
     x_3) ∧ IntKind.wrap IntKind.i64 ((↑(List.length x) : Int) - (1 : Int)) = IntKind.wrap IntKind.i64 ((↑(List.length x) : Int) - (1 : Int)) ∧ x_1 = x_1 ∧ (↑(List.length x_1) : Int) = (↑(List.length x_1)
     : Int) ∧ IntKind.wrap IntKind.i64 (x_3 + (1 : Int)) = x_4 ∧ x = x ∧ x_1 = x_1 ∧ x_2 = x_2 ∧ True)) ((0 : Int) = cablesV (x, x_1, x_2)) := by
  rintro ns ls hs ⟨⟨⟨hnl, -⟩, ⟨hl, -⟩, -⟩, -⟩ -
  simp only [maxLen] at hl hnl
  rw [w64 (n := (ns.length : Int) - 1) (by omega) (by omega)]
  refine ⟨⟨0, ⟨by omega, by omega, by simp⟩, (by repeat' first | exact trivial | refine ⟨trivial, ?_⟩ | refine ⟨(by with_reducible rfl), ?_⟩ | refine ⟨w64 (by omega) (by omega), ?_⟩ | refine ⟨rfl, ?_⟩)⟩, ?_⟩
  rintro i ⟨i0, i1, hI⟩
  refine ifP_split (fun hi => ?_) (fun hi => ?_)
  rotate_left
  · have hi := of_decide_eq_false hi
    rw [List.take_of_length_le (by omega)] at hI
    unfold cablesV
    rw [if_pos]
    exact List.all_eq_true.2 fun l hl => decide_eq_true (hI l hl)
  have hi := of_decide_eq_true hi
  have hm := getD_mem i0 hi
  refine ⟨i0, hi, ?_⟩
  have key : soundL ns.length (ls.getD i.toNat default) ↔ ((0 ≤ (ls.getD i.toNat default).1 ∧ (ls.getD i.toNat default).1 ≤ (ns.length : Int) - 1) ∧ (0 ≤ (ls.getD i.toNat default).2.1 ∧ (ls.getD i.toNat default).2.1 ≤ (ns.length : Int) - 1) ∧ ¬ (ls.getD i.toNat default).1 = (ls.getD i.toNat default).2.1 ∧ (1 ≤ (ls.getD i.toNat default).2.2.1 ∧ (ls.getD i.toNat default).2.2.1 ≤ 1073741824) ∧ (0 ≤ (ls.getD i.toNat default).2.2.2.1 ∧ (ls.getD i.toNat default).2.2.2.1 ≤ 1073741824) ∧ (0 ≤ (ls.getD i.toNat default).2.2.2.2.1 ∧ (ls.getD i.toNat default).2.2.2.2.1 ≤ 65536)) := by
    unfold soundL lA lB lDelay lJitter lLoss
    omega
  have okN := fun h => all_next i0 hi hI (P := soundL ns.length) h
  generalize ls.getD i.toNat default = l at hm key okN ⊢
  generalize hA : decide (0 ≤ l.1 ∧ l.1 ≤ (ns.length : Int) - 1) = bA
  generalize hB : decide (0 ≤ l.2.1 ∧ l.2.1 ≤ (ns.length : Int) - 1) = bB
  generalize hC : decide (l.1 = l.2.1) = bC
  generalize hD : decide (1 ≤ l.2.2.1 ∧ l.2.2.1 ≤ 1073741824) = bD
  generalize hE : decide (0 ≤ l.2.2.2.1 ∧ l.2.2.2.1 ≤ 1073741824) = bE
  generalize hF : decide (0 ≤ l.2.2.2.2.1 ∧ l.2.2.2.2.1 ≤ 65536) = bF
  have key2 : soundL ns.length l ↔ (bA = true ∧ bB = true ∧ bC = false ∧ bD = true ∧ bE = true ∧ bF = true) := by
    rw [key, ← hA, ← hB, ← hC, ← hD, ← hE, ← hF]
    simp only [decide_eq_true_eq, decide_eq_false_iff_not]
  have bad : ¬ soundL ns.length l → (11 : Int) = cablesV (ns, ls, hs) := fun h => by
    unfold cablesV
    rw [if_neg]
    intro k
    exact h (of_decide_eq_true (List.all_eq_true.1 k l hm))
  intro b1 hb1
  (repeat refine ⟨by simp, ?_⟩)
  intro b2 hb2
  (repeat refine ⟨by simp, ?_⟩)
  intro b3 hb3
  (repeat refine ⟨by simp, ?_⟩)
  intro b4 hb4
  (repeat refine ⟨by simp, ?_⟩)
  intro b5 hb5
  (repeat refine ⟨by simp, ?_⟩)
  have tot : (bif b5 then true else !bF) = !(bA && bB && !bC && bD && bE && bF) := by
    rw [hb5, hb4, hb3, hb2, hb1]
    cases bA <;> cases bB <;> cases bC <;> cases bD <;> cases bE <;> cases bF <;> rfl
  rw [tot]
  refine ifP_split (fun h => bad fun k => ?_) (fun h => ?_)
  · obtain ⟨a1, a2, a3, a4, a5, a6⟩ := key2.1 k
    rw [a1, a2, a3, a4, a5, a6] at h; cases h
  · have h2 : soundL ns.length l := key2.2 (by
      clear tot hb1 hb2 hb3 hb4 hb5 key2 hA hB hC hD hE hF
      revert h
      cases bA <;> cases bB <;> cases bC <;> cases bD <;> cases bE <;> cases bF <;> decide)
    exact ⟨i + 1, ⟨by omega, by omega, okN h2⟩, by omega, (by repeat' first | exact trivial | refine ⟨trivial, ?_⟩ | refine ⟨(by with_reducible rfl), ?_⟩ | refine ⟨w64 (by omega) (by omega), ?_⟩ | refine ⟨rfl, ?_⟩)⟩
theorem ok_topology_cables : SpecOK Tryd.prog GL 34 ct_topology_cables.spec := Ct.okH _ Tryd.func34 (by kernel_rfl) (withSpec_ok noSpecs_ok ok_topology_within) hmix an_topology_cables (hideMp (by kernel_rfl) vc_topology_cables)
end Go.RS


/- Topod: what the errors of networks, their parts and their routes at a time are: plain. -/
namespace Go.RS
open Go.SX Go.Proofs
set_option maxRecDepth 100000
set_option linter.unusedVariables false

theorem chk_is {links : List Int} : ∀ {l : List Rt} {q : Option Pfx}, chk links q l = 0 → sortedR l ∧ (∀ p, q = some p → ∀ r ∈ l, plt p r.1) ∧ ∀ r ∈ l, pValid r.1 = true ∧ rightR r links
  | [], q, _ => ⟨List.Pairwise.nil, fun _ _ r hr => (by cases hr), fun r hr => (by cases hr)⟩
  | r :: l, q, h => by
    rw [chk] at h
    split at h
    · cases h
    rename_i h1
    split at h
    · cases h
    rename_i h2
    split at h
    · cases h
    rename_i h3
    obtain ⟨i1, i2, i3⟩ := chk_is h
    have hv : pValid r.1 = true := by cases hh : pValid r.1 <;> simp_all
    have hp : ∀ p, q = some p → plt p r.1 := fun p hp => by
      subst hp
      rw [Option.any_some] at h2
      have : ¬ (0 ≤ pcmp p r.1) := by simpa using h2
      exact pcmp_neg.1 (by omega)
    refine ⟨List.pairwise_cons.2 ⟨i2 _ rfl, i1⟩, fun p e z hz => ?_, fun z hz => ?_⟩
    · rcases List.mem_cons.1 hz with rfl | hz
      · exact hp p e
      · exact plt_trans (hp p e) (i2 _ rfl z hz)
    · rcases List.mem_cons.1 hz with rfl | hz
      · exact ⟨hv, Classical.byContradiction h3⟩
      · exact i3 z hz
theorem check_is {l : List Rt} {links : List Int} (h : check l links = 0) : sortedR l ∧ l.length ≤ 64 ∧ ∀ r ∈ l, pValid r.1 = true ∧ rightR r links := by
  unfold check at h
  split at h
  · cases h
  · rename_i hl
    have k := chk_is h
    exact ⟨k.1, by omega, k.2.2⟩
theorem check_okL {l : List Rt} {links : List Int} (h : check l links = 0) : sortedR l ∧ okL l := by
  obtain ⟨h1, h2, h3⟩ := check_is h
  exact ⟨h1, by omega, fun r hr => by have := (h3 r hr).2.1.1; omega⟩
def hAt (c : Change) : Int := c.1
def hWho (c : Change) : Int := c.2.1
def hRem (c : Change) : Bool := c.2.2.1
def hRoute (c : Change) : Rt := c.2.2.2
def hop (a b : Int) : Int := if a ≠ 0 then a else b
def strayL (n : Net) (i : Nat) (k : Int) : Bool := decide ((n.2.1.length : Int) ≤ k) || !(decide (lA (n.2.1.getD k.toNat default) = i) || decide (lB (n.2.1.getD k.toNat default) = i))
def boxV (n : Net) (i : Nat) : Int :=
  if nodeV (n.1.getD i default) ≠ 0 then nodeV (n.1.getD i default)
  else if (pLinks (n.1.getD i default)).any (strayL n i) then 11 else 0
def boxesV (n : Net) : Int := first (boxV n) n.1.length
def chV (l : List Rt) (c : Change) : List Rt := if hRem c = true then removeL l (hRoute c).1 else putL l (hRoute c)
def tabsV (n : Net) : Nat → List (List Rt)
  | 0 => n.1.map nRoutes
  | i + 1 => (tabsV n i).set (hWho (n.2.2.getD i default)).toNat (chV ((tabsV n i).getD (hWho (n.2.2.getD i default)).toNat default) (n.2.2.getD i default))
def scrC (n : Net) (i : Nat) (c p : Change) (l : List Rt) : Int :=
  if hAt c < 0 ∨ 1125899906842624 < hAt c then 1
  else if 0 < i ∧ hAt c < hAt p then 6
  else if hWho c < 0 ∨ (n.1.length : Int) ≤ hWho c then 8
  else if hRem c = true ∧ hasL l (hRoute c).1 = false then 8
  else check (chV l c) (pLinks (n.1.getD (hWho c).toNat default))
def scrV (n : Net) (i : Nat) : Int := scrC n i (n.2.2.getD i default) (n.2.2.getD (i - 1) default) ((tabsV n i).getD (hWho (n.2.2.getD i default)).toNat default)
def scriptV (n : Net) : Int := first (scrV n) n.2.2.length
def checkV (n : Net) : Int := hop (sizesV n) (hop (cablesV n) (hop (boxesV n) (hop (plugsV n) (hop (namesV n) (hop (tunnelsV n) (scriptV n))))))
theorem cables_ends {n : Net} (h : cablesV n = 0) : endsOK n := fun l hl => by
  unfold cablesV at h
  split at h
  · rename_i k
    have k := of_decide_eq_true (List.all_eq_true.1 k l hl)
    exact ⟨k.1, k.2.1, k.2.2.1, k.2.2.2.1⟩
  · cases h
theorem getD_memN {α : Type} [Inhabited α] {xs : List α} {i : Nat} (h : i < xs.length) : xs.getD i default ∈ xs := by
  have := getD_mem (xs := xs) (i := (i : Nat)) (by omega) (by omega)
  simpa using this
theorem node_links0 {x : Node} (h : first (portBad x) (nPorts x).length = 0) : ∀ k ∈ pLinks x, 0 ≤ k := fun k hk => by
  obtain ⟨q, hq, rfl⟩ := List.mem_map.1 hk
  obtain ⟨i, hi, e⟩ := List.mem_iff_getElem.1 hq
  have k1 := first_zero h i hi
  unfold portBad at k1
  rw [List.getD_eq_getElem?_getD, List.getElem?_eq_getElem hi, Option.getD_some, e] at k1
  split at k1
  · cases k1
  split at k1
  · cases k1
  rename_i h2
  show 0 ≤ q.2
  omega
structure NV (x : Node) : Prop where
  len : (nPorts x).length ≤ 32
  pos : 0 < (nPorts x).length
  bad : first (portBad x) (nPorts x).length = 0
  loop : ¬ loopBad x
  form : ¬ formBad x
  tab : check (nRoutes x) (pLinks x) = 0
theorem node_is {x : Node} (h : nodeV x = 0) : NV x := by
  unfold nodeV at h
  split at h
  · cases h
  rename_i h1
  split at h
  · rename_i k; exact absurd h k
  rename_i h2
  split at h
  · cases h
  rename_i h3
  split at h
  · cases h
  rename_i h4
  split at h
  · rename_i k; exact absurd h k
  split at h
  · rename_i k; exact absurd h k
  refine ⟨by omega, ?_, by omega, h3, h4, h⟩
  unfold formBad at h4
  omega
theorem boxes_node {n : Net} (h : boxesV n = 0) {i : Nat} (hi : i < n.1.length) : NV (n.1.getD i default) := by
  have k := first_zero h i hi
  unfold boxV at k
  split at k
  · rename_i e; exact absurd k e
  · rename_i e; exact node_is (by omega)
theorem boxes_mem {n : Net} (h : boxesV n = 0) : ∀ x ∈ n.1, NV x := fun x hx => by
  obtain ⟨i, hi, e⟩ := List.mem_iff_getElem.1 hx
  have := boxes_node h hi
  rw [List.getD_eq_getElem?_getD, List.getElem?_eq_getElem hi, e] at this; exact this
/-- Tables that can be changed. -/
structure TB (n : Net) (t : List (List Rt)) : Prop where
  len : t.length = n.1.length
  r : ∀ i : Nat, i < n.1.length → sortedR (t.getD i default) ∧ okL (t.getD i default)
theorem getD_map' {α β : Type} [Inhabited α] [Inhabited β] {f : α → β} {l : List α} {i : Nat} (h : i < l.length) : (l.map f).getD i default = f (l.getD i default) := by
  rw [List.getD_eq_getElem?_getD, List.getD_eq_getElem?_getD, List.getElem?_map, List.getElem?_eq_getElem h]; rfl
theorem tabs_len (n : Net) : ∀ i : Nat, (tabsV n i).length = n.1.length
  | 0 => by simp [tabsV]
  | i + 1 => by rw [tabsV, List.length_set, tabs_len n i]
theorem tabs_ok {n : Net} (hb : boxesV n = 0) : ∀ {i : Nat}, first (scrV n) i = 0 → TB n (tabsV n i)
  | 0, _ => ⟨tabs_len n 0, fun i hi => by
    rw [tabsV, getD_map' hi]
    exact check_okL (boxes_node hb hi).tab⟩
  | i + 1, h => by
    have h0 : first (scrV n) i = 0 := by
      by_cases e : first (scrV n) i = 0
      · exact e
      · rw [first, if_pos e] at h; exact h
    have k := tabs_ok hb h0
    have hz : scrV n i = 0 := first_zero h i (by omega)
    refine ⟨tabs_len n _, fun j hj => ?_⟩
    rw [tabsV]
    unfold scrV scrC at hz
    generalize n.2.2.getD i default = c at hz ⊢
    split at hz
    · cases hz
    split at hz
    · cases hz
    split at hz
    · cases hz
    rename_i hw
    split at hz
    · cases hz
    by_cases e : (hWho c).toNat = j
    · subst e
      rw [getD_set (by rw [k.len]; exact hj)]
      exact check_okL hz
    · rw [getD_setne e]; exact k.r j hj
/-- Networks whose routes can be asked for. -/
structure okNet (n : Net) : Prop where
  t : ∀ x ∈ n.1, sortedR (nRoutes x) ∧ (nRoutes x).length ≤ 1000 ∧ ∀ r ∈ nRoutes x, (r.2.1.length : Int) ≤ 1099511627776
  c : n.2.2.length ≤ 1000
  s : ∀ c ∈ n.2.2, ((hRoute c).2.1.length : Int) ≤ 1099511627776
def stepC (who at' : Int) (l : List Rt) (c : Change) : List Rt := if hWho c = who ∧ hAt c ≤ at' then chV l c else l
def routesK (n : Net) (who at' : Int) (k : Int) : List Rt := (n.2.2.take k.toNat).foldl (stepC who at') (nRoutes (n.1.getD who.toNat default))
def routesV (n : Net) (who at' : Int) : List Rt := if who < 0 ∨ (n.1.length : Int) ≤ who then [] else routesK n who at' n.2.2.length
structure okTb (m : Nat) (l : List Rt) : Prop where
  s : sortedR l
  n : l.length ≤ m
  x : ∀ r ∈ l, (r.2.1.length : Int) ≤ 1099511627776
theorem okTb.okL {m : Nat} {l : List Rt} (h : okTb m l) (hm : m ≤ 100000) : okL l := ⟨by have := h.n; omega, h.x⟩
theorem okTb.ch {m : Nat} {l : List Rt} (h : okTb m l) {c : Change} (hc : ((hRoute c).2.1.length : Int) ≤ 1099511627776) : okTb (m + 1) (chV l c) := by
  unfold chV
  split
  · refine ⟨List.Pairwise.filter _ h.s, ?_, fun r hr => h.x r (List.mem_filter.1 hr).1⟩
    have := removeL_le l (hRoute c).1
    have := h.n
    omega
  · refine ⟨putL_sorted h.s, ?_, fun r hr => ?_⟩
    · have := putL_len l (hRoute c)
      have := h.n
      omega
    · rcases putL_mem.1 hr with rfl | ⟨hr, -⟩
      · exact hc
      · exact h.x r hr
theorem routesK_next {n : Net} {who at' k : Int} (k0 : 0 ≤ k) (k1 : k < n.2.2.length) : routesK n who at' (k + 1) = stepC who at' (routesK n who at' k) (n.2.2.getD k.toNat default) := by
  unfold routesK
  rw [take_step k0 k1, List.foldl_append]; rfl
theorem routesK_ok {n : Net} (h : okNet n) {who at' : Int} (w0 : 0 ≤ who) (w1 : who < n.1.length) : ∀ k : Nat, k ≤ n.2.2.length → okTb (1000 + k) (routesK n who at' k)
  | 0, _ => by
    have := h.t _ (getD_mem w0 w1)
    exact ⟨this.1, this.2.1, this.2.2⟩
  | k + 1, hk => by
    have i := routesK_ok h (at' := at') w0 w1 k (by omega)
    rw [show ((k + 1 : Nat) : Int) = (k : Int) + 1 by omega, routesK_next (by omega) (by omega)]
    unfold stepC
    split
    · have := i.ch (c := n.2.2.getD (k : Int).toNat default) (h.s _ (getD_mem (by omega) (by omega)))
      exact this
    · exact ⟨i.s, by have := i.n; omega, i.x⟩
def findI (ns : List Node) (a : Int) : Nat := ns.findIdx fun x => ownsA x a
def findB (n : Net) (a : Int) : Bool := decide (findI n.1 a < n.1.length)
def findV (n : Net) (a : Int) : Int := if findI n.1 a < n.1.length then (findI n.1 a : Int) else 0
def between (s t : Int) (c : Change) : Bool := decide (s < hAt c ∧ hAt c ≤ t)
end Go.RS

