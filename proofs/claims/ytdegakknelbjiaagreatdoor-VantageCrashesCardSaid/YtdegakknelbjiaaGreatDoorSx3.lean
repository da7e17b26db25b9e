/- SX, part 3: what an operation does with symbolic values: the operations that leave memory alone. -/
import Derived.Test.YtdegakknelbjiaaGreatDoorSx2
import Derived.Deep.MidRow
import Derived.Laws.Entries
import Derived.Laws.StructEq
namespace Go.SX
set_option linter.unusedVariables false
universe u v

/-- A question to the symbolic heap, name by name. -/
inductive Q (α : Type u) : Type u where
  | ret (a : α)
  | ask (n : Nat) (k : Nm → Q α)
  | fail

def Q.run {α : Type u} (h : Heap) : Q α → Option (α × List Nat)
  | .ret a => some (a, [])
  | .ask n k => match (k (h n)).run h with
    | some (a, r) => some (a, n :: r)
    | none => none
  | .fail => none

def Q.bind {α : Type u} {β : Type v} : Q α → (α → Q β) → Q β
  | .ret a, f => f a
  | .ask n k, f => .ask n fun x => (k x).bind f
  | .fail, _ => .fail

theorem Q.run_bind {α : Type u} {β : Type v} (h : Heap) (q : Q α) (f : α → Q β) {b : β} {r : List Nat} (e : (q.bind f).run h = some (b, r)) :
    ∃ a r1 r2, q.run h = some (a, r1) ∧ (f a).run h = some (b, r2) ∧ r = r1 ++ r2 := by
  induction q generalizing r with
  | ret a => exact ⟨a, [], r, rfl, e, rfl⟩
  | ask n k ih =>
    simp only [Q.bind, Q.run] at e
    cases hk : ((k (h n)).bind f).run h with
    | none => rw [hk] at e; cases e
    | some p =>
      rw [hk] at e
      simp only [Option.some.injEq, Prod.mk.injEq] at e
      obtain ⟨rfl, rfl⟩ := e
      obtain ⟨a, r1, r2, h1, h2, h3⟩ := ih (h n) (r := p.2) (by rw [hk])
      exact ⟨a, n :: r1, r2, by simp only [Q.run, h1], h2, by rw [h3]; rfl⟩
  | fail => cases e

/-- The answer hangs on the names asked alone. -/
theorem Q.run_local {α : Type u} {h h' : Heap} : ∀ (q : Q α) {a : α} {r : List Nat}, q.run h = some (a, r) → (∀ n ∈ r, h' n = h n) → q.run h' = some (a, r)
  | .ret a, b, r, e, _ => e
  | .ask n k, b, r, e, hh => by
    simp only [Q.run] at e ⊢
    cases hk : (k (h n)).run h with
    | none => rw [hk] at e; cases e
    | some p =>
      rw [hk] at e
      simp only [Option.some.injEq, Prod.mk.injEq] at e
      obtain ⟨rfl, rfl⟩ := e
      rw [hh n (by simp), Q.run_local (k (h n)) hk (fun m hm => hh m (List.mem_cons_of_mem _ hm))]

def conj : List Prop → Prop
  | [] => True
  | p :: r => p ∧ conj r

theorem conj_append {a b : List Prop} : conj (a ++ b) ↔ conj a ∧ conj b := by
  induction a with
  | nil => simp [conj]
  | cons p a ih => simp [conj, ih, and_assoc]

/-- How one speaks of all, or of one, of a type's values: part by part. -/
structure Qn (X : Type) where
  all : (X → Prop) → Prop
  hall : ∀ k, all k → ∀ x, k x
  ex : (X → Prop) → Prop
  hex : ∀ k, ex k → ∃ x, k x
def Qn.plain (X : Type) : Qn X := ⟨fun k => ∀ x, k x, fun _ h => h, fun k => ∃ x, k x, fun _ h => h⟩

/-- What an operation asks, gives and changes. -/
inductive Dl : Type 1 where
  | det (pre : List Prop) (v : SV) (upd : List (Nat × Nm))
  | nd (X : Type) (qn : Qn X) (pre : List Prop) (R : X → Prop) (inh : conj pre → ∃ x, R x) (v : X → SV) (upd : List (Nat × (X → Nm)))

def Dl.X : Dl → Type
  | .det .. => Unit
  | .nd X .. => X
def Dl.pre : Dl → List Prop
  | .det p .. => p
  | .nd _ _ p .. => p
def Dl.R : (d : Dl) → d.X → Prop
  | .det .., _ => True
  | .nd _ _ _ R _ _ _, x => R x
def Dl.val : (d : Dl) → d.X → SV
  | .det _ v _, _ => v
  | .nd _ _ _ _ _ v _, x => v x
def setAll : List (Nat × Nm) → Heap → Heap
  | [], h => h
  | (n, b) :: r, h => (setAll r h).set n b
def Dl.upd : (d : Dl) → d.X → List (Nat × Nm)
  | .det _ _ u, _ => u
  | .nd _ _ _ _ _ _ u, x => u.map fun p => (p.1, p.2 x)
def Dl.wr : Dl → List Nat
  | .det _ _ u => u.map (·.1)
  | .nd _ _ _ _ _ _ u => u.map (·.1)
def Dl.hp (d : Dl) (x : d.X) (h : Heap) : Heap := setAll (d.upd x) h

theorem setAll_other {u : List (Nat × Nm)} {h : Heap} {n : Nat} (hn : n ∉ u.map (·.1)) : setAll u h n = h n := by
  induction u with
  | nil => rfl
  | cons p u ih =>
    simp only [List.map_cons, List.mem_cons, not_or] at hn
    rw [setAll, Heap.set_other _ _ hn.1, ih hn.2]

theorem Dl.wr_upd (d : Dl) (x : d.X) : (d.upd x).map (·.1) = d.wr := by
  cases d with
  | det p v u => rfl
  | nd X qn p R i v u => simp [Dl.upd, Dl.wr, Function.comp_def]

theorem Dl.ne (d : Dl) (h : conj d.pre) : ∃ x, d.R x := by
  cases d with
  | det p v u => exact ⟨(), trivial⟩
  | nd X qn p R i v u => exact i h

/-- The outcome of an operation fits what 'd' says. -/
def Good (w0 : World) (N0 : Old) (A : Nat → Prop) (env : Env) (h : Heap) (w : World) (d : Dl) (v : Value) (w' : World) : Prop :=
  ∃ (x : d.X) (A' : Nat → Prop) (env' : Env), d.R x ∧ Mod w0 N0 A' env' (d.hp x h) w' ∧ Ext A env w A' env' w' ∧ Den A' env' w' (d.val x) v

/-- The operation yields a value, or none, at once. -/
def Yields (P : Program) (o : Oper) (a : Act) (w0 : World) (N0 : Old) (A : Nat → Prop) (env : Env) (h : Heap) (w : World) (d : Dl) : Prop :=
  ∃ v w', ((execOp a.eval o).run P w = .ok (.value v) w' ∨ ((execOp a.eval o).run P w = .ok .skip w' ∧ v = undef)) ∧ Good w0 N0 A env h w d v w'

def hasB (k : IntKind) (n : Int) : Bool := decide (k.min ≤ n) && decide (n ≤ k.max)
theorem hasB_has {k : IntKind} {n : Int} (h : hasB k n = true) : k.has n := by
  simp only [hasB, Bool.and_eq_true, decide_eq_true_eq] at h; exact h

/-- A constant. -/
def ofV : Value → SV
  | .int k n => match hasB k n with
    | true => .int k n
    | false => .cv (.int k n)
  | .bool b => .bool b
  | .slice none 0 0 => .nilsl
  | .pointer none => .nilp
  | v => .cv v

def opnd (ρ : Nat → SV) : Operand → SV
  | .tmp t => ρ t
  | .const v => ofV v
  | .func f => .fn f []
  | .global g => .gl g

section
variable {P : Program} {w0 : World} {N0 : Old} {A : Nat → Prop} {env : Env} {h : Heap} {w : World} {o : Oper} {a : Act}

theorem Den_ofV (v : Value) : Den A env w (ofV v) v := by
  unfold ofV
  split
  · rename_i k n
    split
    · rename_i hb; simp only [Den]; exact ⟨trivial, hasB_has hb⟩
    · simp only [Den]
  all_goals simp only [Den]

/-- What the slots hold. -/
def FD (A : Nat → Prop) (env : Env) (w : World) (ρ : Nat → SV) (a : Act) : Prop := ∀ i, Den A env w (ρ i) (a.tmps.getD i undef)

theorem Den_opnd {ρ : Nat → SV} (f : FD A env w ρ a) (x : Operand) : Den A env w (opnd ρ x) (a.eval x) := by
  cases x with
  | tmp t => exact f t
  | const v => exact Den_ofV v
  | global g => simp only [opnd, Den, Act.eval]
  | func f => simp only [opnd, Den, Act.eval]; exact ⟨#[], rfl, by simp [DenL]⟩

theorem Yields.pure (m : Mod w0 N0 A env h w) {pre : List Prop} {s : SV} {v : Value} (hr : (execOp a.eval o).run P w = .ok (.value v) w) (hd : Den A env w s v) :
    Yields P o a w0 N0 A env h w (.det pre s []) :=
  ⟨v, w, .inl hr, (), A, env, trivial, m, Ext.refl, hd⟩
end

/-! ### Numbers -/
theorem IntKind.wrap_has (k : IntKind) (n : Int) : k.has (k.wrap n) := wrap_within k n

theorem min_le_zero (k : IntKind) : k.min ≤ 0 ∧ 0 ≤ k.max := by cases k <;> decide

theorem tmod_has {k : IntKind} {x : Int} (h : k.has x) (y : Int) : k.has (x.tmod y) := by
  obtain ⟨h1, h2⟩ := h
  obtain ⟨h3, h4⟩ := min_le_zero k
  have h5 := Int.natAbs_tmod x y
  have h6 := Nat.mod_le x.natAbs y.natAbs
  have h7 : 0 ≤ x → 0 ≤ x.tmod y := fun hx => Int.tmod_nonneg y hx
  have h8 : x ≤ 0 → x.tmod y ≤ 0 := fun hx => by
    have := Int.tmod_nonneg (a := -x) y (by omega)
    rw [Int.neg_tmod] at this
    omega
  exact ⟨by omega, by omega⟩

/-- Shifts. -/
def shlI (k : IntKind) (x y : Int) : Int := k.wrap (x * 2 ^ (min y.toNat k.bits))
def shrI (k : IntKind) (x y : Int) : Int := x.fdiv (2 ^ (min y.toNat k.bits))
def notI (k : IntKind) (n : Int) : Int := bits .xor k (if k.signed then -1 else k.max) n

theorem shrI_has {k : IntKind} {x : Int} (h : k.has x) (y : Int) : k.has (shrI k x y) := by
  obtain ⟨h1, h2⟩ := h
  obtain ⟨h3, h4⟩ := min_le_zero k
  unfold shrI
  have hp : (0 : Int) < 2 ^ (min y.toNat k.bits) := Int.pow_pos (by decide)
  rw [Int.fdiv_eq_ediv_of_nonneg _ (Int.le_of_lt hp)]
  generalize (2 : Int) ^ (min y.toNat k.bits) = p at *
  rcases Int.le_total 0 x with hx | hx
  · have h5 := Int.ediv_nonneg hx (Int.le_of_lt hp)
    have h6 := Int.ediv_le_self p hx
    exact ⟨by omega, by omega⟩
  · have h5 : x ≤ x / p := by
      refine (Int.le_ediv_iff_mul_le hp).2 ?_
      have := Int.mul_le_mul_of_nonneg_left (show (1 : Int) ≤ p from by omega) (show 0 ≤ -x from by omega)
      rw [Int.neg_mul, Int.neg_mul] at this
      omega
    have h6 : x / p ≤ 0 := by
      have := Int.ediv_le_ediv hp hx
      simpa using this
    exact ⟨by omega, by omega⟩

theorem bits_has (op : BinOp) (k : IntKind) (x y : Int) : k.has (bits op k x y) := IntKind.wrap_has k _
end Go.SX
