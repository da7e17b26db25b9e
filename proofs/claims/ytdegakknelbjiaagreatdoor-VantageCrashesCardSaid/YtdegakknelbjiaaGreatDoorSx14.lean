/- SX, part 14: one operation with its guard; what it touches. -/
import Derived.Test.YtdegakknelbjiaaGreatDoorSx13
import Derived.Orders
namespace Go.SX
set_option linter.unusedVariables false

def getSl (sl : List SV) (i : Nat) : SV := match getL sl i with
  | some v => v
  | none => .junk

/-- The symbolic state. -/
structure FS where
  sl : List SV
  h : Heap

def unw : SV → SV
  | .opt _ v => v
  | v => v
def unwPre (g : Bool) : SV → List Prop
  | .opt b _ => [g = true → b = true]
  | _ => []

def tmpsOf : List Operand → List Nat
  | [] => []
  | .tmp t :: r => t :: tmpsOf r
  | _ :: r => tmpsOf r

def memN (n : Nat) : List Nat → Bool
  | [] => false
  | m :: r => Nat.beq n m || memN n r
theorem memN_iff {n : Nat} : ∀ {l : List Nat}, memN n l = true ↔ n ∈ l
  | [] => by simp [memN]
  | m :: r => by simp [memN, memN_iff (l := r)]

/-- Which slots an operation under a guard takes as they are behind the guard. -/
def unwSlots (o : Oper) : List Nat := match o.op with
  | .pick (.tmp c) _ _ => [c]
  | .pick _ _ _ => []
  | op => tmpsOf op.operands.toList

/-- What a guard asks. -/
inductive GV where
  | always
  | cond (g : Bool)
  | unknown

abbrev eqWant (b want : Bool) : Bool := match want with
  | true => b
  | false => !b
theorem eqWant_iff {b want : Bool} : eqWant b want = true ↔ b = want := by cases b <;> cases want <;> simp [eqWant]


def guardV (ops : List Oper) (sl : List SV) : Option (Nat × Bool) → GV
  | none => .always
  | some (j, want) => match getL ops j with
    | some oj => match oj.dst with
      | some d => match getSl sl d with
        | .bool b => .cond (eqWant b want)
        | .opt g (.bool b) => .cond (g && eqWant b want)
        | v => match isUndef v with
          | true => .cond false
          | false => .unknown
      | none => .unknown
    | none => .unknown

/-- What one operation does. -/
inductive Stp : Type 1 where
  | go (d : Dl)
  | split (g : Bool) (d : Dl)

def preUs (g : Bool) (sl : List SV) : List Nat → List Prop
  | [] => []
  | i :: r => unwPre g (getSl sl i) ++ preUs g sl r

def pack : List Prop → Bool → List Prop
  | [], _ => []
  | l, g => [g = true → conj l]

/-- An operation under a guard. -/
def wrapG (g : Bool) (pu : List Prop) (d : Dl) : Q Stp := match d with
  | .det pre v [] => .ret (.go (.det (pack (pu ++ pre) g) (.opt g v) []))
  | .det pre v upd => .ret (.split g (.det (pu ++ pre) v upd))
  | .nd X qn pre R inh v upd => .ret (.split g (.nd X qn (pu ++ pre) R (fun h => inh (conj_append.1 h).2) v upd))

def anyUndef (sl : List SV) : List Nat → Bool
  | [] => false
  | i :: r => isUndef (getSl sl i) || anyUndef sl r
def sdl (P : Program) (sp : Specs) (ops : List Oper) (o : Oper) (sl : List SV) : Q Stp := match guardV ops sl o.guard with
  | .always => (stepOp P sp o (getSl sl)).bind fun d => .ret (.go d)
  | .cond g => match anyUndef sl (unwSlots o) with
   | true => .ret (.go (.det [g = false] (.cv undef) []))
   | false => (stepOp P sp o (fun i => match memN i (unwSlots o) with | true => unw (getSl sl i) | false => getSl sl i)).bind (wrapG g (preUs g sl (unwSlots o)))
  | .unknown => .fail

def setSl (sl : List SV) (dst : Option Tmp) (v : SV) : List SV := match dst with
  | some d => sl.set d v
  | none => sl

def FS.app (F : FS) (dst : Option Tmp) (d : Dl) (x : d.X) : FS := ⟨setSl F.sl dst (d.val x), d.hp x F.h⟩
def FS.skip (F : FS) (dst : Option Tmp) : FS := ⟨setSl F.sl dst (.cv undef), F.h⟩

/-- The states in which an operation may leave us. -/
def Out (st : Stp) (dst : Option Tmp) (F F' : FS) : Prop := match st with
  | .go d => ∃ x, d.R x ∧ F' = F.app dst d x
  | .split g d => (g = true ∧ ∃ x, d.R x ∧ F' = F.app dst d x) ∨ (g = false ∧ F' = F.skip dst)

def Stp.pre : Stp → Prop
  | .go d => conj d.pre
  | .split g d => g = true → conj d.pre

def Stp.wr : Stp → List Nat
  | .go d => d.wr
  | .split _ d => d.wr

/-- The run's state fits the symbolic one. -/
structure Fits (w0 : World) (N0 : Old) (A : Nat → Prop) (env : Env) (F : FS) (a : Act) (w : World) : Prop where
  m : Mod w0 N0 A env F.h w
  len : F.sl.length ≤ a.tmps.size
  f : FD A env w (getSl F.sl) a
  dfr : a.defers = []

section
variable {P : Program} {sp : Specs} {w0 : World} {N0 : Old} {A : Nat → Prop} {env : Env} {F F' : FS} {w : World} {o : Oper} {a : Act} {st : Stp} {r : List Nat}

theorem getSl_set {sl : List SV} {d i : Nat} {v : SV} : getSl (sl.set d v) i = if i = d ∧ d < sl.length then v else getSl sl i := by
  unfold getSl
  simp only [getL_eq, List.getElem?_set]
  by_cases h : d = i
  · subst h
    by_cases h2 : d < sl.length
    · simp [h2]
    · simp [h2]
  · have : ¬ i = d := fun e => h e.symm
    simp [h, this]

theorem FD_put {A' : Nat → Prop} {env' : Env} {w' : World} {sl : List SV} {v : SV} {u : Value} (len : sl.length ≤ a.tmps.size) (f : FD A env w (getSl sl) a) (x : Ext A env w A' env' w') (dst : Option Tmp)
    (hd : Den A' env' w' v u) : FD A' env' w' (getSl (setSl sl dst v)) (a.put dst u) := by
  intro i
  cases dst with
  | none => exact Den_mono x _ _ (f i)
  | some d =>
    simp only [setSl, Act.put]
    rw [getSl_set]
    split
    · rename_i h
      obtain ⟨rfl, h⟩ := h
      have hi : i < a.tmps.size := by omega
      simp only [Array.getD_eq_getD_getElem?, Array.getElem?_setIfInBounds_self_of_lt hi, Option.getD_some]
      exact hd
    · rename_i h
      by_cases hid : i = d
      · subst hid
        have : ¬ i < sl.length := fun hh => h ⟨rfl, hh⟩
        have : getSl sl i = .junk := by unfold getSl; rw [getL_eq, List.getElem?_eq_none (by omega)]
        rw [this]; simp only [Den]
      · have h2 := Den_mono x _ _ (f i)
        simp only [Array.getD_eq_getD_getElem?] at h2 ⊢
        rw [Array.getElem?_setIfInBounds_ne (fun e => hid e.symm)]
        exact h2

theorem put_size (a : Act) (dst : Option Tmp) (v : Value) : (a.put dst v).tmps.size = a.tmps.size := by cases dst <;> simp [Act.put]
theorem put_defers (a : Act) (dst : Option Tmp) (v : Value) : (a.put dst v).defers = a.defers := by cases dst <;> rfl
theorem setSl_length (sl : List SV) (dst : Option Tmp) (v : SV) : (setSl sl dst v).length = sl.length := by cases dst <;> simp [setSl]

/-- The state behind an operation that has been carried out. -/
theorem Fits.app (t : Fits w0 N0 A env F a w) {d : Dl} {v : Value} {w' : World} (g : Good w0 N0 A env F.h w d v w') (dst : Option Tmp) :
    ∃ x A' env', d.R x ∧ Fits w0 N0 A' env' (F.app dst d x) (a.put dst v) w' ∧ Ext A env w A' env' w' := by
  obtain ⟨x, A', env', hR, m', e', hd⟩ := g
  exact ⟨x, A', env', hR, ⟨m', by simp only [FS.app, setSl_length, put_size]; exact t.len, FD_put t.len t.f e' dst hd, by rw [put_defers]; exact t.dfr⟩, e'⟩

theorem Fits.skip (t : Fits w0 N0 A env F a w) (dst : Option Tmp) : Fits w0 N0 A env (F.skip dst) (a.put dst undef) w :=
  ⟨t.m, by simp only [FS.skip, setSl_length, put_size]; exact t.len, FD_put t.len t.f Ext.refl dst (by simp only [Den]), by rw [put_defers]; exact t.dfr⟩

theorem wanted_none (a : Act) {ops : Array Oper} (h : o.guard = none) : Region.wanted o (yielded ops a.tmps) = true := by simp [Region.wanted, h]

theorem guardV_spec (t : Fits w0 N0 A env F a w) {ops : Array Oper} {g : Bool} (e : guardV ops.toList F.sl o.guard = .cond g) :
    Region.wanted o (yielded ops a.tmps) = g := by
  unfold guardV at e
  split at e
  · cases e
  · rename_i j want hg
    have hw : Region.wanted o (yielded ops a.tmps) = (yielded ops a.tmps j == some want) := by simp [Region.wanted, hg]
    split at e
    · rename_i oj hj
      split at e
      · rename_i d hd
        have hj' : ops[j]? = some oj := by rw [getL_eq, Array.getElem?_toList] at hj; exact hj
        have hy : yielded ops a.tmps j = match a.tmps[d]? with | some (.bool b) => some b | _ => none := by
          unfold yielded; rw [hj']; simp only [Option.bind_some, hd]; rfl
        have hfd := t.f d
        have getIt : ∀ {v : Value}, a.tmps.getD d undef = v → v ≠ undef → a.tmps[d]? = some v := by
          intro v hv hne
          rw [Array.getD_eq_getD_getElem?] at hv
          cases hx : a.tmps[d]? with
          | none => rw [hx] at hv; exact absurd hv.symm hne
          | some u => rw [hx] at hv; simp only [Option.getD_some] at hv; rw [hv]
        rw [hw, hy]
        split at e
        · rename_i b hb
          cases e
          rw [hb] at hfd; simp only [Den] at hfd
          rw [getIt hfd (by simp [undef])]
          cases b <;> cases want <;> rfl
        · rename_i g' b hb
          cases e
          rw [hb] at hfd
          cases g' with
          | true =>
            simp only [Den] at hfd
            rw [getIt hfd (by simp [undef])]
            cases b <;> cases want <;> rfl
          | false =>
            simp only [Den] at hfd
            rw [Array.getD_eq_getD_getElem?] at hfd
            cases hx : a.tmps[d]? with
            | none => rfl
            | some u => rw [hx] at hfd; simp only [Option.getD_some] at hfd; subst hfd; rfl
        · rename_i hv1 hv2
          split at e
          · rename_i hun
            cases e
            have hun' : ∃ vs, getSl F.sl d = .cv (.tuple vs) ∧ vs.isEmpty = true := by
              generalize getSl F.sl d = v at hun
              unfold isUndef at hun
              split at hun
              · rename_i vs; exact ⟨vs, rfl, hun⟩
              · cases hun
            obtain ⟨vs, h1, h2⟩ := hun'
            rw [h1] at hfd; simp only [Den] at hfd
            rw [Array.getD_eq_getD_getElem?] at hfd
            cases hx : a.tmps[d]? with
            | none => rfl
            | some u => rw [hx] at hfd; simp only [Option.getD_some] at hfd; subst hfd; rfl
          · cases e
      · cases e
    · cases e

theorem preUs_get {g : Bool} {sl : List SV} : ∀ {l : List Nat}, conj (preUs g sl l) → ∀ i ∈ l, conj (unwPre g (getSl sl i))
  | [], _, i, hi => by simp at hi
  | j :: r, h, i, hi => by
    simp only [preUs, conj_append] at h
    rcases List.mem_cons.1 hi with rfl | hi
    · exact h.1
    · exact preUs_get h.2 i hi

theorem FD_unw (f : FD A env w (getSl F.sl) a) {l : List Nat} (hp : conj (preUs true F.sl l)) :
    FD A env w (fun i => match memN i l with | true => unw (getSl F.sl i) | false => getSl F.sl i) a := by
  intro i
  show Den A env w (match memN i l with | true => unw (getSl F.sl i) | false => getSl F.sl i) _
  cases hm : memN i l with
  | false => exact f i
  | true =>
    have := preUs_get hp i (memN_iff.1 hm)
    have hf := f i
    show Den A env w (unw (getSl F.sl i)) _
    generalize getSl F.sl i = v at *
    cases v with
    | opt b v =>
      have hb : b = true := by simpa [unwPre, conj] using this
      subst hb
      simpa only [unw, Den] using hf
    | _ => exact hf

theorem pack_spec {l : List Prop} {g : Bool} (h : conj (pack l g)) (hg : g = true) : conj l := by
  cases l with
  | nil => trivial
  | cons p l => simp only [pack, conj, and_true] at h; exact h hg

/-- **One operation.** -/
theorem sdl_sound (hs : SpecsOK P sp ∧ N0.g = sp.gl) (t : Fits w0 N0 A env F a w) {ops : Array Oper} (e : (sdl P sp ops.toList o F.sl).run F.h = some (st, r)) (hp : st.pre) :
    (∃ F', Out st o.dst F F' ∧ ∃ A' env' a' w', Fits w0 N0 A' env' F' a' w' ∧ Ext A env w A' env' w') ∧
    ∀ (K : Act → World → Prop) (Q' : Exit → Act → World → Prop), (∀ F' A' env' a' w', Out st o.dst F F' → Fits w0 N0 A' env' F' a' w' → Ext A env w A' env' w' → K a' w') →
      if Region.wanted o (yielded ops a.tmps) then o.wp P a w K Q' ∨ (o.asks P a w ∧ LetsOut Q') else K (a.put o.dst undef) w := by
  unfold sdl at e
  split at e
  · rename_i hg
    obtain ⟨d, r1, r2, e1, e2, rfl⟩ := Q.run_bind _ _ _ e
    simp only [Q.run, Option.some.injEq, Prod.mk.injEq] at e2
    obtain ⟨rfl, rfl⟩ := e2
    obtain ⟨⟨v, w', g⟩, hst⟩ := step_sound hs t.m t.f e1 hp
    have hgn : o.guard = none := by
      unfold guardV at hg
      split at hg
      · assumption
      · split at hg
        · split at hg
          · split at hg
            · cases hg
            · cases hg
            · split at hg <;> cases hg
          · cases hg
        · cases hg
    refine ⟨?_, fun K Q' hK => ?_⟩
    · obtain ⟨x, A', env', hR, t', x'⟩ := t.app g o.dst
      exact ⟨_, ⟨x, hR, rfl⟩, A', env', _, _, t', x'⟩
    · rw [wanted_none a hgn]
      refine .inl (hst K Q' fun v w' g => ?_)
      obtain ⟨x, A', env', hR, t', x'⟩ := t.app g o.dst
      exact hK _ _ _ _ _ ⟨x, hR, rfl⟩ t' x'
  · rename_i g hg
    have hwant := guardV_spec t hg
    split at e
    · simp only [Q.run, Option.some.injEq, Prod.mk.injEq] at e
      obtain ⟨rfl, rfl⟩ := e
      simp only [Stp.pre, Dl.pre, conj, and_true] at hp
      rw [hwant]
      subst hp
      have gd : Good w0 N0 A env F.h w (.det [false = false] (.cv undef) []) undef w :=
        ⟨(), A, env, trivial, t.m, Ext.refl, by simp only [Dl.val, Den]⟩
      obtain ⟨x, A', env', hR, t', x'⟩ := t.app gd o.dst
      refine ⟨⟨_, ⟨x, hR, rfl⟩, A', env', _, _, t', x'⟩, fun K Q' hK => ?_⟩
      rw [if_neg (by simp)]
      exact hK _ _ _ _ _ ⟨x, hR, rfl⟩ t' x'
    obtain ⟨d, r1, r2, e1, e2, rfl⟩ := Q.run_bind _ _ _ e
    rw [hwant]
    -- carried out as written
    have yes : g = true → conj (preUs g F.sl (unwSlots o)) → conj d.pre → (∃ v w', Good w0 N0 A env F.h w d v w') ∧ Steps1 P o a w0 N0 A env F.h w d := by
      rintro rfl h1 h2
      exact step_sound hs t.m (FD_unw t.f h1) e1 h2
    have splitCase : ∀ d', st = .split g d' → d'.X = d.X → (∀ (h1 : conj d'.pre), conj (preUs g F.sl (unwSlots o)) ∧ conj d.pre) →
        (∀ v w', Good w0 N0 A env F.h w d v w' → Good w0 N0 A env F.h w d' v w') →
        (∃ F', Out st o.dst F F' ∧ ∃ A' env' a' w', Fits w0 N0 A' env' F' a' w' ∧ Ext A env w A' env' w') ∧
        ∀ (K : Act → World → Prop) (Q' : Exit → Act → World → Prop), (∀ F' A' env' a' w', Out st o.dst F F' → Fits w0 N0 A' env' F' a' w' → Ext A env w A' env' w' → K a' w') →
          if g = true then o.wp P a w K Q' ∨ (o.asks P a w ∧ LetsOut Q') else K (a.put o.dst undef) w := by
      rintro d' rfl _ hpre hgood
      cases g with
      | true =>
        obtain ⟨h1, h2⟩ := hpre (hp rfl)
        obtain ⟨⟨v, w', gd⟩, hst⟩ := yes rfl h1 h2
        refine ⟨?_, fun K Q' hK => ?_⟩
        · obtain ⟨x, A', env', hR, t', x'⟩ := t.app (hgood _ _ gd) o.dst
          exact ⟨_, .inl ⟨rfl, x, hR, rfl⟩, A', env', _, _, t', x'⟩
        · rw [if_pos rfl]
          refine .inl (hst K Q' fun v w' gd => ?_)
          obtain ⟨x, A', env', hR, t', x'⟩ := t.app (hgood _ _ gd) o.dst
          exact hK _ _ _ _ _ (.inl ⟨rfl, x, hR, rfl⟩) t' x'
      | false =>
        refine ⟨⟨_, .inr ⟨rfl, rfl⟩, A, env, _, _, t.skip o.dst, Ext.refl⟩, fun K Q' hK => ?_⟩
        rw [if_neg (by simp)]
        exact hK _ _ _ _ _ (.inr ⟨rfl, rfl⟩) (t.skip o.dst) Ext.refl
    unfold wrapG at e2
    split at e2
    · rename_i pre v
      simp only [Q.run, Option.some.injEq, Prod.mk.injEq] at e2
      obtain ⟨rfl, rfl⟩ := e2
      simp only [Stp.pre, Dl.pre] at hp
      cases g with
      | true =>
        have h12 := pack_spec hp rfl
        rw [conj_append] at h12
        obtain ⟨⟨u, w', gd⟩, hst⟩ := yes rfl h12.1 h12.2
        have conv : ∀ u w', Good w0 N0 A env F.h w (.det pre v []) u w' → Good w0 N0 A env F.h w (.det (pack (preUs true F.sl (unwSlots o) ++ pre) true) (.opt true v) []) u w' := by
          rintro u w' ⟨x, A', env', hR, m', x', hd⟩
          exact ⟨(), A', env', trivial, m', x', by simpa only [Dl.val, Den] using hd⟩
        refine ⟨?_, fun K Q' hK => ?_⟩
        · obtain ⟨x, A', env', hR, t', x'⟩ := t.app (conv _ _ gd) o.dst
          exact ⟨_, ⟨x, hR, rfl⟩, A', env', _, _, t', x'⟩
        · rw [if_pos rfl]
          refine .inl (hst K Q' fun v w' gd => ?_)
          obtain ⟨x, A', env', hR, t', x'⟩ := t.app (conv _ _ gd) o.dst
          exact hK _ _ _ _ _ ⟨x, hR, rfl⟩ t' x'
      | false =>
        have gd : Good w0 N0 A env F.h w (.det (pack (preUs false F.sl (unwSlots o) ++ pre) false) (.opt false v) []) undef w :=
          ⟨(), A, env, trivial, t.m, Ext.refl, by simp only [Dl.val, Den]⟩
        obtain ⟨x, A', env', hR, t', x'⟩ := t.app gd o.dst
        refine ⟨⟨_, ⟨x, hR, rfl⟩, A', env', _, _, t', x'⟩, fun K Q' hK => ?_⟩
        rw [if_neg (by simp)]
        exact hK _ _ _ _ _ ⟨x, hR, rfl⟩ t' x'
    · rename_i pre v upd _
      simp only [Q.run, Option.some.injEq, Prod.mk.injEq] at e2
      obtain ⟨rfl, rfl⟩ := e2
      exact splitCase _ rfl rfl (fun h1 => by simpa only [Dl.pre, conj_append] using h1) (fun u w' ⟨x, A', env', hR, m', x', hd⟩ => ⟨(), A', env', trivial, m', x', hd⟩)
    · rename_i X pre R inh v upd
      simp only [Q.run, Option.some.injEq, Prod.mk.injEq] at e2
      obtain ⟨rfl, rfl⟩ := e2
      exact splitCase _ rfl rfl (fun h1 => by simpa only [Dl.pre, conj_append] using h1) (fun u w' ⟨x, A', env', hR, m', x', hd⟩ => ⟨x, A', env', hR, m', x', hd⟩)
  · cases e
end
end Go.SX
