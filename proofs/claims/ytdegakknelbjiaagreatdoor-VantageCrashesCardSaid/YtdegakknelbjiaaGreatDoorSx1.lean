/- The symbolic executor SX, part 1: data types, symbolic values, what they denote in a world, and how that is kept when the world grows. -/
import Derived.WalkKit
import Derived.LoopTactic
import Derived.Deep.LoopGhost
namespace Go.SX
set_option linter.unusedVariables false

/-- Types of data: one cell (int, bool, string, slice of immutable data) or two parts laid one after the other. -/
inductive CT where
  | int (k : IntKind)
  | bool
  | str
  | sl (t : CT)
  | pair (a b : CT)
  deriving DecidableEq

/-- The data of a type. -/
@[reducible] def CT.D : CT → Type
  | .int _ => Int
  | .bool => Bool
  | .str => ByteArray
  | .sl t => List t.D
  | .pair a b => a.D × b.D

/-- The number of cells. -/
def CT.size : CT → Nat
  | .pair a b => a.size + b.size
  | _ => 1

theorem CT.size_pos (t : CT) : 0 < t.size := by
  induction t with
  | pair a b iha ihb => simp only [CT.size]; omega
  | _ => simp [CT.size]

def CT.dflt : (t : CT) → t.D
  | .int _ => (0 : Int)
  | .bool => false
  | .str => ByteArray.empty
  | .sl _ => []
  | .pair a b => (a.dflt, b.dflt)

/-- Element i of a list of data. -/
def elem (t : CT) (xs : List t.D) (i : Nat) : t.D := xs.getD i t.dflt

/-- What every datum that a program holds fulfils. -/
def CT.wf : (t : CT) → t.D → Prop
  | .int k, n => k.has n
  | .bool, _ => True
  | .str, s => s.size ≤ maxLen
  | .sl t, xs => xs.length ≤ maxLen ∧ ∀ x ∈ xs, t.wf x
  | .pair a b, d => a.wf d.1 ∧ b.wf d.2

/-- Symbolic values. -/
inductive SV where
  | int (k : IntKind) (n : Int)
  | bool (b : Bool)
  | str (s : ByteArray)
  | dsl (t : CT) (xs : List t.D)
  | dsx (t : CT) (xs : List t.D)
  | nilsl
  | own (n sz : Nat)
  | ptr (n off : Nat)
  | eptr (n sz i off : Nat)
  | dptr (t : CT) (d : t.D) (off : Nat)
  | nilp
  | fn (f : FuncId) (caps : List SV)
  | agg (cs : List SV)
  | tup (cs : List SV)
  | opt (b : Bool) (v : SV)
  | cv (v : Value)
  | gl (g : Nat)
  | junk

/-- Named blocks: cells of a variable; a row that a slice of the call's own owns; a row that is immutable from now on. -/
inductive Blk where
  | cells (E : TypeId) (cs : List SV)
  | row (E : TypeId) (t : CT) (xs : List t.D)
  | frz (E : TypeId) (t : CT) (xs : List t.D)

def Blk.mut : Blk → Bool
  | .frz .. => false
  | _ => true

/-- What is known of a name. -/
inductive Nm where
  | un
  | dead
  | live (b : Blk)

/-- Which block a name stands for. -/
inductive Ev where
  | un
  | nil
  | blk (b len : Nat)
  deriving DecidableEq

abbrev Heap := Nat → Nm
abbrev Env := Nat → Ev

/-! ### Reading immutable data -/
/-- The cells from 'o' on, got by 'cv', read as the datum. 'A': the immutable blocks. -/
def Rd (A : Nat → Prop) (w : World) : (t : CT) → (Nat → Option Value) → Nat → t.D → Prop
  | .int k, cv, o, n => cv o = some (.int k n) ∧ k.has n
  | .bool, cv, o, b => cv o = some (.bool b)
  | .str, cv, o, s => cv o = some (.string s) ∧ s.size ≤ maxLen
  | .sl t, cv, o, xs => ∃ v, cv o = some v ∧ xs.length ≤ maxLen ∧ (((∃ a, v = .slice a 0 0) ∧ xs = []) ∨
      ∃ b off cap, v = .slice (some ⟨b, off, none⟩) xs.length cap ∧ xs.length ≤ cap ∧ cap ≤ maxLen ∧ A b ∧
        ∀ i (h : i < xs.length), Rd A w t (fun o => w.cell? ⟨b, o, none⟩) (off + i * t.size) xs[i])
  | .pair a b, cv, o, d => Rd A w a cv o d.1 ∧ Rd A w b cv (o + a.size) d.2

/-- A slice value that reads as immutable data. -/
def RdSl (A : Nat → Prop) (w : World) (t : CT) (v : Value) (xs : List t.D) : Prop :=
  xs.length ≤ maxLen ∧ (((∃ a, v = .slice a 0 0) ∧ xs = []) ∨
    ∃ b off cap, v = .slice (some ⟨b, off, none⟩) xs.length cap ∧ xs.length ≤ cap ∧ cap ≤ maxLen ∧ A b ∧
      ∀ i (h : i < xs.length), Rd A w t (fun o => w.cell? ⟨b, o, none⟩) (off + i * t.size) xs[i])

theorem Rd_sl {A : Nat → Prop} {w : World} {t : CT} {cv : Nat → Option Value} {o : Nat} {xs : List t.D} :
    Rd A w (.sl t) cv o xs ↔ ∃ v, cv o = some v ∧ RdSl A w t v xs := Iff.rfl

/-- What the cells read as depends on them and on the immutable blocks alone. -/
theorem Rd_mono {A A' : Nat → Prop} {w w' : World} (hA : ∀ b, A b → A' b) (hw : ∀ b o, A b → w'.cell? ⟨b, o, none⟩ = w.cell? ⟨b, o, none⟩) :
    ∀ (t : CT) (cv cv' : Nat → Option Value) (o : Nat) (d : t.D), (∀ j, j < t.size → cv' (o + j) = cv (o + j)) → Rd A w t cv o d → Rd A' w' t cv' o d := by
  intro t
  induction t with
  | int k => intro cv cv' o d hc h; have := hc 0 (by simp [CT.size]); simp only [Nat.add_zero] at this; simp only [Rd] at h ⊢; rw [this]; exact h
  | bool => intro cv cv' o d hc h; have := hc 0 (by simp [CT.size]); simp only [Nat.add_zero] at this; simp only [Rd] at h ⊢; rw [this]; exact h
  | str => intro cv cv' o d hc h; have := hc 0 (by simp [CT.size]); simp only [Nat.add_zero] at this; simp only [Rd] at h ⊢; rw [this]; exact h
  | sl t ih =>
    intro cv cv' o d hc h
    have := hc 0 (by simp [CT.size]); simp only [Nat.add_zero] at this
    simp only [Rd] at h ⊢; rw [this]
    obtain ⟨v, hv, hl, h⟩ := h
    refine ⟨v, hv, hl, ?_⟩
    rcases h with h | ⟨b, off, cap, rfl, h1, h2, h3, h4⟩
    · exact .inl h
    · exact .inr ⟨b, off, cap, rfl, h1, h2, hA b h3, fun i hi => ih _ _ _ _ (fun j _ => hw b _ h3) (h4 i hi)⟩
  | pair a b iha ihb =>
    intro cv cv' o d hc h
    refine ⟨iha _ _ _ _ (fun j hj => hc j (by simp only [CT.size]; omega)) h.1, ihb _ _ _ _ (fun j hj => ?_) h.2⟩
    have := hc (a.size + j) (by simp only [CT.size]; omega)
    simpa [Nat.add_assoc] using this

theorem Rd_wf {A : Nat → Prop} {w : World} : ∀ (t : CT) (cv : Nat → Option Value) (o : Nat) (d : t.D), Rd A w t cv o d → t.wf d := by
  intro t
  induction t with
  | int k => intro cv o d h; exact h.2
  | bool => intro cv o d h; trivial
  | str => intro cv o d h; exact h.2
  | sl t ih =>
    intro cv o d h
    obtain ⟨v, hv, hl, h⟩ := h
    refine ⟨hl, ?_⟩
    rcases h with ⟨_, rfl⟩ | ⟨b, off, cap, _, _, _, _, h4⟩
    · intro x hx; simp at hx
    · intro x hx
      obtain ⟨i, hi, rfl⟩ := List.mem_iff_getElem.1 hx
      exact ih _ _ _ (h4 i hi)
  | pair a b iha ihb => intro cv o d h; exact ⟨iha _ _ _ h.1, ihb _ _ _ h.2⟩

/-! ### What a symbolic value denotes -/
mutual
def Den (A : Nat → Prop) (env : Env) (w : World) : SV → Value → Prop
  | .int k n, v => v = .int k n ∧ k.has n
  | .bool b, v => v = .bool b
  | .str s, v => v = .string s ∧ s.size ≤ maxLen
  | .dsl t xs, v => RdSl A w t v xs
  | .nilsl, v => v = .slice none 0 0
  | .dsx t xs, v => RdSl A w t v xs ∧ ∃ a, v = .slice a xs.length xs.length
  | .own n sz, v => (env n = .nil ∧ ∃ a, v = .slice a 0 0) ∨ ∃ b len E c, env n = .blk b len ∧ w.shape? b = some (E, c) ∧ v = .slice (some ⟨b, 0, none⟩) len (c / sz)
  | .ptr n off, v => ∃ b len, env n = .blk b len ∧ v = .pointer (some ⟨b, off, none⟩)
  | .eptr n sz i off, v => ∃ b len, env n = .blk b len ∧ i < len ∧ v = .pointer (some ⟨b, i * sz + off, none⟩)
  | .dptr t d off, v => ∃ b o, v = .pointer (some ⟨b, o + off, none⟩) ∧ A b ∧ Rd A w t (fun o => w.cell? ⟨b, o, none⟩) o d
  | .nilp, v => v = .pointer none
  | .fn f caps, v => ∃ vs, v = .func (.func f) #[] vs ∧ DenL A env w caps vs.toList
  | .agg cs, v => ∃ vs, v = .agg vs ∧ DenL A env w cs vs.toList
  | .tup cs, v => ∃ vs, v = .tuple vs ∧ DenL A env w cs vs.toList
  | .opt b s, v => match b with | true => Den A env w s v | false => v = undef
  | .cv x, v => v = x
  | .gl g, v => v = .pointer (some ⟨g, 0, none⟩)
  | .junk, _ => True
def DenL (A : Nat → Prop) (env : Env) (w : World) : List SV → List Value → Prop
  | [], vs => vs = []
  | s :: ss, vs => ∃ v r, vs = v :: r ∧ Den A env w s v ∧ DenL A env w ss r
end

/-- From one world to a later one: nothing immutable has changed, no block has changed its shape. -/
structure Ext (A : Nat → Prop) (env : Env) (w : World) (A' : Nat → Prop) (env' : Env) (w' : World) : Prop where
  imm : ∀ b, A b → A' b
  envb : ∀ n b l, env n = .blk b l → env' n = .blk b l
  envn : ∀ n, env n = .nil → env' n = .nil
  keep : ∀ b o, A b → w'.cell? ⟨b, o, none⟩ = w.cell? ⟨b, o, none⟩
  shape : ∀ b s, w.shape? b = some s → w'.shape? b = some s

theorem Ext.refl {A : Nat → Prop} {env : Env} {w : World} : Ext A env w A env w := ⟨fun _ h => h, fun _ _ _ h => h, fun _ h => h, fun _ _ _ => rfl, fun _ _ h => h⟩

theorem Ext.trans {A A' A'' : Nat → Prop} {env env' env'' : Env} {w w' w'' : World} (h : Ext A env w A' env' w') (k : Ext A' env' w' A'' env'' w'') : Ext A env w A'' env'' w'' :=
  ⟨fun b hb => k.imm b (h.imm b hb), fun n b l e => k.envb n b l (h.envb n b l e), fun n e => k.envn n (h.envn n e),
   fun b o hb => (k.keep b o (h.imm b hb)).trans (h.keep b o hb), fun b s e => k.shape b s (h.shape b s e)⟩

theorem RdSl_mono {A A' : Nat → Prop} {w w' : World} (hA : ∀ b, A b → A' b) (hw : ∀ b o, A b → w'.cell? ⟨b, o, none⟩ = w.cell? ⟨b, o, none⟩)
    {t : CT} {v : Value} {xs : List t.D} (h : RdSl A w t v xs) : RdSl A' w' t v xs := by
  have := Rd_mono hA hw (.sl t) (fun _ => some v) (fun _ => some v) 0 xs (fun _ _ => rfl) ⟨v, rfl, h⟩
  obtain ⟨v', hv, h'⟩ := this
  cases hv
  exact h'

mutual
theorem Den_mono {A A' : Nat → Prop} {env env' : Env} {w w' : World} (x : Ext A env w A' env' w') : ∀ (s : SV) (v : Value), Den A env w s v → Den A' env' w' s v
  | .int k n, v, h => by simp only [Den] at h ⊢; exact h
  | .bool b, v, h => by simp only [Den] at h ⊢; exact h
  | .str s, v, h => by simp only [Den] at h ⊢; exact h
  | .dsl t xs, v, h => by simp only [Den] at h ⊢; exact RdSl_mono x.imm x.keep h
  | .nilsl, v, h => by simp only [Den] at h ⊢; exact h
  | .dsx t xs, v, h => by simp only [Den] at h ⊢; exact ⟨RdSl_mono x.imm x.keep h.1, h.2⟩
  | .own n sz, v, h => by
    simp only [Den] at h ⊢
    rcases h with ⟨h1, h2⟩ | ⟨b, len, E, c, h1, h2, h3⟩
    · exact .inl ⟨x.envn _ h1, h2⟩
    · exact .inr ⟨b, len, E, c, x.envb _ _ _ h1, x.shape _ _ h2, h3⟩
  | .ptr n off, v, h => by simp only [Den] at h ⊢; obtain ⟨b, len, h1, h2⟩ := h; exact ⟨b, len, x.envb _ _ _ h1, h2⟩
  | .eptr n sz i off, v, h => by simp only [Den] at h ⊢; obtain ⟨b, len, h1, h2⟩ := h; exact ⟨b, len, x.envb _ _ _ h1, h2⟩
  | .dptr t d off, v, h => by
    simp only [Den] at h ⊢
    obtain ⟨b, o, h1, h2, h3⟩ := h
    exact ⟨b, o, h1, x.imm _ h2, Rd_mono x.imm x.keep t _ _ _ _ (fun j _ => x.keep _ _ h2) h3⟩
  | .nilp, v, h => by simp only [Den] at h ⊢; exact h
  | .fn f caps, v, h => by simp only [Den] at h ⊢; obtain ⟨vs, h1, h2⟩ := h; exact ⟨vs, h1, DenL_mono x caps _ h2⟩
  | .agg cs, v, h => by simp only [Den] at h ⊢; obtain ⟨vs, h1, h2⟩ := h; exact ⟨vs, h1, DenL_mono x cs _ h2⟩
  | .tup cs, v, h => by simp only [Den] at h ⊢; obtain ⟨vs, h1, h2⟩ := h; exact ⟨vs, h1, DenL_mono x cs _ h2⟩
  | .opt b s, v, h => by
    cases b with
    | true => simp only [Den] at h ⊢; exact Den_mono x s v h
    | false => simp only [Den] at h ⊢; exact h
  | .cv y, v, h => by simp only [Den] at h ⊢; exact h
  | .gl g, v, h => by simp only [Den] at h ⊢; exact h
  | .junk, v, h => by simp only [Den]
theorem DenL_mono {A A' : Nat → Prop} {env env' : Env} {w w' : World} (x : Ext A env w A' env' w') : ∀ (ss : List SV) (vs : List Value), DenL A env w ss vs → DenL A' env' w' ss vs
  | [], vs, h => by simp only [DenL] at h ⊢; exact h
  | s :: ss, vs, h => by
    simp only [DenL] at h ⊢
    obtain ⟨v, r, h1, h2, h3⟩ := h
    exact ⟨v, r, h1, Den_mono x s v h2, DenL_mono x ss r h3⟩
end

theorem DenL_length {A : Nat → Prop} {env : Env} {w : World} : ∀ {ss : List SV} {vs : List Value}, DenL A env w ss vs → vs.length = ss.length
  | [], vs, h => by simp only [DenL] at h; simp [h]
  | s :: ss, vs, h => by
    simp only [DenL] at h
    obtain ⟨v, r, rfl, _, h3⟩ := h
    simp [DenL_length h3]

theorem DenL_get {A : Nat → Prop} {env : Env} {w : World} : ∀ {ss : List SV} {vs : List Value} (i : Nat) (s : SV) , DenL A env w ss vs → ss[i]? = some s → ∃ v, vs[i]? = some v ∧ Den A env w s v
  | [], vs, i, s, h, hi => by simp at hi
  | s0 :: ss, vs, i, s, h, hi => by
    simp only [DenL] at h
    obtain ⟨v, r, rfl, h2, h3⟩ := h
    cases i with
    | zero => simp at hi; subst hi; exact ⟨v, by simp, h2⟩
    | succ i =>
      obtain ⟨u, hu, hd⟩ := DenL_get i s h3 (by simpa using hi)
      exact ⟨u, by simpa using hu, hd⟩

theorem DenL_append {A : Nat → Prop} {env : Env} {w : World} : ∀ {ss tt : List SV} {vs us : List Value}, DenL A env w ss vs → DenL A env w tt us → DenL A env w (ss ++ tt) (vs ++ us)
  | [], tt, vs, us, h, k => by simp only [DenL] at h; subst h; simpa using k
  | s :: ss, tt, vs, us, h, k => by
    simp only [DenL] at h
    obtain ⟨v, r, rfl, h2, h3⟩ := h
    simp only [List.cons_append, DenL]
    exact ⟨v, r ++ us, rfl, h2, DenL_append h3 k⟩

theorem DenL_split {A : Nat → Prop} {env : Env} {w : World} : ∀ {ss tt : List SV} {vs : List Value}, DenL A env w (ss ++ tt) vs → ∃ us rs, vs = us ++ rs ∧ DenL A env w ss us ∧ DenL A env w tt rs
  | [], tt, vs, h => ⟨[], vs, rfl, by simp [DenL], by simpa using h⟩
  | s :: ss, tt, vs, h => by
    simp only [List.cons_append, DenL] at h
    obtain ⟨v, r, rfl, h2, h3⟩ := h
    obtain ⟨us, rs, rfl, h4, h5⟩ := DenL_split h3
    exact ⟨v :: us, rs, rfl, by simp only [DenL]; exact ⟨v, us, rfl, h2, h4⟩, h5⟩

/-- Which denote exactly one cell, whatever it holds. -/
def SV.one : SV → Bool
  | .agg _ | .tup _ | .opt _ _ | .junk => false
  | .cv (.agg _) | .cv (.tuple _) => false
  | _ => true

theorem Den_one {A : Nat → Prop} {env : Env} {w : World} {s : SV} {v : Value} (h : Den A env w s v) (ho : s.one = true) : v.oneCell' = true := by
  cases s <;> simp only [SV.one, Bool.false_eq_true] at ho <;> simp only [Den] at h
  case int => rw [h.1]; rfl
  case bool => rw [h]; rfl
  case str => rw [h.1]; rfl
  case dsl => obtain ⟨_, ⟨⟨a, rfl⟩, _⟩ | ⟨b, off, cap, rfl, _⟩⟩ := h <;> rfl
  case dsx => obtain ⟨_, a, rfl⟩ := h; rfl
  case nilsl => rw [h]; rfl
  case own => rcases h with ⟨_, a, rfl⟩ | ⟨b, len, E, c, _, _, rfl⟩ <;> rfl
  case ptr => obtain ⟨b, len, _, rfl⟩ := h; rfl
  case eptr => obtain ⟨b, len, _, _, rfl⟩ := h; rfl
  case dptr => obtain ⟨b, off, rfl, _⟩ := h; rfl
  case nilp => rw [h]; rfl
  case fn => obtain ⟨vs, rfl, _⟩ := h; rfl
  case gl => rw [h]; rfl
  case cv x => rw [h]; cases x <;> first | rfl | simp_all

def allOne : List SV → Bool
  | [] => true
  | s :: ss => s.one && allOne ss

theorem DenL_one {A : Nat → Prop} {env : Env} {w : World} : ∀ {ss : List SV} {vs : List Value}, DenL A env w ss vs → allOne ss = true → ∀ v ∈ vs, v.oneCell' = true
  | [], vs, h, _ => by simp only [DenL] at h; subst h; simp
  | s :: ss, vs, h, ho => by
    simp only [DenL] at h
    obtain ⟨v, r, rfl, h2, h3⟩ := h
    simp only [allOne, Bool.and_eq_true] at ho
    intro u hu
    rcases List.mem_cons.1 hu with rfl | hu
    · exact Den_one h2 ho.1
    · exact DenL_one h3 ho.2 u hu

/-- The cells of a symbolic value. -/
def SV.cells : SV → List SV
  | .agg cs => cs
  | s => [s]

end Go.SX
