/- SX, part 19: a function's parameters. -/
import Derived.Test.YtdegakknelbjiaaGreatDoorSx18
namespace Go.SX
set_option linter.unusedVariables false

/-- What a variable holds: data; a slice that owns its row; one that owns it no longer at the end; a pointer to a variable. -/
inductive OT where
  | dat (t : CT)
  | row (E : TypeId) (t : CT)
  | rowg (E : TypeId) (t : CT)
  | ref (E : TypeId) (o : OT)
  | pair (a b : OT)
@[reducible] def OT.D : OT → Type
  | .dat t => t.D
  | .row _ t => List t.D
  | .rowg _ t => List t.D
  | .ref _ o => o.D
  | .pair a b => a.D × b.D
/-- At the end. -/
@[reducible] def OT.X : OT → Type
  | .dat t => t.D
  | .row _ t => List t.D
  | .rowg _ _ => Unit
  | .ref _ o => o.X
  | .pair a b => a.X × b.X
def OT.wf : (o : OT) → o.D → Prop
  | .dat t, d => t.wf d
  | .row _ t, d => d.length ≤ maxLen ∧ ∀ x ∈ d, t.wf x
  | .rowg _ t, d => d.length ≤ maxLen ∧ ∀ x ∈ d, t.wf x
  | .ref _ o, d => o.wf d
  | .pair a b, d => a.wf d.1 ∧ b.wf d.2
/-- How many variables behind pointers, rows at the beginning, rows at the end. -/
def OT.nb : OT → Nat
  | .ref _ o => o.nb + 1
  | .pair a b => a.nb + b.nb
  | _ => 0
def OT.nc : OT → Nat
  | .row _ _ => 1
  | .rowg _ _ => 1
  | .ref _ o => o.nc
  | .pair a b => a.nc + b.nc
  | _ => 0
def OT.nr : OT → Nat
  | .row _ _ => 1
  | .ref _ o => o.nr
  | .pair a b => a.nr + b.nr
  | _ => 0
instance : Coe CT OT := ⟨OT.dat⟩

/-- Kinds of parameters: one cell of data; a struct of data; a pointer to a variable that the function may change; a slice whose row it may change; one whose row it takes over. -/
inductive PK where
  | val (t : CT)
  | agg (t : CT)
  | box (E : TypeId) (o : OT)
  | row (E : TypeId) (t : CT)
  | own (E : TypeId) (t : CT)
  | fn (f : FuncId) (k : Nat)
  | nils

@[reducible] def PK.D : PK → Type
  | .val t => t.D
  | .agg t => t.D
  | .box _ o => o.D
  | .row _ t => List t.D
  | .own _ t => List t.D
  | .fn _ _ => Unit
  | .nils => Unit
@[reducible] def PDs : List PK → Type
  | [] => Unit
  | p :: r => p.D × PDs r
def PK.wf : (p : PK) → p.D → Prop
  | .val t, d => t.wf d
  | .agg t, d => t.wf d
  | .box _ o, d => o.wf d
  | .row _ t, d => d.length ≤ maxLen ∧ ∀ x ∈ d, t.wf x
  | .own _ t, d => d.length ≤ maxLen ∧ ∀ x ∈ d, t.wf x
  | .fn _ _, _ => True
  | .nils, _ => True
def wfP : (ps : List PK) → PDs ps → Prop
  | [], _ => True
  | p :: r, d => p.wf d.1 ∧ wfP r d.2

/-- For all data, its parts by themselves: of small data. -/
def allS : (t : CT) → (t.D → Prop) → Prop
  | .pair a b, k => allS a fun x => allS b fun y => k (x, y)
  | .int _, k => ∀ x : Int, k x
  | .bool, k => ∀ x : Bool, k x
  | .str, k => ∀ x : ByteArray, k x
  | .sl t, k => ∀ x : List t.D, k x
theorem allS_iff : ∀ {t : CT} {k : t.D → Prop}, allS t k ↔ ∀ d, k d
  | .pair a b, k => by
    simp only [allS, allS_iff (t := a), allS_iff (t := b)]
    exact ⟨fun h d => h d.1 d.2, fun h x y => h (x, y)⟩
  | .int _, k => Iff.rfl
  | .bool, k => Iff.rfl
  | .str, k => Iff.rfl
  | .sl t, k => Iff.rfl
def allD (t : CT) (k : t.D → Prop) : Prop := match Nat.ble t.size 6 with
  | true => allS t k
  | false => ∀ d : t.D, k d
theorem allD_iff {t : CT} {k : t.D → Prop} : allD t k ↔ ∀ d, k d := by
  unfold allD
  split
  · exact allS_iff
  · exact Iff.rfl
def allO : (o : OT) → (o.D → Prop) → Prop
  | .dat t, k => allD t k
  | .row _ t, k => ∀ x : List t.D, k x
  | .rowg _ t, k => ∀ x : List t.D, k x
  | .ref _ o, k => allO o k
  | .pair a b, k => allO a fun x => allO b fun y => k (x, y)
theorem allO_iff : ∀ {o : OT} {k : o.D → Prop}, allO o k ↔ ∀ d, k d
  | .dat t, k => allD_iff
  | .row _ t, k => Iff.rfl
  | .rowg _ t, k => Iff.rfl
  | .ref _ o, k => allO_iff (o := o)
  | .pair a b, k => by
    simp only [allO, allO_iff (o := a), allO_iff (o := b)]
    exact ⟨fun h d => h d.1 d.2, fun h x y => h (x, y)⟩
def PK.all : (p : PK) → (p.D → Prop) → Prop
  | .val t, k => allD t k
  | .agg t, k => allD t k
  | .box _ o, k => allO o k
  | .row _ t, k => ∀ x : List t.D, k x
  | .own _ t, k => ∀ x : List t.D, k x
  | .fn _ _, k => k ()
  | .nils, k => k ()
theorem PK.all_iff {p : PK} {k : p.D → Prop} : p.all k ↔ ∀ d, k d := by
  cases p <;> simp only [PK.all, allD_iff, allO_iff] <;> exact ⟨fun h _ => h, fun h => h ()⟩
def allP : (ps : List PK) → (PDs ps → Prop) → Prop
  | [], k => k ()
  | p :: r, k => p.all fun x => allP r fun y => k (x, y)
theorem allP_iff : ∀ {ps : List PK} {k : PDs ps → Prop}, allP ps k ↔ ∀ d, k d
  | [], k => ⟨fun h d => h, fun h => h ()⟩
  | p :: r, k => by
    simp only [allP, PK.all_iff, allP_iff (ps := r)]
    exact ⟨fun h d => h d.1 d.2, fun h x y => h (x, y)⟩

/-- A slice that owns its row, among cells. -/
def takeRow (E : TypeId) (t : CT) : List SV → Q (List t.D × List SV × Option Nat)
  | .own n sz :: r => .ask n fun
    | .live (.row E' t' xs) => match Nat.beq E E', Nat.beq sz t.size, castL t' t xs with
      | true, true, some ys => .ret (ys, r, some n)
      | _, _, _ => .fail
    | _ => .fail
  | .nilsl :: r => .ret ([], r, none)
  | _ => .fail
/-- What stands in a variable's cells: data; what is left; rows that must be immutable; the variables behind pointers; the rows. -/
def oMatch : (o : OT) → List SV → Q (o.D × List SV × List (Nat × Nm) × List Nat × List (Option Nat))
  | .dat t, cs => (projC t cs).bind fun p => .ret (p.1, p.2.1, p.2.2, [], [])
  | .row E t, cs => (takeRow E t cs).bind fun p => .ret (p.1, p.2.1, [], [], [p.2.2])
  | .rowg E t, cs => (takeRow E t cs).bind fun p => .ret (p.1, p.2.1, [], [], [p.2.2])
  | .ref E o, .ptr n 0 :: r => .ask n fun
    | .live (.cells E' cs) => match Nat.beq E E' with
      | true => (oMatch o cs).bind fun p => match p.2.1 with
        | [] => .ret (p.1, r, p.2.2.1, n :: p.2.2.2.1, p.2.2.2.2)
        | _ => .fail
      | false => .fail
    | _ => .fail
  | .ref _ _, _ => .fail
  | .pair a b, cs => (oMatch a cs).bind fun p => (oMatch b p.2.1).bind fun q => .ret ((p.1, q.1), q.2.1, p.2.2.1 ++ q.2.2.1, p.2.2.2.1 ++ q.2.2.2.1, p.2.2.2.2 ++ q.2.2.2.2)

/-- The same in the callee's view. -/
def oCells : (o : OT) → o.D → Nat → Nat → List SV
  | .dat t, d, _, _ => flat t d
  | .row _ t, _, _, i => [.own (QN + i) t.size]
  | .rowg _ t, _, _, i => [.own (QN + i) t.size]
  | .ref _ _, _, j, _ => [.ptr (PN + j) 0]
  | .pair a b, d, j, i => oCells a d.1 j i ++ oCells b d.2 (j + a.nb) (i + a.nc)
def oBox : (o : OT) → o.D → Nat → Nat → List (Nat × Nm)
  | .dat _, _, _, _ => []
  | .row _ _, _, _, _ => []
  | .rowg _ _, _, _, _ => []
  | .ref E o, d, j, i => (PN + j, .live (.cells E (oCells o d (j + 1) i))) :: oBox o d (j + 1) i
  | .pair a b, d, j, i => oBox a d.1 j i ++ oBox b d.2 (j + a.nb) (i + a.nc)
def oCon : (o : OT) → o.D → Nat → List (Nat × Nm)
  | .dat _, _, _ => []
  | .row E t, xs, i => [(QN + i, .live (.row E t xs))]
  | .rowg E t, xs, i => [(QN + i, .live (.row E t xs))]
  | .ref _ o, d, i => oCon o d i
  | .pair a b, d, i => oCon a d.1 i ++ oCon b d.2 (i + a.nc)

def val1 (t : CT) (d : t.D) : SV := match flat t d with
  | [s] => s
  | _ => .junk
/-- The data of the arguments; rows that must be immutable while the callee runs; the blocks that it may change; the rows that it takes over. -/
def matchArgs : (ps : List PK) → List SV → Q (PDs ps × List (Nat × Nm) × List Nat × List (Option Nat))
  | [], [] => .ret ((), [], [], [])
  | .val t :: ps, v :: vs => (projC t [v]).bind fun p => match p.2.1 with
    | [] => (matchArgs ps vs).bind fun q => .ret ((p.1, q.1), p.2.2 ++ q.2.1, q.2.2)
    | _ => .fail
  | .agg t :: ps, .agg cs :: vs => (projC t cs).bind fun p => match p.2.1 with
    | [] => (matchArgs ps vs).bind fun q => .ret ((p.1, q.1), p.2.2 ++ q.2.1, q.2.2)
    | _ => .fail
  | .nils :: ps, .nilsl :: vs => (matchArgs ps vs).bind fun q => .ret (((), q.1), q.2)
  | .fn f k :: ps, .fn g cs :: vs => match Nat.beq f g, Nat.beq cs.length k with
    | true, true => (matchArgs ps (cs ++ vs)).bind fun q => .ret (((), q.1), q.2)
    | _, _ => .fail
  | .box E o :: ps, .ptr n 0 :: vs => .ask n fun
    | .live (.cells E' cs) => match Nat.beq E E' with
      | true => (oMatch o cs).bind fun p => match p.2.1 with
        | [] => (matchArgs ps vs).bind fun q => .ret ((p.1, q.1), p.2.2.1 ++ q.2.1, n :: (p.2.2.2.1 ++ q.2.2.1), p.2.2.2.2 ++ q.2.2.2)
        | _ => .fail
      | false => .fail
    | _ => .fail
  | .row E t :: ps, .own n sz :: vs => .ask n fun
    | .live (.row E' t' xs) => match Nat.beq E E', Nat.beq sz t.size, castL t' t xs with
      | true, true, some ys => (matchArgs ps vs).bind fun q => .ret ((ys, q.1), q.2.1, n :: q.2.2.1, q.2.2.2)
      | _, _, _ => .fail
    | _ => .fail
  | .own E t :: ps, v :: vs => (takeRow E t [v]).bind fun p => (matchArgs ps vs).bind fun q => .ret ((p.1, q.1), q.2.1, q.2.2.1, p.2.2 :: q.2.2.2)
  | _, _ => .fail

/-- The callee's view. -/
def argsOf : (ps : List PK) → PDs ps → Nat → Nat → List SV
  | [], _, _, _ => []
  | .val t :: ps, d, j, i => val1 t d.1 :: argsOf ps d.2 j i
  | .agg t :: ps, d, j, i => .agg (flat t d.1) :: argsOf ps d.2 j i
  | .box E o :: ps, d, j, i => .ptr (PN + j) 0 :: argsOf ps d.2 (j + 1 + o.nb) (i + o.nc)
  | .row E t :: ps, d, j, i => .own (PN + j) t.size :: argsOf ps d.2 (j + 1) i
  | .own E t :: ps, d, j, i => .own (QN + i) t.size :: argsOf ps d.2 j (i + 1)
  | .fn f k :: ps, d, j, i => .fn f ((argsOf ps d.2 j i).take k) :: (argsOf ps d.2 j i).drop k
  | .nils :: ps, d, j, i => .nilsl :: argsOf ps d.2 j i
def boxesOf : (ps : List PK) → PDs ps → Nat → Nat → List (Nat × Nm)
  | [], _, _, _ => []
  | .val t :: ps, d, j, i => boxesOf ps d.2 j i
  | .agg t :: ps, d, j, i => boxesOf ps d.2 j i
  | .box E o :: ps, d, j, i => (PN + j, .live (.cells E (oCells o d.1 (j + 1) i))) :: (oBox o d.1 (j + 1) i ++ boxesOf ps d.2 (j + 1 + o.nb) (i + o.nc))
  | .row E t :: ps, d, j, i => (PN + j, .live (.row E t d.1)) :: boxesOf ps d.2 (j + 1) i
  | .own E t :: ps, d, j, i => boxesOf ps d.2 j (i + 1)
  | .fn f k :: ps, d, j, i => boxesOf ps d.2 j i
  | .nils :: ps, d, j, i => boxesOf ps d.2 j i
def consOf : (ps : List PK) → PDs ps → Nat → List (Nat × Nm)
  | [], _, _ => []
  | .val t :: ps, d, i => consOf ps d.2 i
  | .agg t :: ps, d, i => consOf ps d.2 i
  | .box E o :: ps, d, i => oCon o d.1 i ++ consOf ps d.2 (i + o.nc)
  | .row E t :: ps, d, i => consOf ps d.2 i
  | .own E t :: ps, d, i => (QN + i, .live (.row E t d.1)) :: consOf ps d.2 (i + 1)
  | .fn f k :: ps, d, i => consOf ps d.2 i
  | .nils :: ps, d, i => consOf ps d.2 i

def evOf (env : Env) : Option Nat → Ev
  | some m => env m
  | none => .nil

section
variable {w0 : World} {N0 : Old} {A Ac : Nat → Prop} {env envc : Env} {h : Heap} {w : World}

/-- Names of one view ('l', from 'n' on) stand for names of another one. -/
def LinkOK (A' : Nat → Prop) (env0 : Env) (h0 : Heap) (e' : Env) (w : World) : List (Option Nat) → List (Nat × Nm) → Nat → Prop
  | [], [], _ => True
  | o :: os, (m, x) :: l, n => (m = n ∧ ∃ b', x = .live b' ∧ b'.mut = true ∧ ((∃ q b, o = some q ∧ h0 q = .live b ∧ b.mut = true ∧ (∀ k len, env0 q = .blk k len → BlkDen A' e' w k len b') ∧ (env0 q = .nil → ∃ E t, b' = .row E t [])) ∨ (o = none ∧ ∃ E t, b' = .row E t []))) ∧ LinkOK A' env0 h0 e' w os l (n + 1)
  | _, _, _ => False

theorem LinkOK.append {A' : Nat → Prop} {env0 : Env} {h0 : Heap} {e' : Env} : ∀ {os os' : List (Option Nat)} {l l' : List (Nat × Nm)} {n : Nat}, LinkOK A' env0 h0 e' w os l n → LinkOK A' env0 h0 e' w os' l' (n + os.length) → LinkOK A' env0 h0 e' w (os ++ os') (l ++ l') n
  | [], os', [], l', n, _, k => by simpa using k
  | o :: os, os', (m, x) :: l, l', n, ⟨h1, h2⟩, k => by
    simp only [List.cons_append, LinkOK]
    refine ⟨h1, h2.append ?_⟩
    rw [List.length_cons] at k
    rwa [show n + 1 + os.length = n + (os.length + 1) from by omega]
  | [], _, _ :: _, _, _, h, _ => h.elim
  | _ :: _, _, [], _, _, h, _ => h.elim

theorem LinkOK.get {A' : Nat → Prop} {env0 : Env} {h0 : Heap} {e' : Env} : ∀ {os : List (Option Nat)} {l : List (Nat × Nm)} {n : Nat}, LinkOK A' env0 h0 e' w os l n → os.length = l.length ∧
    ∀ i o, os[i]? = some o → ∃ b', lookN l (n + i) = .live b' ∧ (n + i, Nm.live b') ∈ l ∧ b'.mut = true ∧ ((∃ q b, o = some q ∧ h0 q = .live b ∧ b.mut = true ∧ (∀ k len, env0 q = .blk k len → BlkDen A' e' w k len b') ∧ (env0 q = .nil → ∃ E t, b' = .row E t [])) ∨ (o = none ∧ ∃ E t, b' = .row E t []))
  | [], [], n, _ => ⟨rfl, fun i n hi => by simp at hi⟩
  | o :: os, (m, x) :: l, n, ⟨⟨hm, b', h3, h4, h5⟩, hr⟩ => by
    obtain ⟨hl, hg⟩ := hr.get
    refine ⟨by simp [hl], fun i o' hi => ?_⟩
    cases i with
    | zero =>
      simp at hi
      subst hi
      subst h3
      exact ⟨b', by simp only [lookN, hm, Nat.add_zero, Nat.beq_refl], by rw [hm]; exact List.mem_cons_self .., h4, h5⟩
    | succ i =>
      obtain ⟨c', g1, g2, g3⟩ := hg i o' (by simpa using hi)
      rw [show n + 1 + i = n + (i + 1) from by omega] at g1 g2
      refine ⟨c', ?_, List.mem_cons_of_mem _ g2, g3⟩
      simp only [lookN]
      have : Nat.beq (n + (i + 1)) m = false := by
        cases hb : Nat.beq (n + (i + 1)) m with
        | false => rfl
        | true => have := Nat.eq_of_beq_eq_true hb; omega
      rw [this]
      exact g1
  | [], _ :: _, _, h => h.elim
  | _ :: _, [], _, h => h.elim

theorem LinkOK.keys {A' : Nat → Prop} {env0 : Env} {h0 : Heap} {e' : Env} : ∀ {os : List (Option Nat)} {l : List (Nat × Nm)} {n : Nat}, LinkOK A' env0 h0 e' w os l n → ∀ c x, (c, x) ∈ l → ∃ i o, c = n + i ∧ os[i]? = some o
  | [], [], n, _, c, x, hx => by simp at hx
  | o :: os, (m, y) :: l, n, ⟨⟨hm, _⟩, hr⟩, c, x, hx => by
    rcases List.mem_cons.1 hx with e | hx
    · cases e; exact ⟨0, o, by omega, rfl⟩
    · obtain ⟨i, o', h1, h2⟩ := hr.keys c x hx
      exact ⟨i + 1, o', by omega, by simpa using h2⟩
  | [], _ :: _, _, h, _, _, _ => h.elim
  | _ :: _, [], _, h, _, _, _ => h.elim

theorem den_flat1 {t : CT} {d : t.D} {v : Value} {rest : List SV} (hr : Rd A w t (fun j => [v][j]?) 0 d) : Den A env w (val1 t d) v := by
  obtain ⟨vs, hl, hc, hd⟩ := flat_den (env := env) t d _ 0 hr
  unfold val1
  split
  · rename_i s hs
    rw [hs] at hd
    simp only [DenL] at hd
    obtain ⟨u, r, rfl, hu, rfl⟩ := hd
    have h0 := hc 0 t.size_pos
    simp at h0
    rw [h0]; exact hu
  · simp only [Den]

theorem den_flatL {t : CT} {d : t.D} {vs : List Value} (hl : vs.length = t.size) (hr : Rd A w t (fun j => vs[j]?) 0 d) : DenL A env w (flat t d) vs := by
  obtain ⟨us, hlu, hc, hd⟩ := flat_den (env := env) t d _ 0 hr
  have : us = vs := by
    apply List.ext_getElem?
    intro j
    by_cases hj : j < t.size
    · have := hc j hj
      simpa using this.symm
    · rw [List.getElem?_eq_none (by omega), List.getElem?_eq_none (by omega)]
  rw [← this]; exact hd

theorem row_wf {k len : Nat} {E : TypeId} {t : CT} {xs : List t.D} (hr : RowDen A w k len E t xs) : xs.length ≤ maxLen ∧ ∀ x ∈ xs, t.wf x := by
  obtain ⟨vs, cap, _, _, h2, h3, h4, h5⟩ := hr
  refine ⟨by omega, fun x hx => ?_⟩
  obtain ⟨i, hi, rfl⟩ := List.mem_iff_getElem.1 hx
  exact Rd_wf _ _ _ _ (h5 i hi)

theorem matchArgs_agg {t : CT} {ps : List PK} {svs : List SV} {x} (e : (matchArgs (.agg t :: ps) svs).run h = some x) : ∃ cs r, svs = .agg cs :: r := by
  cases svs with
  | nil => cases e
  | cons s r => cases s <;> first | exact ⟨_, _, rfl⟩ | cases e
theorem matchArgs_box {E : TypeId} {o : OT} {ps : List PK} {svs : List SV} {x} (e : (matchArgs (.box E o :: ps) svs).run h = some x) : ∃ n r, svs = .ptr n 0 :: r := by
  cases svs with
  | nil => cases e
  | cons s r =>
    cases s with
    | ptr n off => cases off with
      | zero => exact ⟨_, _, rfl⟩
      | succ k => cases e
    | _ => cases e
theorem matchArgs_row {E : TypeId} {t : CT} {ps : List PK} {svs : List SV} {x} (e : (matchArgs (.row E t :: ps) svs).run h = some x) : ∃ n sz r, svs = .own n sz :: r := by
  cases svs with
  | nil => cases e
  | cons s r => cases s <;> first | exact ⟨_, _, _, rfl⟩ | cases e
theorem matchArgs_own {E : TypeId} {t : CT} {ps : List PK} {svs : List SV} {x} (e : (matchArgs (.own E t :: ps) svs).run h = some x) : ∃ v r, svs = v :: r := by
  cases svs with
  | nil => cases e
  | cons s r => exact ⟨_, _, rfl⟩
theorem matchArgs_nils {ps : List PK} {svs : List SV} {x} (e : (matchArgs (.nils :: ps) svs).run h = some x) : ∃ r, svs = .nilsl :: r := by
  cases svs with
  | nil => cases e
  | cons s r => cases s <;> first | exact ⟨_, rfl⟩ | cases e
theorem matchArgs_fn {f : FuncId} {k : Nat} {ps : List PK} {svs : List SV} {x} (e : (matchArgs (.fn f k :: ps) svs).run h = some x) : ∃ g cs r, svs = .fn g cs :: r := by
  cases svs with
  | nil => cases e
  | cons s r => cases s <;> first | exact ⟨_, _, _, rfl⟩ | cases e
theorem oMatch_ref {E : TypeId} {o : OT} {svs : List SV} {x} (e : (oMatch (.ref E o) svs).run h = some x) : ∃ n r, svs = .ptr n 0 :: r := by
  cases svs with
  | nil => cases e
  | cons s r =>
    cases s with
    | ptr n off => cases off with
      | zero => exact ⟨_, _, rfl⟩
      | succ k => cases e
    | _ => cases e

/-- An owned row, seen under another name. -/
theorem row_link (m : Mod w0 N0 A env h w) (hA : ∀ b, A b → Ac b) {n : Nat} {E : TypeId} {t : CT} {xs : List t.D} (hl : h n = .live (.row E t xs)) :
    (xs.length ≤ maxLen ∧ ∀ x ∈ xs, t.wf x) ∧ ∀ (e' : Env) (i : Nat), LinkOK Ac env h e' w [some n] [(i, .live (.row E t xs))] i := by
  have hm := m.nm n
  rw [hl] at hm
  refine ⟨?_, fun e' i => ⟨⟨rfl, _, rfl, rfl, .inl ⟨n, _, rfl, hl, rfl, fun k len he => ?_, fun he => ?_⟩⟩, trivial⟩⟩
  · rcases hm with ⟨k, len, hek, hb, _⟩ | ⟨hen, E2, t2, hb⟩
    · exact row_wf hb
    · rcases hb with hb | hb <;> cases hb
      exact ⟨by simp, by simp⟩
  · rcases hm with ⟨k', len', hek, hb, _⟩ | ⟨hen, _⟩
    · rw [he] at hek; cases hek
      obtain ⟨us, cap, g1, g2, g3, g4, g5, g6⟩ := hb
      exact ⟨us, cap, g1, g2, g3, g4, g5, fun i hi => Rd_mono hA (fun _ _ _ => rfl) _ _ _ _ _ (fun _ _ => rfl) (g6 i hi)⟩
    · rw [he] at hen; cases hen
  · rcases hm with ⟨k', len', hek, hb, _⟩ | ⟨hen, E2, t2, hb⟩
    · rw [he] at hek; cases hek
    · rcases hb with hb | hb <;> cases hb
      exact ⟨_, _, rfl⟩

theorem takeRow_sound (m : Mod w0 N0 A env h w) (hA : ∀ b, A b → Ac b) {E : TypeId} {t : CT} {cs rest : List SV} {vs : List Value} {ys : List t.D} {on : Option Nat} {r : List Nat}
    (e : (takeRow E t cs).run h = some ((ys, rest, on), r)) (hd : DenL A env w cs vs) :
    (ys.length ≤ maxLen ∧ ∀ x ∈ ys, t.wf x) ∧ cs.length = rest.length + 1 ∧ (rest = cs.drop 1) ∧ ∃ v vr, vs = v :: vr ∧ DenL A env w rest vr ∧ ∀ (e' : Env) (i : Nat), e' i = evOf env on → Den Ac e' w (.own i t.size) v ∧ LinkOK Ac env h e' w [on] [(i, .live (.row E t ys))] i := by
  cases cs with
  | nil => cases e
  | cons s cs =>
  cases s with
  | own n sz =>
    simp only [takeRow, Q.run] at e
    split at e
    · rename_i p0 q0 hk
      simp only [Option.some.injEq, Prod.mk.injEq] at e
      obtain ⟨rfl, rfl⟩ := e
      split at hk
      · rename_i E' t' xs hl
        split at hk
        · rename_i zs hE hsz hc
          have hE := Nat.eq_of_beq_eq_true hE
          subst hE
          have hsz := Nat.eq_of_beq_eq_true hsz
          subst hsz
          obtain ⟨et, ez⟩ := castL_eq hc
          subst et
          simp only at ez
          subst ez
          simp only [Q.run, Option.some.injEq, Prod.mk.injEq] at hk
          obtain ⟨⟨rfl, rfl, rfl⟩, rfl⟩ := hk
          simp only [DenL, Den] at hd
          obtain ⟨x, vr, rfl, hv, hr⟩ := hd
          obtain ⟨h1, h2⟩ := row_link m hA hl
          refine ⟨h1, rfl, rfl, x, vr, rfl, hr, fun e' i he => ⟨?_, h2 e' i⟩⟩
          simp only [evOf] at he
          simp only [Den]
          rw [he]; exact hv
        · cases hk
      · cases hk
    · cases e
  | nilsl =>
    simp only [takeRow, Q.run, Option.some.injEq, Prod.mk.injEq] at e
    obtain ⟨⟨rfl, rfl, rfl⟩, rfl⟩ := e
    simp only [DenL, Den] at hd
    obtain ⟨x, vr, rfl, rfl, hr⟩ := hd
    refine ⟨⟨by simp, by simp⟩, rfl, rfl, _, vr, rfl, hr, fun e' i he => ⟨?_, ⟨rfl, _, rfl, rfl, .inr ⟨rfl, _, _, rfl⟩⟩, trivial⟩⟩
    simp only [Den]
    exact .inl ⟨he, _, rfl⟩
  | _ => cases e

theorem oMatch_sound (m : Mod w0 N0 A env h w) (hA : ∀ b, A b → Ac b) : ∀ (o : OT) (cs : List SV) (vs : List Value) (d : o.D) (rest : List SV) (fz : List (Nat × Nm)) (bx : List Nat) (cx : List (Option Nat)) (r : List Nat) (j i : Nat),
    (oMatch o cs).run h = some ((d, rest, fz, bx, cx), r) → DenL A env w cs vs → (∀ k, FrzBlk env fz k → Ac k) →
    FrzOk h fz ∧ o.wf d ∧ bx.length = o.nb ∧ cx.length = o.nc ∧ ∃ us rs, vs = us ++ rs ∧ DenL A env w rest rs ∧
      ((∀ k n, bx[k]? = some n → envc (PN + (j + k)) = env n) → (∀ k q, cx[k]? = some q → envc (QN + (i + k)) = evOf env q) →
        DenL Ac envc w (oCells o d j i) us ∧ LinkOK Ac env h envc w (bx.map some) (oBox o d j i) (PN + j) ∧ LinkOK Ac env h envc w cx (oCon o d i) (QN + i))
  | .dat t, cs, vs, d, rest, fz, bx, cx, r, j, i, e, hd, hF => by
    simp only [oMatch] at e
    obtain ⟨⟨d1, r1, f1⟩, q1, q2, e1, e2, rfl⟩ := Q.run_bind _ _ _ e
    simp only [Q.run, Option.some.injEq, Prod.mk.injEq] at e2
    obtain ⟨⟨rfl, rfl, rfl, rfl, rfl⟩, rfl⟩ := e2
    obtain ⟨p1, p2, p3, p4, p5⟩ := projC_sound m t cs vs d1 r1 f1 q1 e1 hd hA hF
    refine ⟨p1, Rd_wf _ _ _ _ p4, rfl, rfl, vs.take t.size, vs.drop t.size, (List.take_append_drop _ _).symm, p5, fun _ _ => ⟨?_, trivial, trivial⟩⟩
    simp only [oCells]
    refine den_flatL (by rw [List.length_take]; omega) ?_
    refine Rd_mono (fun _ h => h) (fun _ _ _ => rfl) t _ _ _ _ (fun k hk => ?_) p4
    simp only [Nat.zero_add, List.getElem?_take]
    rw [if_pos hk]
  | .row E t, cs, vs, d, rest, fz, bx, cx, r, j, i, e, hd, hF => by
    simp only [oMatch] at e
    obtain ⟨⟨d1, r1, o1⟩, q1, q2, e1, e2, rfl⟩ := Q.run_bind _ _ _ e
    simp only [Q.run, Option.some.injEq, Prod.mk.injEq] at e2
    obtain ⟨⟨rfl, rfl, rfl, rfl, rfl⟩, rfl⟩ := e2
    obtain ⟨p1, -, -, v, vr, rfl, p2, p3⟩ := takeRow_sound m hA e1 hd
    refine ⟨fun n b hh => by simp at hh, p1, rfl, rfl, [v], vr, rfl, p2, fun _ hc => ?_⟩
    obtain ⟨k1, k2⟩ := p3 envc (QN + i) (hc 0 _ rfl)
    simp only [oCells, oBox, oCon, DenL]
    exact ⟨⟨v, [], rfl, k1, rfl⟩, trivial, k2⟩
  | .rowg E t, cs, vs, d, rest, fz, bx, cx, r, j, i, e, hd, hF => by
    simp only [oMatch] at e
    obtain ⟨⟨d1, r1, o1⟩, q1, q2, e1, e2, rfl⟩ := Q.run_bind _ _ _ e
    simp only [Q.run, Option.some.injEq, Prod.mk.injEq] at e2
    obtain ⟨⟨rfl, rfl, rfl, rfl, rfl⟩, rfl⟩ := e2
    obtain ⟨p1, -, -, v, vr, rfl, p2, p3⟩ := takeRow_sound m hA e1 hd
    refine ⟨fun n b hh => by simp at hh, p1, rfl, rfl, [v], vr, rfl, p2, fun _ hc => ?_⟩
    obtain ⟨k1, k2⟩ := p3 envc (QN + i) (hc 0 _ rfl)
    simp only [oCells, oBox, oCon, DenL]
    exact ⟨⟨v, [], rfl, k1, rfl⟩, trivial, k2⟩
  | .ref E o, cs0, vs, d, rest, fz, bx, cx, r, j, i, e, hd, hF => by
    obtain ⟨n, cs, rfl⟩ := oMatch_ref e
    simp only [oMatch, Q.run] at e
    split at e
    · rename_i p0 q0 hk
      simp only [Option.some.injEq, Prod.mk.injEq] at e
      obtain ⟨rfl, rfl⟩ := e
      split at hk
      · rename_i E' cs' hl
        split at hk
        · rename_i hE
          have hE := Nat.eq_of_beq_eq_true hE
          subst hE
          obtain ⟨⟨d1, r1, f1, b1, c1⟩, q1, q2, e1, e2, rfl⟩ := Q.run_bind _ _ _ hk
          split at e2
          · rename_i hr1
            simp only at hr1
            subst hr1
            simp only [Q.run, Option.some.injEq, Prod.mk.injEq] at e2
            obtain ⟨⟨rfl, rfl, rfl, rfl, rfl⟩, rfl⟩ := e2
            simp only [DenL, Den] at hd
            obtain ⟨x, vr, rfl, ⟨k, len, hek, rfl⟩, hr⟩ := hd
            obtain ⟨⟨us, hus, hdu⟩, _⟩ := m.live_blk hl hek
            obtain ⟨s1, s2, s3, s4, us', rs', s5, s6, s7⟩ := oMatch_sound m hA o cs' us.toList d1 [] f1 b1 c1 q1 (j + 1) i e1 hdu hF
            simp only [DenL] at s6
            subst s6
            rw [List.append_nil] at s5
            subst s5
            refine ⟨s1, s2, by simp only [List.length_cons, s3, OT.nb], s4, [_], vr, rfl, hr, fun hb hc => ?_⟩
            have h0 := hb 0 n rfl
            rw [Nat.add_zero] at h0
            obtain ⟨k1, k2, k3⟩ := s7 (fun k n hn => by have := hb (k + 1) n (by simpa using hn); rwa [show j + (k + 1) = j + 1 + k from by omega] at this) hc
            refine ⟨?_, ⟨⟨rfl, _, rfl, rfl, .inl ⟨n, _, rfl, hl, rfl, fun k' len' he => ?_, fun he => ?_⟩⟩, ?_⟩, k3⟩
            · simp only [oCells, DenL, Den]
              exact ⟨_, [], rfl, ⟨k, len, by rw [h0]; exact hek, rfl⟩, rfl⟩
            · rw [hek] at he; cases he
              exact ⟨us, hus, k1⟩
            · rw [hek] at he; cases he
            · rw [show PN + j + 1 = PN + (j + 1) from by omega]; exact k2
          · cases e2
        · cases hk
      · cases hk
    · cases e
  | .pair a b, cs, vs, d, rest, fz, bx, cx, r, j, i, e, hd, hF => by
    simp only [oMatch] at e
    obtain ⟨⟨d1, r1, f1, b1, c1⟩, q1, q2, e1, e2, rfl⟩ := Q.run_bind _ _ _ e
    obtain ⟨⟨d2, r2, f2, b2, c2⟩, q3, q4, e3, e4, rfl⟩ := Q.run_bind _ _ _ e2
    simp only [Q.run, Option.some.injEq, Prod.mk.injEq] at e4
    obtain ⟨⟨rfl, rfl, rfl, rfl, rfl⟩, rfl⟩ := e4
    have hF1 : ∀ k, FrzBlk env f1 k → Ac k := fun k ⟨n, x, l, hx, he⟩ => hF k ⟨n, x, l, List.mem_append_left _ hx, he⟩
    have hF2 : ∀ k, FrzBlk env f2 k → Ac k := fun k ⟨n, x, l, hx, he⟩ => hF k ⟨n, x, l, List.mem_append_right _ hx, he⟩
    obtain ⟨s1, s2, s3, s4, us, rs, rfl, s6, s7⟩ := oMatch_sound m hA a cs vs d1 r1 f1 b1 c1 q1 j i e1 hd hF1
    obtain ⟨t1, t2, t3, t4, us', rs', rfl, t6, t7⟩ := oMatch_sound m hA b r1 rs d2 r2 f2 b2 c2 q3 (j + a.nb) (i + a.nc) e3 s6 hF2
    refine ⟨fun n b hh => ?_, ⟨s2, t2⟩, by simp only [List.length_append, s3, t3, OT.nb], by simp only [List.length_append, s4, t4, OT.nc], us ++ us', rs', by rw [List.append_assoc], t6, fun hb hc => ?_⟩
    · rcases List.mem_append.1 hh with hh | hh
      · exact s1 n b hh
      · exact t1 n b hh
    · obtain ⟨k1, k2, k3⟩ := s7 (fun k n hn => hb k n (by rw [List.getElem?_append_left (List.getElem?_eq_some_iff.1 hn).1]; exact hn)) (fun k q hq => hc k q (by rw [List.getElem?_append_left (List.getElem?_eq_some_iff.1 hq).1]; exact hq))
      obtain ⟨l1, l2, l3⟩ := t7 (fun k n hn => by
          have := hb (a.nb + k) n (by rw [List.getElem?_append_right (by omega), s3, Nat.add_sub_cancel_left]; exact hn)
          rwa [show j + (a.nb + k) = j + a.nb + k from by omega] at this)
        (fun k q hq => by
          have := hc (a.nc + k) q (by rw [List.getElem?_append_right (by omega), s4, Nat.add_sub_cancel_left]; exact hq)
          rwa [show i + (a.nc + k) = i + a.nc + k from by omega] at this)
      simp only [oCells, oBox, oCon]
      refine ⟨DenL_append k1 l1, ?_, ?_⟩
      · rw [List.map_append]
        exact k2.append (by rw [List.length_map, s3, Nat.add_assoc]; exact l2)
      · exact k3.append (by rw [s4, Nat.add_assoc]; exact l3)

theorem matchArgs_sound (m : Mod w0 N0 A env h w) (hA : ∀ b, A b → Ac b) : ∀ (ps : List PK) (svs : List SV) (vs : List Value) (d : PDs ps) (fz : List (Nat × Nm)) (bx : List Nat) (cx : List (Option Nat)) (r : List Nat) (j i : Nat),
    (matchArgs ps svs).run h = some ((d, fz, bx, cx), r) → DenL A env w svs vs → (∀ k, FrzBlk env fz k → Ac k) →
    FrzOk h fz ∧ wfP ps d ∧ ((∀ k n, bx[k]? = some n → envc (PN + (j + k)) = env n) → (∀ k q, cx[k]? = some q → envc (QN + (i + k)) = evOf env q) →
      DenL Ac envc w (argsOf ps d j i) vs ∧ LinkOK Ac env h envc w (bx.map some) (boxesOf ps d j i) (PN + j) ∧ LinkOK Ac env h envc w cx (consOf ps d i) (QN + i))
  | [], [], vs, d, fz, bx, cx, r, j, i, e, hd, hF => by
    simp only [matchArgs, Q.run, Option.some.injEq, Prod.mk.injEq] at e
    obtain ⟨⟨-, rfl, rfl, rfl⟩, rfl⟩ := e
    exact ⟨fun n b hh => by simp at hh, trivial, fun _ _ => ⟨by simpa [argsOf, DenL] using hd, trivial, trivial⟩⟩
  | .val t :: ps, v :: svs, vs, d, fz, bx, cx, r, j, i, e, hd, hF => by
    simp only [matchArgs] at e
    obtain ⟨⟨d1, r1, f1⟩, q1, q2, e1, e2, rfl⟩ := Q.run_bind _ _ _ e
    split at e2
    · rename_i hr1
      simp only at hr1
      subst hr1
      obtain ⟨⟨d2, f2, b2, c2⟩, q3, q4, e3, e4, rfl⟩ := Q.run_bind _ _ _ e2
      simp only [Q.run, Option.some.injEq, Prod.mk.injEq] at e4
      obtain ⟨⟨rfl, rfl, rfl, rfl⟩, rfl⟩ := e4
      simp only [DenL] at hd
      obtain ⟨x, vr, rfl, hx, hr⟩ := hd
      have hF1 : ∀ k, FrzBlk env f1 k → Ac k := fun k ⟨n, x, l, hx, he⟩ => hF k ⟨n, x, l, List.mem_append_left _ hx, he⟩
      have hF2 : ∀ k, FrzBlk env f2 k → Ac k := fun k ⟨n, x, l, hx, he⟩ => hF k ⟨n, x, l, List.mem_append_right _ hx, he⟩
      obtain ⟨p1, p2, p3, p4, _⟩ := projC_sound m t [v] [x] d1 [] f1 q1 e1 (by simp only [DenL]; exact ⟨x, [], rfl, hx, rfl⟩) hA hF1
      obtain ⟨s1, s4, s6⟩ := matchArgs_sound m hA ps svs vr d2 f2 b2 c2 q3 j i e3 hr hF2
      refine ⟨fun n b hh => ?_, ⟨Rd_wf _ _ _ _ p4, s4⟩, fun hb hc => ?_⟩
      · rcases List.mem_append.1 hh with hh | hh
        · exact p1 n b hh
        · exact s1 n b hh
      · obtain ⟨k1, k2, k3⟩ := s6 hb hc
        refine ⟨?_, k2, k3⟩
        simp only [argsOf, DenL]
        exact ⟨x, vr, rfl, den_flat1 (rest := []) p4, k1⟩
    · cases e2
  | .nils :: ps, svs0, vs, d, fz, bx, cx, r, j, i, e, hd, hF => by
    obtain ⟨svs, rfl⟩ := matchArgs_nils e
    simp only [matchArgs] at e
    obtain ⟨⟨d2, f2, b2, c2⟩, q3, q4, e3, e4, rfl⟩ := Q.run_bind _ _ _ e
    simp only [Q.run, Option.some.injEq, Prod.mk.injEq] at e4
    obtain ⟨⟨rfl, rfl, rfl, rfl⟩, rfl⟩ := e4
    simp only [DenL, Den] at hd
    obtain ⟨x, vr, rfl, rfl, hr⟩ := hd
    obtain ⟨s1, s4, s6⟩ := matchArgs_sound m hA ps svs vr d2 f2 b2 c2 q3 j i e3 hr hF
    refine ⟨s1, ⟨trivial, s4⟩, fun hb hc => ?_⟩
    obtain ⟨k1, k2, k3⟩ := s6 hb hc
    refine ⟨?_, k2, k3⟩
    simp only [argsOf, DenL, Den]
    exact ⟨_, vr, rfl, rfl, k1⟩
  | .fn f k :: ps, svs0, vs, d, fz, bx, cx, r, j, i, e, hd, hF => by
    obtain ⟨g, cs, svs, rfl⟩ := matchArgs_fn e
    simp only [matchArgs] at e
    split at e
    · rename_i hf hk
      have hf := Nat.eq_of_beq_eq_true hf
      have hk := Nat.eq_of_beq_eq_true hk
      subst hf
      obtain ⟨⟨d2, f2, b2, c2⟩, q3, q4, e3, e4, rfl⟩ := Q.run_bind _ _ _ e
      simp only [Q.run, Option.some.injEq, Prod.mk.injEq] at e4
      obtain ⟨⟨rfl, rfl, rfl, rfl⟩, rfl⟩ := e4
      simp only [DenL, Den] at hd
      obtain ⟨x, vr, rfl, ⟨us, rfl, hu⟩, hr⟩ := hd
      have hul := DenL_length hu
      obtain ⟨s1, s4, s6⟩ := matchArgs_sound m hA ps (cs ++ svs) (us.toList ++ vr) d2 f2 b2 c2 q3 j i e3 (DenL_append hu hr) hF
      refine ⟨s1, ⟨trivial, s4⟩, fun hb hc => ?_⟩
      obtain ⟨k1, k2, k3⟩ := s6 hb hc
      refine ⟨?_, k2, k3⟩
      simp only [argsOf, DenL, Den]
      refine ⟨_, vr, rfl, ⟨us, rfl, ?_⟩, ?_⟩
      · have := DenL_take k k1
        rwa [List.take_left' (by omega)] at this
      · have := DenL_drop k k1
        rwa [List.drop_left' (by omega)] at this
    · cases e
  | .agg t :: ps, svs0, vs, d, fz, bx, cx, r, j, i, e, hd, hF => by
    obtain ⟨cs, svs, rfl⟩ := matchArgs_agg e
    simp only [matchArgs] at e
    obtain ⟨⟨d1, r1, f1⟩, q1, q2, e1, e2, rfl⟩ := Q.run_bind _ _ _ e
    split at e2
    · rename_i hr1
      simp only at hr1
      subst hr1
      obtain ⟨⟨d2, f2, b2, c2⟩, q3, q4, e3, e4, rfl⟩ := Q.run_bind _ _ _ e2
      simp only [Q.run, Option.some.injEq, Prod.mk.injEq] at e4
      obtain ⟨⟨rfl, rfl, rfl, rfl⟩, rfl⟩ := e4
      simp only [DenL, Den] at hd
      obtain ⟨x, vr, rfl, ⟨us, rfl, hx⟩, hr⟩ := hd
      have hF1 : ∀ k, FrzBlk env f1 k → Ac k := fun k ⟨n, x, l, hx, he⟩ => hF k ⟨n, x, l, List.mem_append_left _ hx, he⟩
      have hF2 : ∀ k, FrzBlk env f2 k → Ac k := fun k ⟨n, x, l, hx, he⟩ => hF k ⟨n, x, l, List.mem_append_right _ hx, he⟩
      obtain ⟨p1, p2, p3, p4, _⟩ := projC_sound m t cs us.toList d1 [] f1 q1 e1 hx hA hF1
      obtain ⟨s1, s4, s6⟩ := matchArgs_sound m hA ps svs vr d2 f2 b2 c2 q3 j i e3 hr hF2
      refine ⟨fun n b hh => ?_, ⟨Rd_wf _ _ _ _ p4, s4⟩, fun hb hc => ?_⟩
      · rcases List.mem_append.1 hh with hh | hh
        · exact p1 n b hh
        · exact s1 n b hh
      · obtain ⟨k1, k2, k3⟩ := s6 hb hc
        refine ⟨?_, k2, k3⟩
        simp only [argsOf, DenL, Den]
        exact ⟨_, vr, rfl, ⟨us, rfl, den_flatL (by simpa using p3) p4⟩, k1⟩
    · cases e2
  | .box E o :: ps, svs0, vs, d, fz, bx, cx, r, j, i, e, hd, hF => by
    obtain ⟨n, svs, rfl⟩ := matchArgs_box e
    simp only [matchArgs, Q.run] at e
    split at e
    · rename_i p0 q0 hk
      simp only [Option.some.injEq, Prod.mk.injEq] at e
      obtain ⟨rfl, rfl⟩ := e
      split at hk
      · rename_i E' cs hl
        split at hk
        · rename_i hE
          have hE := Nat.eq_of_beq_eq_true hE
          subst hE
          obtain ⟨⟨d1, r1, f1, b1, c1⟩, q1, q2, e1, e2, rfl⟩ := Q.run_bind _ _ _ hk
          split at e2
          · rename_i hr1
            simp only at hr1
            subst hr1
            obtain ⟨⟨d2, f2, b2, c2⟩, q3, q4, e3, e4, rfl⟩ := Q.run_bind _ _ _ e2
            simp only [Q.run, Option.some.injEq, Prod.mk.injEq] at e4
            obtain ⟨⟨rfl, rfl, rfl, rfl⟩, rfl⟩ := e4
            simp only [DenL, Den] at hd
            obtain ⟨x, vr, rfl, ⟨k, len, hek, rfl⟩, hr⟩ := hd
            obtain ⟨⟨us, hus, hdu⟩, _⟩ := m.live_blk hl hek
            have hF1 : ∀ k, FrzBlk env f1 k → Ac k := fun k ⟨n, x, l, hx, he⟩ => hF k ⟨n, x, l, List.mem_append_left _ hx, he⟩
            have hF2 : ∀ k, FrzBlk env f2 k → Ac k := fun k ⟨n, x, l, hx, he⟩ => hF k ⟨n, x, l, List.mem_append_right _ hx, he⟩
            obtain ⟨p1, p2, p3, p4, us', rs', p5, p6, p7⟩ := oMatch_sound (envc := envc) m hA o cs us.toList d1 [] f1 b1 c1 q1 (j + 1) i e1 hdu hF1
            simp only [DenL] at p6
            subst p6
            rw [List.append_nil] at p5
            subst p5
            obtain ⟨s1, s4, s6⟩ := matchArgs_sound m hA ps svs vr d2 f2 b2 c2 q3 (j + 1 + o.nb) (i + o.nc) e3 hr hF2
            refine ⟨fun n b hh => ?_, ⟨p2, s4⟩, fun hb hc => ?_⟩
            · rcases List.mem_append.1 hh with hh | hh
              · exact p1 n b hh
              · exact s1 n b hh
            · have h0 := hb 0 n rfl
              rw [Nat.add_zero] at h0
              obtain ⟨k1, k2, k3⟩ := p7
                (fun k n hn => by
                  have := hb (k + 1) n (by simp only [List.getElem?_cons_succ]; rw [List.getElem?_append_left (List.getElem?_eq_some_iff.1 hn).1]; exact hn)
                  rwa [show j + (k + 1) = j + 1 + k from by omega] at this)
                (fun k q hq => hc k q (by rw [List.getElem?_append_left (List.getElem?_eq_some_iff.1 hq).1]; exact hq))
              obtain ⟨l1, l2, l3⟩ := s6
                (fun k n hn => by
                  have := hb (o.nb + k + 1) n (by simp only [List.getElem?_cons_succ]; rw [List.getElem?_append_right (by omega), p3, Nat.add_sub_cancel_left]; exact hn)
                  rwa [show j + (o.nb + k + 1) = j + 1 + o.nb + k from by omega] at this)
                (fun k q hq => by
                  have := hc (o.nc + k) q (by rw [List.getElem?_append_right (by omega), p4, Nat.add_sub_cancel_left]; exact hq)
                  rwa [show i + (o.nc + k) = i + o.nc + k from by omega] at this)
              refine ⟨?_, ⟨⟨rfl, _, rfl, rfl, .inl ⟨n, _, rfl, hl, rfl, fun k' len' he => ?_, fun he => ?_⟩⟩, ?_⟩, ?_⟩
              · simp only [argsOf, DenL, Den]
                exact ⟨_, vr, rfl, ⟨k, len, by rw [h0]; exact hek, rfl⟩, l1⟩
              · rw [hek] at he; cases he
                exact ⟨us, hus, k1⟩
              · rw [hek] at he; cases he
              · rw [List.map_append, show PN + j + 1 = PN + (j + 1) from by omega]
                exact k2.append (by rw [List.length_map, p3, show PN + (j + 1) + o.nb = PN + (j + 1 + o.nb) from by omega]; exact l2)
              · exact k3.append (by rw [p4, Nat.add_assoc]; exact l3)
          · cases e2
        · cases hk
      · cases hk
    · cases e
  | .own E t :: ps, svs0, vs, d, fz, bx, cx, r, j, i, e, hd, hF => by
    obtain ⟨v, svs, rfl⟩ := matchArgs_own e
    simp only [matchArgs] at e
    obtain ⟨⟨d1, r1, o1⟩, q1, q2, e1, e2, rfl⟩ := Q.run_bind _ _ _ e
    obtain ⟨⟨d2, f2, b2, c2⟩, q3, q4, e3, e4, rfl⟩ := Q.run_bind _ _ _ e2
    simp only [Q.run, Option.some.injEq, Prod.mk.injEq] at e4
    obtain ⟨⟨rfl, rfl, rfl, rfl⟩, rfl⟩ := e4
    simp only [DenL] at hd
    obtain ⟨x, vr, rfl, hx, hr⟩ := hd
    obtain ⟨p1, -, -, v', vr', p2, -, p3⟩ := takeRow_sound m hA e1 (vs := [x]) (by simp only [DenL]; exact ⟨x, [], rfl, hx, rfl⟩)
    cases p2
    obtain ⟨s1, s4, s6⟩ := matchArgs_sound m hA ps svs vr d2 f2 b2 c2 q3 j (i + 1) e3 hr hF
    refine ⟨s1, ⟨p1, s4⟩, fun hb hc => ?_⟩
    obtain ⟨k1, k2⟩ := p3 envc (QN + i) (hc 0 _ rfl)
    obtain ⟨l1, l2, l3⟩ := s6 hb (fun k q hq => by have := hc (k + 1) q (by simpa using hq); rwa [show i + (k + 1) = i + 1 + k from by omega] at this)
    refine ⟨?_, l2, ?_⟩
    · simp only [argsOf, DenL]
      exact ⟨x, vr, rfl, k1, l1⟩
    · exact ⟨k2.1, by rw [show QN + i + 1 = QN + (i + 1) from by omega]; exact l3⟩
  | .row E t :: ps, svs0, vs, d, fz, bx, cx, r, j, i, e, hd, hF => by
    obtain ⟨n, sz, svs, rfl⟩ := matchArgs_row e
    simp only [matchArgs, Q.run] at e
    split at e
    · rename_i p0 q0 hk
      simp only [Option.some.injEq, Prod.mk.injEq] at e
      obtain ⟨rfl, rfl⟩ := e
      split at hk
      · rename_i E' t' xs hl
        split at hk
        · rename_i ys hE hsz hc
          have hE := Nat.eq_of_beq_eq_true hE
          subst hE
          have hsz := Nat.eq_of_beq_eq_true hsz
          subst hsz
          obtain ⟨et, ez⟩ := castL_eq hc
          subst et
          simp only at ez
          subst ez
          obtain ⟨⟨d2, f2, b2, c2⟩, q3, q4, e3, e4, rfl⟩ := Q.run_bind _ _ _ hk
          simp only [Q.run, Option.some.injEq, Prod.mk.injEq] at e4
          obtain ⟨⟨rfl, rfl, rfl, rfl⟩, rfl⟩ := e4
          simp only [DenL, Den] at hd
          obtain ⟨x, vr, rfl, hv, hr⟩ := hd
          obtain ⟨s1, s4, s6⟩ := matchArgs_sound m hA ps svs vr d2 f2 b2 c2 q3 (j + 1) i e3 hr hF
          obtain ⟨hw, hlk⟩ := row_link m hA hl
          refine ⟨s1, ⟨hw, s4⟩, fun hb hc => ?_⟩
          have h0 := hb 0 n rfl
          rw [Nat.add_zero] at h0
          obtain ⟨l1, l2, l3⟩ := s6 (fun k n hn => by have := hb (k + 1) n (by simpa using hn); rwa [show j + (k + 1) = j + 1 + k from by omega] at this) hc
          refine ⟨?_, ⟨(hlk envc (PN + j)).1, by rw [show PN + j + 1 = PN + (j + 1) from by omega]; exact l2⟩, l3⟩
          simp only [argsOf, DenL, Den]
          exact ⟨_, vr, rfl, by rw [h0]; exact hv, l1⟩
        · cases hk
      · cases hk
    · cases e
  | [], _ :: _, _, _, _, _, _, _, _, _, e, _, _ => by simp [matchArgs, Q.run] at e
  | .val _ :: _, [], _, _, _, _, _, _, _, _, e, _, _ => by simp [matchArgs, Q.run] at e
end
end Go.SX
