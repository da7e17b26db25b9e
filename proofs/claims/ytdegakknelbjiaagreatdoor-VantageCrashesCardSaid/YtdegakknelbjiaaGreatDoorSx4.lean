/- SX, part 4: arithmetic, comparisons, conversions, the parts of values. -/
import Derived.Test.YtdegakknelbjiaaGreatDoorSx3
namespace Go.SX
set_option linter.unusedVariables false

def kEq (k k' : IntKind) : Bool := match k, k' with
  | .i8, .i8 | .i16, .i16 | .i32, .i32 | .i64, .i64 | .u8, .u8 | .u16, .u16 | .u32, .u32 | .u64, .u64 => true
  | _, _ => false
theorem kEq_eq {k k' : IntKind} (h : kEq k k' = true) : k = k' := by cases k <;> cases k' <;> first | rfl | cases h

def det0 (v : SV) : Q Dl := .ret (.det [] v [])

/-- Integers of one kind. -/
def sInt (op : BinOp) (k : IntKind) (a b : Int) : Q Dl := match op with
  | .add => det0 (.int k (k.wrap (a + b)))
  | .sub => det0 (.int k (k.wrap (a - b)))
  | .mul => det0 (.int k (k.wrap (a * b)))
  | .quo => .ret (.det [b ≠ 0] (.int k (k.wrap (a.tdiv b))) [])
  | .rem => .ret (.det [b ≠ 0] (.int k (a.tmod b)) [])
  | .and => det0 (.int k (bits .and k a b))
  | .or => det0 (.int k (bits .or k a b))
  | .xor => det0 (.int k (bits .xor k a b))
  | .andNot => det0 (.int k (bits .andNot k a b))
  | .eql => det0 (.bool (decide (a = b)))
  | .neq => det0 (.bool (!decide (a = b)))
  | .lss => det0 (.bool (decide (a < b)))
  | .leq => det0 (.bool (decide (a ≤ b)))
  | .gtr => det0 (.bool (decide (b < a)))
  | .geq => det0 (.bool (decide (b ≤ a)))
  | .shl | .shr => .fail

def sShift (op : BinOp) (k : IntKind) (a b : Int) : Q Dl := match op with
  | .shl => .ret (.det [0 ≤ b] (.int k (shlI k a b)) [])
  | .shr => .ret (.det [0 ≤ b] (.int k (shrI k a b)) [])
  | _ => .fail

def isShift : BinOp → Bool
  | .shl | .shr => true
  | _ => false

def getL {α : Type} : List α → Nat → Option α
  | [], _ => none
  | x :: _, 0 => some x
  | _ :: xs, n + 1 => getL xs n
theorem getL_eq {α : Type} : ∀ (l : List α) (n : Nat), getL l n = l[n]?
  | [], n => by simp [getL]
  | x :: xs, 0 => rfl
  | x :: xs, n + 1 => by simp [getL, getL_eq xs n]

def aggT (P : Program) (t : TypeId) : Option Bool := match P.underlying t with
  | some (.struct _) => some true
  | some (.array _ _) => some true
  | some _ => some false
  | none => none
def sizeT (P : Program) (t : TypeId) : Option Nat := match P.info? t with
  | some i => some i.size
  | none => none

/-- The part of type 't' at 'off' among cells. -/
def partS (P : Program) (t : TypeId) (cs : List SV) (off : Nat) : Option SV := match aggT P t with
  | some true => match sizeT P t with
    | some n => match Nat.ble (off + n) cs.length with
      | true => some (.agg ((cs.drop off).take n))
      | false => none
    | none => none
  | some false => getL cs off
  | none => none

/-- Two values of comparable types: numbers, booleans, structs of such. 'd': how deep, and how many fields. -/
def eqV (P : Program) : Nat → TypeId → SV → SV → Option Bool
  | 0, _, _, _ => none
  | d + 1, t, x, y => match P.underlying t, x, y with
    | some (.int _), .int k a, .int k' b => match kEq k k' with
      | true => some (decide (a = b))
      | false => none
    | some .bool, .bool a, .bool b => some (a == b)
    | some (.struct fs), .agg xs, .agg ys => match P.stoodInHeld t with
      | false => eqFs (eqV P d) fs.toList xs ys
      | true => none
    | _, _, _ => none
where
  eqFs (q : TypeId → SV → SV → Option Bool) : List Field → List SV → List SV → Option Bool
    | [], _, _ => some true
    | f :: fs, xs, ys => match f.name == "_" with
      | true => none
      | false => match partS P f.type xs f.offset, partS P f.type ys f.offset with
        | some x, some y => match q f.type x y, eqFs q fs xs ys with
          | some b, some r => some (b && r)
          | _, _ => none
        | _, _ => none

def sEq (P : Program) (t : TypeId) (xs ys : List SV) : Option Bool :=
  match P.eqGuardType P.depth t with
  | false => eqV P 6 t (.agg xs) (.agg ys)
  | true => none

/-- A comparison with the nil slice: an empty slice may be either. -/
def nilDl (op : BinOp) (n : Nat) : Q Dl := match op with
  | .eql => .ret (.nd Bool (Qn.plain Bool) [] (fun b => b = true → n = 0) (fun _ => ⟨false, fun h => by cases h⟩) (fun b => .bool b) [])
  | .neq => .ret (.nd Bool (Qn.plain Bool) [] (fun b => b = true → n = 0) (fun _ => ⟨false, fun h => by cases h⟩) (fun b => .bool (!b)) [])
  | _ => .fail
def sNilEq (P : Program) (op : BinOp) (t : TypeId) (x : SV) : Q Dl := match P.underlying t, x with
  | some (.slice _), .dsl _ xs => nilDl op xs.length
  | some (.slice _), .dsx _ xs => nilDl op xs.length
  | some (.slice _), .nilsl => nilDl op 0
  | some (.slice _), .own n _ => .ask n fun
    | .live (.row _ _ xs) => nilDl op xs.length
    | .live (.frz _ _ xs) => nilDl op xs.length
    | _ => .fail
  | _, _ => .fail
def sBin (P : Program) (op : BinOp) (t : TypeId) (x y : SV) : Q Dl := match x, y with
  | .int k a, .int k' b => match isShift op with
    | true => sShift op k a b
    | false => match kEq k k' with
      | true => sInt op k a b
      | false => .fail
  | .bool a, .bool b => match P.underlying t, op with
    | some .bool, .eql => det0 (.bool (a == b))
    | some .bool, .neq => det0 (.bool (!(a == b)))
    | _, _ => .fail
  | .agg xs, .agg ys => match sEq P t xs ys, op with
    | some b, .eql => det0 (.bool b)
    | some b, .neq => det0 (.bool (!b))
    | _, _ => .fail
  | x, .nilsl => sNilEq P op t x
  | _, _ => .fail
def sUn (op : UnOp) (x : SV) : Q Dl := match op, x with
  | .not, .bool b => det0 (.bool (!b))
  | .neg, .int k n => det0 (.int k (k.wrap (0 - n)))
  | .xor, .int k n => det0 (.int k (notI k n))
  | _, _ => .fail

def sConv (P : Program) (src dst : TypeId) (x : SV) : Q Dl := match x, P.underlying src, P.underlying dst with
  | .int _ n, some _, some (.int k') => det0 (.int k' (k'.wrap n))
  | _, _, _ => .fail

def isUndef : SV → Bool
  | .cv (.tuple vs) => vs.isEmpty
  | _ => false
def asB : SV → Option (Bool × Option Bool)
  | .bool x => some (x, none)
  | .opt g (.bool x) => some (x, some g)
  | s => match isUndef s with
    | true => some (false, some false)
    | false => none
def preB (g : Option Bool) (c : Prop) : List Prop := match g with
  | none => []
  | some g => [c → g = true]
def sPick (c a b : SV) : Q Dl := match c, asB a, asB b with
  | .bool cb, some (x, gx), some (y, gy) => .ret (.det (preB gx (cb = true) ++ preB gy (cb = false)) (.bool (bif cb then x else y)) [])
  | _, _, _ => .fail

section
variable {P : Program} {w0 : World} {N0 : Old} {A : Nat → Prop} {env : Env} {h : Heap} {w : World} {o : Oper} {a : Act} {ρ : Nat → SV} {d : Dl} {r : List Nat}

theorem ret_inj {α : Type 1} {x y : α} {r : List Nat} (e : (Q.ret x).run h = some (y, r)) : x = y := by
  simp only [Q.run, Option.some.injEq, Prod.mk.injEq] at e; exact e.1

theorem asB_den {s : SV} {v : Value} {x : Bool} {g : Option Bool} (e : asB s = some (x, g)) (hd : Den A env w s v) {c : Prop} (hp : conj (preB g c)) (hc : c) : v = .bool x := by
  unfold asB at e
  split at e
  · cases e; simpa only [Den] using hd
  · cases e
    simp only [preB, conj, and_true] at hp
    have := hp hc
    subst this
    simpa only [Den] using hd
  · split at e
    · cases e
      simp only [preB, conj, and_true] at hp
      exact absurd (hp hc) (by simp)
    · cases e

theorem pick_sound (m : Mod w0 N0 A env h w) (f : FD A env w ρ a) {c x y : Operand} (ho : o.op = .pick c x y)
    (e : (sPick (opnd ρ c) (opnd ρ x) (opnd ρ y)).run h = some (d, r)) (hp : conj d.pre) : Yields P o a w0 N0 A env h w d := by
  have dc := Den_opnd f c
  have dx := Den_opnd f x
  have dy := Den_opnd f y
  unfold sPick at e
  split at e
  · rename_i cb b1 g1 b2 g2 hc hx hy
    cases ret_inj e
    simp only [Dl.pre, conj_append] at hp
    rw [hc] at dc
    simp only [Den] at dc
    refine Yields.pure m (v := .bool (bif cb then b1 else b2)) ?_ (by simp only [Den])
    unfold execOp
    rw [ho]
    simp only [dc, asBool, Sem.run_bind, Sem.run_pure, Result.andThen_ok]
    cases cb with
    | true => simp only [if_true, cond_true]; rw [asB_den hx dx hp.1 rfl]
    | false => simp only [Bool.false_eq_true, if_false, cond_false]; rw [asB_den hy dy hp.2 rfl]
  · cases e

theorem run_int (op : BinOp) (t : TypeId) (x y : Operand) (k : IntKind) (u v : Int) (r : Value)
    (hr : (binOp op t (.int k u) (.int k v)).run P w = .ok r w) :
    ((do eqGuard op t x y (.int k u) (.int k v); binOp op t (.int k u) (.int k v) : Sem Value).run P w) = .ok r w := by
  rw [eqGuard_at_int]
  simpa using hr

theorem aggT_run {t : TypeId} {b : Bool} (h : aggT P t = some b) (w : World) : (isAgg t).run P w = .ok b w := by
  unfold aggT at h
  unfold isAgg
  rw [Sem.run_bind]
  cases hu : P.underlying t with
  | none => rw [hu] at h; cases h
  | some d =>
    rw [run_underlying hu w, Result.andThen_ok]
    rw [hu] at h
    cases d <;> simp only [Option.some.injEq] at h <;> subst h <;> rfl

theorem sizeT_run {t : TypeId} {n : Nat} (h : sizeT P t = some n) (w : World) : (sizeOf t).run P w = .ok n w := by
  unfold sizeT at h
  cases hi : P.info? t with
  | none => rw [hi] at h; cases h
  | some i =>
    rw [hi] at h
    simp only [Option.some.injEq] at h
    simp [sizeOf, typeInfo, hi, h]

theorem DenL_drop {ss : List SV} {vs : List Value} (n : Nat) (h : DenL A env w ss vs) : DenL A env w (ss.drop n) (vs.drop n) := by
  induction n generalizing ss vs with
  | zero => simpa using h
  | succ n ih =>
    cases ss with
    | nil => simp only [DenL] at h; subst h; simp [DenL]
    | cons s ss =>
      simp only [DenL] at h
      obtain ⟨v, r, rfl, _, h3⟩ := h
      simpa using ih h3
theorem DenL_take {ss : List SV} {vs : List Value} (n : Nat) (h : DenL A env w ss vs) : DenL A env w (ss.take n) (vs.take n) := by
  induction n generalizing ss vs with
  | zero => simp [DenL]
  | succ n ih =>
    cases ss with
    | nil => simp only [DenL] at h; subst h; simp [DenL]
    | cons s ss =>
      simp only [DenL] at h
      obtain ⟨v, r, rfl, h2, h3⟩ := h
      simp only [List.take_succ_cons, DenL]
      exact ⟨v, _, rfl, h2, ih h3⟩

theorem partS_part {t : TypeId} {cs : List SV} {off : Nat} {s : SV} {vs : Array Value} (e : partS P t cs off = some s) (hd : DenL A env w cs vs.toList) :
    ∃ v, (part t vs off).run P w = .ok v w ∧ Den A env w s v := by
  unfold partS at e
  split at e
  · rename_i ha
    split at e
    · rename_i n hn
      split at e
      · rename_i hle
        cases e
        refine ⟨.agg (vs.extract off (off + n)), ?_, ?_⟩
        · unfold part; simp [Sem.run_bind, aggT_run ha w, sizeT_run hn w]
        · simp only [Den]
          refine ⟨_, rfl, ?_⟩
          have := DenL_take n (DenL_drop off hd)
          simpa [Array.toList_extract, List.extract_eq_take_drop] using this
      · cases e
    · cases e
  · rename_i ha
    rw [getL_eq] at e
    obtain ⟨v, hv, hd'⟩ := DenL_get _ _ hd e
    refine ⟨v, ?_, hd'⟩
    have hv' : vs[off]? = some v := by rw [← Array.getElem?_toList]; exact hv
    unfold part; simp [Sem.run_bind, aggT_run ha w, hv']
  · cases e


theorem eqFs_run {q : TypeId → SV → SV → Option Bool} {n : Nat} (hq : ∀ t x y b u v, q t x y = some b → Den A env w x u → Den A env w y v → (Op.equalIn n t u v).run P w = .ok b w) :
    ∀ (fs : List Field) (xs ys : List SV) (us vs : Array Value) (b : Bool), eqV.eqFs P q fs xs ys = some b → DenL A env w xs us.toList → DenL A env w ys vs.toList →
      (Op.eqFields n us vs fs).run P w = .ok b w
  | [], xs, ys, us, vs, b, e, _, _ => by simp only [eqV.eqFs] at e; cases e; simp [Op.eqFields]
  | f :: fs, xs, ys, us, vs, b, e, hx, hy => by
    simp only [eqV.eqFs] at e
    split at e
    · cases e
    · rename_i hname
      have hne : f.name ≠ "_" := by simpa using hname
      split at e
      · rename_i x y h1 h2
        split at e
        · rename_i b1 r hb hr
          cases e
          obtain ⟨u, p1, d1⟩ := partS_part h1 hx
          obtain ⟨v, p2, d2⟩ := partS_part h2 hy
          have ih := eqFs_run hq fs xs ys us vs r hr hx hy
          have hk := hq _ _ _ _ _ _ hb d1 d2
          simp only [Op.eqFields, hne, ne_eq, not_false_eq_true, if_true, Sem.run_bind, p1, p2, Result.andThen_ok, hk]
          cases b1 <;> simp [ih]
        · cases e
      · cases e
theorem eqV_run : ∀ (d : Nat) (n : Nat) (t : TypeId) (x y : SV) (b : Bool) (u v : Value), d ≤ n → eqV P d t x y = some b → Den A env w x u → Den A env w y v → (Op.equalIn n t u v).run P w = .ok b w
  | 0, n, t, x, y, b, u, v, _, e, _, _ => by simp only [eqV] at e; cases e
  | d + 1, 0, t, x, y, b, u, v, hn, _, _, _ => by omega
  | d + 1, n + 1, t, x, y, b, u, v, hn, e, hx, hy => by
    simp only [eqV] at e
    split at e
    · rename_i k0 k1 a1 k2 a2 hu
      split at e
      · rename_i hk
        cases e
        cases kEq_eq hk
        simp only [Den] at hx hy
        rw [hx.1, hy.1, run_equalIn_int w n t k1 k0 a1 a2 hu]
        congr 1
      · cases e
    · rename_i a1 a2 hu
      cases e
      simp only [Den] at hx hy
      rw [hx, hy, run_equalIn_bool' w n t a1 a2 hu]
    · rename_i fs xs ys hu
      split at e
      · rename_i hs
        simp only [Den] at hx hy
        obtain ⟨us, rfl, hx⟩ := hx
        obtain ⟨vs, rfl, hy⟩ := hy
        have hfo : P.underlying t = some (.struct (P.fieldsOf t)) := by simp [Program.fieldsOf, hu]
        have hff : P.fieldsOf t = fs := by simp [Program.fieldsOf, hu]
        rw [run_equalIn_struct w n t us vs hfo hs, hff]
        exact eqFs_run (fun t' x' y' b' u' v' h1 h2 h3 => eqV_run d n t' x' y' b' u' v' (by omega) h1 h2 h3) _ _ _ _ _ _ e hx hy
      · cases e
    · cases e

theorem bin_sound (m : Mod w0 N0 A env h w) (f : FD A env w ρ a) {op : BinOp} {t yt : TypeId} {x y : Operand} (ho : o.op = .binOp op t x y yt)
    (e : (sBin P op t (opnd ρ x) (opnd ρ y)).run h = some (d, r)) (hp : conj d.pre) : Yields P o a w0 N0 A env h w d := by
  have dx := Den_opnd f x
  have dy := Den_opnd f y
  have go : ∀ (v : Value), ((do eqGuard op t x y (a.eval x) (a.eval y); binOp op t (a.eval x) (a.eval y) : Sem Value).run P w) = .ok v w →
      (execOp a.eval o).run P w = .ok (.value v) w := by
    intro v hv
    unfold execOp
    rw [ho]
    simp only [Sem.run_bind, Sem.run_pure] at hv ⊢
    rw [hv]
    rfl
  unfold sBin at e
  split at e
  · rename_i k u k' v hx hy
    rw [hx] at dx
    rw [hy] at dy
    simp only [Den] at dx dy
    rw [dx.1, dy.1] at go
    split at e
    · unfold sShift at e
      split at e
      · cases ret_inj e
        simp only [Dl.pre, conj, and_true] at hp
        refine Yields.pure m (go _ ?_) (s := .int k (shlI k u v)) (v := .int k (shlI k u v)) (by simp only [Den]; exact ⟨trivial, IntKind.wrap_has _ _⟩)
        rw [eqGuard_at_int, binOp_shl]
        have hn : ¬ v < 0 := by omega
        simp [Op.shift, hn, shlI]
      · cases ret_inj e
        simp only [Dl.pre, conj, and_true] at hp
        refine Yields.pure m (go _ ?_) (s := .int k (shrI k u v)) (v := .int k (shrI k u v)) (by simp only [Den]; exact ⟨trivial, shrI_has dx.2 v⟩)
        rw [eqGuard_at_int, binOp_shr]
        have hn : ¬ v < 0 := by omega
        simp [Op.shift, hn, shrI]
      · cases e
    · split at e
      · rename_i hk
        cases kEq_eq hk
        unfold sInt det0 at e
        have eqd : ∀ u v : Int, (u == v) = decide (u = v) := fun u v => by rw [Bool.eq_iff_iff]; simp
        by_cases h1 : op = .eql
        · subst h1
          simp only at e
          cases ret_inj e
          refine Yields.pure m (go (.bool (decide (u = v))) ?_) (by simp only [Den])
          exact run_int _ _ _ _ _ _ _ _ (by rw [binOp_eql, eqd]; rfl)
        by_cases h2 : op = .neq
        · subst h2
          simp only at e
          cases ret_inj e
          refine Yields.pure m (go (.bool (!decide (u = v))) ?_) (by simp only [Den])
          exact run_int _ _ _ _ _ _ _ _ (by rw [binOp_neq, bne, eqd]; rfl)
        cases op <;> simp only at e <;> first
          | (exfalso; exact h1 rfl)
          | (exfalso; exact h2 rfl)
          | (cases ret_inj e
             simp only [Dl.pre, conj, and_true] at hp
             refine Yields.pure m (go _ ?_) (by simp only [Den]; first | exact ⟨rfl, IntKind.wrap_has _ _⟩ | exact ⟨rfl, bits_has _ _ _ _⟩ | exact ⟨rfl, tmod_has dx.2 _⟩ | rfl)
             refine run_int _ _ _ _ _ _ _ _ ?_
             first
              | (simp [binOp, Op.intArith]; done)
              | (simp [binOp, Op.intDiv, hp]; done)
              | (simp only [binOp_and, binOp_or, binOp_xor, binOp_andNot, intBits_and, intBits_or, intBits_xor, intBits_andNot, Sem.run_pure]; done)
              | (simp [binOp, Op.intCmp]; done))
          | cases e
      · cases e
  · rename_i u v hx hy
    rw [hx] at dx
    rw [hy] at dy
    simp only [Den] at dx dy
    rw [dx, dy] at go
    split at e
    · rename_i hu
      unfold det0 at e
      cases ret_inj e
      refine Yields.pure m (go _ ?_) (s := .bool (u == v)) (v := .bool (u == v)) (by simp only [Den])
      rw [eqGuard_at_bool]
      simp [run_eql_bool w t u v hu]
    · rename_i hu
      unfold det0 at e
      cases ret_inj e
      refine Yields.pure m (go _ ?_) (s := .bool (!(u == v))) (v := .bool (!(u == v))) (by simp only [Den])
      rw [eqGuard_at_bool]
      simp [run_neq_bool w t u v hu]
    · cases e
  · rename_i xs ys hx hy
    rw [hx] at dx
    rw [hy] at dy
    simp only [Den] at dx dy
    obtain ⟨us, eu, du⟩ := dx
    obtain ⟨vs, ev, dv⟩ := dy
    rw [eu, ev] at go
    have key : ∀ b, sEq P t xs ys = some b → (Op.equalIn 10000 t (.agg us) (.agg vs)).run P w = .ok b w ∧ (eqGuard op t x y (.agg us) (.agg vs)).run P w = .ok () w := by
      intro b hb
      unfold sEq at hb
      split at hb
      · rename_i h2
        exact ⟨eqV_run 6 10000 t (.agg xs) (.agg ys) b _ _ (by omega) hb (by simp only [Den]; exact ⟨_, rfl, du⟩) (by simp only [Den]; exact ⟨_, rfl, dv⟩), run_eqGuard_agg w op t x y us vs h2⟩
      · cases hb
    split at e
    · rename_i b hb
      unfold det0 at e
      cases ret_inj e
      obtain ⟨k1, k2⟩ := key b hb
      refine Yields.pure m (go _ ?_) (s := .bool b) (v := .bool b) (by simp only [Den])
      simp only [Sem.run_bind, k2, Result.andThen_ok, run_eql_struct, k1]
    · rename_i b hb
      unfold det0 at e
      cases ret_inj e
      obtain ⟨k1, k2⟩ := key b hb
      refine Yields.pure m (go _ ?_) (s := .bool (!b)) (v := .bool (!b)) (by simp only [Den])
      simp only [Sem.run_bind, k2, Result.andThen_ok, run_neq_struct, k1]
    · cases e
  · rename_i hy
    rw [hy] at dy
    simp only [Den] at dy
    rw [dy] at go
    have key : ∀ (d : Dl) (r : List Nat) (n : Nat) (E : TypeId), P.underlying t = some (.slice E) → (∃ b c, a.eval x = .slice b n c) → (∀ c, a.eval x = .slice none n c → n = 0) → (nilDl op n).run h = some (d, r) → Yields P o a w0 N0 A env h w d := by
      rintro d r n E hu ⟨b, c, ev⟩ hn en
      have hb : b.isNone = true → n = 0 := fun hb => by
        cases b with
        | none => exact hn c ev
        | some _ => cases hb
      have heq : (Op.equalIn 10000 t (.slice b n c) (.slice none 0 0)).run P w = .ok b.isNone w := by
        unfold Op.equalIn
        simp only [Sem.run_bind, run_underlying hu, Result.andThen_ok]
        cases b <;> simp
      have hg : (eqGuard op t x y (.slice b n c) (.slice none 0 0)).run P w = .ok () w := by
        unfold eqGuard; split <;> simp
      unfold nilDl at en
      split at en
      · cases ret_inj en
        refine ⟨.bool b.isNone, w, .inl (go _ ?_), b.isNone, A, env, hb, m, Ext.refl, by simp only [Dl.val, Den]⟩
        rw [ev]
        simp only [Sem.run_bind, hg, Result.andThen_ok]
        simp [binOp, Op.equal, Op.maxDepth, heq]
      · cases ret_inj en
        refine ⟨.bool (!b.isNone), w, .inl (go _ ?_), b.isNone, A, env, hb, m, Ext.refl, by simp only [Dl.val, Den]⟩
        rw [ev]
        simp only [Sem.run_bind, hg, Result.andThen_ok]
        simp [binOp, Op.equal, Op.maxDepth, heq]
      · cases en
    have data : ∀ {u : CT} {xs : List u.D}, RdSl A w u (a.eval x) xs → (∃ b c, a.eval x = .slice b xs.length c) ∧ (∀ c, a.eval x = .slice none xs.length c → xs.length = 0) := by
      rintro u xs ⟨_, ⟨⟨q, e1⟩, rfl⟩ | ⟨b, off, cap, e1, _⟩⟩
      · exact ⟨⟨q, 0, e1⟩, fun _ _ => rfl⟩
      · exact ⟨⟨_, _, e1⟩, fun c e2 => by rw [e1] at e2; cases e2⟩
    unfold sNilEq at e
    split at e
    · rename_i E u xs hu hx
      rw [hx] at dx; simp only [Den] at dx
      exact key _ _ _ E hu (data dx).1 (data dx).2 e
    · rename_i E u xs hu hx
      rw [hx] at dx; simp only [Den] at dx
      exact key _ _ _ E hu (data dx.1).1 (data dx.1).2 e
    · rename_i E hu hx
      rw [hx] at dx; simp only [Den] at dx
      exact key _ _ 0 E hu ⟨none, 0, dx⟩ (fun _ _ => rfl) e
    · rename_i E n sz hu hx
      rw [hx] at dx; simp only [Den] at dx
      simp only [Q.run] at e
      split at e
      · rename_i p q hk
        simp only [Option.some.injEq, Prod.mk.injEq] at e
        obtain ⟨rfl, rfl⟩ := e
        have own : ∀ {b : Blk} {u : CT} {xs : List u.D} {E' : TypeId}, h n = .live b → (b = .row E' u xs ∨ b = .frz E' u xs) → (∃ b c, a.eval x = .slice b xs.length c) ∧ (∀ c, a.eval x = .slice none xs.length c → xs.length = 0) := by
          intro b u xs E' hl hb
          rcases dx with ⟨hnil, pa, ev⟩ | ⟨k, len, E2, c, hk2, hsh, ev⟩
          · have hx0 : xs = [] := by
              have := m.nm n
              rw [hl] at this
              rcases this with ⟨k', l', he', _⟩ | ⟨_, E3, t3, hb3⟩
              · rw [hnil] at he'; cases he'
              · rcases hb with rfl | rfl <;> rcases hb3 with hb3 | hb3 <;> cases hb3 <;> rfl
            subst hx0
            exact ⟨⟨pa, 0, ev⟩, fun _ _ => rfl⟩
          · have hlen : xs.length = len := by
              have := (m.live_blk hl hk2).1
              rcases hb with rfl | rfl
              · obtain ⟨_, _, _, _, h3, _⟩ := this; exact h3
              · obtain ⟨_, _, _, _, _, h3, _⟩ := this; exact h3
            exact ⟨⟨_, _, by rw [hlen]; exact ev⟩, fun c' e2 => by rw [ev] at e2; cases e2⟩
        split at hk
        · rename_i hl
          have := own hl (.inl rfl)
          exact key _ _ _ E hu this.1 this.2 hk
        · rename_i hl
          have := own hl (.inr rfl)
          exact key _ _ _ E hu this.1 this.2 hk
        · cases hk
      · cases e
    · cases e
  · cases e

theorem un_sound (m : Mod w0 N0 A env h w) (f : FD A env w ρ a) {op : UnOp} {t : TypeId} {x : Operand} (ho : o.op = .unOp op t x)
    (e : (sUn op (opnd ρ x)).run h = some (d, r)) (hp : conj d.pre) : Yields P o a w0 N0 A env h w d := by
  have dx := Den_opnd f x
  unfold sUn det0 at e
  split at e
  · rename_i b hx
    rw [hx] at dx; simp only [Den] at dx
    cases ret_inj e
    exact Yields.pure m (v := .bool (!b)) (by unfold execOp; rw [ho]; simp [dx, Op.unary]) (by simp only [Den])
  · rename_i k n hx
    rw [hx] at dx; simp only [Den] at dx
    cases ret_inj e
    exact Yields.pure m (v := .int k (k.wrap (0 - n))) (by unfold execOp; rw [ho]; simp [dx.1, Op.unary, Op.intArith]) (by simp only [Den]; exact ⟨trivial, IntKind.wrap_has _ _⟩)
  · rename_i k n hx
    rw [hx] at dx; simp only [Den] at dx
    cases ret_inj e
    exact Yields.pure m (v := .int k (notI k n)) (by unfold execOp; rw [ho]; simp only [dx.1, Op.unary, intBits_xor, notI]; rfl) (by simp only [Den]; exact ⟨trivial, bits_has _ _ _ _⟩)
  · cases e

theorem conv_sound (m : Mod w0 N0 A env h w) (f : FD A env w ρ a) {s t : TypeId} {x : Operand} (ho : o.op = .convert s t x)
    (e : (sConv P s t (opnd ρ x)).run h = some (d, r)) (hp : conj d.pre) : Yields P o a w0 N0 A env h w d := by
  have dx := Den_opnd f x
  unfold sConv det0 at e
  split at e
  · rename_i k n dd k' hx hs ht
    rw [hx] at dx; simp only [Den] at dx
    cases ret_inj e
    refine Yields.pure m (v := .int k' (k'.wrap n)) ?_ (by simp only [Den]; exact ⟨trivial, IntKind.wrap_has _ _⟩)
    unfold execOp; rw [ho]
    simp only [dx.1, convert, Sem.run_bind, run_underlying hs, run_underlying ht, Result.andThen_ok, Conv.intToInt, Sem.run_pure]
  · cases e
end
end Go.SX
