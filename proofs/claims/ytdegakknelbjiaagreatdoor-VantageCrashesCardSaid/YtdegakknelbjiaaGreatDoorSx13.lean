/- SX, part 13: an array's element; contracts; one step. -/
import Derived.Test.YtdegakknelbjiaaGreatDoorSx12
namespace Go.SX
set_option linter.unusedVariables false
section
variable {P : Program} {w0 : World} {N0 : Old} {A : Nat → Prop} {env : Env} {h : Heap} {w : World} {o : Oper} {a : Act} {ρ : Nat → SV} {d : Dl} {r : List Nat}

theorem colInts_den {k : IntKind} {sz : Nat} (hsz : 1 ≤ sz) : ∀ (cs : List SV) (vs : List Value) (s : Nat) (l : List Int), colInts k sz cs s = some l → DenL A env w cs vs →
    ∀ j, s + j * sz < vs.length → vs[s + j * sz]? = some (.int k (pickI l j)) ∧ k.has (pickI l j)
  | [], vs, s, l, e, hd, j, hj => by simp only [DenL] at hd; subst hd; simp at hj
  | c :: cs, vs, 0, l, e, hd, j, hj => by
    simp only [DenL] at hd
    obtain ⟨v, r, rfl, hv, hr⟩ := hd
    cases c with
    | int k' n =>
      simp only [colInts] at e
      split at e
      · rename_i l' hk hl
        cases e
        cases kEq_eq hk
        simp only [Den] at hv
        cases j with
        | zero => simp [pickI, hv.1, hv.2]
        | succ j =>
          have := colInts_den hsz cs r (sz - 1) l' hl hr j (by simp at hj; rw [Nat.add_mul] at hj; omega)
          have e1 : 0 + (j + 1) * sz = (sz - 1 + j * sz) + 1 := by rw [Nat.add_mul]; omega
          rw [e1, List.getElem?_cons_succ]
          simpa [pickI] using this
      · cases e
    | _ => simp [colInts] at e
  | c :: cs, vs, s + 1, l, e, hd, j, hj => by
    simp only [DenL] at hd
    obtain ⟨v, r, rfl, hv, hr⟩ := hd
    have e' : colInts k sz cs s = some l := by cases c <;> simpa [colInts] using e
    have := colInts_den hsz cs r s l e' hr j (by simp at hj; omega)
    rw [show s + 1 + j * sz = (s + j * sz) + 1 from by omega, List.getElem?_cons_succ]
    exact this

theorem index_sound (m : Mod w0 N0 A env h w) (f : FD A env w ρ a) {t : TypeId} {x i : Operand} (ho : o.op = .index t x i)
    (e : (sIndex P t (opnd ρ x) (opnd ρ i)).run h = some (d, r)) (hp : conj d.pre) : Yields P o a w0 N0 A env h w d := by
  have dx := Den_opnd f x
  have di := Den_opnd f i
  unfold sIndex at e
  split at e
  · rename_i cs ki iv len E hx hi hu
    rw [hx] at dx; rw [hi] at di
    simp only [Den] at dx di
    obtain ⟨vs, ev, dv⟩ := dx
    have hvl := DenL_length dv
    have exe : ∀ {v : Value} {n : Nat}, sizeT P E = some n → 0 ≤ iv → iv < len → (part E vs (iv.toNat * n)).run P w = .ok v w → (execOp a.eval o).run P w = .ok (.value v) w := by
      intro v n hn h0 h1 hr
      unfold execOp; rw [ho]
      simp only [Instr.index, di.1, ev, asIntOf, Sem.run_bind, Sem.run_pure, Result.andThen_ok, run_underlying hu, Sem.run_ite, if_pos (And.intro h0 h1), sizeT_run hn, hr]
    split at e
    · rename_i k hE hsz
      split at e
      · rename_i l hc hb
        have hb : cs.length = len := Nat.eq_of_beq_eq_true hb
        cases ret_inj e
        simp only [Dl.pre, conj, and_true] at hp
        obtain ⟨c1, c2⟩ := colInts_den (Nat.le_refl 1) cs vs.toList 0 l hc dv iv.toNat (by omega)
        refine Yields.pure m (exe hsz hp.1 hp.2 (v := .int k (pickI l iv.toNat)) ?_) (by simp only [Den]; exact ⟨trivial, c2⟩)
        have ha : aggT P E = some false := by unfold aggT; rw [hE]
        have c1' : vs[iv.toNat]? = some (.int k (pickI l iv.toNat)) := by rw [← Array.getElem?_toList]; simpa using c1
        unfold part
        simp [Sem.run_bind, aggT_run ha w, c1']
      · cases e
    · rename_i E2 hE hsz
      split at e
      · rename_i k hE2 hsz2
        split at e
        · rename_i l1 l2 hc1 hc2 hb
          have hb : cs.length = len * 2 := Nat.eq_of_beq_eq_true hb
          cases ret_inj e
          simp only [Dl.pre, conj, and_true] at hp
          obtain ⟨c1, c2⟩ := colInts_den (by decide) cs vs.toList 0 l1 hc1 dv iv.toNat (by omega)
          obtain ⟨c3, c4⟩ := colInts_den (by decide) cs vs.toList 1 l2 hc2 dv iv.toNat (by omega)
          have ha : aggT P E = some true := by unfold aggT; rw [hE]
          refine Yields.pure m (exe hsz hp.1 hp.2 (v := .agg (vs.extract (iv.toNat * 2) (iv.toNat * 2 + 2))) ?_) ?_
          · unfold part
            simp [Sem.run_bind, aggT_run ha w, sizeT_run hsz w]
          · simp only [Den, DenL]
            have hex : (vs.extract (iv.toNat * 2) (iv.toNat * 2 + 2)).toList = [.int k (pickI l1 iv.toNat), .int k (pickI l2 iv.toNat)] := by
              apply List.ext_getElem?
              intro j
              simp only [Array.toList_extract, List.extract_eq_take_drop, List.getElem?_take, List.getElem?_drop]
              rw [Nat.zero_add] at c1
              rcases j with _ | _ | j
              · rw [if_pos (by omega), Nat.add_zero, c1]; rfl
              · rw [if_pos (by omega), Nat.zero_add, Nat.add_comm, c3]; rfl
              · rw [if_neg (by omega)]; simp
            exact ⟨_, rfl, _, _, hex, ⟨rfl, c2⟩, _, _, rfl, ⟨rfl, c4⟩, rfl⟩
        · cases e
      · cases e
    · cases e
  · cases e

theorem makeFunc_sound (m : Mod w0 N0 A env h w) (f : FD A env w ρ a) {g : FuncId} {caps : Array Operand} (ho : o.op = .makeFunc (.func g) #[] caps) {pre : List Prop} :
    Yields P o a w0 N0 A env h w (.det pre (.fn g (caps.toList.map (opnd ρ))) []) := by
  refine Yields.pure m (v := .func (.func g) #[] (caps.map a.eval)) ?_ ?_
  · unfold execOp; rw [ho]
    simp [Instr.makeFunc]
  · simp only [Den]
    refine ⟨_, rfl, ?_⟩
    rw [Array.toList_map]
    generalize caps.toList = l
    induction l with
    | nil => simp [DenL]
    | cons p l ih => simp only [List.map_cons, DenL]; exact ⟨_, _, rfl, Den_opnd f p, ih⟩

theorem move_sound (m : Mod w0 N0 A env h w) (f : FD A env w ρ a) {x : Operand} (ho : o.op = .move x ∨ o.op = .assign x) {pre : List Prop} :
    Yields P o a w0 N0 A env h w (.det pre (opnd ρ x) []) := by
  refine Yields.pure m (v := a.eval x) ?_ (Den_opnd f x)
  unfold execOp
  rcases ho with ho | ho <;> rw [ho] <;> rfl
end

/-! ### Contracts -/
/-- What a function does with symbolic arguments: 'base': a number from which new names may be taken. -/
abbrev Spec := Nat → List SV → Q Dl

/-- A function keeps its contract. -/
def SpecOK (P : Program) (G : Globs) (f : FuncId) (s : Spec) : Prop :=
  ∀ (base : Nat) (svs : List SV) (h : Heap) (d : Dl) (r : List Nat), (s base svs).run h = some (d, r) → conj d.pre →
    ∀ (w0 : World) (N0 : Old) (A : Nat → Prop) (env : Env) (w : World) (vs : List Value), N0.g = G → Mod w0 N0 A env h w → DenL A env w svs vs →
      Calls P f vs.toArray w (fun e w' => ∃ v, e = .returned v ∧ Good w0 N0 A env h w d v w')

/-- The callee is a Go function with a body. -/
def isBody (P : Program) (f : FuncId) : Bool := match P.funcs[f]? with
  | some fn => !(fn.name == "runtime.NumGoroutine") && fn.body.isSome
  | none => false

/-- The contracts that a proof may lean on. -/
structure Specs where
  fn : FuncId → Option Spec
  gl : Globs
def SpecsOK (P : Program) (sp : Specs) : Prop := ∀ f s, sp.fn f = some s → SpecOK P sp.gl f s

def sCall (P : Program) (sp : Specs) (base : Nat) (f : SV) (args : List SV) : Q Dl := match f with
  | .fn g caps => match isBody P g, sp.fn g with
    | true, some s => s base (args ++ caps)
    | _, _ => .fail
  | _ => .fail

/-- The number from which an operation takes names. -/
def nameOf (dst : Option Tmp) : Nat := match dst with
  | some d => (d + 1) * 16
  | none => 0

def sBuiltin (P : Program) (dst : Option Tmp) (b : Builtin) (args : List SV) (ts : List TypeId) : Q Dl := match b, args, ts with
  | .len, [x], [t] => sLen P t x
  | .append, [s, x], [t, t'] => match Nat.beq t t', dst with
    | true, some d => sAppend P t ((d + 1) * 16) s x
    | false, some d => sAppendN P t t' ((d + 1) * 16) s x
    | _, none => .fail
  | .cap, [x], [t] => sCap P t x
  | .min, [x, y], _ => sMin x y
  | .max, [x, y], _ => sMax x y
  | _, _, _ => .fail

/-- Slots where a part of an owned slice is an owner itself (a mark among the contracts). -/
def ownDst (sp : Specs) : Option Tmp → Option Nat
  | some d => match sp.fn (4000000000 + d) with
    | some _ => some d
    | none => none
  | none => none
/-- Slots where an array's element at a place that is known is taken (a mark among the contracts). -/
def concDst (sp : Specs) : Option Tmp → Bool
  | some d => match sp.fn (4100000000 + d) with
    | some _ => true
    | none => false
  | none => false
/-- An operand behind a pointer: package-level variables too. -/
def opndG (sp : Specs) (ρ : Nat → SV) (x : Operand) : SV := match x with
  | .global g => match sp.gl g with
    | some y => .dptr y.1 y.2 0
    | none => .gl g
  | x => opnd ρ x
/-- An array's element at a place that is known. -/
def sIndexC (P : Program) (t : TypeId) (x i : SV) : Q Dl := match x, i, P.underlying t with
  | .agg cs, .int _ i, some (.array len e) => match sizeT P e, decide (0 ≤ i) && decide (i < len) with
    | some n, true => ofO (partS P e cs (i.toNat * n))
    | _, _ => .fail
  | _, _, _ => .fail
/-- One operation, its guard apart. -/
def stepOp (P : Program) (sp : Specs) (o : Oper) (ρ : Nat → SV) : Q Dl :=
  match o.op with
  | .move x | .assign x => det0 (opnd ρ x)
  | .pick c x y => sPick (opnd ρ c) (opnd ρ x) (opnd ρ y)
  | .alloc E => match o.dst with
    | some d => sNew E ((d + 1) * 16) (zeroCells P E)
    | none => .fail
  | .box E x => match o.dst with
    | some d => sNew E ((d + 1) * 16) (cellsOk (opnd ρ x))
    | none => .fail
  | .build t ps => sBuild P t (ps.toList.map fun p => (p.1, opnd ρ p.2))
  | .buildSlice t n ps => match o.dst with
    | some d => sBuildSlice P t n ((d + 1) * 16) (ps.toList.map fun p => (p.1, opnd ρ p.2))
    | none => .fail
  | .load t x => sLoad P t (opndG sp ρ x)
  | .store t x y => sStore P t (opnd ρ x) (opnd ρ y)
  | .nilCheck x => sNil (opnd ρ x)
  | .binOp op t x y _ => match P.underlying t with
    | some .string => sBinS op (opnd ρ x) (opnd ρ y)
    | _ => sBin P op t (opnd ρ x) (opnd ρ y)
  | .unOp op _ x => sUn op (opnd ρ x)
  | .convert s t x => match P.underlying t with
    | some .string => sConvS P s (opnd ρ x)
    | _ => sConv P s t (opnd ρ x)
  | .makeFunc (.func g) fs caps => match fs.isEmpty with
    | true => det0 (.fn g (caps.toList.map (opnd ρ)))
    | false => .fail
  | .makeSlice t l c => match o.dst with
    | some d => sMakeSlice P t ((d + 1) * 16) (opnd ρ l) (opnd ρ c)
    | none => .fail
  | .slice t x lo hi mx => match ownDst sp o.dst with
    | some d => sSliceOwn P t ((d + 1) * 16) (opnd ρ x) (lo.map (opnd ρ)) (hi.map (opnd ρ)) (mx.map (opnd ρ))
    | none => sSlice P t (opnd ρ x) (lo.map (opnd ρ)) (hi.map (opnd ρ)) (mx.map (opnd ρ))
  | .fieldAddr s x f => sFieldAddr P s f (opnd ρ x)
  | .field s x f => sField P s f (opnd ρ x)
  | .indexAddr t x i => match P.underlying t with
    | some (.array _ _) => sIndexArr P t (opndG sp ρ x) (opnd ρ i)
    | _ => sIndexAddr P t (opnd ρ x) (opnd ρ i)
  | .index t x i => match concDst sp o.dst with
    | true => sIndexC P t (opnd ρ x) (opnd ρ i)
    | false => sIndex P t (opnd ρ x) (opnd ρ i)
  | .extract x i => sExtract i (opnd ρ x)
  | .call { callee := .builtin b, args, argTypes } => sBuiltin P o.dst b (args.toList.map (opnd ρ)) argTypes.toList
  | .call { callee := .value f, args, .. } => sCall P sp (nameOf o.dst) (opnd ρ f) (args.toList.map (opnd ρ))
  | _ => .fail

section
variable {P : Program} {sp : Specs} {w0 : World} {N0 : Old} {A : Nat → Prop} {env : Env} {h : Heap} {w : World} {o : Oper} {a : Act} {ρ : Nat → SV} {d : Dl} {r : List Nat}

/-- What one operation does to the run: its value goes into its slot. -/
def Steps1 (P : Program) (o : Oper) (a : Act) (w0 : World) (N0 : Old) (A : Nat → Prop) (env : Env) (h : Heap) (w : World) (d : Dl) : Prop :=
  ∀ (K : Act → World → Prop) (Q' : Exit → Act → World → Prop), (∀ v w', Good w0 N0 A env h w d v w' → K (a.put o.dst v) w') → o.wp P a w K Q'

theorem Yields.steps (y : Yields P o a w0 N0 A env h w d) : Steps1 P o a w0 N0 A env h w d := by
  intro K Q' hK
  obtain ⟨v, w', hr, g⟩ := y
  unfold Oper.wp
  rcases hr with hr | ⟨hr, rfl⟩ <;> rw [hr]
  · exact hK _ _ g
  · exact hK _ _ g

theorem opnds_den (f : FD A env w ρ a) (xs : Array Operand) : DenL A env w (xs.toList.map (opnd ρ)) (xs.map a.eval).toList := by
  rw [Array.toList_map]
  generalize xs.toList = l
  induction l with
  | nil => simp [DenL]
  | cons p l ih => simp only [List.map_cons, DenL]; exact ⟨_, _, rfl, Den_opnd f p, ih⟩

theorem Den_opndG (hg : N0.g = sp.gl) (m : Mod w0 N0 A env h w) (f : FD A env w ρ a) (x : Operand) : Den A env w (opndG sp ρ x) (a.eval x) := by
  cases x with
  | global g =>
    simp only [opndG]
    cases hy : sp.gl g with
    | none => simp only [Den, Act.eval]
    | some y =>
      obtain ⟨h1, h2⟩ := m.gl g y (by rw [hg]; exact hy)
      simp only [Den, Act.eval]
      exact ⟨g, 0, rfl, h1, h2⟩
  | tmp t => simp only [opndG]; exact Den_opnd f _
  | const v => simp only [opndG]; exact Den_opnd f (.const v)
  | func v => simp only [opndG]; exact Den_opnd f (.func v)

theorem indexC_sound (m : Mod w0 N0 A env h w) (f : FD A env w ρ a) {t : TypeId} {x i : Operand} (ho : o.op = .index t x i)
    (e : (sIndexC P t (opnd ρ x) (opnd ρ i)).run h = some (d, r)) : Yields P o a w0 N0 A env h w d := by
  have dx := Den_opnd f x
  have di := Den_opnd f i
  unfold sIndexC at e
  split at e
  · rename_i cs ki iv len E hx hi hu
    rw [hx] at dx; rw [hi] at di
    simp only [Den] at dx di
    obtain ⟨vs, ev, dv⟩ := dx
    split at e
    · rename_i n hn hb
      simp only [Bool.and_eq_true, decide_eq_true_eq] at hb
      obtain ⟨sv, e1, rfl⟩ := ofO_inj e
      obtain ⟨v, hr, hd⟩ := partS_part e1 dv
      refine Yields.pure m (v := v) ?_ hd
      unfold execOp; rw [ho]
      simp only [Instr.index, di.1, ev, asIntOf, Sem.run_bind, Sem.run_pure, Result.andThen_ok, run_underlying hu, Sem.run_ite, if_pos (And.intro hb.1 hb.2), sizeT_run hn, hr]
    · cases e
  · cases e

theorem call_sound (hs : SpecsOK P sp ∧ N0.g = sp.gl) (m : Mod w0 N0 A env h w) (f : FD A env w ρ a) {g : Operand} {args : Array Operand} {ts : Array TypeId} {base : Nat} (ho : o.op = .call { callee := .value g, args, argTypes := ts })
    (e : (sCall P sp base (opnd ρ g) (args.toList.map (opnd ρ))).run h = some (d, r)) (hp : conj d.pre) : (∃ v w', Good w0 N0 A env h w d v w') ∧ Steps1 P o a w0 N0 A env h w d := by
  have dg := Den_opnd f g
  unfold sCall at e
  split at e
  · rename_i gi caps hg
    split at e
    · rename_i s hb hsp
      rw [hg] at dg; simp only [Den] at dg
      obtain ⟨vs, ev, dv⟩ := dg
      have hcall := hs.1 gi s hsp base _ h d r e hp w0 N0 A env w _ hs.2 m (DenL_append (opnds_den f args) dv)
      refine ⟨?_, fun K Q' hK => ?_⟩
      · obtain ⟨e', w', fr, ⟨v, _, g⟩, _⟩ := hcall []
        exact ⟨v, w', g⟩
      unfold Oper.wp execOp
      rw [ho]
      unfold isBody at hb
      split at hb
      · rename_i fn hfn
        simp only [Bool.and_eq_true, Bool.not_eq_true'] at hb
        have hbody : fn.body.isNone = false := by cases hfb : fn.body <;> simp_all
        simp only [resolve, Deferred.ofValue, ev, Sem.run_bind, Sem.run_pure, Result.andThen_ok, invoke, callFunc, run_program, hfn, hb.1, hbody, Bool.false_eq_true, if_false, Array.empty_append, Oper.upon]
        have hargs : ((Array.map a.eval args).toList ++ vs.toList).toArray = Array.map a.eval args ++ vs := by apply Array.ext'; simp
        rw [hargs] at hcall
        refine hcall.mono ?_
        rintro e' w' ⟨v, rfl, g⟩
        exact hK _ _ g
      · cases hb
    · cases e
  · cases e

theorem det0_inj {v : SV} (e : (det0 v).run h = some (d, r)) : d = .det [] v [] := (ret_inj e).symm

theorem step_sound (hs : SpecsOK P sp ∧ N0.g = sp.gl) (m : Mod w0 N0 A env h w) (f : FD A env w ρ a)
    (e : (stepOp P sp o ρ).run h = some (d, r)) (hp : conj d.pre) : (∃ v w', Good w0 N0 A env h w d v w') ∧ Steps1 P o a w0 N0 A env h w d := by
  have ofY : Yields P o a w0 N0 A env h w d → (∃ v w', Good w0 N0 A env h w d v w') ∧ Steps1 P o a w0 N0 A env h w d := fun y => by
    have y' := y
    obtain ⟨v, w', hr, g⟩ := y'
    exact ⟨⟨v, w', g⟩, y.steps⟩
  unfold stepOp at e
  split at e
  · rename_i x ho; rw [det0_inj e]; rw [det0_inj e] at ofY; exact ofY (move_sound m f (.inl ho))
  · rename_i x ho; rw [det0_inj e]; rw [det0_inj e] at ofY; exact ofY (move_sound m f (.inr ho))
  · rename_i c x y ho; exact ofY (pick_sound m f ho e hp)
  · rename_i E ho
    split at e
    · exact ofY (alloc_sound m ho e)
    · cases e
  · rename_i E x ho
    split at e
    · exact ofY (box_sound m f ho e)
    · cases e
  · rename_i t ps ho; exact ofY (build_sound m f ho e)
  · rename_i t n ps ho
    split at e
    · exact ofY (buildSlice_sound m f ho e)
    · cases e
  · rename_i t x ho; exact ofY (load_sound m (opndG sp ρ) (Den_opndG hs.2 m f x) ho e)
  · rename_i t x y ho; exact ofY (store_sound m f ho e)
  · rename_i x ho; exact ofY (nil_sound m f ho e)
  · rename_i op t x y yt ho
    split at e
    · rename_i ht; exact ofY (binS_sound m f ho ht e)
    · exact ofY (bin_sound m f ho e hp)
  · rename_i op t x ho; exact ofY (un_sound m f ho e hp)
  · rename_i s t x ho
    split at e
    · rename_i ht; exact ofY (convS_sound m f ho ht e)
    · exact ofY (conv_sound m f ho e hp)
  · rename_i g fs caps ho
    split at e
    · rename_i hfs
      have : fs = #[] := by simpa using hfs
      subst this
      rw [det0_inj e]; rw [det0_inj e] at ofY
      exact ofY (makeFunc_sound m f ho)
    · cases e
  · rename_i t l c ho
    split at e
    · exact ofY (makeSlice_sound m f ho e hp)
    · cases e
  · rename_i t x lo hi mx ho
    split at e
    · exact ofY (sliceOwn_sound m f ho e hp)
    · exact ofY (slice_sound m f ho e hp)
  · rename_i s x i ho; exact ofY (fieldAddr_sound m f ho e)
  · rename_i s x i ho; exact ofY (field_sound m f ho e)
  · rename_i t x i ho
    split at e
    · exact ofY (indexArr_sound m f (opndG sp ρ) (Den_opndG hs.2 m f x) ho e)
    · exact ofY (indexAddr_sound m f ho e hp)
  · rename_i t x i ho
    split at e
    · exact ofY (indexC_sound m f ho e)
    · exact ofY (index_sound m f ho e hp)
  · rename_i x i ho; exact ofY (extract_sound m f ho e)
  · rename_i b args ts ho
    obtain ⟨al⟩ := args
    obtain ⟨tl⟩ := ts
    have e' : (sBuiltin P o.dst b (al.map (opnd ρ)) tl).run h = some (d, r) := e
    clear e
    cases b
    case len =>
      match al, tl with
      | [x1], [t1] => exact ofY (len_sound m f ho e')
      | [], _ => cases e'
      | _ :: _ :: _, _ => cases e'
      | [_], [] => cases e'
      | [_], _ :: _ :: _ => cases e'
    case cap =>
      match al, tl with
      | [x1], [t1] => exact ofY (cap_sound m f ho e')
      | [], _ => cases e'
      | _ :: _ :: _, _ => cases e'
      | [_], [] => cases e'
      | [_], _ :: _ :: _ => cases e'
    case append =>
      match al, tl with
      | [x1, x2], [t1, t2] =>
        simp only [List.map, sBuiltin] at e'
        split at e'
        · rename_i dd hb _
          have hb : t1 = t2 := Nat.eq_of_beq_eq_true hb
          subst hb
          exact ofY (append_sound m f ho e' hp)
        · exact ofY (appendN_sound m f ho e' hp)
        · cases e'
      | [], _ => cases e'
      | [_], _ => cases e'
      | _ :: _ :: _ :: _, _ => cases e'
      | [_, _], [] => cases e'
      | [_, _], [_] => cases e'
      | [_, _], _ :: _ :: _ :: _ => cases e'
    case min =>
      match al with
      | [x1, x2] => exact ofY (min_sound m f ho e')
      | [] => cases e'
      | [_] => cases e'
      | _ :: _ :: _ :: _ => cases e'
    case max =>
      match al with
      | [x1, x2] => exact ofY (max_sound m f ho e')
      | [] => cases e'
      | [_] => cases e'
      | _ :: _ :: _ :: _ => cases e'
    all_goals (cases e')
  · rename_i g args ts ho
    exact call_sound hs m f ho e hp
  · cases e
end
end Go.SX
