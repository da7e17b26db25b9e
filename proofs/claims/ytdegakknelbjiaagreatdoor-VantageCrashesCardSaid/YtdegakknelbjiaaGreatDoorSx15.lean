/- SX, part 15: regions whose order is open: the text's order serves every order. -/
import Derived.Test.YtdegakknelbjiaaGreatDoorSx14
namespace Go.SX
set_option linter.unusedVariables false

/-- What an operation touches: names read and written, slots read and written. -/
structure Tch where
  rd : List Nat
  wr : List Nat
  srd : List Nat
  swr : List Nat

def dstL : Option Tmp → List Nat
  | some d => [d]
  | none => []

def touch (ops : Array Oper) (o : Oper) (st : Stp) (r : List Nat) : Tch := ⟨r, st.wr, o.looksAt ops, dstL o.dst⟩

def noC : List Nat → List Nat → Bool
  | [], _ => true
  | a :: r, l => !memN a l && noC r l
theorem noC_spec : ∀ {l m : List Nat}, noC l m = true → ∀ n ∈ l, n ∉ m
  | [], m, _, n, hn => by simp at hn
  | a :: r, m, h, n, hn => by
    simp only [noC, Bool.and_eq_true, Bool.not_eq_true'] at h
    rcases List.mem_cons.1 hn with rfl | hn
    · intro hm; rw [memN_iff.2 hm] at h; exact absurd h.1 (by simp)
    · exact noC_spec h.2 n hn

def apT (s t : Tch) : Bool := noC s.wr t.rd && noC s.wr t.wr && noC t.wr s.rd && noC s.swr t.srd && noC s.swr t.swr && noC t.swr s.srd

structure Apart (s t : Tch) : Prop where
  a : ∀ n ∈ s.wr, n ∉ t.rd
  b : ∀ n ∈ s.wr, n ∉ t.wr
  c : ∀ n ∈ t.wr, n ∉ s.rd
  d : ∀ n ∈ s.swr, n ∉ t.srd
  e : ∀ n ∈ s.swr, n ∉ t.swr
  f : ∀ n ∈ t.swr, n ∉ s.srd
theorem Apart.symm {s t : Tch} (h : Apart s t) : Apart t s := ⟨h.c, fun n hn hm => h.b n hm hn, h.a, h.f, fun n hn hm => h.e n hm hn, h.d⟩
theorem apT_spec {s t : Tch} (h : apT s t = true) : Apart s t := by
  simp only [apT, Bool.and_eq_true] at h
  obtain ⟨⟨⟨⟨⟨h1, h2⟩, h3⟩, h4⟩, h5⟩, h6⟩ := h
  exact ⟨noC_spec h1, noC_spec h2, noC_spec h3, noC_spec h4, noC_spec h5, noC_spec h6⟩

theorem noC_of : ∀ {l m : List Nat}, (∀ n ∈ l, n ∉ m) → noC l m = true
  | [], m, _ => rfl
  | a :: r, m, h => by
    simp only [noC, Bool.and_eq_true, Bool.not_eq_true']
    refine ⟨?_, noC_of fun n hn => h n (List.mem_cons_of_mem _ hn)⟩
    cases hm : memN a m with
    | false => rfl
    | true => exact absurd (memN_iff.1 hm) (h a (by simp))
theorem Apart.bool {s t : Tch} (h : Apart s t) : apT s t = true := by
  simp only [apT, Bool.and_eq_true]
  exact ⟨⟨⟨⟨⟨noC_of h.a, noC_of h.b⟩, noC_of h.c⟩, noC_of h.d⟩, noC_of h.e⟩, noC_of h.f⟩

/-! ### Which operations come ahead of which -/
def getM : List Nat → Nat → Nat
  | [], _ => 0
  | m :: _, 0 => m
  | _ :: r, n + 1 => getM r n
theorem getM_eq : ∀ (l : List Nat) (n : Nat), getM l n = l.getD n 0
  | [], n => by simp [getM]
  | m :: r, 0 => rfl
  | m :: r, n + 1 => by simp [getM, getM_eq r n]

def maskE (tbl : List Nat) : List Edge → Nat
  | [] => 0
  | e :: r => match Region.binds .any e with
    | true => (1 <<< e.on) ||| (getM tbl e.on ||| maskE tbl r)
    | false => maskE tbl r
def masks : List Oper → List Nat → List Nat
  | [], tbl => tbl
  | o :: r, tbl => masks r (tbl ++ [maskE tbl o.after.toList])
def ancB (msk : List Nat) (i j : Nat) : Bool := (getM msk j).testBit i

inductive Anc (ops : Array Oper) : Nat → Nat → Prop where
  | edge {i j : Nat} {o : Oper} {e : Edge} (ho : ops[j]? = some o) (he : e ∈ o.after) (hb : Region.binds .any e = true) (hi : e.on = i) : Anc ops i j
  | step {i j : Nat} {o : Oper} {e : Edge} (ho : ops[j]? = some o) (he : e ∈ o.after) (hb : Region.binds .any e = true) (h : Anc ops i e.on) : Anc ops i j

theorem testBit_one_shl (n i : Nat) (h : (1 <<< n).testBit i = true) : i = n := by
  rw [Nat.testBit_shiftLeft] at h
  simp only [Bool.and_eq_true, decide_eq_true_eq] at h
  have h2 := h.2
  by_cases hz : i - n = 0
  · omega
  · have : Nat.testBit 1 (i - n) = false := by
      cases hk : i - n with
      | zero => exact absurd hk hz
      | succ k => simp [Nat.testBit_succ]
    rw [this] at h2; cases h2

theorem maskE_spec {ops : Array Oper} {tbl : List Nat} {j i : Nat} {o : Oper} (ho : ops[j]? = some o) (ht : ∀ k, (getM tbl k).testBit i = true → Anc ops i k) :
    ∀ (es : List Edge), (∀ e ∈ es, e ∈ o.after) → (maskE tbl es).testBit i = true → Anc ops i j
  | [], _, h => by simp [maskE] at h
  | e :: r, hm, h => by
    simp only [maskE] at h
    split at h
    · rename_i hb
      simp only [Nat.testBit_or, Bool.or_eq_true] at h
      rcases h with h | h | h
      · exact .edge ho (hm e (by simp)) hb (testBit_one_shl _ _ h).symm
      · exact .step ho (hm e (by simp)) hb (ht _ h)
      · exact maskE_spec ho ht r (fun e he => hm e (List.mem_cons_of_mem _ he)) h
    · exact maskE_spec ho ht r (fun e he => hm e (List.mem_cons_of_mem _ he)) h

theorem masks_spec {ops : Array Oper} : ∀ (l : List Oper) (k : Nat) (tbl : List Nat), (∀ j, l[j]? = ops[k + j]?) → tbl.length = k → (∀ i j, (getM tbl j).testBit i = true → Anc ops i j) →
    ∀ i j, (getM (masks l tbl) j).testBit i = true → Anc ops i j
  | [], k, tbl, _, _, h => h
  | o :: l, k, tbl, hl, ht, h => by
    have h0 : ops[k]? = some o := by simpa using (hl 0).symm
    refine masks_spec l (k + 1) _ (fun j => by have := hl (j + 1); simpa [Nat.add_assoc, Nat.add_comm 1 j] using this) (by simp [ht]) ?_
    intro i j hb
    rw [getM_eq, List.getD_eq_getElem?_getD] at hb
    by_cases hj : j < tbl.length
    · rw [List.getElem?_append_left hj, ← List.getD_eq_getElem?_getD, ← getM_eq] at hb
      exact h i j hb
    · by_cases hj2 : j = tbl.length
      · subst hj2
        simp only [List.getElem?_append_right (Nat.le_refl _), Nat.sub_self, List.getElem?_cons_zero, Option.getD_some] at hb
        exact maskE_spec (ht ▸ h0) (fun k hk => h i k hk) _ (fun e he => by simpa using he) hb
      · rw [List.getElem?_append_right (by omega), List.getElem?_eq_none (by simp; omega)] at hb
        simp at hb

/-! ### The symbolic run in any order -/
abbrev Log := List (Nat × Tch)
def okLog (msk : List Nat) (i : Nat) (t : Tch) : Log → Bool
  | [] => true
  | (j, s) :: r => (ancB msk j i || apT s t) && okLog msk i t r
theorem okLog_iff {msk : List Nat} {i : Nat} {t : Tch} : ∀ {l : Log}, okLog msk i t l = true ↔ ∀ p ∈ l, ancB msk p.1 i = true ∨ apT p.2 t = true
  | [] => by simp [okLog]
  | (j, s) :: r => by simp [okLog, okLog_iff (l := r)]

section
variable (P : Program) (sp : Specs) (ops : Array Oper) (msk : List Nat)
def sOp (i : Nat) (log : Log) (K : Log → FS → Prop) (F : FS) : Prop :=
  match ops[i]? with
  | none => K log F
  | some o => ∃ st r, (sdl P sp ops.toList o F.sl).run F.h = some (st, r) ∧ st.pre ∧ okLog msk i (touch ops o st r) log = true ∧
      ∀ F', Out st o.dst F F' → K ((i, touch ops o st r) :: log) F'

def sAny (K : FS → Prop) : Nat → Array Bool → Log → FS → Prop
  | 0, listed, log, F => Region.ready .any ops listed = [] ∧ K F
  | n + 1, listed, log, F => (Region.ready .any ops listed = [] → K F) ∧
      ∀ i ∈ Region.ready .any ops listed, sOp P sp ops msk i log (fun log' F' => sAny K n (listed.setIfInBounds i true) log' F') F

def sLex (K : FS → Prop) : List Oper → Nat → Log → FS → Prop
  | [], _, _, F => K F
  | _ :: l, k, log, F => sOp P sp ops msk k log (fun log' F' => sLex K l (k + 1) log' F') F
end

section
variable {P : Program} {sp : Specs} {ops : Array Oper} {msk : List Nat} {w0 : World} {N0 : Old} {K : FS → Prop}

theorem sAny_perm : ∀ (n : Nat) (listed : Array Bool) (log log' : Log) (F : FS), (∀ p, p ∈ log' ↔ p ∈ log) → sAny P sp ops msk K n listed log F → sAny P sp ops msk K n listed log' F
  | 0, _, _, _, _, _, h => h
  | n + 1, listed, log, log', F, hl, h => by
    refine ⟨h.1, fun i hi => ?_⟩
    have := h.2 i hi
    unfold sOp at this ⊢
    split
    · rename_i ho
      rw [ho] at this
      exact sAny_perm n _ _ _ _ hl this
    · rename_i o ho
      rw [ho] at this
      obtain ⟨st, r, h1, h2, h3, h4⟩ := this
      refine ⟨st, r, h1, h2, okLog_iff.2 fun p hp => okLog_iff.1 h3 p ((hl p).1 hp), fun F' hF => sAny_perm n _ _ _ _ (fun p => ?_) (h4 F' hF)⟩
      simp [hl p]

theorem out_ne {st : Stp} (hp : st.pre) (dst : Option Tmp) (F : FS) : ∃ F', Out st dst F F' := by
  cases st with
  | go d => obtain ⟨x, hx⟩ := d.ne hp; exact ⟨_, x, hx, rfl⟩
  | split g d =>
    cases g with
    | true => obtain ⟨x, hx⟩ := d.ne (hp rfl); exact ⟨_, .inl ⟨rfl, x, hx, rfl⟩⟩
    | false => exact ⟨_, .inr ⟨rfl, rfl⟩⟩

/-- The slots that an operation does not look at do not matter. -/
theorem opnd_congr {ρ ρ' : Nat → SV} {x : Operand} (h : ∀ t, x = .tmp t → ρ t = ρ' t) : opnd ρ x = opnd ρ' x := by
  cases x with
  | tmp t => exact h t rfl
  | _ => rfl

theorem stepOp_congr {o : Oper} {ρ ρ' : Nat → SV} (h : ∀ x ∈ o.op.operands, opnd ρ x = opnd ρ' x) : stepOp P sp o ρ = stepOp P sp o ρ' := by
  have hmap : ∀ xs : Array Operand, (∀ x ∈ xs, opnd ρ x = opnd ρ' x) → xs.toList.map (opnd ρ) = xs.toList.map (opnd ρ') := fun xs hx =>
    List.map_congr_left fun x hm => hx x (by simpa using hm)
  have hpairs : ∀ ps : Array (Nat × Operand), (∀ x ∈ (ps.toList.map (·.2)).toArray, opnd ρ x = opnd ρ' x) →
      ps.toList.map (fun p => (p.1, opnd ρ p.2)) = ps.toList.map (fun p => (p.1, opnd ρ' p.2)) := fun ps hx =>
    List.map_congr_left fun p hm => by
      rw [hx p.2 (by
        simp only [List.mem_toArray, List.mem_map]
        exact ⟨p, hm, rfl⟩)]
  have hopt : ∀ x : Option Operand, (∀ y, x = some y → opnd ρ y = opnd ρ' y) → x.map (opnd ρ) = x.map (opnd ρ') := fun x hx => by
    cases x with
    | none => rfl
    | some y => simp [hx y rfl]
  obtain ⟨dst, op, ty, pos, after, guard⟩ := o
  simp only at h
  unfold stepOp
  cases op <;> simp only [Op.operands] at h <;> simp only
  case move x => rw [h x (by simp)]
  case assign x => rw [h x (by simp)]
  case pick c x y => rw [h c (by simp), h x (by simp), h y (by simp)]
  case box E x => rw [h x (by simp)]
  case build t ps => rw [hpairs ps h]
  case buildSlice t n ps => rw [hpairs ps h]
  case load t x => rw [show opndG sp ρ x = opndG sp ρ' x from by (cases x with | tmp s => exact h (.tmp s) (by simp) | _ => rfl)]
  case store t x y => rw [h x (by simp), h y (by simp)]
  case nilCheck x => rw [h x (by simp)]
  case binOp op t x y yt => rw [h x (by simp), h y (by simp)]
  case unOp op t x => rw [h x (by simp)]
  case convert s t x => rw [h x (by simp)]
  case makeFunc fn fs caps => cases fn <;> simp only; rw [hmap caps fun x hx => h x (by simp [hx])]
  case makeSlice t l c => rw [h l (by simp), h c (by simp)]
  case slice t x lo hi mx =>
    rw [h x (by simp), hopt lo fun y hy => h y (by simp [hy]), hopt hi fun y hy => h y (by simp [hy]), hopt mx fun y hy => h y (by simp [hy])]
  case fieldAddr s x f => rw [h x (by simp)]
  case field s x f => rw [h x (by simp)]
  case indexAddr t x i => rw [h x (by simp), h i (by simp), show opndG sp ρ x = opndG sp ρ' x from (by cases x with | tmp s => exact h (.tmp s) (by simp) | _ => rfl)]
  case index t x i => rw [h x (by simp), h i (by simp)]
  case extract x i => rw [h x (by simp)]
  case call c =>
    obtain ⟨callee, args, ts⟩ := c
    cases callee with
    | value g => simp only; rw [h g (by simp [Call.operands]), hmap args fun x hx => h x (by simp [Call.operands, hx])]
    | builtin b => simp only; rw [hmap args fun x hx => h x (by simp [Call.operands, hx])]
    | invoke rc m => rfl

theorem mem_tmpsOf {t : Nat} : ∀ {l : List Operand}, t ∈ tmpsOf l ↔ Operand.tmp t ∈ l
  | [] => by simp [tmpsOf]
  | .tmp s :: r => by simp [tmpsOf, mem_tmpsOf (l := r)]
  | .const v :: r => by simp [tmpsOf, mem_tmpsOf (l := r)]
  | .global g :: r => by simp [tmpsOf, mem_tmpsOf (l := r)]
  | .func f :: r => by simp [tmpsOf, mem_tmpsOf (l := r)]

theorem looks_operand {o : Oper} {t : Nat} (h : Operand.tmp t ∈ o.op.operands) : t ∈ o.looksAt ops := by
  unfold Oper.looksAt
  refine List.mem_append_left _ (List.mem_filterMap.2 ⟨.tmp t, by simpa using h, rfl⟩)

theorem unwSlots_looks {o : Oper} {t : Nat} (h : t ∈ unwSlots o) : t ∈ o.looksAt ops := by
  unfold unwSlots at h
  split at h
  · rename_i c x y ho
    simp only [List.mem_singleton] at h
    subst h
    exact looks_operand (by rw [ho]; simp [Op.operands])
  · simp at h
  · exact looks_operand (by simpa using mem_tmpsOf.1 h)

theorem sdl_congr {o : Oper} {sl sl' : List SV} (h : ∀ t ∈ o.looksAt ops, getSl sl' t = getSl sl t) : sdl P sp ops.toList o sl' = sdl P sp ops.toList o sl := by
  have hg : guardV ops.toList sl' o.guard = guardV ops.toList sl o.guard := by
    unfold guardV
    cases hgd : o.guard with
    | none => rfl
    | some p =>
      obtain ⟨j, want⟩ := p
      simp only
      cases hj : getL ops.toList j with
      | none => rfl
      | some oj =>
        simp only
        cases hd : oj.dst with
        | none => rfl
        | some d =>
          simp only
          rw [h d ?_]
          unfold Oper.looksAt
          refine List.mem_append_right _ ?_
          rw [hgd]
          rw [getL_eq, Array.getElem?_toList] at hj
          simp [hj, hd]
  have hpre : ∀ (g : Bool) (l : List Nat), (∀ t ∈ l, t ∈ o.looksAt ops) → preUs g sl' l = preUs g sl l := by
    intro g l
    induction l with
    | nil => intro _; rfl
    | cons t l ih => intro hl; simp only [preUs]; rw [h t (hl t (by simp)), ih fun s hs => hl s (List.mem_cons_of_mem _ hs)]
  unfold sdl
  rw [hg]
  split
  · rw [stepOp_congr fun x hx => opnd_congr fun t ht => h t (looks_operand (ht ▸ hx))]
  · rename_i g _
    rw [hpre g _ fun t ht => unwSlots_looks ht]
    have hany : ∀ (l : List Nat), (∀ t ∈ l, t ∈ o.looksAt ops) → anyUndef sl' l = anyUndef sl l := by
      intro l
      induction l with
      | nil => intro _; rfl
      | cons t l ih => intro hl; simp only [anyUndef]; rw [h t (hl t (by simp)), ih fun s hs => hl s (List.mem_cons_of_mem _ hs)]
    rw [hany _ fun t ht => unwSlots_looks ht]
    split
    · rfl
    congr 1
    exact stepOp_congr fun x hx => opnd_congr fun t ht => by simp only [h t (looks_operand (ht ▸ hx))]
  · rfl

theorem getSl_setSl_ne {sl : List SV} {dst : Option Tmp} {v : SV} {t : Nat} (h : ∀ d, dst = some d → t ≠ d) : getSl (setSl sl dst v) t = getSl sl t := by
  cases dst with
  | none => rfl
  | some d => simp only [setSl]; rw [getSl_set, if_neg (fun hh => h d rfl hh.1)]

theorem out_slots {st : Stp} {dst : Option Tmp} {F F' : FS} (h : Out st dst F F') : ∃ v u, F'.sl = setSl F.sl dst v ∧ F'.h = setAll u F.h ∧ ∀ p ∈ u, p.1 ∈ st.wr := by
  have mk : ∀ (d : Dl) (x : d.X), ∃ v u, (F.app dst d x).sl = setSl F.sl dst v ∧ (F.app dst d x).h = setAll u F.h ∧ ∀ p ∈ u, p.1 ∈ d.wr := fun d x =>
    ⟨d.val x, d.upd x, rfl, rfl, fun p hp => by rw [← Dl.wr_upd d x]; exact List.mem_map_of_mem hp⟩
  cases st with
  | go d => obtain ⟨x, _, rfl⟩ := h; exact mk d x
  | split g d =>
    rcases h with ⟨_, x, _, rfl⟩ | ⟨_, rfl⟩
    · exact mk d x
    · exact ⟨.cv undef, [], rfl, rfl, by simp⟩

/-- An operation gives the same whether another one, apart from it, has been carried out or not. -/
theorem sdl_out {i j : Oper} {sti stj : Stp} {ri rj : List Nat} {F F' : FS} (ap : Apart (touch ops i sti ri) (touch ops j stj rj)) (hi : Out sti i.dst F F') :
    ((sdl P sp ops.toList j F'.sl).run F'.h = some (stj, rj) ↔ (sdl P sp ops.toList j F.sl).run F.h = some (stj, rj)) := by
  obtain ⟨v, u, hsl, hh, hw⟩ := out_slots hi
  have hc : sdl P sp ops.toList j F'.sl = sdl P sp ops.toList j F.sl := sdl_congr fun t ht => by
    rw [hsl]
    refine getSl_setSl_ne fun d hd e => ap.d d ?_ (e ▸ ht)
    simp [touch, dstL, hd]
  have hq : ∀ n ∈ rj, F'.h n = F.h n := fun n hn => by
    rw [hh]
    refine setAll_other fun hm => ?_
    obtain ⟨p, hp, rfl⟩ := List.mem_map.1 hm
    exact ap.a _ (hw p hp) hn
  rw [hc]
  exact ⟨fun e => Q.run_local _ e fun n hn => (hq n hn).symm, fun e => Q.run_local _ e hq⟩

theorem setAll_comm {u v : List (Nat × Nm)} (h : ∀ p ∈ u, ∀ q ∈ v, p.1 ≠ q.1) (hp : Heap) : setAll u (setAll v hp) = setAll v (setAll u hp) := by
  funext n
  by_cases hu : n ∈ u.map (·.1)
  · have hv : n ∉ v.map (·.1) := fun hv => by
      obtain ⟨p, hp1, rfl⟩ := List.mem_map.1 hu
      obtain ⟨q, hq1, hq2⟩ := List.mem_map.1 hv
      exact h p hp1 q hq1 hq2.symm
    rw [setAll_other hv]
    have key : ∀ (u : List (Nat × Nm)) (h1 h2 : Heap), n ∈ u.map (·.1) → setAll u h1 n = setAll u h2 n := by
      intro u
      induction u with
      | nil => intro _ _ hn; simp at hn
      | cons p u ih =>
        intro h1 h2 hn
        simp only [setAll]
        by_cases hpn : n = p.1
        · subst hpn; simp
        · rw [Heap.set_other _ _ hpn, Heap.set_other _ _ hpn]
          exact ih h1 h2 (by simpa [hpn] using hn)
    exact key u _ _ hu
  · rw [setAll_other hu]
    by_cases hv : n ∈ v.map (·.1)
    · have key : ∀ (u : List (Nat × Nm)) (h1 h2 : Heap), n ∈ u.map (·.1) → setAll u h1 n = setAll u h2 n := by
        intro u
        induction u with
        | nil => intro _ _ hn; simp at hn
        | cons p u ih =>
          intro h1 h2 hn
          simp only [setAll]
          by_cases hpn : n = p.1
          · subst hpn; simp
          · rw [Heap.set_other _ _ hpn, Heap.set_other _ _ hpn]
            exact ih h1 h2 (by simpa [hpn] using hn)
      exact key v _ _ hv
    · rw [setAll_other hv, setAll_other hv, setAll_other hu]

theorem setSl_comm {sl : List SV} {x y : Option Tmp} {v u : SV} (h : ∀ d, x = some d → y ≠ some d) : setSl (setSl sl x v) y u = setSl (setSl sl y u) x v := by
  cases x with
  | none => rfl
  | some d =>
    cases y with
    | none => rfl
    | some e =>
      have hne : d ≠ e := fun he => h d rfl (he ▸ rfl)
      simp only [setSl]
      exact List.set_comm _ _ hne

/-- Two operations apart from each other: their outcomes in either order. -/
theorem out_comm {i j : Oper} {sti stj : Stp} {ri rj : List Nat} {F Fj Fji : FS} (ap : Apart (touch ops i sti ri) (touch ops j stj rj)) (hj : Out stj j.dst F Fj) (hi : Out sti i.dst Fj Fji) :
    ∃ Fi, Out sti i.dst F Fi ∧ Out stj j.dst Fi Fji := by
  have hdst : ∀ d, i.dst = some d → j.dst ≠ some d := fun d hd hd' => ap.e d (by simp [touch, dstL, hd]) (by simp [touch, dstL, hd'])
  have hdst' : ∀ d, j.dst = some d → i.dst ≠ some d := fun d hd hd' => hdst d hd' hd
  -- an outcome, as a change of slots and heap
  have rep : ∀ {st : Stp} {dst : Option Tmp} {F F' : FS}, Out st dst F F' → ∃ v u, (∀ p ∈ u, p.1 ∈ st.wr) ∧ F' = ⟨setSl F.sl dst v, setAll u F.h⟩ ∧ ∀ G : FS, Out st dst G ⟨setSl G.sl dst v, setAll u G.h⟩ := by
    intro st dst F F' h
    cases st with
    | go d => obtain ⟨x, hx, rfl⟩ := h; exact ⟨d.val x, d.upd x, fun p hp => by rw [Stp.wr, ← Dl.wr_upd d x]; exact List.mem_map_of_mem hp, rfl, fun G => ⟨x, hx, rfl⟩⟩
    | split g d =>
      rcases h with ⟨hg, x, hx, rfl⟩ | ⟨hg, rfl⟩
      · exact ⟨d.val x, d.upd x, fun p hp => by rw [Stp.wr, ← Dl.wr_upd d x]; exact List.mem_map_of_mem hp, rfl, fun G => .inl ⟨hg, x, hx, rfl⟩⟩
      · exact ⟨.cv undef, [], by simp, rfl, fun G => .inr ⟨hg, rfl⟩⟩
  obtain ⟨vj, uj, hwj, rfl, gj⟩ := rep hj
  obtain ⟨vi, ui, hwi, rfl, gi⟩ := rep hi
  refine ⟨_, gi F, ?_⟩
  have e1 : setSl (setSl F.sl j.dst vj) i.dst vi = setSl (setSl F.sl i.dst vi) j.dst vj := setSl_comm hdst'
  have e2 : setAll ui (setAll uj F.h) = setAll uj (setAll ui F.h) := setAll_comm (fun p hp q hq e => ap.b p.1 (hwi p hp) (e ▸ hwj q hq)) F.h
  simp only [e1, e2]
  exact gj ⟨setSl F.sl i.dst vi, setAll ui F.h⟩

/-- The operations that have come up are closed under what they wait for. -/
def Down (ops : Array Oper) (listed : Array Bool) : Prop := ∀ j o, ops[j]? = some o → listed.getD j false = true → ∀ e ∈ o.after, Region.binds .any e = true → listed.getD e.on false = true

theorem ready_anc {listed : Array Bool} (hd : Down ops listed) {i j : Nat} (hj : j ∈ Region.ready .any ops listed) (h : Anc ops i j) : listed.getD i false = true := by
  obtain ⟨hun, oj, hoj, hall⟩ := mem_ready.1 hj
  have key : ∀ {i k : Nat}, Anc ops i k → listed.getD k false = true → listed.getD i false = true := by
    intro i k h
    induction h with
    | edge ho he hb hi => intro hk; rw [← hi]; exact hd _ _ ho hk _ he hb
    | step ho he hb _ ih => intro hk; exact ih (hd _ _ ho hk _ he hb)
  cases h with
  | edge ho he hb hi =>
    rw [hoj] at ho; cases ho
    rw [← hi]; exact hall _ he hb
  | step ho he hb h =>
    rw [hoj] at ho; cases ho
    exact key h (hall _ he hb)

theorem down_set {listed : Array Bool} (hd : Down ops listed) {i : Nat} (hi : i ∈ Region.ready .any ops listed) : Down ops (listed.setIfInBounds i true) := by
  obtain ⟨hun, oi, hoi, hall⟩ := mem_ready.1 hi
  have mono : ∀ k, listed.getD k false = true → (listed.setIfInBounds i true).getD k false = true := by
    intro k hk
    rw [Array.getD_eq_getD_getElem?] at hk ⊢
    by_cases h : i = k
    · subst h
      by_cases h2 : i < listed.size
      · rw [Array.getElem?_setIfInBounds_self_of_lt h2]; rfl
      · rw [Array.getElem?_eq_none (by omega)] at hk; simp at hk
    · rw [Array.getElem?_setIfInBounds_ne h]; exact hk
  intro j o ho hj e he hb
  by_cases hij : i = j
  · subst hij
    rw [hoi] at ho; cases ho
    exact mono _ (hall e he hb)
  · refine mono _ (hd j o ho ?_ e he hb)
    rw [Array.getD_eq_getD_getElem?] at hj ⊢
    rwa [Array.getElem?_setIfInBounds_ne hij] at hj

/-- **An operation that may come up now may be taken first.** -/
theorem sAny_first (hmsk : ∀ i j, ancB msk i j = true → Anc ops i j) {i : Nat} {oi : Oper} {st : Stp} {r : List Nat} (hi : ops[i]? = some oi) (hpre : st.pre) :
    ∀ (fuel : Nat) (listed : Array Bool) (log : Log) (F : FS), Down ops listed → i ∈ Region.ready .any ops listed → (sdl P sp ops.toList oi F.sl).run F.h = some (st, r) →
      okLog msk i (touch ops oi st r) log = true →
      (∀ F', Out st oi.dst F F' → sAny P sp ops msk K fuel (listed.setIfInBounds i true) ((i, touch ops oi st r) :: log) F') → sAny P sp ops msk K (fuel + 1) listed log F := by
  intro fuel
  induction fuel with
  | zero =>
    intro listed log F hd hr hrun hlog H
    refine ⟨fun h => (by rw [h] at hr; cases hr), fun j hj => ?_⟩
    by_cases hji : j = i
    · subst hji
      unfold sOp; rw [hi]
      exact ⟨st, r, hrun, hpre, hlog, H⟩
    · obtain ⟨F', hF'⟩ := out_ne hpre oi.dst F
      have := ready_mono hj hji
      rw [(H F' hF').1] at this
      cases this
  | succ fuel ih =>
    intro listed log F hd hr hrun hlog H
    refine ⟨fun h => (by rw [h] at hr; cases hr), fun j hj => ?_⟩
    by_cases hji : j = i
    · subst hji
      unfold sOp; rw [hi]
      exact ⟨st, r, hrun, hpre, hlog, H⟩
    · obtain ⟨hjun, oj, hoj, hall⟩ := mem_ready.1 hj
      -- what 'j' does behind 'i'
      have Hj : ∀ F', Out st oi.dst F F' → ∃ stj rj, (sdl P sp ops.toList oj F'.sl).run F'.h = some (stj, rj) ∧ stj.pre ∧ okLog msk j (touch ops oj stj rj) ((i, touch ops oi st r) :: log) = true ∧
          ∀ F'', Out stj oj.dst F' F'' → sAny P sp ops msk K fuel ((listed.setIfInBounds i true).setIfInBounds j true) ((j, touch ops oj stj rj) :: (i, touch ops oi st r) :: log) F'' := by
        intro F' hF'
        have := (H F' hF').2 j (ready_mono hj hji)
        unfold sOp at this; rw [hoj] at this
        exact this
      obtain ⟨F1, hF1⟩ := out_ne hpre oi.dst F
      obtain ⟨stj, rj, hrj, hpj, hlj, _⟩ := Hj F1 hF1
      have hnot : ancB msk i j = false := by
        cases hb : ancB msk i j with
        | false => rfl
        | true =>
          have h1 := ready_anc hd hj (hmsk i j hb)
          have h0 := (mem_ready.1 hr).1
          rw [Array.getD_eq_getD_getElem?] at h0 h1
          cases hx : listed[i]? with
          | none => rw [hx] at h1; simp at h1
          | some b => rw [hx] at h0 h1; simp at h0 h1; rw [h0] at h1; cases h1
      have ap : Apart (touch ops oi st r) (touch ops oj stj rj) := by
        have := okLog_iff.1 hlj (i, touch ops oi st r) (by simp)
        rcases this with h | h
        · simp only at h; rw [hnot] at h; cases h
        · exact apT_spec h
      have hrun_j : (sdl P sp ops.toList oj F.sl).run F.h = some (stj, rj) := (sdl_out ap hF1).1 hrj
      unfold sOp; rw [hoj]
      refine ⟨stj, rj, hrun_j, hpj, okLog_iff.2 fun p hp => okLog_iff.1 hlj p (List.mem_cons_of_mem _ hp), fun Fj hFj => ?_⟩
      refine ih (listed.setIfInBounds j true) _ Fj (down_set hd hj) (ready_mono hr (Ne.symm hji)) ((sdl_out ap.symm hFj).2 hrun) (okLog_iff.2 fun p hp => ?_) fun Fji hFji => ?_
      · rcases List.mem_cons.1 hp with rfl | hp
        · exact .inr ap.symm.bool
        · exact okLog_iff.1 hlog p hp
      · obtain ⟨Fi, hFi, hFij⟩ := out_comm ap hFj hFji
        obtain ⟨stj', rj', hrj', hpj', hlj', hK⟩ := Hj Fi hFi
        have e1 : some (stj', rj') = some (stj, rj) := by rw [← hrj', ← (sdl_out ap hFi).2 hrun_j]
        simp only [Option.some.injEq, Prod.mk.injEq] at e1
        obtain ⟨rfl, rfl⟩ := e1
        have := hK Fji hFij
        rw [Array.setIfInBounds_comm _ _ hji]
        refine sAny_perm _ _ _ _ _ (fun p => ?_) this
        simp only [List.mem_cons]
        exact ⟨fun h => by rcases h with h | h | h <;> simp [h], fun h => by rcases h with h | h | h <;> simp [h]⟩
end
end Go.SX
