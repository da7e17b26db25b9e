/- SX, part 22: a function's contract, off its symbolic run (the proof). -/
import Derived.Test.YtdegakknelbjiaaGreatDoorSx21
namespace Go.SX
set_option linter.unusedVariables false

/-! ### Names -/
def boxR : List Nat → Nat → Rn
  | [], _ => []
  | n :: bx, j => (n, some (PN + j)) :: boxR bx (j + 1)
def resR : List (Option Nat) → Nat → Rn
  | [], _ => []
  | o :: r, n => (n, o) :: resR r (n + 1)

theorem lookR_append {a b : Rn} {n : Nat} : lookR (a ++ b) n = (match lookR a n with | some x => some x | none => lookR b n) := by
  induction a with
  | nil => rfl
  | cons p a ih =>
    obtain ⟨m, x⟩ := p
    simp only [List.cons_append, lookR_cons]
    split
    · rfl
    · exact ih

theorem boxR_look : ∀ {bx : List Nat} {j n : Nat} {y : Option Nat}, lookR (boxR bx j) n = some y → ∃ i, bx[i]? = some n ∧ y = some (PN + (j + i))
  | [], j, n, y, h => by simp [boxR, lookR] at h
  | m :: bx, j, n, y, h => by
    simp only [boxR, lookR_cons] at h
    split at h
    · rename_i e; cases h; exact ⟨0, by simp [e], rfl⟩
    · obtain ⟨i, h1, h2⟩ := boxR_look h
      exact ⟨i + 1, by simpa using h1, by rw [h2, show j + 1 + i = j + (i + 1) from by omega]⟩

theorem boxR_at : ∀ {bx : List Nat} {j n i : Nat}, bx.Nodup → bx[i]? = some n → lookR (boxR bx j) n = some (some (PN + (j + i)))
  | [], j, n, i, _, h => by simp at h
  | m :: bx, j, n, 0, _, h => by
    simp at h; subst h
    simp only [boxR, lookR_cons, if_pos, Nat.add_zero]
  | m :: bx, j, n, i + 1, hn, h => by
    have h' : bx[i]? = some n := by simpa using h
    obtain ⟨h1, h2⟩ := List.nodup_cons.1 hn
    have hne : n ≠ m := fun e => h1 (e ▸ List.mem_of_getElem? h')
    simp only [boxR, lookR_cons, if_neg hne, boxR_at h2 h']
    rw [show j + 1 + i = j + (i + 1) from by omega]

theorem boxR_none {bx : List Nat} {j n : Nat} (h : n ∉ bx) : lookR (boxR bx j) n = none := by
  cases hl : lookR (boxR bx j) n with
  | none => rfl
  | some y => obtain ⟨i, hi, _⟩ := boxR_look hl; exact absurd (List.mem_of_getElem? hi) h

theorem resR_look : ∀ {ow : List (Option Nat)} {n0 n : Nat} {y : Option Nat}, lookR (resR ow n0) n = some y → ∃ i, ow[i]? = some y ∧ n = n0 + i
  | [], n0, n, y, h => by simp [resR, lookR] at h
  | o :: ow, n0, n, y, h => by
    simp only [resR, lookR_cons] at h
    split at h
    · rename_i e; cases h; exact ⟨0, by simp, by omega⟩
    · obtain ⟨i, h1, h2⟩ := resR_look h
      exact ⟨i + 1, by simpa using h1, by omega⟩

theorem resR_at : ∀ {ow : List (Option Nat)} {n0 i : Nat} {o : Option Nat}, ow[i]? = some o → lookR (resR ow n0) (n0 + i) = some o
  | [], n0, i, o, h => by simp at h
  | p :: ow, n0, 0, o, h => by simp at h; subst h; simp [resR, lookR_cons]
  | p :: ow, n0, i + 1, o, h => by
    have h' : ow[i]? = some o := by simpa using h
    have := resR_at (n0 := n0 + 1) h'
    simp only [resR, lookR_cons, if_neg (show ¬ n0 + (i + 1) = n0 from by omega)]
    rw [show n0 + (i + 1) = n0 + 1 + i from by omega]; exact this

theorem memO_iff {n : Nat} : ∀ {l : List (Option Nat)}, memO n l = true ↔ some n ∈ l
  | [] => by simp [memO]
  | none :: r => by simp [memO, memO_iff (l := r)]
  | some m :: r => by simp [memO, memO_iff (l := r)]

theorem ownOk_spec {fz : List (Nat × Nm)} : ∀ {ow : List (Option Nat)}, ownOk fz ow = true → ∀ (i m : Nat), ow[i]? = some (some m) → (m < PN ∨ QN ≤ m) ∧ m ∉ fz.map (·.1) ∧ ∀ i' : Nat, ow[i']? = some (some m) → i = i'
  | [], _, i, m, h => by simp at h
  | none :: r, h, i, m, hi => by
    simp only [ownOk] at h
    cases i with
    | zero => simp at hi
    | succ i =>
      obtain ⟨h1, h2, h3⟩ := ownOk_spec h i m (by simpa using hi)
      refine ⟨h1, h2, fun i' hi' => ?_⟩
      cases i' with
      | zero => simp at hi'
      | succ i' => rw [h3 i' (by simpa using hi')]
  | some q :: r, h, i, m, hi => by
    simp only [ownOk, Bool.and_eq_true, Bool.or_eq_true, Bool.not_eq_true'] at h
    obtain ⟨⟨⟨h1, h2⟩, h3⟩, h4⟩ := h
    have hno : ∀ i : Nat, r[i]? ≠ some (some q) := fun i hi => by
      have : memO q r = true := memO_iff.2 (List.mem_of_getElem? hi)
      rw [this] at h3; cases h3
    cases i with
    | zero =>
      simp at hi; subst hi
      refine ⟨h1.imp (fun h => Nat.le_of_ble_eq_true h) (fun h => Nat.le_of_ble_eq_true h), notIn_spec h2, fun i' hi' => ?_⟩
      cases i' with
      | zero => rfl
      | succ i' => exact absurd (by simpa using hi') (hno i')
    | succ i =>
      obtain ⟨g1, g2, g3⟩ := ownOk_spec h4 i m (by simpa using hi)
      refine ⟨g1, g2, fun i' hi' => ?_⟩
      cases i' with
      | zero => simp at hi'; subst hi'; exact absurd (by simpa using hi) (hno i)
      | succ i' => rw [g3 i' (by simpa using hi')]

theorem allLt_spec : ∀ {fz : List (Nat × Nm)}, allLt fz = true → ∀ n, n ∈ fz.map (·.1) → n < PN ∨ QN ≤ n
  | [], _, n, h => by simp at h
  | (m, b) :: r, h, n, hn => by
    simp only [allLt, Bool.and_eq_true, Bool.or_eq_true] at h
    rcases List.mem_cons.1 hn with e | hn
    · have e : n = m := e
      subst e; exact h.1.imp (fun h => Nat.le_of_ble_eq_true h) (fun h => Nat.le_of_ble_eq_true h)
    · exact allLt_spec h.2 n hn

theorem disjN_spec {fz : List (Nat × Nm)} : ∀ {bx : List Nat}, disjN fz bx = true → ∀ n, n ∈ bx → n ∉ fz.map (·.1)
  | [], _, n, h => by simp at h
  | m :: r, h, n, hn => by
    simp only [disjN, Bool.and_eq_true] at h
    rcases List.mem_cons.1 hn with rfl | hn
    · exact notIn_spec h.1
    · exact disjN_spec h.2 n hn

theorem askUn_spec {h : Heap} {dl d : Dl} : ∀ {k n : Nat} {r : List Nat}, (askUn n k dl).run h = some (d, r) → d = dl ∧ ∀ i, i < k → h (n + i) = .un
  | 0, n, r, e => by
    simp only [askUn, Q.run, Option.some.injEq, Prod.mk.injEq] at e
    exact ⟨e.1.symm, fun i hi => by omega⟩
  | k + 1, n, r, e => by
    simp only [askUn, Q.run] at e
    split at e
    · rename_i p q hk
      simp only [Option.some.injEq, Prod.mk.injEq] at e
      obtain ⟨rfl, rfl⟩ := e
      split at hk
      · rename_i hun
        obtain ⟨h1, h2⟩ := askUn_spec hk
        refine ⟨h1, fun i hi => ?_⟩
        cases i with
        | zero => exact hun
        | succ i => rw [show n + (i + 1) = n + 1 + i from by omega]; exact h2 i (by omega)
      · cases hk
    · cases e

theorem mem_deadU {n : Nat} {x : Nm} : ∀ {cx : List (Option Nat)}, (n, x) ∈ deadU cx → x = .dead ∧ n ∈ somes cx
  | [], h => by simp [deadU] at h
  | none :: r, h => by simp only [deadU] at h; simpa only [somes] using mem_deadU (cx := r) h
  | some m :: r, h => by
    simp only [deadU] at h
    rcases List.mem_cons.1 h with h | h
    · cases h; exact ⟨rfl, List.mem_cons_self ..⟩
    · obtain ⟨h1, h2⟩ := mem_deadU (cx := r) h
      exact ⟨h1, List.mem_cons_of_mem _ h2⟩
theorem deadU_keys : ∀ {cx : List (Option Nat)}, (deadU cx).map (·.1) = somes cx
  | [] => rfl
  | none :: r => by simp only [deadU, somes]; exact deadU_keys (cx := r)
  | some m :: r => by simp only [deadU, somes, List.map_cons, deadU_keys (cx := r)]

/-! ### Results -/
/-- What a result variable in a cell holds. -/
def sCell (P : Program) (ty : TypeId) (v : SV) (h : Heap) : Option SV := match v with
  | .ptr n off => match h n with
    | .live (.cells _ cs) => partS P ty cs off
    | _ => none
  | _ => none
def resSVs (P : Program) : List ResultVar → List SV → Heap → Option (List SV)
  | [], _, _ => some []
  | .tmp t :: r, sl, h => match resSVs P r sl h with
    | some l => some (getSl sl t :: l)
    | none => none
  | .cell a ty :: r, sl, h => match sCell P ty (getSl sl a) h, resSVs P r sl h with
    | some v, some l => some (v :: l)
    | _, _ => none
def mkRes (l : List Value) : Value := if h : l.toArray.size = 1 then l.toArray[0] else .tuple l.toArray

theorem sCell_sound {P : Program} {w0 : World} {N0 : Old} {A : Nat → Prop} {env : Env} {h : Heap} {w : World} (m : Mod w0 N0 A env h w) {ty : TypeId} {s s' : SV} {v : Value} (e : sCell P ty s h = some s') (hd : Den A env w s v) :
    ∃ u, (do loadVar ty (← asAddr v) : Sem Value).run P w = .ok u w ∧ Den A env w s' u := by
  unfold sCell at e
  split at e
  · rename_i n off
    split at e
    · rename_i E cs hl
      simp only [Den] at hd
      obtain ⟨b, l, he, rfl⟩ := hd
      obtain ⟨⟨vs, hh, hd⟩, _⟩ := m.live_blk hl he
      obtain ⟨u, hr, hv⟩ := partS_load (o := 0) (k := b) e hd (fun j hj => by rw [cell_of_row w b _ vs E (0, 0) hh]; simp)
      rw [Nat.zero_add] at hr
      exact ⟨u, by simp [asAddr, hr], hv⟩
    · cases e
  · cases e

theorem mapM_res {P : Program} {w0 : World} {N0 : Old} {A : Nat → Prop} {env : Env} {h : Heap} {w : World} (m : Mod w0 N0 A env h w) {sl : List SV} {a : Act} (f : FD A env w (getSl sl) a) {F : ResultVar → Sem Value}
    (h1 : ∀ t, F (.tmp t) = pure (a.tmps.getD t undef)) (h2 : ∀ t ty, F (.cell t ty) = do loadVar ty (← asAddr (a.tmps.getD t undef))) : ∀ (l : List ResultVar) (svs : List SV), resSVs P l sl h = some svs →
    ∃ vs, (l.mapM F).run P w = .ok vs w ∧ DenL A env w svs vs
  | [], svs, e => by cases e; exact ⟨[], rfl, by simp [DenL]⟩
  | .tmp t :: l, svs, e => by
    simp only [resSVs] at e
    split at e
    · rename_i l' hl
      cases e
      obtain ⟨vs, hr, hd⟩ := mapM_res m f h1 h2 l l' hl
      refine ⟨a.tmps.getD t undef :: vs, ?_, by simp only [DenL]; exact ⟨_, _, rfl, f t, hd⟩⟩
      rw [List.mapM_cons, h1]
      simp [hr]
    · cases e
  | .cell t ty :: l, svs, e => by
    simp only [resSVs] at e
    split at e
    · rename_i v l' hv hl
      cases e
      obtain ⟨vs, hr, hd⟩ := mapM_res m f h1 h2 l l' hl
      obtain ⟨u, hu, hdu⟩ := sCell_sound m hv (f t)
      refine ⟨u :: vs, ?_, by simp only [DenL]; exact ⟨_, _, rfl, hdu, hd⟩⟩
      rw [List.mapM_cons, h2, Sem.run_bind, hu]
      simp [hr]
    · cases e

theorem results_run {P : Program} {w0 : World} {N0 : Old} {A : Nat → Prop} {env : Env} {h : Heap} {w : World} (m : Mod w0 N0 A env h w) {sl : List SV} {a : Act} (f : FD A env w (getSl sl) a) {fn : Func} {svs : List SV} (e : resSVs P fn.results.toList sl h = some svs) :
    ∃ vs, (results fn a.tmps).run P w = .ok (mkRes vs) w ∧ DenL A env w svs vs := by
  unfold results
  rw [Array.mapM_eq_mapM_toList]
  obtain ⟨vs, hr, hd⟩ := mapM_res (P := P) m f (F := fun | .tmp t => pure (a.tmps.getD t undef) | .cell t ty => do loadVar ty (← asAddr (a.tmps.getD t undef))) (fun t => rfl) (fun t ty => rfl) fn.results.toList svs e
  refine ⟨vs, ?_, hd⟩
  rw [Sem.run_bind, Sem.run_map]
  erw [hr]
  rfl

theorem resV_den {A : Nat → Prop} {env : Env} {w : World} {svs : List SV} {vs : List Value} (h : DenL A env w svs vs) : Den A env w (resV svs) (mkRes vs) := by
  have hl := DenL_length h
  unfold resV
  split
  · simp only [DenL] at h
    obtain ⟨v, r, rfl, h, rfl⟩ := h
    exact h
  · rename_i hne
    have : ¬ vs.length = 1 := fun e => by
      rw [hl] at e
      obtain ⟨x, hx⟩ := List.length_eq_one_iff.1 e
      exact hne x hx
    simp only [mkRes, Den]
    rw [dif_neg (by simpa using this)]
    exact ⟨_, rfl, h⟩

def conjE : List Prop → Prop
  | [] => True
  | [p] => p
  | p :: q :: r => p ∧ conjE (q :: r)
theorem conjE_iff : ∀ {l : List Prop}, conjE l ↔ conj l
  | [] => Iff.rfl
  | [p] => by simp [conjE, conj]
  | p :: q :: r => by rw [conjE, conj, conjE_iff]

/-- What must hold where a function ends. -/
def retG (P : Program) (ps : List PK) (rs : List RK) (rv : List ResultVar) (k : RDs rs × BDs ps → Prop) : Ex → St → Prop := fun e S => match e with
  | .exit _ => False
  | _ => match resSVs P rv S.sl (lookN S.H) with
    | none => False
    | some vs => match outR rs vs (lookN S.H), outB ps 0 (lookN S.H) with
      | some (y, f1, ow), some (z, f2, ow2) => match ownOk (f1 ++ f2) (ow ++ ow2), allLt (f1 ++ f2) with
        | true, true => k (y, z)
        | _, _ => False
      | _, _ => False

def padS : List SV → Nat → List SV
  | _, 0 => []
  | [], n + 1 => .junk :: padS [] n
  | v :: l, n + 1 => v :: padS l n

def startSt (ps : List PK) (d : PDs ps) (n : Nat) : St := ⟨padS (argsOf ps d 0 0) n, boxesOf ps d 0 0 ++ consOf ps d 0⟩

theorem padS_len : ∀ {l : List SV} {n : Nat}, (padS l n).length = n
  | _, 0 => by simp [padS]
  | [], n + 1 => by simp [padS, padS_len (l := []) (n := n)]
  | v :: l, n + 1 => by simp [padS, padS_len (l := l) (n := n)]
theorem padS_get : ∀ {l : List SV} {n i : Nat}, getSl (padS l n) i = .junk ∨ ∃ s, l[i]? = some s ∧ getSl (padS l n) i = s
  | _, 0, i => by left; simp [padS, getSl, getL]
  | [], n + 1, 0 => by left; simp [padS, getSl, getL]
  | [], n + 1, i + 1 => by
    rcases padS_get (l := []) (n := n) (i := i) with h | ⟨s, h, _⟩
    · left; simpa [padS, getSl, getL] using h
    · simp at h
  | v :: l, n + 1, 0 => by right; exact ⟨v, by simp, by simp [padS, getSl, getL]⟩
  | v :: l, n + 1, i + 1 => by
    rcases padS_get (l := l) (n := n) (i := i) with h | ⟨s, h, h'⟩
    · left; simpa [padS, getSl, getL] using h
    · right; exact ⟨s, by simpa using h, by simpa [padS, getSl, getL] using h'⟩

section
variable {P : Program} {sp : Specs}

/-- **What a function does, off its symbolic run.** -/
theorem run_ok {ps : List PK} {rs : List RK} (post : PDs ps → RDs rs × BDs ps → Prop) {f : FuncId} {fn : Func} {code : Code} (hf : P.funcs[f]? = some fn) (hb : fn.body = some code) (hs : SpecsOK P sp) (hmix : P.follows .mixedOrders = true) (an : PDs ps → Anns)
    {base : Nat} {svs : List SV} {h : Heap} {dd : PDs ps} {fz : List (Nat × Nm)} {bx : List Nat} {cx : List (Option Nat)} {q1 : List Nat} (e1 : (matchArgs ps svs).run h = some ((dd, fz, bx, cx), q1)) (hnm : namesOk fz bx cx = true)
    (hun : ∀ i, i < nOwn rs + nOwnB ps → h (base + i) = .un) (vc : wfP ps dd → forceSt (startSt ps dd fn.ntmps) (sx P sp (an dd) code (retG P ps rs fn.results.toList (post dd))))
    {w0 : World} {N0 : Old} {A : Nat → Prop} {env : Env} {w : World} {vs : List Value} (hG : N0.g = sp.gl) (m : Mod w0 N0 A env h w) (hd : DenL A env w svs vs) :
    Calls P f vs.toArray w fun e w' => ∃ v y, e = .returned v ∧ post dd y ∧ ∃ (A' : Nat → Prop) (env' : Env), Mod w0 N0 A' env' (setAll (retU ps rs y base fz bx cx) h) w' ∧ Ext A env w A' env' w' ∧ Den A' env' w' (resV (resSV rs y.1 base)) v := by
  simp only [namesOk, Bool.and_eq_true] at hnm
  obtain ⟨⟨hnd, hdj⟩, hbl⟩ := hnm
  have hnd := nodupN_iff hnd
  have hdj := disjN_spec hdj
  have hbl := Nat.le_of_ble_eq_true hbl
  obtain ⟨a1, a4, a6⟩ := matchArgs_sound (envc := callEnv env bx cx) m (Ac := frzA A env fz) (fun b hb => .inl hb) ps svs vs dd fz bx cx q1 0 0 e1 hd (fun k hk => .inr hk)
  obtain ⟨dargs, lb, lc⟩ := a6 (fun k n hn => by rw [Nat.zero_add]; exact callEnv_bx hbl hn) (fun k q hq => by rw [Nat.zero_add]; exact callEnv_cx hq)
  rw [Nat.add_zero] at lb lc
  have mc := m.call a1 hbl lb lc hdj hnd
  have hlen : bx.length = nBx ps := by
    have := lb.get.1
    rw [List.length_map, boxesOf_len] at this; exact this
  have hnd1 : bx.Nodup := (List.nodup_append.1 hnd).1
  have hvc := vc a4
  rw [forceSt_eq] at hvc
  have hvl := DenL_length dargs
  have live_ne : ∀ q b, h q = .live b → env q ≠ .un := fun q b hq => by
    have := m.nm q
    rw [hq] at this
    rcases this with ⟨k, len, e, _⟩ | ⟨e, _⟩ <;> rw [e] <;> simp
  -- live blocks of the caller
  have hlive : ∀ n, n ∈ bx ++ somes cx → ∃ b, h n = .live b ∧ b.mut = true ∧ env n ≠ .un := fun n hn => by
    rcases List.mem_append.1 hn with hn | hn
    · obtain ⟨i, hi⟩ := List.mem_iff_getElem?.1 hn
      obtain ⟨b', _, _, _, ⟨q, b, e, h1, h2, _⟩ | ⟨e, _⟩⟩ := lb.get.2 i (some n) (by simp [hi])
      · cases e; exact ⟨b, h1, h2, live_ne _ _ h1⟩
      · cases e
    · obtain ⟨i, hi⟩ := List.mem_iff_getElem?.1 (mem_somes.1 hn)
      obtain ⟨b', _, _, _, ⟨q, b, e, h1, h2, _⟩ | ⟨e, _⟩⟩ := lc.get.2 i (some n) hi
      · cases e; exact ⟨b, h1, h2, live_ne _ _ h1⟩
      · cases e
  refine calls_of_wp hf hb (sx_wp (N0 := ⟨boxBlk env (bx ++ somes cx), frzA A env fz, N0.g⟩) ⟨hs, hG⟩ hmix code _ _ _ (frzA A env fz) (callEnv env bx cx) _ w hvc ⟨mc, ?_, ?_, rfl⟩ ?_)
  · simp only [St.fs, startSt, padS_len, Array.size_append, Array.size_replicate]; omega
  · intro i
    simp only [St.fs, startSt]
    rcases padS_get (l := argsOf ps dd 0 0) (n := fn.ntmps) (i := i) with hj | ⟨s, h1, h2⟩
    · rw [hj]; simp only [Den]
    · rw [h2]
      obtain ⟨v, hv, hdv⟩ := DenL_get i s dargs h1
      have hi : i < vs.length := (List.getElem?_eq_some_iff.1 hv).1
      have : (vs.toArray ++ Array.replicate (fn.ntmps - vs.toArray.size) undef).getD i undef = v := by
        have h3 : (vs.toArray ++ Array.replicate (fn.ntmps - vs.toArray.size) undef)[i]? = some v := by
          rw [Array.getElem?_append_left (by simpa using hi)]; simpa using hv
        simp only [Array.getD_eq_getD_getElem?, h3, Option.getD_some]
      rw [this]; exact hdv
  · intro ex S' A1 env1 act w1 hK t' x'
    -- the end
    have hend : ∃ rsv y f1 owr z f2 owb, resSVs P fn.results.toList S'.sl (lookN S'.H) = some rsv ∧ outR rs rsv (lookN S'.H) = some (y, f1, owr) ∧ outB ps 0 (lookN S'.H) = some (z, f2, owb) ∧
        ownOk (f1 ++ f2) (owr ++ owb) = true ∧ allLt (f1 ++ f2) = true ∧ post dd (y, z) ∧ (ex = .normal ∨ ex = .ret) := by
      unfold retG at hK
      split at hK
      · exact hK.elim
      · rename_i hex
        split at hK
        · exact hK.elim
        · rename_i rsv hts
          split at hK
          · rename_i y f1 ow z f2 ow2 h1 h2
            split at hK
            · rename_i h3 h4
              refine ⟨rsv, y, f1, ow, z, f2, ow2, hts, h1, h2, h3, h4, hK, ?_⟩
              cases ex with
              | normal => exact .inl rfl
              | ret => exact .inr rfl
              | exit i => exact absurd rfl (hex i)
            · exact hK.elim
          · exact hK.elim
    obtain ⟨rsv, y, f1, owr, z, f2, owb, hts, ho, hob, hown, hlt, hpost, hex⟩ := hend
    obtain ⟨rvs, hrun, hres⟩ := results_run t'.m t'.f hts
    -- immutable from here on in the callee
    have hA2 : ∀ b, A1 b → frzA A1 env1 (f1 ++ f2) b := fun b hb => .inl hb
    have hF1 : ∀ k, FrzBlk env1 f1 k → frzA A1 env1 (f1 ++ f2) k := fun k ⟨n, x, l, hx, he⟩ => .inr ⟨n, x, l, List.mem_append_left _ hx, he⟩
    have hF2 : ∀ k, FrzBlk env1 f2 k → frzA A1 env1 (f1 ++ f2) k := fun k ⟨n, x, l, hx, he⟩ => .inr ⟨n, x, l, List.mem_append_right _ hx, he⟩
    have hlt := allLt_spec hlt
    have hownS := ownOk_spec hown
    have hPQ : QN = PN + PN := rfl
    -- the whole, for the caller's new set of immutable blocks
    have fin : ∀ (As A' : Nat → Prop) (hs' : Heap), Mod w0 N0 As env hs' w → (∀ n, n ∈ bx ++ somes cx → hs' n = h n) → (∀ i, i < nOwn rs + nOwnB ps → hs' (base + i) = .un) → (∀ b, As b → A' b) → (∀ b, A' b → frzA A1 env1 (f1 ++ f2) b) →
        (∀ b, A' b → As b ∨ ((boxBlk env (bx ++ somes cx) b ∨ w.heap.size ≤ b) ∧ b < w1.heap.size)) → (rsPlain rs = true ∨ ∀ b, frzA A1 env1 (f1 ++ f2) b → A' b) → (psPlain ps = true ∨ ∀ b, frzA A1 env1 (f1 ++ f2) b → A' b) →
        ∃ env', Mod w0 N0 A' env' (setAll (boxU ps z bx (base + nOwn rs) ++ (resH rs y base ++ (newU ps z (base + nOwn rs) ++ deadU cx))) hs') w1 ∧ Ext As env w A' env' w1 ∧ Den A' env' w1 (resV (resSV rs y base)) (mkRes rvs) := by
      intro As A' hs' ms hsb hsu hAA hA'2 hA1' L1 L2
      obtain ⟨b1, b2, b3⟩ := outR_sound (A' := A') (env' := retEnv (boxR bx 0 ++ resR (owr ++ owb) base) env env1) t'.m hA2 rs y _ _ f1 owr base ho hres hF1 L1
      obtain ⟨c1, c2, c3, c4⟩ := outB_sound (A' := A') (env' := retEnv (boxR bx 0 ++ resR (owr ++ owb) base) env env1) t'.m hA2 ps z f2 owb bx 0 (base + nOwn rs) hob hF2 L2 hlen
      have hfo : FrzOk (lookN S'.H) (f1 ++ f2) := fun n b hh => by
        rcases List.mem_append.1 hh with hh | hh
        · exact b1 n b hh
        · exact c1 n b hh
      have howl : (owr ++ owb).length = nOwn rs + nOwnB ps := by rw [List.length_append, b2, c2]
      have hnotbx : ∀ i, i < nOwn rs + nOwnB ps → base + i ∉ bx := fun i hi hmem => by
        have h1 := hsu i hi
        rw [hsb _ (List.mem_append_left _ hmem)] at h1
        obtain ⟨b, hb', _⟩ := hlive _ (List.mem_append_left _ hmem)
        rw [h1] at hb'; cases hb'
      have hRbox : ∀ i n, bx[i]? = some n → lookR (boxR bx 0 ++ resR (owr ++ owb) base) n = some (some (PN + i)) := fun i n hi => by
        rw [lookR_append, boxR_at (j := 0) hnd1 hi, Nat.zero_add]
      have hRres : ∀ i o, (owr ++ owb)[i]? = some o → lookR (boxR bx 0 ++ resR (owr ++ owb) base) (base + i) = some o := fun i o hi => by
        have hlti : i < nOwn rs + nOwnB ps := by have := (List.getElem?_eq_some_iff.1 hi).1; omega
        rw [lookR_append, boxR_none (hnotbx i hlti)]
        exact resR_at hi
      have hRinv : ∀ n y, lookR (boxR bx 0 ++ resR (owr ++ owb) base) n = some y → (∃ i, bx[i]? = some n ∧ y = some (PN + i)) ∨ ∃ i, (owr ++ owb)[i]? = some y ∧ n = base + i ∧ i < nOwn rs + nOwnB ps := fun n y hy => by
        rw [lookR_append] at hy
        split at hy
        · rename_i x hx
          cases hy
          obtain ⟨i, h1, h2⟩ := boxR_look hx
          rw [Nat.zero_add] at h2
          exact .inl ⟨i, h1, h2⟩
        · obtain ⟨i, h1, h2⟩ := resR_look hy
          exact .inr ⟨i, h1, h2, by have := (List.getElem?_eq_some_iff.1 h1).1; omega⟩
      have hbxlt : ∀ i n, bx[i]? = some n → i < PN := fun i n hi => by have := (List.getElem?_eq_some_iff.1 hi).1; omega
      have henvp : ∀ i n, bx[i]? = some n → env1 (PN + i) = env n := fun i n hi => by
        obtain ⟨b, _, _, hne⟩ := hlive n (List.mem_append_left _ (List.mem_of_getElem? hi))
        have := hbxlt i n hi
        have := x'.envp (PN + i) (by omega) (by omega) (by rw [callEnv_bx hbl hi]; exact hne)
        rw [this, callEnv_bx hbl hi]
      have eenv : ∀ i o, (owr ++ owb)[i]? = some o → retEnv (boxR bx 0 ++ resR (owr ++ owb) base) env env1 (base + i) = evOf env1 o := fun i o hi => by
        unfold retEnv
        rw [hRres i o hi]
        simp only [renEnv, hRres i o hi]
        cases o <;> rfl
      obtain ⟨d1, d2⟩ := b3 (fun i o hi => eenv i o (by rw [List.getElem?_append_left (List.getElem?_eq_some_iff.1 hi).1]; exact hi))
      obtain ⟨d3, d4⟩ := c3 (fun k q hq => by
          have := eenv (nOwn rs + k) q (by rw [List.getElem?_append_right (by omega), b2, Nat.add_sub_cancel_left]; exact hq)
          rwa [← Nat.add_assoc] at this)
        (fun k q hq => by
          unfold retEnv
          rw [hRbox k q hq]
          simp only [renEnv, hRbox k q hq, Nat.zero_add])
      have hlookA : ∀ q b k l, lookN S'.H q = .live b → b.mut = true → env1 q = .blk k l → q ∉ (f1 ++ f2).map (·.1) → ¬ A' k := fun q b k l hq hbm he hqn hA' => by
        have mf := (t'.m.freeze hfo).1
        have : setAll (f1 ++ f2) S'.fs.h q = .live b := by rw [setAll_other hqn]; exact hq
        exact (mf.live_blk this he).2 hbm (hA'2 k hA')
      suffices hk : Mod w0 N0 A' (retEnv (boxR bx 0 ++ resR (owr ++ owb) base) env env1) (setAll (boxU ps z bx (base + nOwn rs) ++ (resH rs y base ++ (newU ps z (base + nOwn rs) ++ deadU cx))) hs') w1 ∧ Ext As env w A' (retEnv (boxR bx 0 ++ resR (owr ++ owb) base) env env1) w1 by
        exact ⟨_, hk.1, hk.2, resV_den d1⟩
      -- the new rows and variables
      have hnew : ∀ {l : List (Nat × Nm)} {os : List (Option Nat)} {n0 : Nat}, LinkOK A' env1 (lookN S'.H) (retEnv (boxR bx 0 ++ resR (owr ++ owb) base) env env1) w1 os l (base + n0) → (∀ i o, os[i]? = some o → (owr ++ owb)[n0 + i]? = some o) → ∀ n x, (n, x) ∈ l →
          ∃ b, x = .live b ∧ b.mut = true ∧ ((∃ m b0, lookR (boxR bx 0 ++ resR (owr ++ owb) base) n = some (some m) ∧ lookN S'.H m = .live b0 ∧ b0.mut = true ∧
            (∀ k len, env1 m = .blk k len → BlkDen A' (retEnv (boxR bx 0 ++ resR (owr ++ owb) base) env env1) w1 k len b) ∧ (env1 m = .nil → ∃ E t, b = .row E t [])) ∨ (lookR (boxR bx 0 ++ resR (owr ++ owb) base) n = some none ∧ ∃ E t, b = .row E t [])) := by
        intro l os n0 hl hos n x hx
        have : ∀ {os : List (Option Nat)} {l : List (Nat × Nm)} {k0 : Nat}, LinkOK A' env1 (lookN S'.H) (retEnv (boxR bx 0 ++ resR (owr ++ owb) base) env env1) w1 os l k0 → ∀ n x, (n, x) ∈ l → ∃ i o b', os[i]? = some o ∧ n = k0 + i ∧ x = .live b' ∧ b'.mut = true ∧
            ((∃ q b, o = some q ∧ lookN S'.H q = .live b ∧ b.mut = true ∧ (∀ k len, env1 q = .blk k len → BlkDen A' (retEnv (boxR bx 0 ++ resR (owr ++ owb) base) env env1) w1 k len b') ∧ (env1 q = .nil → ∃ E t, b' = .row E t [])) ∨ (o = none ∧ ∃ E t, b' = .row E t [])) := by
          intro os
          induction os with
          | nil => intro l k0 hl n x hx; cases l with
            | nil => cases hx
            | cons p l => exact hl.elim
          | cons o os ih =>
            intro l k0 hl n x hx
            cases l with
            | nil => cases hx
            | cons p l =>
              obtain ⟨m', y'⟩ := p
              obtain ⟨⟨hm, b', g1, g2, g3⟩, hr⟩ := hl
              rcases List.mem_cons.1 hx with e | hx
              · cases e; exact ⟨0, o, b', rfl, by omega, g1, g2, g3⟩
              · obtain ⟨i, o', b'', k1, k2, k3⟩ := ih hr n x hx
                exact ⟨i + 1, o', b'', by simpa using k1, by omega, k3⟩
        obtain ⟨i, o, b', k1, rfl, k3, k4, k5⟩ := this hl n x hx
        have hr := hRres _ _ (hos i o k1)
        rw [← Nat.add_assoc] at hr
        refine ⟨b', k3, k4, ?_⟩
        rcases k5 with ⟨q, b, rfl, g1, g2, g3, g4⟩ | ⟨rfl, g1⟩
        · exact .inl ⟨q, b, hr, g1, g2, g3, g4⟩
        · exact .inr ⟨hr, g1⟩
      refine Mod.retn (R := boxR bx 0 ++ resR (owr ++ owb) base) (U := boxU ps z bx (base + nOwn rs) ++ (resH rs y base ++ (newU ps z (base + nOwn rs) ++ deadU cx))) (A' := A') ms t'.m x'.shape ?_ ?_ ?_ ?_ ?_ hAA hA1' ?_
      · intro n x hx
        rcases List.mem_append.1 hx with hx | hx
        · obtain ⟨i, b, b0, h1, h2, h3, h4, h5, h6, h7⟩ := d4 n x hx
          rw [Nat.zero_add] at h4 h6 h7
          exact .inr ⟨b, h2, h3, .inl ⟨PN + i, b0, hRbox i n h1, h4, h5, h6, h7⟩⟩
        · rcases List.mem_append.1 hx with hx | hx
          · exact .inr (hnew (n0 := 0) (by rw [Nat.add_zero]; exact d2) (fun i o hi => by rw [Nat.zero_add, List.getElem?_append_left (List.getElem?_eq_some_iff.1 hi).1]; exact hi) n x hx)
          · rcases List.mem_append.1 hx with hx | hx
            · exact .inr (hnew d3 (fun i o hi => by rw [List.getElem?_append_right (by omega), b2, Nat.add_sub_cancel_left]; exact hi) n x hx)
            · exact .inl (mem_deadU hx).1
      · intro n hn
        obtain ⟨y', hy⟩ := Option.ne_none_iff_exists'.1 hn
        simp only [List.map_append]
        rcases hRinv n y' hy with ⟨i, h1, _⟩ | ⟨i, h1, rfl, hi⟩
        · exact List.mem_append_left _ (c4 n (List.mem_of_getElem? h1))
        · refine List.mem_append_right _ ?_
          by_cases hlt' : i < nOwn rs
          · refine List.mem_append_left _ ?_
            obtain ⟨b', _, hmem, _⟩ := d2.get.2 i _ (by rw [List.getElem?_append_left (by omega)] at h1; exact h1)
            exact List.mem_map_of_mem (f := (·.1)) hmem
          · refine List.mem_append_right _ (List.mem_append_left _ ?_)
            obtain ⟨b', _, hmem, _⟩ := d3.get.2 (i - nOwn rs) _ (by rw [List.getElem?_append_right (by omega), b2] at h1; exact h1)
            have := List.mem_map_of_mem (f := (·.1)) hmem
            rwa [show base + nOwn rs + (i - nOwn rs) = base + i from by omega] at this
      · intro n n' q hn hn'
        rcases hRinv n _ hn with ⟨i, h1, h2⟩ | ⟨i, h1, rfl, _⟩ <;> rcases hRinv n' _ hn' with ⟨i', h1', h2'⟩ | ⟨i', h1', rfl, _⟩
        · simp only [Option.some.injEq] at h2 h2'
          have : i = i' := by omega
          subst this
          rw [h1] at h1'; exact Option.some.inj h1'
        · simp only [Option.some.injEq] at h2
          have := (hownS i' q h1').1
          have := hbxlt _ _ h1
          omega
        · simp only [Option.some.injEq] at h2'
          have := (hownS i q h1).1
          have := hbxlt _ _ h1'
          omega
        · rw [(hownS i q h1).2.2 i' h1']
      · intro n hn
        obtain ⟨y', hy⟩ := Option.ne_none_iff_exists'.1 hn
        rcases hRinv n y' hy with ⟨i, h1, rfl⟩ | ⟨i, h1, rfl, h2⟩
        · have hmem : n ∈ bx ++ somes cx := List.mem_append_left _ (List.mem_of_getElem? h1)
          obtain ⟨b, g2', g3', _⟩ := hlive n hmem
          exact .inr ⟨b, by rw [hsb n hmem]; exact g2', g3', by rw [renEnv_some hy]; exact henvp i n h1⟩
        · exact .inl (hsu i h2)
      · rintro k ⟨n, l, hn, he⟩
        obtain ⟨b, g2', g3', _⟩ := hlive n hn
        refine ⟨n, b, l, ?_, by rw [hsb n hn]; exact g2', g3', he⟩
        simp only [List.map_append, deadU_keys]
        rcases List.mem_append.1 hn with hn | hn
        · exact List.mem_append_left _ (c4 n hn)
        · exact List.mem_append_right _ (List.mem_append_right _ (List.mem_append_right _ hn))
      · rintro q b k l hq hbm he ⟨n, hn⟩
        refine hlookA q b k l hq hbm he fun hmem => ?_
        rcases hRinv n _ hn with ⟨i, h1, h2⟩ | ⟨i, h1, rfl, _⟩
        · simp only [Option.some.injEq] at h2
          have := hlt q hmem
          have := hbxlt _ _ h1
          omega
        · exact (hownS i q h1).2.1 hmem
    suffices hfin : ∃ (A' : Nat → Prop) (env' : Env), Mod w0 N0 A' env' (setAll (retU ps rs (y, z) base fz bx cx) h) w1 ∧ Ext A env w A' env' w1 ∧ Den A' env' w1 (resV (resSV rs y base)) (mkRes rvs) by
      have hthis : act.defers = [] ∧ ∃ v, (results fn act.tmps).run P w1 = .ok v w1 ∧ ∃ v' y', Ending.returned v = .returned v' ∧ post dd y' ∧ ∃ (A' : Nat → Prop) (env' : Env), Mod w0 N0 A' env' (setAll (retU ps rs y' base fz bx cx) h) w1 ∧ Ext A env w A' env' w1 ∧ Den A' env' w1 (resV (resSV rs y'.1 base)) v' :=
        ⟨t'.dfr, _, hrun, _, (y, z), rfl, hpost, hfin⟩
      rcases hex with rfl | rfl
      · exact hthis
      · exact hthis
    unfold retU
    cases hk : keepF ps rs with
    | true =>
      obtain ⟨mf, xf⟩ := m.freeze a1
      have hback : ∀ b, frzA A1 env1 (f1 ++ f2) b → frzA A env fz b ∨ ((boxBlk env (bx ++ somes cx) b ∨ w.heap.size ≤ b) ∧ b < w1.heap.size) := by
        intro b hb
        have hfo : FrzOk (lookN S'.H) (f1 ++ f2) := by
          obtain ⟨b1, _⟩ := outR_sound (A' := frzA A1 env1 (f1 ++ f2)) (env' := env1) t'.m hA2 rs y _ _ f1 owr base ho hres hF1 (.inr fun b hb => hb)
          obtain ⟨c1, _⟩ := outB_sound (A' := frzA A1 env1 (f1 ++ f2)) (env' := env1) t'.m hA2 ps z f2 owb bx 0 base hob hF2 (.inr fun b hb => hb) hlen
          intro n b hh
          rcases List.mem_append.1 hh with hh | hh
          · exact b1 n b hh
          · exact c1 n b hh
        have hAlt := (t'.m.freeze hfo).1.Alt b hb
        rcases hb with hb | ⟨n, x, l, hx, he⟩
        · rcases t'.m.fresh b hb with h1 | h1 | h1
          · exact .inl h1
          · exact .inr ⟨.inl h1, hAlt⟩
          · exact .inr ⟨.inr h1, hAlt⟩
        · obtain ⟨E, t, xs, hl, _⟩ := hfo n x hx
          rcases t'.m.own n _ b l hl rfl he with h1 | h1
          · exact .inr ⟨.inl h1, hAlt⟩
          · exact .inr ⟨.inr h1, hAlt⟩
      obtain ⟨env', k1, k2, k3⟩ := fin (frzA A env fz) (frzA A1 env1 (f1 ++ f2)) (setAll fz h) mf (fun n hn => setAll_other (hdj n hn)) (fun i hi => by
          rw [setAll_other]
          · exact hun i hi
          · intro hmem
            obtain ⟨⟨n, x⟩, hx, he⟩ := List.mem_map.1 hmem
            simp only at he
            subst he
            obtain ⟨E, t, xs, hl, _⟩ := a1 _ _ hx
            rw [hun i hi] at hl; cases hl)
        (fun b hb => .inl (x'.imm b hb)) (fun b hb => hb) hback (.inr fun b hb => hb) (.inr fun b hb => hb)
      refine ⟨_, env', ?_, xf.trans k2, k3⟩
      rw [setAll_append]; exact k1
    | false =>
      have hpl : rsPlain rs = true ∧ psPlain ps = true := by
        simpa [keepF] using hk
      obtain ⟨env', k1, k2, k3⟩ := fin A A h m (fun n hn => rfl) hun (fun b hb => hb) (fun b hb => .inl (x'.imm b (.inl hb))) (fun b hb => .inl hb) (.inl hpl.1) (.inl hpl.2)
      refine ⟨_, env', ?_, k2, k3⟩
      rw [List.append_nil]; exact k1

/-! ### Contracts -/
def eqRs : (rs : List RK) → RDs rs → RDs rs → List Prop
  | [], _, _ => []
  | _ :: rs, x, y => (x.1 = y.1) :: eqRs rs x.2 y.2
def eqBs : (ps : List PK) → BDs ps → BDs ps → List Prop
  | [], _, _ => []
  | .val _ :: ps, x, y => eqBs ps x y
  | .agg _ :: ps, x, y => eqBs ps x y
  | .own _ _ :: ps, x, y => eqBs ps x y
  | .fn _ _ :: ps, x, y => eqBs ps x y
  | .nils :: ps, x, y => eqBs ps x y
  | .box _ _ :: ps, x, y => (x.1 = y.1) :: eqBs ps x.2 y.2
  | .row _ _ :: ps, x, y => (x.1 = y.1) :: eqBs ps x.2 y.2
theorem eqRs_eq : ∀ {rs : List RK} {x y : RDs rs}, conj (eqRs rs x y) → x = y
  | [], x, y, _ => rfl
  | _ :: rs, x, y, h => Prod.ext h.1 (eqRs_eq (rs := rs) h.2)
theorem eqBs_eq : ∀ {ps : List PK} {x y : BDs ps}, conj (eqBs ps x y) → x = y
  | [], x, y, _ => rfl
  | .val _ :: ps, x, y, h => eqBs_eq (ps := ps) h
  | .agg _ :: ps, x, y, h => eqBs_eq (ps := ps) h
  | .own _ _ :: ps, x, y, h => eqBs_eq (ps := ps) h
  | .fn _ _ :: ps, x, y, h => eqBs_eq (ps := ps) h
  | .nils :: ps, x, y, h => eqBs_eq (ps := ps) h
  | .box _ _ :: ps, x, y, h => Prod.ext h.1 (eqBs_eq (ps := ps) h.2)
  | .row _ _ :: ps, x, y, h => Prod.ext h.1 (eqBs_eq (ps := ps) h.2)

theorem eqRs_refl : ∀ {rs : List RK} {x : RDs rs}, conj (eqRs rs x x)
  | [], _ => trivial
  | _ :: rs, x => ⟨rfl, eqRs_refl (rs := rs)⟩
theorem eqBs_refl : ∀ {ps : List PK} {x : BDs ps}, conj (eqBs ps x x)
  | [], _ => trivial
  | .val _ :: ps, x => eqBs_refl (ps := ps)
  | .agg _ :: ps, x => eqBs_refl (ps := ps)
  | .own _ _ :: ps, x => eqBs_refl (ps := ps)
  | .fn _ _ :: ps, x => eqBs_refl (ps := ps)
  | .nils :: ps, x => eqBs_refl (ps := ps)
  | .box _ _ :: ps, x => ⟨rfl, eqBs_refl (ps := ps)⟩
  | .row _ _ :: ps, x => ⟨rfl, eqBs_refl (ps := ps)⟩
theorem Ct.ok (c : Ct) {f : FuncId} {fn : Func} {code : Code} (hf : P.funcs[f]? = some fn) (hb : fn.body = some code) (hs : SpecsOK P sp) (hmix : P.follows .mixedOrders = true) (an : PDs c.ps → Anns)
    (vc : allP c.ps fun d => wfP c.ps d → conjE (c.pre d) → forceSt (startSt c.ps d fn.ntmps) (sx P sp (an d) code (retG P c.ps c.rs fn.results.toList fun y => conjE (eqRs c.rs y.1 (c.out d).1 ++ eqBs c.ps y.2 (c.out d).2)))) : SpecOK P sp.gl f c.spec := by
  intro base svs h d r e hp w0 N0 A env w vs hG m hd
  unfold Ct.spec at e
  obtain ⟨⟨dd, fz, bx, cx⟩, q1, q2, e1, e2, rfl⟩ := Q.run_bind _ _ _ e
  split at e2
  case h_2 => cases e2
  rename_i hnm
  obtain ⟨rfl, hun⟩ := askUn_spec e2
  refine (run_ok (rs := c.rs) (fun d y => conjE (eqRs c.rs y.1 (c.out d).1 ++ eqBs c.ps y.2 (c.out d).2)) hf hb hs hmix an e1 hnm hun (fun hw => allP_iff.1 vc dd hw (conjE_iff.2 hp)) hG m hd).mono ?_
  rintro e' w' ⟨v, y, rfl, hy, A', env', h1, h2, h3⟩
  obtain ⟨hy1, hy2⟩ := conj_append.1 (conjE_iff.1 hy)
  have : y = c.out dd := Prod.ext (eqRs_eq hy1) (eqBs_eq hy2)
  subst this
  exact ⟨v, rfl, (), A', env', trivial, h1, h2, h3⟩

theorem Cn.ok (c : Cn) {f : FuncId} {fn : Func} {code : Code} (hf : P.funcs[f]? = some fn) (hb : fn.body = some code) (hs : SpecsOK P sp) (hmix : P.follows .mixedOrders = true) (an : PDs c.ps → Anns)
    (vc : allP c.ps fun d => wfP c.ps d → conjE (c.pre d) → forceSt (startSt c.ps d fn.ntmps) (sx P sp (an d) code (retG P c.ps c.rs fn.results.toList (c.post d)))) : SpecOK P sp.gl f c.spec := by
  intro base svs h d r e hp w0 N0 A env w vs hG m hd
  unfold Cn.spec at e
  obtain ⟨⟨dd, fz, bx, cx⟩, q1, q2, e1, e2, rfl⟩ := Q.run_bind _ _ _ e
  split at e2
  case h_2 => cases e2
  rename_i hnm
  obtain ⟨rfl, hun⟩ := askUn_spec e2
  refine (run_ok (rs := c.rs) c.post hf hb hs hmix an e1 hnm hun (fun hw => allP_iff.1 vc dd hw (conjE_iff.2 hp)) hG m hd).mono ?_
  rintro e' w' ⟨v, y, rfl, hy, A', env', h1, h2, h3⟩
  refine ⟨v, rfl, y, A', env', hy, ?_, h2, h3⟩
  show Mod w0 N0 A' env' (setAll ((retUF c.ps c.rs base fz bx cx).map fun p => (p.1, p.2 y)) h) w'
  rw [retUF_eq]; exact h1

/-! ### A contract whose results go by names of their own -/
def Ct.nspec (c : Ct) : Spec := fun base svs => (matchArgs c.ps svs).bind fun p => match namesOk p.2.1 p.2.2.1 p.2.2.2 with
  | true => askUn base (nOwn c.rs + nOwnB c.ps) (.nd (RDs c.rs × BDs c.ps) (outQn c.rs c.ps) (c.pre p.1) (fun y => conjE (eqRs c.rs y.1 (c.out p.1).1 ++ eqBs c.ps y.2 (c.out p.1).2)) (fun _ => ⟨c.out p.1, conjE_iff.2 (conj_append.2 ⟨eqRs_refl, eqBs_refl⟩)⟩)
      (fun y => resV (resSV c.rs y.1 base)) (retUF c.ps c.rs base p.2.1 p.2.2.1 p.2.2.2))
  | false => .fail
theorem askUn_run {h : Heap} {dl d : Dl} : ∀ {k n : Nat} {r : List Nat}, (askUn n k dl).run h = some (d, r) → ∀ dl', (askUn n k dl').run h = some (dl', r)
  | 0, n, r, e, dl' => by
    simp only [askUn, Q.run, Option.some.injEq, Prod.mk.injEq] at e ⊢
    exact ⟨trivial, e.2⟩
  | k + 1, n, r, e, dl' => by
    simp only [askUn, Q.run] at e ⊢
    split at e
    · rename_i p q hk
      simp only [Option.some.injEq, Prod.mk.injEq] at e
      obtain ⟨rfl, rfl⟩ := e
      split at hk
      · rename_i hun
        have := askUn_run hk dl'
        rw [this]
      · cases hk
    · cases e
universe u v
theorem Q.bind_run1 {h : Heap} {α : Type u} {β : Type v} (q : Q α) (f : α → Q β) {a : α} {r1 : List Nat} {b : β} {r2 : List Nat} (h1 : q.run h = some (a, r1)) (h2 : (f a).run h = some (b, r2)) : (q.bind f).run h = some (b, r1 ++ r2) := by
  induction q generalizing r1 with
  | ret x => simp only [Q.run, Option.some.injEq, Prod.mk.injEq] at h1; obtain ⟨rfl, rfl⟩ := h1; simpa [Q.bind] using h2
  | ask n k ih =>
    simp only [Q.run] at h1
    split at h1
    · rename_i x y hk
      simp only [Option.some.injEq, Prod.mk.injEq] at h1
      obtain ⟨rfl, rfl⟩ := h1
      simp only [Q.bind, Q.run, ih _ hk, List.cons_append]
    · cases h1
  | fail => cases h1
/-- **The same contract, its results under names.** -/
theorem Ct.named {G : Globs} {c : Ct} {f : FuncId} (ok : SpecOK P G f c.spec) : SpecOK P G f c.nspec := by
  intro base svs h d r e hp w0 N0 A env w vs hG m hd
  unfold Ct.nspec at e
  obtain ⟨⟨dd, fz, bx, cx⟩, q1, q2, e1, e2, rfl⟩ := Q.run_bind _ _ _ e
  split at e2
  case h_2 => cases e2
  rename_i hnm
  obtain ⟨rfl, hun⟩ := askUn_spec e2
  have e3 := askUn_run e2 (.det (c.pre dd) (resV (resSV c.rs (c.out dd).1 base)) (retU c.ps c.rs (c.out dd) base fz bx cx))
  have e4 : (c.spec base svs).run h = some (.det (c.pre dd) (resV (resSV c.rs (c.out dd).1 base)) (retU c.ps c.rs (c.out dd) base fz bx cx), q1 ++ q2) := by
    unfold Ct.spec
    refine Q.bind_run1 _ _ e1 ?_
    simp only at hnm ⊢
    rw [hnm]
    exact e3
  refine (ok base svs h _ _ e4 hp w0 N0 A env w vs hG m hd).mono ?_
  rintro e' w' ⟨v, he, x, A', env', _, h1, h2, h3⟩
  refine ⟨v, he, c.out dd, A', env', conjE_iff.2 (conj_append.2 ⟨eqRs_refl, eqBs_refl⟩), ?_, h2, h3⟩
  show Mod w0 N0 A' env' (setAll ((retUF c.ps c.rs base fz bx cx).map fun p => (p.1, p.2 (c.out dd))) h) w'
  rw [retUF_eq]; exact h1
end
end Go.SX
