/- SX, part 22: a function's contract, off its symbolic run (the proof). -/
import Derived.Test.YtbamghnnnngdeaaSx21
namespace Go.SX
set_option linter.unusedVariables false

/-! ### Names -/
def boxR : List Nat → Nat → Rn
  | [], _ => []
  | n :: bx, j => (n, some (PN + j)) :: boxR bx (j + 1)
def resR : List (Option Nat) → Nat → Rn
  | [], _ => []
  | o :: r, n => (n, o) :: resR r (n + 1)

theorem lookR_append {a b : Rn} {n : Nat} : lookR (a ++ b) n = (match lookR a n with | some x => some x | none => lookR b n) := by
  induction a with
  | nil => rfl
  | cons p a ih =>
    obtain ⟨m, x⟩ := p
    simp only [List.cons_append, lookR_cons]
    split
    · rfl
    · exact ih

theorem boxR_look : ∀ {bx : List Nat} {j n : Nat} {y : Option Nat}, lookR (boxR bx j) n = some y → ∃ i, bx[i]? = some n ∧ y = some (PN + (j + i))
  | [], j, n, y, h => by simp [boxR, lookR] at h
  | m :: bx, j, n, y, h => by
    simp only [boxR, lookR_cons] at h
    split at h
    · rename_i e; cases h; exact ⟨0, by simp [e], rfl⟩
    · obtain ⟨i, h1, h2⟩ := boxR_look h
      exact ⟨i + 1, by simpa using h1, by rw [h2, show j + 1 + i = j + (i + 1) from by omega]⟩

theorem boxR_at : ∀ {bx : List Nat} {j n i : Nat}, bx.Nodup → bx[i]? = some n → lookR (boxR bx j) n = some (some (PN + (j + i)))
  | [], j, n, i, _, h => by simp at h
  | m :: bx, j, n, 0, _, h => by
    simp at h; subst h
    simp only [boxR, lookR_cons, if_pos, Nat.add_zero]
  | m :: bx, j, n, i + 1, hn, h => by
    have h' : bx[i]? = some n := by simpa using h
    obtain ⟨h1, h2⟩ := List.nodup_cons.1 hn
    have hne : n ≠ m := fun e => h1 (e ▸ List.mem_of_getElem? h')
    simp only [boxR, lookR_cons, if_neg hne, boxR_at h2 h']
    rw [show j + 1 + i = j + (i + 1) from by omega]

theorem boxR_none {bx : List Nat} {j n : Nat} (h : n ∉ bx) : lookR (boxR bx j) n = none := by
  cases hl : lookR (boxR bx j) n with
  | none => rfl
  | some y => obtain ⟨i, hi, _⟩ := boxR_look hl; exact absurd (List.mem_of_getElem? hi) h

theorem resR_look : ∀ {ow : List (Option Nat)} {n0 n : Nat} {y : Option Nat}, lookR (resR ow n0) n = some y → ∃ i, ow[i]? = some y ∧ n = n0 + i
  | [], n0, n, y, h => by simp [resR, lookR] at h
  | o :: ow, n0, n, y, h => by
    simp only [resR, lookR_cons] at h
    split at h
    · rename_i e; cases h; exact ⟨0, by simp, by omega⟩
    · obtain ⟨i, h1, h2⟩ := resR_look h
      exact ⟨i + 1, by simpa using h1, by omega⟩

theorem resR_at : ∀ {ow : List (Option Nat)} {n0 i : Nat} {o : Option Nat}, ow[i]? = some o → lookR (resR ow n0) (n0 + i) = some o
  | [], n0, i, o, h => by simp at h
  | p :: ow, n0, 0, o, h => by simp at h; subst h; simp [resR, lookR_cons]
  | p :: ow, n0, i + 1, o, h => by
    have h' : ow[i]? = some o := by simpa using h
    have := resR_at (n0 := n0 + 1) h'
    simp only [resR, lookR_cons, if_neg (show ¬ n0 + (i + 1) = n0 from by omega)]
    rw [show n0 + (i + 1) = n0 + 1 + i from by omega]; exact this

theorem memO_iff {n : Nat} : ∀ {l : List (Option Nat)}, memO n l = true ↔ some n ∈ l
  | [] => by simp [memO]
  | none :: r => by simp [memO, memO_iff (l := r)]
  | some m :: r => by simp [memO, memO_iff (l := r)]

theorem ownOk_spec {fz : List (Nat × Nm)} : ∀ {ow : List (Option Nat)}, ownOk fz ow = true → ∀ (i m : Nat), ow[i]? = some (some m) → m < PN ∧ m ∉ fz.map (·.1) ∧ ∀ i' : Nat, ow[i']? = some (some m) → i = i'
  | [], _, i, m, h => by simp at h
  | none :: r, h, i, m, hi => by
    simp only [ownOk] at h
    cases i with
    | zero => simp at hi
    | succ i =>
      obtain ⟨h1, h2, h3⟩ := ownOk_spec h i m (by simpa using hi)
      refine ⟨h1, h2, fun i' hi' => ?_⟩
      cases i' with
      | zero => simp at hi'
      | succ i' => rw [h3 i' (by simpa using hi')]
  | some q :: r, h, i, m, hi => by
    simp only [ownOk, Bool.and_eq_true, Bool.not_eq_true'] at h
    obtain ⟨⟨⟨h1, h2⟩, h3⟩, h4⟩ := h
    have hno : ∀ i : Nat, r[i]? ≠ some (some q) := fun i hi => by
      have : memO q r = true := memO_iff.2 (List.mem_of_getElem? hi)
      rw [this] at h3; cases h3
    cases i with
    | zero =>
      simp at hi; subst hi
      refine ⟨Nat.le_of_ble_eq_true h1, notIn_spec h2, fun i' hi' => ?_⟩
      cases i' with
      | zero => rfl
      | succ i' => exact absurd (by simpa using hi') (hno i')
    | succ i =>
      obtain ⟨g1, g2, g3⟩ := ownOk_spec h4 i m (by simpa using hi)
      refine ⟨g1, g2, fun i' hi' => ?_⟩
      cases i' with
      | zero => simp at hi'; subst hi'; exact absurd (by simpa using hi) (hno i)
      | succ i' => rw [g3 i' (by simpa using hi')]

theorem allLt_spec : ∀ {fz : List (Nat × Nm)}, allLt fz = true → ∀ n, n ∈ fz.map (·.1) → n < PN
  | [], _, n, h => by simp at h
  | (m, b) :: r, h, n, hn => by
    simp only [allLt, Bool.and_eq_true] at h
    rcases List.mem_cons.1 hn with e | hn
    · have e : n = m := e
      subst e; exact Nat.le_of_ble_eq_true h.1
    · exact allLt_spec h.2 n hn

theorem disjN_spec {fz : List (Nat × Nm)} : ∀ {bx : List Nat}, disjN fz bx = true → ∀ n, n ∈ bx → n ∉ fz.map (·.1)
  | [], _, n, h => by simp at h
  | m :: r, h, n, hn => by
    simp only [disjN, Bool.and_eq_true] at h
    rcases List.mem_cons.1 hn with rfl | hn
    · exact notIn_spec h.1
    · exact disjN_spec h.2 n hn

theorem askUn_spec {h : Heap} {dl d : Dl} : ∀ {k n : Nat} {r : List Nat}, (askUn n k dl).run h = some (d, r) → d = dl ∧ ∀ i, i < k → h (n + i) = .un
  | 0, n, r, e => by
    simp only [askUn, Q.run, Option.some.injEq, Prod.mk.injEq] at e
    exact ⟨e.1.symm, fun i hi => by omega⟩
  | k + 1, n, r, e => by
    simp only [askUn, Q.run] at e
    split at e
    · rename_i p q hk
      simp only [Option.some.injEq, Prod.mk.injEq] at e
      obtain ⟨rfl, rfl⟩ := e
      split at hk
      · rename_i hun
        obtain ⟨h1, h2⟩ := askUn_spec hk
        refine ⟨h1, fun i hi => ?_⟩
        cases i with
        | zero => exact hun
        | succ i => rw [show n + (i + 1) = n + 1 + i from by omega]; exact h2 i (by omega)
      · cases hk
    · cases e

theorem resH_len : ∀ {rs : List RK} {d : RDs rs} {n : Nat}, (resH rs d n).length = nOwn rs
  | [], d, n => rfl
  | .val t :: rs, d, n => resH_len (rs := rs)
  | .agg t :: rs, d, n => resH_len (rs := rs)
  | .own E t :: rs, d, n => by simp [resH, nOwn, resH_len (rs := rs)]

theorem OwnOK.get {A' : Nat → Prop} {env1 : Env} {h1 : Heap} {w1 : World} : ∀ {ow : List (Option Nat)} {l : List (Nat × Nm)} {n : Nat}, OwnOK A' env1 h1 w1 ow l n →
    ow.length = l.length ∧ (∀ c x, (c, x) ∈ l → ∃ i E t xs, c = n + i ∧ x = .live (.row E t xs) ∧ ((∃ q, ow[i]? = some (some q) ∧ h1 q = .live (.row E t xs) ∧ (∀ k len, env1 q = .blk k len → RowDen A' w1 k len E t xs) ∧ (env1 q = .nil → xs = [])) ∨ (ow[i]? = some none ∧ xs = []))) ∧
    (∀ i o, ow[i]? = some o → n + i ∈ l.map (·.1))
  | [], [], n, _ => ⟨rfl, fun c x hh => by simp at hh, fun i o hh => by simp at hh⟩
  | o :: ow, (m, x) :: l, n, ⟨⟨hm, E, t, xs, hx, hh⟩, hr⟩ => by
    obtain ⟨g1, g2, g3⟩ := hr.get
    refine ⟨by simp [g1], fun c y hy => ?_, fun i o' hi => ?_⟩
    · rcases List.mem_cons.1 hy with e | hy
      · cases e
        refine ⟨0, E, t, xs, by omega, hx, ?_⟩
        rcases hh with ⟨q, rfl, e1, e2, e3⟩ | ⟨rfl, e⟩
        · exact .inl ⟨q, by simp, e1, e2, e3⟩
        · exact .inr ⟨by simp, e⟩
      · obtain ⟨i, E', t', xs', k1, k2, k3⟩ := g2 c y hy
        refine ⟨i + 1, E', t', xs', by omega, k2, ?_⟩
        rcases k3 with ⟨q, e0, e1⟩ | ⟨e0, e1⟩
        · exact .inl ⟨q, by simpa using e0, e1⟩
        · exact .inr ⟨by simpa using e0, e1⟩
    · cases i with
      | zero => simp [hm]
      | succ i =>
        have := g3 i o' (by simpa using hi)
        rw [show n + (i + 1) = n + 1 + i from by omega]
        exact List.mem_cons_of_mem _ this
  | [], _ :: _, _, h => h.elim
  | _ :: _, [], _, h => h.elim

/-! ### Results -/
def resTmps : List ResultVar → Option (List Nat)
  | [] => some []
  | .tmp t :: r => match resTmps r with
    | some l => some (t :: l)
    | none => none
  | .cell _ _ :: _ => none
def mkRes (l : List Value) : Value := if h : l.toArray.size = 1 then l.toArray[0] else .tuple l.toArray

theorem mapM_tmps {F : ResultVar → Sem Value} {tmps : Array Value} (hF : ∀ t, F (.tmp t) = pure (tmps.getD t undef)) : ∀ (l : List ResultVar) (ts : List Nat), resTmps l = some ts →
    l.mapM F = pure (ts.map fun t => tmps.getD t undef)
  | [], ts, h => by cases h; rfl
  | .cell _ _ :: l, ts, h => by cases h
  | .tmp t :: l, ts, h => by
    simp only [resTmps] at h
    split at h
    · rename_i l' hl
      cases h
      rw [List.mapM_cons, hF, mapM_tmps hF l l' hl]
      rfl
    · cases h

theorem results_tmps {fn : Func} {ts : List Nat} {tmps : Array Value} (h : resTmps fn.results.toList = some ts) : results fn tmps = pure (mkRes (ts.map fun t => tmps.getD t undef)) := by
  unfold results
  rw [Array.mapM_eq_mapM_toList, mapM_tmps (fun t => rfl) _ ts h]
  rfl

theorem resV_den {A : Nat → Prop} {env : Env} {w : World} {svs : List SV} {vs : List Value} (h : DenL A env w svs vs) : Den A env w (resV svs) (mkRes vs) := by
  have hl := DenL_length h
  unfold resV
  split
  · simp only [DenL] at h
    obtain ⟨v, r, rfl, h, rfl⟩ := h
    exact h
  · rename_i hne
    have : ¬ vs.length = 1 := fun e => by
      rw [hl] at e
      obtain ⟨x, hx⟩ := List.length_eq_one_iff.1 e
      exact hne x hx
    simp only [mkRes, Den]
    rw [dif_neg (by simpa using this)]
    exact ⟨_, rfl, h⟩

def conjE : List Prop → Prop
  | [] => True
  | [p] => p
  | p :: q :: r => p ∧ conjE (q :: r)
theorem conjE_iff : ∀ {l : List Prop}, conjE l ↔ conj l
  | [] => Iff.rfl
  | [p] => by simp [conjE, conj]
  | p :: q :: r => by rw [conjE, conj, conjE_iff]

/-- What must hold where a function ends. -/
def retK (c : Ct) (rv : List ResultVar) (d : PDs c.ps) : Ex → St → Prop := fun e S => match e with
  | .exit _ => False
  | _ => match resTmps rv with
    | none => False
    | some ts => match outR c.rs (c.out d).1 (ts.map (getSl S.sl)) (lookN S.H), outB c.ps (c.out d).2 0 (lookN S.H) with
      | some (e1, f1, ow), some (e2, f2) => match ownOk (f1 ++ f2) ow, allLt (f1 ++ f2) with
        | true, true => conjE (e1 ++ e2)
        | _, _ => False
      | _, _ => False

def padS : List SV → Nat → List SV
  | _, 0 => []
  | [], n + 1 => .junk :: padS [] n
  | v :: l, n + 1 => v :: padS l n

def startSt (ps : List PK) (d : PDs ps) (n : Nat) : St := ⟨padS (argsOf ps d 0) n, boxesOf ps d 0⟩

theorem padS_len : ∀ {l : List SV} {n : Nat}, (padS l n).length = n
  | _, 0 => by simp [padS]
  | [], n + 1 => by simp [padS, padS_len (l := []) (n := n)]
  | v :: l, n + 1 => by simp [padS, padS_len (l := l) (n := n)]
theorem padS_get : ∀ {l : List SV} {n i : Nat}, getSl (padS l n) i = .junk ∨ ∃ s, l[i]? = some s ∧ getSl (padS l n) i = s
  | _, 0, i => by left; simp [padS, getSl, getL]
  | [], n + 1, 0 => by left; simp [padS, getSl, getL]
  | [], n + 1, i + 1 => by
    rcases padS_get (l := []) (n := n) (i := i) with h | ⟨s, h, _⟩
    · left; simpa [padS, getSl, getL] using h
    · simp at h
  | v :: l, n + 1, 0 => by right; exact ⟨v, by simp, by simp [padS, getSl, getL]⟩
  | v :: l, n + 1, i + 1 => by
    rcases padS_get (l := l) (n := n) (i := i) with h | ⟨s, h, h'⟩
    · left; simpa [padS, getSl, getL] using h
    · right; exact ⟨s, by simpa using h, by simpa [padS, getSl, getL] using h'⟩

section
variable {P : Program} {sp : Specs}

/-- **A function keeps its contract if its symbolic run says so.** -/
theorem Ct.ok (c : Ct) {f : FuncId} {fn : Func} {code : Code} (hf : P.funcs[f]? = some fn) (hb : fn.body = some code) (hs : SpecsOK P sp) (hmix : P.follows .mixedOrders = true) (an : PDs c.ps → Anns)
    (vc : allP c.ps fun d => wfP c.ps d → conj (c.pre d) → forceSt (startSt c.ps d fn.ntmps) (sx P sp (an d) code (retK c fn.results.toList d))) : SpecOK P f c.spec := by
  intro base svs h d r e hp w0 N0 A env w vs m hd
  unfold Ct.spec at e
  obtain ⟨⟨dd, fz, bx⟩, q1, q2, e1, e2, rfl⟩ := Q.run_bind _ _ _ e
  split at e2
  case h_2 => cases e2
  rename_i hnd hdj
  have hnd := nodupN_iff hnd
  have hdj := disjN_spec hdj
  obtain ⟨rfl, hun⟩ := askUn_spec e2
  simp only at hnd hdj hun
  obtain ⟨a1, a2, a3, a4, a5, a6⟩ := matchArgs_sound (envc := callEnv env bx) m c.ps svs vs dd fz bx q1 0 e1 hd (Ac := frzA A env fz) (fun b hb => .inl hb) (fun k hk => .inr hk)
  have hdj' : ∀ n b, (n, b) ∈ fz → n ∉ bx := fun n b hh hb => hdj n hb (List.mem_map_of_mem (f := (·.1)) hh)
  have mc := m.call (d := dd) a1 a5 hdj' hnd
  have dargs := a6 (fun i n hi => by rw [Nat.zero_add]; exact callEnv_at hi)
  obtain ⟨hlen, hbx⟩ := a5.get
  have hvc := allP_iff.1 vc dd a4 hp
  rw [forceSt_eq] at hvc
  have hvl := DenL_length dargs
  -- live blocks of the caller
  have hlive : ∀ i n, bx[i]? = some n → ∃ b, h n = .live b ∧ b.mut = true ∧ env n ≠ .un := fun i n hi => by
    obtain ⟨b, b', _, g2, g3, _, g5⟩ := hbx i n hi
    refine ⟨b, g2, g3, ?_⟩
    rcases g5 with ⟨k, len, e, _⟩ | ⟨e, _⟩ <;> rw [e] <;> simp
  refine calls_of_wp hf hb (sx_wp hs hmix code _ _ _ (frzA A env fz) (callEnv env bx) _ w hvc ⟨mc, ?_, ?_, rfl⟩ ?_)
  · simp only [St.fs, startSt, padS_len, Array.size_append, Array.size_replicate]; omega
  · intro i
    simp only [St.fs, startSt]
    rcases padS_get (l := argsOf c.ps dd 0) (n := fn.ntmps) (i := i) with hj | ⟨s, h1, h2⟩
    · rw [hj]; simp only [Den]
    · rw [h2]
      obtain ⟨v, hv, hdv⟩ := DenL_get i s dargs h1
      have hi : i < vs.length := (List.getElem?_eq_some_iff.1 hv).1
      have : (vs.toArray ++ Array.replicate (fn.ntmps - vs.toArray.size) undef).getD i undef = v := by
        have h3 : (vs.toArray ++ Array.replicate (fn.ntmps - vs.toArray.size) undef)[i]? = some v := by
          rw [Array.getElem?_append_left (by simpa using hi)]; simpa using hv
        simp only [Array.getD_eq_getD_getElem?, h3, Option.getD_some]
      rw [this]; exact hdv
  · intro ex S' A1 env1 act w1 hK t' x'
    -- the end
    have hend : ∃ ts e1 f1 ow e2 f2, resTmps fn.results.toList = some ts ∧ outR c.rs (c.out dd).1 (ts.map (getSl S'.sl)) (lookN S'.H) = some (e1, f1, ow) ∧ outB c.ps (c.out dd).2 0 (lookN S'.H) = some (e2, f2) ∧
        ownOk (f1 ++ f2) ow = true ∧ allLt (f1 ++ f2) = true ∧ conj (e1 ++ e2) ∧ (ex = .normal ∨ ex = .ret) := by
      unfold retK at hK
      split at hK
      · exact hK.elim
      · rename_i hex
        split at hK
        · exact hK.elim
        · rename_i ts hts
          split at hK
          · rename_i e1 f1 ow e2 f2 h1 h2
            split at hK
            · rename_i h3 h4
              refine ⟨ts, e1, f1, ow, e2, f2, hts, h1, h2, h3, h4, conjE_iff.1 hK, ?_⟩
              cases ex with
              | normal => exact .inl rfl
              | ret => exact .inr rfl
              | exit i => exact absurd rfl (hex i)
            · exact hK.elim
          · exact hK.elim
    obtain ⟨ts, q1', f1, ow, q2', f2, hts, ho, hob, hown, hlt, hcj, hex⟩ := hend
    obtain ⟨hc1, hc2⟩ := conj_append.1 hcj
    have hres : DenL A1 env1 w1 (ts.map (getSl S'.sl)) (ts.map fun t => act.tmps.getD t undef) := by
      clear hts ho
      induction ts with
      | nil => simp [DenL]
      | cons t ts ih => simp only [List.map_cons, DenL]; exact ⟨_, _, rfl, t'.f t, ih⟩
    -- immutable from here on in the callee
    have hA2 : ∀ b, A1 b → frzA A1 env1 (f1 ++ f2) b := fun b hb => .inl hb
    have hF1 : ∀ k, FrzBlk env1 f1 k → frzA A1 env1 (f1 ++ f2) k := fun k ⟨n, x, l, hx, he⟩ => .inr ⟨n, x, l, List.mem_append_left _ hx, he⟩
    have hF2 : ∀ k, FrzBlk env1 f2 k → frzA A1 env1 (f1 ++ f2) k := fun k ⟨n, x, l, hx, he⟩ => .inr ⟨n, x, l, List.mem_append_right _ hx, he⟩
    have hlt := allLt_spec hlt
    have hownS := ownOk_spec hown
    -- the whole, for the caller's new set of immutable blocks
    have fin : ∀ (As A' : Nat → Prop) (hs' : Heap), Mod w0 N0 As env hs' w → (∀ n, n ∈ bx → hs' n = h n) → (∀ i, i < nOwn c.rs → hs' (base + i) = .un) → (∀ b, As b → A' b) → (∀ b, A' b → frzA A1 env1 (f1 ++ f2) b) →
        (∀ b, A' b → As b ∨ ((boxBlk env bx b ∨ w.heap.size ≤ b) ∧ b < w1.heap.size)) → (rsPlain c.rs = true ∨ ∀ b, frzA A1 env1 (f1 ++ f2) b → A' b) → (psPlain c.ps = true ∨ ∀ b, frzA A1 env1 (f1 ++ f2) b → A' b) →
        ∃ env', Mod w0 N0 A' env' (setAll (boxU c.ps (c.out dd).2 bx ++ resH c.rs (c.out dd).1 base) hs') w1 ∧ Ext As env w A' env' w1 ∧ Den A' env' w1 (resV (resSV c.rs (c.out dd).1 base)) (mkRes (ts.map fun t => act.tmps.getD t undef)) := by
      intro As A' hs' ms hsb hsu hAA hA'2 hA1' L1 L2
      obtain ⟨b1, b2, b3⟩ := outR_sound (A' := A') (env' := retEnv (boxR bx 0 ++ resR ow base) env env1) t'.m hA2 c.rs (c.out dd).1 _ _ q1' f1 ow base ho hc1 hres hF1 L1
      obtain ⟨c1, c2, c3⟩ := outB_sound (A' := A') t'.m hA2 c.ps dd (c.out dd).2 q2' f2 bx 0 hob hc2 hF2 L2 (by simpa using hlen)
      obtain ⟨g1, g2, g3⟩ := b2.get
      rw [resH_len] at g1
      have hfo : FrzOk (lookN S'.H) (f1 ++ f2) := fun n b hh => by
        rcases List.mem_append.1 hh with hh | hh
        · exact b1 n b hh
        · exact c1 n b hh
      have hnotbx : ∀ i, i < nOwn c.rs → base + i ∉ bx := fun i hi hmem => by
        have h1 := hsu i hi
        rw [hsb _ hmem] at h1
        obtain ⟨j, hj⟩ := List.mem_iff_getElem?.1 hmem
        obtain ⟨b, hb', _⟩ := hlive j _ hj
        rw [h1] at hb'; cases hb'
      have hRbox : ∀ i n, bx[i]? = some n → lookR (boxR bx 0 ++ resR ow base) n = some (some (PN + i)) := fun i n hi => by
        rw [lookR_append, boxR_at (j := 0) hnd hi, Nat.zero_add]
      have hRres : ∀ i o, ow[i]? = some o → lookR (boxR bx 0 ++ resR ow base) (base + i) = some o := fun i o hi => by
        have hlti : i < nOwn c.rs := by have := (List.getElem?_eq_some_iff.1 hi).1; omega
        rw [lookR_append, boxR_none (hnotbx i hlti)]
        exact resR_at hi
      have hRinv : ∀ n y, lookR (boxR bx 0 ++ resR ow base) n = some y → (∃ i, bx[i]? = some n ∧ y = some (PN + i)) ∨ ∃ i, ow[i]? = some y ∧ n = base + i ∧ i < nOwn c.rs := fun n y hy => by
        rw [lookR_append] at hy
        split at hy
        · rename_i x hx
          cases hy
          obtain ⟨i, h1, h2⟩ := boxR_look hx
          rw [Nat.zero_add] at h2
          exact .inl ⟨i, h1, h2⟩
        · obtain ⟨i, h1, h2⟩ := resR_look hy
          exact .inr ⟨i, h1, h2, by have := (List.getElem?_eq_some_iff.1 h1).1; omega⟩
      have henvp : ∀ i n, bx[i]? = some n → env1 (PN + i) = env n := fun i n hi => by
        obtain ⟨b, _, _, hne⟩ := hlive i n hi
        have := x'.envp (PN + i) (by omega) (by rw [callEnv_at hi]; exact hne)
        rw [this, callEnv_at hi]
      have hlookA : ∀ q b k l, lookN S'.H q = .live b → b.mut = true → env1 q = .blk k l → q ∉ (f1 ++ f2).map (·.1) → ¬ A' k := fun q b k l hq hbm he hqn hA' => by
        have mf := (t'.m.freeze hfo).1
        have : setAll (f1 ++ f2) S'.fs.h q = .live b := by rw [setAll_other hqn]; exact hq
        exact (mf.live_blk this he).2 hbm (hA'2 k hA')
      suffices hk : Mod w0 N0 A' (retEnv (boxR bx 0 ++ resR ow base) env env1) (setAll (boxU c.ps (c.out dd).2 bx ++ resH c.rs (c.out dd).1 base) hs') w1 ∧ Ext As env w A' (retEnv (boxR bx 0 ++ resR ow base) env env1) w1 by
        refine ⟨_, hk.1, hk.2, resV_den (b3 fun i o hi => ?_)⟩
        unfold retEnv
        rw [hRres i o hi]
        simp only [renEnv, hRres i o hi]
        cases o <;> rfl
      refine Mod.retn (R := boxR bx 0 ++ resR ow base) (U := boxU c.ps (c.out dd).2 bx ++ resH c.rs (c.out dd).1 base) (A' := A') ms t'.m x'.shape ?_ ?_ ?_ ?_ ?_ hAA hA1' ?_
      · intro n x hx
        rcases List.mem_append.1 hx with hx | hx
        · obtain ⟨i, b, b0, h1, h2, h3, h4, h5, h6, h7⟩ := c2 n x hx
          rw [Nat.zero_add] at h4 h6 h7
          exact ⟨b, h2, h3, .inl ⟨PN + i, b0, hRbox i n h1, h4, h5, fun k len he => h6 _ k len he, h7⟩⟩
        · obtain ⟨i, E, t, xs, rfl, h2, h3⟩ := g2 n x hx
          refine ⟨_, h2, rfl, ?_⟩
          rcases h3 with ⟨q, h4, h5, h6, h7⟩ | ⟨h4, h5⟩
          · exact .inl ⟨q, _, hRres i _ h4, h5, rfl, h6, fun he => ⟨E, t, by rw [h7 he]⟩⟩
          · exact .inr ⟨hRres i _ h4, E, t, by rw [h5]⟩
      · intro n hn
        obtain ⟨y, hy⟩ := Option.ne_none_iff_exists'.1 hn
        rw [List.map_append]
        rcases hRinv n y hy with ⟨i, h1, _⟩ | ⟨i, h1, rfl, _⟩
        · exact List.mem_append_left _ (c3 n (List.mem_of_getElem? h1))
        · exact List.mem_append_right _ (g3 i y h1)
      · intro n n' q hn hn'
        rcases hRinv n _ hn with ⟨i, h1, h2⟩ | ⟨i, h1, rfl, _⟩ <;> rcases hRinv n' _ hn' with ⟨i', h1', h2'⟩ | ⟨i', h1', rfl, _⟩
        · simp only [Option.some.injEq] at h2 h2'
          have : i = i' := by omega
          subst this
          rw [h1] at h1'; exact Option.some.inj h1'
        · simp only [Option.some.injEq] at h2
          have := (hownS i' q h1').1
          omega
        · simp only [Option.some.injEq] at h2'
          have := (hownS i q h1).1
          omega
        · rw [(hownS i q h1).2.2 i' h1']
      · intro n hn
        obtain ⟨y, hy⟩ := Option.ne_none_iff_exists'.1 hn
        rcases hRinv n y hy with ⟨i, h1, rfl⟩ | ⟨i, h1, rfl, h2⟩
        · obtain ⟨b, g2', g3', _⟩ := hlive i n h1
          exact .inr ⟨b, by rw [hsb n (List.mem_of_getElem? h1)]; exact g2', g3', by rw [renEnv_some hy]; exact henvp i n h1⟩
        · exact .inl (hsu i h2)
      · rintro k ⟨n, l, hn, he⟩
        obtain ⟨i, hi⟩ := List.mem_iff_getElem?.1 hn
        obtain ⟨b, g2', g3', _⟩ := hlive i n hi
        exact ⟨n, b, l, by rw [hRbox i n hi]; simp, by rw [hsb n hn]; exact g2', g3', he⟩
      · rintro q b k l hq hbm he ⟨n, hn⟩
        refine hlookA q b k l hq hbm he fun hmem => ?_
        rcases hRinv n _ hn with ⟨i, h1, h2⟩ | ⟨i, h1, rfl, _⟩
        · simp only [Option.some.injEq] at h2
          have := hlt q hmem
          omega
        · exact (hownS i q h1).2.1 hmem
    have hret : ∀ v, results fn act.tmps = pure v → (∃ (A' : Nat → Prop) (env' : Env), Mod w0 N0 A' env' (setAll ((boxU c.ps (c.out dd).2 bx ++ resH c.rs (c.out dd).1 base) ++ (match c.keep with | true => fz | false => [])) h) w1 ∧ Ext A env w A' env' w1 ∧
        Den A' env' w1 (resV (resSV c.rs (c.out dd).1 base)) v) → bodyPost P fn (fun e w' => ∃ v, e = .returned v ∧ Good w0 N0 A env h w (.det (c.pre dd) (resV (resSV c.rs (c.out dd).1 base)) ((boxU c.ps (c.out dd).2 bx ++ resH c.rs (c.out dd).1 base) ++ (match c.keep with | true => fz | false => []))) v w') ex.to act w1 := by
      intro v hv ⟨A', env', h1, h2, h3⟩
      have : act.defers = [] ∧ ∃ v, (results fn act.tmps).run P w1 = .ok v w1 ∧ ∃ v', Ending.returned v = .returned v' ∧ Good w0 N0 A env h w (.det (c.pre dd) (resV (resSV c.rs (c.out dd).1 base)) ((boxU c.ps (c.out dd).2 bx ++ resH c.rs (c.out dd).1 base) ++ (match c.keep with | true => fz | false => []))) v' w1 :=
        ⟨t'.dfr, v, by rw [hv]; rfl, v, rfl, (), A', env', trivial, h1, h2, h3⟩
      rcases hex with rfl | rfl
      · exact this
      · exact this
    refine hret _ (results_tmps hts) ?_
    cases hk : c.keep with
    | true =>
      obtain ⟨mf, xf⟩ := m.freeze a1
      have hback : ∀ b, frzA A1 env1 (f1 ++ f2) b → frzA A env fz b ∨ ((boxBlk env bx b ∨ w.heap.size ≤ b) ∧ b < w1.heap.size) := by
        intro b hb
        have hfo : FrzOk (lookN S'.H) (f1 ++ f2) := by
          obtain ⟨b1, _⟩ := outR_sound (A' := frzA A1 env1 (f1 ++ f2)) (env' := env1) t'.m hA2 c.rs (c.out dd).1 _ _ q1' f1 ow base ho hc1 hres hF1 (.inr fun b hb => hb)
          obtain ⟨c1, _⟩ := outB_sound (A' := frzA A1 env1 (f1 ++ f2)) t'.m hA2 c.ps dd (c.out dd).2 q2' f2 bx 0 hob hc2 hF2 (.inr fun b hb => hb) (by simpa using hlen)
          intro n b hh
          rcases List.mem_append.1 hh with hh | hh
          · exact b1 n b hh
          · exact c1 n b hh
        have hAlt := (t'.m.freeze hfo).1.Alt b hb
        rcases hb with hb | ⟨n, x, l, hx, he⟩
        · rcases t'.m.fresh b hb with h1 | h1 | h1
          · exact .inl h1
          · exact .inr ⟨.inl h1, hAlt⟩
          · exact .inr ⟨.inr h1, hAlt⟩
        · obtain ⟨E, t, xs, hl, _⟩ := hfo n x hx
          rcases t'.m.own n _ b l hl rfl he with h1 | h1
          · exact .inr ⟨.inl h1, hAlt⟩
          · exact .inr ⟨.inr h1, hAlt⟩
      obtain ⟨env', k1, k2, k3⟩ := fin (frzA A env fz) (frzA A1 env1 (f1 ++ f2)) (setAll fz h) mf (fun n hn => setAll_other (hdj n hn)) (fun i hi => by
          rw [setAll_other]
          · exact hun i hi
          · intro hmem
            obtain ⟨⟨n, x⟩, hx, he⟩ := List.mem_map.1 hmem
            simp only at he
            subst he
            obtain ⟨E, t, xs, hl, _⟩ := a1 _ _ hx
            rw [hun i hi] at hl; cases hl)
        (fun b hb => .inl (x'.imm b hb)) (fun b hb => hb) hback (.inr fun b hb => hb) (.inr fun b hb => hb)
      refine ⟨_, env', ?_, xf.trans k2, k3⟩
      simp only
      rw [setAll_append]; exact k1
    | false =>
      have hpl : rsPlain c.rs = true ∧ psPlain c.ps = true := by
        simpa [Ct.keep] using hk
      obtain ⟨env', k1, k2, k3⟩ := fin A A h m (fun n hn => rfl) hun (fun b hb => hb) (fun b hb => .inl (x'.imm b (.inl hb))) (fun b hb => .inl hb) (.inl hpl.1) (.inl hpl.2)
      refine ⟨_, env', ?_, k2, k3⟩
      simp only [List.append_nil]
      exact k1
end
end Go.SX
