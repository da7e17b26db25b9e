/- SX, part 16: regions: from the symbolic run to the real one; the run as the kernel computes it. -/
import Derived.Test.YtdegakknelbjiaaGreatDoorSx15
namespace Go.SX
set_option linter.unusedVariables false

def edgesBelow (k : Nat) : List Edge → Bool
  | [] => true
  | e :: r => (match Region.binds .any e with | true => Nat.blt e.on k | false => true) && edgesBelow k r
def lexOK : Nat → List Oper → Bool
  | _, [] => true
  | k, o :: r => edgesBelow k o.after.toList && lexOK (k + 1) r

section
variable {P : Program} {sp : Specs} {ops : Array Oper} {msk : List Nat} {w0 : World} {N0 : Old} {K : FS → Prop} {Q : Exit → Act → World → Prop}

theorem edgesBelow_spec {k : Nat} : ∀ {es : List Edge}, edgesBelow k es = true → ∀ e ∈ es, Region.binds .any e = true → e.on < k
  | [], _, e, he, _ => by simp at he
  | e :: r, h, e', he, hb => by
    simp only [edgesBelow, Bool.and_eq_true] at h
    rcases List.mem_cons.1 he with rfl | he
    · rw [hb] at h; simpa using h.1
    · exact edgesBelow_spec h.2 e' he hb

theorem lexOK_spec : ∀ {l : List Oper} {k : Nat}, (∀ j, l[j]? = ops[k + j]?) → lexOK k l = true → ∀ j o, k ≤ j → ops[j]? = some o → j < k + l.length → ∀ e ∈ o.after, Region.binds .any e = true → e.on < j
  | [], k, _, _, j, o, h1, _, h2, _, _, _ => by simp at h2; omega
  | o0 :: l, k, hl, h, j, o, h1, ho, h2, e, he, hb => by
    simp only [lexOK, Bool.and_eq_true] at h
    by_cases hjk : j = k
    · subst hjk
      have h0 : ops[j]? = some o0 := by simpa using (hl 0).symm
      rw [h0] at ho; cases ho
      exact edgesBelow_spec h.1 e (by simpa using he) hb
    · exact lexOK_spec (k := k + 1) (fun j => by have := hl (j + 1); simpa [Nat.add_assoc, Nat.add_comm 1 j] using this) h.2 j o (by omega) ho (by simp at h2; omega) e he hb

/-- The first 'k' operations have come up. -/
def LP (ops : Array Oper) (k : Nat) (listed : Array Bool) : Prop := ∀ j, listed[j]? = if j < ops.size then some (decide (j < k)) else none

theorem sAny_lex (hmsk : ∀ i j, ancB msk i j = true → Anc ops i j) (hlex : lexOK 0 ops.toList = true) : ∀ (l : List Oper) (k : Nat) (listed : Array Bool) (log : Log) (F : FS), (∀ j, l[j]? = ops[k + j]?) → LP ops k listed →
    k + l.length = ops.size → sLex P sp ops msk K l k log F → sAny P sp ops msk K l.length listed log F
  | [], k, listed, log, F, _, hL, hk, h => by
    refine ⟨?_, h⟩
    cases hr : Region.ready .any ops listed with
    | nil => rfl
    | cons i r =>
      exfalso
      have hi : i ∈ Region.ready .any ops listed := by rw [hr]; simp
      obtain ⟨h0, o, ho, _⟩ := mem_ready.1 hi
      have hlt := (Array.getElem?_eq_some_iff.1 ho).1
      rw [Array.getD_eq_getD_getElem?, hL i, if_pos hlt] at h0
      simp at hk h0; omega
  | o :: l, k, listed, log, F, hl, hL, hk, h => by
    have h0 : ops[k]? = some o := by simpa using (hl 0).symm
    have hlt := (Array.getElem?_eq_some_iff.1 h0).1
    simp only [sLex] at h
    unfold sOp at h
    rw [h0] at h
    obtain ⟨st, r, h1, h2, h3, h4⟩ := h
    have hed := lexOK_spec (ops := ops) (l := ops.toList) (k := 0) (by simp) hlex
    have hgD : ∀ j, j < k → listed.getD j false = true := fun j hj => by
      rw [Array.getD_eq_getD_getElem?, hL j, if_pos (by omega)]; simp [hj]
    refine sAny_first hmsk h0 h2 l.length listed log F ?_ ?_ h1 h3 fun F' hF' => ?_
    · intro j oj hoj hj e he hb
      have hjlt := (Array.getElem?_eq_some_iff.1 hoj).1
      rw [Array.getD_eq_getD_getElem?, hL j, if_pos hjlt] at hj
      have hjk : j < k := by simpa using hj
      have := hed j oj (Nat.zero_le _) hoj (by simpa using hjlt) e he hb
      exact hgD _ (by omega)
    · refine mem_ready.2 ⟨?_, o, h0, fun e he hb => hgD _ (hed k o (Nat.zero_le _) h0 (by simpa using hlt) e he hb)⟩
      rw [Array.getD_eq_getD_getElem?, hL k, if_pos hlt]; simp
    · refine sAny_lex hmsk hlex l (k + 1) _ _ F' (fun j => by have := hl (j + 1); simpa [Nat.add_assoc, Nat.add_comm 1 j] using this) ?_ (by simp at hk; omega) (h4 F' hF')
      intro j
      by_cases hjk : k = j
      · subst hjk
        rw [Array.getElem?_setIfInBounds_self_of_lt (by
          have := hL k; rw [if_pos hlt] at this; exact (Array.getElem?_eq_some_iff.1 this).1), if_pos hlt]
        simp
      · rw [Array.getElem?_setIfInBounds_ne hjk, hL j]
        split
        · congr 1; rw [decide_eq_decide]; omega
        · rfl

theorem wpAny_of_sAny (hs : SpecsOK P sp ∧ N0.g = sp.gl) {A1 : Nat → Prop} {env1 : Env} {w1 : World}
    (hQ : ∀ F' A' env' a' w', K F' → Fits w0 N0 A' env' F' a' w' → Ext A1 env1 w1 A' env' w' → Q .normal a' w') :
    ∀ (fuel : Nat) (listed : Array Bool) (log : Log) (F : FS) (A : Nat → Prop) (env : Env) (a : Act) (w : World), sAny P sp ops msk K fuel listed log F → Fits w0 N0 A env F a w → Ext A1 env1 w1 A env w →
      wpAny P .any ops Q fuel listed a w
  | 0, _, _, F, A, env, a, w, h, t, x => ⟨h.1, hQ _ _ _ _ _ h.2 t x⟩
  | fuel + 1, listed, log, F, A, env, a, w, h, t, x => by
    refine ⟨fun h0 => hQ _ _ _ _ _ (h.1 h0) t x, fun i hi => ?_⟩
    have hi' := h.2 i hi
    unfold sOp at hi'
    unfold wpOp
    split at hi'
    · rename_i ho
      simp only [ho]
      exact wpAny_of_sAny hs hQ fuel _ _ F A env a w hi' t x
    · rename_i o ho
      simp only [ho]
      obtain ⟨st, r, h1, h2, _, h4⟩ := hi'
      exact (sdl_sound hs t h1 h2).2 _ _ fun F' A' env' a' w' hF t' x' => wpAny_of_sAny hs hQ fuel _ _ F' A' env' a' w' (h4 F' hF) t' (x.trans x')

theorem wpOps_of_sLex (hs : SpecsOK P sp ∧ N0.g = sp.gl) {A1 : Nat → Prop} {env1 : Env} {w1 : World}
    (hQ : ∀ F' A' env' a' w', K F' → Fits w0 N0 A' env' F' a' w' → Ext A1 env1 w1 A' env' w' → Q .normal a' w') :
    ∀ (l : List Oper) (k : Nat) (log : Log) (F : FS) (A : Nat → Prop) (env : Env) (a : Act) (w : World), (∀ j, l[j]? = ops[k + j]?) → sLex P sp ops msk K l k log F → Fits w0 N0 A env F a w → Ext A1 env1 w1 A env w →
      wpOps P ops Q (List.range' k l.length) a w
  | [], k, log, F, A, env, a, w, _, h, t, x => hQ _ _ _ _ _ h t x
  | o :: l, k, log, F, A, env, a, w, hl, h, t, x => by
    have h0 : ops[k]? = some o := by simpa using (hl 0).symm
    simp only [sLex] at h
    unfold sOp at h
    rw [h0] at h
    obtain ⟨st, r, h1, h2, _, h4⟩ := h
    rw [List.length_cons, List.range'_succ, wpOps_cons]
    unfold wpOp
    simp only [h0]
    exact (sdl_sound hs t h1 h2).2 _ _ fun F' A' env' a' w' hF t' x' =>
      wpOps_of_sLex hs hQ l (k + 1) _ F' A' env' a' w' (fun j => by have := hl (j + 1); simpa [Nat.add_assoc, Nat.add_comm 1 j] using this) (h4 F' hF) t' (x.trans x')

theorem Fits.drew {A : Nat → Prop} {env : Env} {F : FS} {a : Act} {w : World} (t : Fits w0 N0 A env F a w) : Fits w0 N0 A env F a w.drew ∧ Ext A env w A env w.drew := by
  have u : Upd (fun _ => False) (fun _ => False) A env F.h w A env F.h w.drew := Upd.none (Chg.drew w _)
  have x := t.m.ext u
  exact ⟨⟨t.m.upd u, t.len, fun i => Den_mono x _ _ (t.f i), t.dfr⟩, x⟩

/-- **A region.** -/
theorem region_wp (hs : SpecsOK P sp ∧ N0.g = sp.gl) (hmix : P.follows .mixedOrders = true) {id : Nat} {draw : Bool} {A : Nat → Prop} {env : Env} {F : FS} {a : Act} {w : World} (hd : draw = true → lexOK 0 ops.toList = true ∧ msk = masks ops.toList [])
    (t : Fits w0 N0 A env F a w) (h : sLex P sp ops msk K ops.toList 0 [] F)
    (hQ : ∀ F' A' env' a' w', K F' → Fits w0 N0 A' env' F' a' w' → Ext A env w A' env' w' → Q .normal a' w') : (Code.region id ops draw).wp P Q a w := by
  cases draw with
  | false =>
    refine wp_region ?_
    have := wpOps_of_sLex hs hQ ops.toList 0 [] F A env a w (by simp) h t Ext.refl
    rw [List.range_eq_range']
    simpa using this
  | true =>
    obtain ⟨hlex, hm⟩ := hd rfl
    subst hm
    obtain ⟨t', x'⟩ := t.drew
    refine wp_region_any hmix ?_
    have := sAny_lex (K := K) (P := P) (sp := sp) (masks_spec ops.toList 0 [] (by simp) rfl (by simp [getM])) hlex ops.toList 0 (Array.replicate ops.size false) [] F (by simp) (fun j => by
      rw [Array.getElem?_replicate]; split <;> simp) (by simp) h
    have h2 := wpAny_of_sAny (Q := Q) hs hQ _ _ _ F A env a w.drew this t' x'
    simpa using h2
end

/-! ### The run as the kernel computes it: all values are looked at before they are handed on -/
/-- The symbolic state, its heap a list. -/
structure St where
  sl : List SV
  H : List (Nat × Nm)

def lookN : List (Nat × Nm) → Nat → Nm
  | [], _ => .un
  | (m, b) :: r, n => match Nat.beq n m with
    | true => b
    | false => lookN r n

def St.fs (S : St) : FS := ⟨S.sl, lookN S.H⟩

theorem lookN_eq : ∀ (H : List (Nat × Nm)), lookN H = setAll H (fun _ => .un)
  | [] => rfl
  | (m, b) :: r => by
    funext n
    simp only [lookN, setAll, Heap.set]
    by_cases h : n = m
    · subst h; simp
    · have : Nat.beq n m = false := by
        cases hb : Nat.beq n m with
        | false => rfl
        | true => exact absurd (Nat.eq_of_beq_eq_true hb) h
      rw [this, if_neg h, lookN_eq r]

theorem lookN_append (u H : List (Nat × Nm)) : lookN (u ++ H) = setAll u (lookN H) := by
  rw [lookN_eq, lookN_eq, setAll_append]

def ifP (b : Bool) (y n : Prop) : Prop := match b with
  | true => y
  | false => n
def conjK : List Prop → Prop → Prop
  | [], q => q
  | p :: r, q => p ∧ conjK r q
theorem conjK_iff {l : List Prop} {q : Prop} : conjK l q ↔ conj l ∧ q := by
  induction l with
  | nil => simp [conjK, conj]
  | cons p l ih => simp [conjK, conj, ih, and_assoc]

def force0 (v : SV) (k : SV → Prop) : Prop := match v with
  | .int a b => k (.int a b)
  | .bool b => k (.bool b)
  | .str s => k (.str s)
  | .dsl t xs => k (.dsl t xs)
  | .dsx t xs => k (.dsx t xs)
  | .nilsl => k .nilsl
  | .own n s => k (.own n s)
  | .ptr n o => k (.ptr n o)
  | .eptr n s i o => k (.eptr n s i o)
  | .dptr t d o => k (.dptr t d o)
  | .nilp => k .nilp
  | .fn f c => k (.fn f c)
  | .agg c => k (.agg c)
  | .tup c => k (.tup c)
  | .opt b v => k (.opt b v)
  | .cv v => k (.cv v)
  | .gl g => k (.gl g)
  | .junk => k .junk
theorem force0_eq (v : SV) (k : SV → Prop) : force0 v k = k v := by cases v <;> rfl
def force0L : List SV → (List SV → Prop) → Prop
  | [], k => k []
  | x :: xs, k => force0 x fun y => force0L xs fun ys => k (y :: ys)
theorem force0L_eq : ∀ (l : List SV) (k : List SV → Prop), force0L l k = k l
  | [], k => rfl
  | x :: xs, k => by simp only [force0L, force0_eq, force0L_eq xs]
def force1 (v : SV) (k : SV → Prop) : Prop := force0 v fun v => match v with
  | .agg c => force0L c fun c => k (.agg c)
  | .tup c => force0L c fun c => k (.tup c)
  | .fn f c => force0L c fun c => k (.fn f c)
  | .opt b v => force0 v fun v => k (.opt b v)
  | v => k v
theorem force1_eq (v : SV) (k : SV → Prop) : force1 v k = k v := by
  unfold force1; rw [force0_eq]; cases v <;> simp only [force0L_eq, force0_eq]
def force1L : List SV → (List SV → Prop) → Prop
  | [], k => k []
  | x :: xs, k => force1 x fun y => force1L xs fun ys => k (y :: ys)
theorem force1L_eq : ∀ (l : List SV) (k : List SV → Prop), force1L l k = k l
  | [], k => rfl
  | x :: xs, k => by simp only [force1L, force1_eq, force1L_eq xs]
def force2 (v : SV) (k : SV → Prop) : Prop := force1 v fun v => match v with
  | .tup c => force1L c fun c => k (.tup c)
  | .opt b v => force1 v fun v => k (.opt b v)
  | v => k v
theorem force2_eq (v : SV) (k : SV → Prop) : force2 v k = k v := by
  unfold force2; rw [force1_eq]; cases v <;> simp only [force1L_eq, force1_eq]

def forceN : List Nat → (List Nat → Prop) → Prop
  | [], k => k []
  | n :: r, k => forceN r fun r => k (n :: r)
theorem forceN_eq : ∀ (l : List Nat) (k : List Nat → Prop), forceN l k = k l
  | [], k => rfl
  | n :: r, k => by simp only [forceN, forceN_eq r]

def forceNm (b : Nm) (k : Nm → Prop) : Prop := match b with
  | .un => k .un
  | .dead => k .dead
  | .live b => match b with
    | .cells E cs => force1L cs fun cs => k (.live (.cells E cs))
    | .row E t xs => k (.live (.row E t xs))
    | .frz E t xs => k (.live (.frz E t xs))
theorem forceNm_eq (b : Nm) (k : Nm → Prop) : forceNm b k = k b := by
  cases b with
  | live b => cases b <;> simp only [forceNm, force1L_eq]
  | _ => rfl

def setK : List SV → Nat → SV → (List SV → Prop) → Prop
  | [], _, _, k => k []
  | _ :: xs, 0, v, k => k (v :: xs)
  | x :: xs, n + 1, v, k => setK xs n v fun ys => k (x :: ys)
theorem setK_eq : ∀ (l : List SV) (n : Nat) (v : SV) (k : List SV → Prop), setK l n v k = k (l.set n v)
  | [], n, v, k => by simp [setK]
  | x :: xs, 0, v, k => rfl
  | x :: xs, n + 1, v, k => by simp only [setK, setK_eq xs, List.set_cons_succ]

def updK : List (Nat × Nm) → List (Nat × Nm) → (List (Nat × Nm) → Prop) → Prop
  | [], H, k => k H
  | (n, b) :: r, H, k => updK r H fun H' => forceNm b fun b' => k ((n, b') :: H')
theorem updK_eq : ∀ (u H : List (Nat × Nm)) (k : List (Nat × Nm) → Prop), updK u H k = k (u ++ H)
  | [], H, k => rfl
  | (n, b) :: r, H, k => by simp only [updK, updK_eq r, forceNm_eq, List.cons_append]

def putK (S : St) (dst : Option Tmp) (v : SV) (upd : List (Nat × Nm)) (k : St → Prop) : Prop := match S with
  | ⟨sl, H⟩ => updK upd H fun H => match dst with
    | some d => force2 v fun v => setK sl d v fun sl => k ⟨sl, H⟩
    | none => k ⟨sl, H⟩
theorem putK_eq (S : St) (dst : Option Tmp) (v : SV) (upd : List (Nat × Nm)) (k : St → Prop) : putK S dst v upd k = k ⟨setSl S.sl dst v, upd ++ S.H⟩ := by
  unfold putK
  obtain ⟨sl, H⟩ := S
  simp only
  rw [updK_eq]
  cases dst with
  | none => rfl
  | some d => simp only [force2_eq, setK_eq, setSl]

def instU {X : Type} (x : X) : List (Nat × (X → Nm)) → List (Nat × Nm)
  | [] => []
  | (n, f) :: r => (n, f x) :: instU x r
theorem instU_eq {X : Type} (x : X) : ∀ (u : List (Nat × (X → Nm))), instU x u = u.map fun p => (p.1, p.2 x)
  | [] => rfl
  | (n, f) :: r => by simp [instU, instU_eq x r]

def outK (dst : Option Tmp) (S : St) (k : St → Prop) : Stp → Prop
  | .go (.det pre v upd) => conjK pre (putK S dst v upd k)
  | .go (.nd X qn pre R _ v upd) => conjK pre (qn.all fun x => R x → putK S dst (v x) (instU x upd) k)
  | .split g (.det pre v upd) => ifP g (conjK pre (putK S dst v upd k)) (putK S dst (.cv undef) [] k)
  | .split g (.nd X qn pre R _ v upd) => ifP g (conjK pre (qn.all fun x => R x → putK S dst (v x) (instU x upd) k)) (putK S dst (.cv undef) [] k)

theorem outK_spec {dst : Option Tmp} {S : St} {k : St → Prop} {st : Stp} (h : outK dst S k st) : st.pre ∧ ∀ F', Out st dst S.fs F' → ∃ S', S'.fs = F' ∧ k S' := by
  have mk : ∀ v u, putK S dst v u k → ∃ S' : St, S'.fs = ⟨setSl S.sl dst v, setAll u (lookN S.H)⟩ ∧ k S' := fun v u hp => by
    rw [putK_eq] at hp
    exact ⟨_, by simp only [St.fs, lookN_append], hp⟩
  have mkI : ∀ {X : Type} {qn : Qn X} {R : X → Prop} {v : X → SV} {upd : List (Nat × (X → Nm))}, (qn.all fun x => R x → putK S dst (v x) (instU x upd) k) → ∀ (x : X), R x →
      ∃ S' : St, S'.fs = ⟨setSl S.sl dst (v x), setAll (upd.map fun p => (p.1, p.2 x)) (lookN S.H)⟩ ∧ k S' := fun {X qn R v upd} h2 x hx => by
    have := qn.hall _ h2 x hx
    rw [instU_eq] at this
    exact mk _ _ this
  cases st with
  | go d =>
    cases d with
    | det pre v upd =>
      obtain ⟨h1, h2⟩ := conjK_iff.1 h
      exact ⟨h1, by rintro F' ⟨x, _, rfl⟩; exact mk _ _ h2⟩
    | nd X qn pre R inh v upd =>
      obtain ⟨h1, h2⟩ := conjK_iff.1 h
      refine ⟨h1, ?_⟩
      rintro F' ⟨x, hx, rfl⟩
      exact mkI h2 x hx
  | split g d =>
    cases d with
    | det pre v upd =>
      cases g with
      | true =>
        obtain ⟨h1, h2⟩ := conjK_iff.1 (show conjK pre (putK S dst v upd k) from h)
        exact ⟨fun _ => h1, by rintro F' (⟨_, x, _, rfl⟩ | ⟨hg, _⟩); exact mk _ _ h2; cases hg⟩
      | false =>
        exact ⟨fun hg => (by cases hg), by rintro F' (⟨hg, _⟩ | ⟨_, rfl⟩); cases hg; exact mk (.cv undef) [] h⟩
    | nd X qn pre R inh v upd =>
      cases g with
      | true =>
        obtain ⟨h1, h2⟩ := conjK_iff.1 (show conjK pre (qn.all fun x => R x → putK S dst (v x) (instU x upd) k) from h)
        refine ⟨fun _ => h1, ?_⟩
        rintro F' (⟨_, x, hx, rfl⟩ | ⟨hg, _⟩)
        · exact mkI h2 x hx
        · cases hg
      | false =>
        exact ⟨fun hg => (by cases hg), by rintro F' (⟨hg, _⟩ | ⟨_, rfl⟩); cases hg; exact mk (.cv undef) [] h⟩

/-! Values under names: what is long is said once. -/
def nameSV (v : SV) (k : SV → Prop) : Prop := match v with
  | .int c e => ∀ n : Int, n = e → k (.int c n)
  | .bool e => ∀ b : Bool, b = e → k (.bool b)
  | .opt g v => match v with
    | .int c e => ∀ n : Int, n = e → k (.opt g (.int c n))
    | .bool e => ∀ b : Bool, b = e → k (.opt g (.bool b))
    | v => k (.opt g v)
  | v => k v
theorem nameSV_spec {v : SV} {k : SV → Prop} (h : nameSV v k) : k v := by
  unfold nameSV at h
  split at h
  · exact h _ rfl
  · exact h _ rfl
  · split at h
    · exact h _ rfl
    · exact h _ rfl
    · exact h
  · exact h
def nameSl : List SV → Nat → (List SV → Prop) → Prop
  | [], _, k => k []
  | v :: l, 0, k => nameSV v fun v => k (v :: l)
  | v :: l, n + 1, k => nameSl l n fun l => k (v :: l)
theorem nameSl_spec : ∀ {l : List SV} {n : Nat} {k : List SV → Prop}, nameSl l n k → k l
  | [], _, k, h => h
  | v :: l, 0, k, h => nameSV_spec (v := v) (k := fun v => k (v :: l)) h
  | v :: l, n + 1, k, h => nameSl_spec (l := l) (k := fun l => k (v :: l)) h
def nameK (gs : List Nat) (dst : Option Tmp) (k : St → Prop) (S : St) : Prop := match dst with
  | some d => match memN d gs with
    | true => match S with
      | ⟨sl, H⟩ => nameSl sl d fun sl => k ⟨sl, H⟩
    | false => k S
  | none => k S
theorem nameK_spec {gs : List Nat} {dst : Option Tmp} {k : St → Prop} {S : St} (h : nameK gs dst k S) : k S := by
  unfold nameK at h
  split at h
  · split at h
    · exact nameSl_spec (k := fun sl => k ⟨sl, S.H⟩) h
    · exact h
  · exact h
/-- The slots of operations that are guards. -/
def guardSlots (all : List Oper) : List Oper → List Nat
  | [] => []
  | o :: l => match o.guard with
    | some (j, _) => match getL all j with
      | some oj => match oj.dst with
        | some d => match memN d (guardSlots all l) with
          | true => guardSlots all l
          | false => d :: guardSlots all l
        | none => guardSlots all l
      | none => guardSlots all l
    | none => guardSlots all l

/-- A region's operations, in the text's order. -/
def sxOps (P : Program) (sp : Specs) (all : List Oper) (gs : List Nat) (k : St → Prop) : List Oper → St → Prop
  | [], S => k S
  | o :: l, S => match (sdl P sp all o S.sl).run (lookN S.H) with
    | some (st, _) => outK o.dst S (nameK gs o.dst (sxOps P sp all gs k l)) st
    | none => False

/-- The same, with a look at what operations that Go may carry out in either order touch. -/
def sxOpsL (P : Program) (sp : Specs) (ops : Array Oper) (gs : List Nat) (msk : List Nat) (k : St → Prop) : List Oper → Nat → Log → St → Prop
  | [], _, _, S => k S
  | o :: l, i, log, S => match (sdl P sp ops.toList o S.sl).run (lookN S.H) with
    | some (st, r) => forceN r fun r => forceN st.wr fun wr => forceN (o.looksAt ops) fun lk => match okLog msk i ⟨r, wr, lk, dstL o.dst⟩ log with
      | true => outK o.dst S (nameK gs o.dst (sxOpsL P sp ops gs msk k l (i + 1) ((i, ⟨r, wr, lk, dstL o.dst⟩) :: log))) st
      | false => False
    | none => False

def sxRegion (P : Program) (sp : Specs) (nms : List Nat) (ops : Array Oper) (draw : Bool) (k : St → Prop) (S : St) : Prop :=
  forceN (guardSlots ops.toList ops.toList ++ nms) fun gs => match draw with
  | false => sxOps P sp ops.toList gs k ops.toList S
  | true => match lexOK 0 ops.toList with
    | true => forceN (masks ops.toList []) fun msk => sxOpsL P sp ops gs msk k ops.toList 0 [] S
    | false => False

section
variable {P : Program} {sp : Specs} {ops : Array Oper} {gs nms : List Nat} {msk : List Nat} {w0 : World} {N0 : Old} {Q : Exit → Act → World → Prop} {k : St → Prop}

/-- The symbolic run without a look at touches. -/
theorem sLex_of_sxOpsL : ∀ (l : List Oper) (i : Nat) (log : Log) (S : St), (∀ j, l[j]? = ops[i + j]?) → sxOpsL P sp ops gs msk k l i log S →
    sLex P sp ops msk (fun F => ∃ S', St.fs S' = F ∧ k S') l i log S.fs
  | [], i, log, S, _, h => ⟨S, rfl, h⟩
  | o :: l, i, log, S, hl, h => by
    have h0 : ops[i]? = some o := by simpa using (hl 0).symm
    simp only [sxOpsL] at h
    simp only [sLex]
    unfold sOp
    rw [h0]
    split at h
    · rename_i st r hr
      simp only [forceN_eq] at h
      split at h
      · rename_i hok
        obtain ⟨h1, h2⟩ := outK_spec h
        refine ⟨st, r, hr, h1, hok, fun F' hF => ?_⟩
        obtain ⟨S', rfl, h3⟩ := h2 F' hF
        exact sLex_of_sxOpsL l (i + 1) _ S' (fun j => by have := hl (j + 1); simpa [Nat.add_assoc, Nat.add_comm 1 j] using this) (nameK_spec h3)
      · exact h.elim
    · exact h.elim

theorem wpOps_of_sxOps (hs : SpecsOK P sp ∧ N0.g = sp.gl) {A1 : Nat → Prop} {env1 : Env} {w1 : World}
    (hQ : ∀ S' A' env' a' w', k S' → Fits w0 N0 A' env' (St.fs S') a' w' → Ext A1 env1 w1 A' env' w' → Q .normal a' w') :
    ∀ (l : List Oper) (i : Nat) (S : St) (A : Nat → Prop) (env : Env) (a : Act) (w : World), (∀ j, l[j]? = ops[i + j]?) → sxOps P sp ops.toList gs k l S → Fits w0 N0 A env S.fs a w → Ext A1 env1 w1 A env w →
      wpOps P ops Q (List.range' i l.length) a w
  | [], i, S, A, env, a, w, _, h, t, x => hQ _ _ _ _ _ h t x
  | o :: l, i, S, A, env, a, w, hl, h, t, x => by
    have h0 : ops[i]? = some o := by simpa using (hl 0).symm
    simp only [sxOps] at h
    rw [List.length_cons, List.range'_succ, wpOps_cons]
    unfold wpOp
    simp only [h0]
    split at h
    · rename_i st r hr
      obtain ⟨h1, h2⟩ := outK_spec h
      refine (sdl_sound hs t hr h1).2 _ _ fun F' A' env' a' w' hF t' x' => ?_
      obtain ⟨S', rfl, h3⟩ := h2 F' hF
      exact wpOps_of_sxOps hs hQ l (i + 1) S' A' env' a' w' (fun j => by have := hl (j + 1); simpa [Nat.add_assoc, Nat.add_comm 1 j] using this) (nameK_spec h3) t' (x.trans x')
    · exact h.elim

theorem sxRegion_wp (hs : SpecsOK P sp ∧ N0.g = sp.gl) (hmix : P.follows .mixedOrders = true) {id : Nat} {draw : Bool} {A : Nat → Prop} {env : Env} {S : St} {a : Act} {w : World}
    (t : Fits w0 N0 A env S.fs a w) (h : sxRegion P sp nms ops draw k S)
    (hQ : ∀ S' A' env' a' w', k S' → Fits w0 N0 A' env' (St.fs S') a' w' → Ext A env w A' env' w' → Q .normal a' w') : (Code.region id ops draw).wp P Q a w := by
  unfold sxRegion at h
  rw [forceN_eq] at h
  cases draw with
  | false =>
    refine wp_region ?_
    have := wpOps_of_sxOps (ops := ops) hs hQ ops.toList 0 S A env a w (by simp) h t Ext.refl
    rw [List.range_eq_range']
    simpa using this
  | true =>
    simp only at h
    split at h
    · rename_i hlex
      rw [forceN_eq] at h
      refine region_wp (K := fun F => ∃ S', St.fs S' = F ∧ k S') (msk := masks ops.toList []) hs hmix (fun _ => ⟨hlex, rfl⟩) t (sLex_of_sxOpsL ops.toList 0 [] S (by simp) h) ?_
      rintro F' A' env' a' w' ⟨S', rfl, hk⟩ t' x'
      exact hQ S' A' env' a' w' hk t' x'
    · exact h.elim
end
end Go.SX
