/- SX, part 20: into a function and out of it. -/
import Derived.Test.YtdegakknelbjiaaGreatDoorSx19
namespace Go.SX
set_option linter.unusedVariables false

section
variable {w0 : World} {N0 : Old} {A Ac : Nat → Prop} {env : Env} {h : Heap} {w : World}

def nodupN : List Nat → Bool
  | [] => true
  | n :: r => !memN n r && nodupN r
theorem nodupN_iff : ∀ {l : List Nat}, nodupN l = true → l.Nodup
  | [], _ => List.nodup_nil
  | n :: r, h => by
    simp only [nodupN, Bool.and_eq_true, Bool.not_eq_true'] at h
    refine List.nodup_cons.2 ⟨fun hm => ?_, nodupN_iff h.2⟩
    rw [memN_iff.2 hm] at h; cases h.1

/-- The names among 'some' names. -/
def somes : List (Option Nat) → List Nat
  | [] => []
  | none :: r => somes r
  | some n :: r => n :: somes r
theorem mem_somes {n : Nat} : ∀ {l : List (Option Nat)}, n ∈ somes l ↔ some n ∈ l
  | [] => by simp [somes]
  | none :: r => by simp [somes, mem_somes (l := r)]
  | some m :: r => by simp [somes, mem_somes (l := r)]
theorem somes_at {n : Nat} : ∀ {l : List (Option Nat)} {i i' : Nat}, (somes l).Nodup → l[i]? = some (some n) → l[i']? = some (some n) → i = i'
  | [], i, i', _, h, _ => by simp at h
  | none :: r, i, i', hn, h, h' => by
    cases i with
    | zero => simp at h
    | succ i => cases i' with
      | zero => simp at h'
      | succ i' => have := somes_at (i := i) (i' := i') (l := r) hn (by simpa using h) (by simpa using h'); omega
  | some m :: r, i, i', hn, h, h' => by
    obtain ⟨h1, h2⟩ := List.nodup_cons.1 hn
    cases i with
    | zero =>
      simp at h; subst h
      cases i' with
      | zero => rfl
      | succ i' => exact absurd (mem_somes.2 (List.mem_of_getElem? (by simpa using h'))) h1
    | succ i => cases i' with
      | zero => simp at h'; subst h'; exact absurd (mem_somes.2 (List.mem_of_getElem? (by simpa using h))) h1
      | succ i' => have := somes_at (i := i) (i' := i') (l := r) h2 (by simpa using h) (by simpa using h'); omega

/-- What a callee's name stands for. -/
def srcN (bx : List Nat) (cx : List (Option Nat)) (n : Nat) : Option (Option Nat) := match Nat.ble QN n with
  | true => cx[n - QN]?
  | false => match Nat.ble PN n with
    | true => match bx[n - PN]? with
      | some m => some (some m)
      | none => none
    | false => none
/-- The callee's names. -/
def callEnv (env : Env) (bx : List Nat) (cx : List (Option Nat)) : Env := fun n => match srcN bx cx n with
  | some o => evOf env o
  | none => .un
theorem srcN_bx {bx : List Nat} {cx : List (Option Nat)} {i n : Nat} (hl : bx.length ≤ PN) (hi : bx[i]? = some n) : srcN bx cx (PN + i) = some (some n) := by
  have hlt := (List.getElem?_eq_some_iff.1 hi).1
  have h2 : QN = PN + PN := rfl
  unfold srcN
  have h1 : Nat.ble QN (PN + i) = false := by
    cases hb : Nat.ble QN (PN + i) with
    | false => rfl
    | true => have := Nat.le_of_ble_eq_true hb; omega
  rw [h1, Nat.ble_eq_true_of_le (by omega)]
  simp only [Nat.add_sub_cancel_left, hi]
theorem srcN_cx {bx : List Nat} {cx : List (Option Nat)} {i : Nat} {o : Option Nat} (hi : cx[i]? = some o) : srcN bx cx (QN + i) = some o := by
  unfold srcN
  rw [Nat.ble_eq_true_of_le (by omega)]
  simp only [Nat.add_sub_cancel_left, hi]
theorem srcN_inv {bx : List Nat} {cx : List (Option Nat)} {n : Nat} {o : Option Nat} (e : srcN bx cx n = some o) : (∃ i m, bx[i]? = some m ∧ n = PN + i ∧ n < QN ∧ o = some m) ∨ ∃ i, cx[i]? = some o ∧ n = QN + i := by
  unfold srcN at e
  split at e
  · rename_i hb
    have := Nat.le_of_ble_eq_true hb
    exact .inr ⟨n - QN, e, by omega⟩
  · rename_i hb
    have hlt : n < QN := by
      refine Nat.lt_of_not_le fun hle => ?_
      rw [Nat.ble_eq_true_of_le hle] at hb; cases hb
    split at e
    · rename_i hb
      have := Nat.le_of_ble_eq_true hb
      split at e
      · rename_i m hm; cases e; exact .inl ⟨n - PN, m, hm, by omega, hlt, rfl⟩
      · cases e
    · cases e
theorem callEnv_bx {bx : List Nat} {cx : List (Option Nat)} {i n : Nat} (hl : bx.length ≤ PN) (hi : bx[i]? = some n) : callEnv env bx cx (PN + i) = env n := by
  unfold callEnv; rw [srcN_bx hl hi]; rfl
theorem callEnv_cx {bx : List Nat} {cx : List (Option Nat)} {i : Nat} {o : Option Nat} (hi : cx[i]? = some o) : callEnv env bx cx (QN + i) = evOf env o := by
  unfold callEnv; rw [srcN_cx hi]

def boxBlk (env : Env) (bx : List Nat) (k : Nat) : Prop := ∃ n l, n ∈ bx ∧ env n = .blk k l

theorem lookN_app {a b : List (Nat × Nm)} {n : Nat} : lookN (a ++ b) n = if n ∈ a.map (·.1) then lookN a n else lookN b n := by
  induction a with
  | nil => simp
  | cons p a ih =>
    obtain ⟨m, x⟩ := p
    simp only [List.cons_append, lookN, List.map_cons, List.mem_cons]
    cases hb : Nat.beq n m with
    | true => have := Nat.eq_of_beq_eq_true hb; simp [this]
    | false =>
      have hne : ¬ n = m := fun e => by rw [e, Nat.beq_refl] at hb; cases hb
      simp only [hne, false_or, ih]

/-- Where a callee begins: every name. -/
theorem call_names {A' : Nat → Prop} {e' : Env} {bx : List Nat} {cx : List (Option Nat)} {lb lc : List (Nat × Nm)} (hl : bx.length ≤ PN) (hb : LinkOK A' env h e' w (bx.map some) lb PN) (hc : LinkOK A' env h e' w cx lc QN) :
    (∀ n o, srcN bx cx n = some o → ∃ b', lookN (lb ++ lc) n = .live b' ∧ b'.mut = true ∧ ((∃ q b, o = some q ∧ h q = .live b ∧ b.mut = true ∧ (∀ k len, env q = .blk k len → BlkDen A' e' w k len b') ∧ (env q = .nil → ∃ E t, b' = .row E t [])) ∨ (o = none ∧ ∃ E t, b' = .row E t []))) ∧
    (∀ n, srcN bx cx n = none → lookN (lb ++ lc) n = .un) := by
  obtain ⟨hbl, hbg⟩ := hb.get
  obtain ⟨hcl, hcg⟩ := hc.get
  have kb : ∀ n, n ∈ lb.map (·.1) → ∃ i, i < bx.length ∧ n = PN + i := fun n hn => by
    obtain ⟨⟨n', x⟩, hx, rfl⟩ := List.mem_map.1 hn
    obtain ⟨i, o, h1, h2⟩ := hb.keys _ _ hx
    exact ⟨i, by have := (List.getElem?_eq_some_iff.1 h2).1; simpa using this, h1⟩
  have kc : ∀ n, n ∈ lc.map (·.1) → ∃ i o, cx[i]? = some o ∧ n = QN + i := fun n hn => by
    obtain ⟨⟨n', x⟩, hx, rfl⟩ := List.mem_map.1 hn
    obtain ⟨i, o, h1, h2⟩ := hc.keys _ _ hx
    exact ⟨i, o, h2, h1⟩
  have h2 : QN = PN + PN := rfl
  refine ⟨fun n o e => ?_, fun n e => ?_⟩
  · rcases srcN_inv e with ⟨i, m, hi, rfl, hlt, rfl⟩ | ⟨i, hi, rfl⟩
    · obtain ⟨b', g1, g2, g3⟩ := hbg i (some m) (by simp [hi])
      refine ⟨b', ?_, g3⟩
      rw [lookN_app, if_pos (List.mem_map_of_mem (f := (·.1)) g2)]; exact g1
    · obtain ⟨b', g1, g2, g3⟩ := hcg i o hi
      refine ⟨b', ?_, g3⟩
      rw [lookN_app, if_neg]
      · exact g1
      · intro hmem
        obtain ⟨i', hi', e'⟩ := kb _ hmem
        omega
  · rw [lookN_app, if_neg]
    · refine lookN_none fun hmem => ?_
      obtain ⟨i, o, hi, rfl⟩ := kc n hmem
      rw [srcN_cx hi] at e; cases e
    · intro hmem
      obtain ⟨i, hi, rfl⟩ := kb n hmem
      rw [srcN_bx hl (List.getElem?_eq_getElem hi)] at e; cases e

/-- Where a callee begins. -/
theorem Mod.call (m : Mod w0 N0 A env h w) {lb lc : List (Nat × Nm)} {fz : List (Nat × Nm)} {bx : List Nat} {cx : List (Option Nat)} (hfz : FrzOk h fz) (hl : bx.length ≤ PN)
    (hb : LinkOK (frzA A env fz) env h (callEnv env bx cx) w (bx.map some) lb PN) (hc : LinkOK (frzA A env fz) env h (callEnv env bx cx) w cx lc QN)
    (hdj : ∀ n, n ∈ bx ++ somes cx → n ∉ fz.map (·.1)) (hnd : (bx ++ somes cx).Nodup) :
    Mod w ⟨boxBlk env (bx ++ somes cx), frzA A env fz, N0.g⟩ (frzA A env fz) (callEnv env bx cx) (lookN (lb ++ lc)) w := by
  obtain ⟨hg, hgn⟩ := call_names hl hb hc
  have mf := (m.freeze hfz).1
  have memS : ∀ {n o q}, srcN bx cx n = some o → o = some q → q ∈ bx ++ somes cx := fun {n o q} e eo => by
    subst eo
    rcases srcN_inv e with ⟨i, m, hi, _, _, e⟩ | ⟨i, hi, _⟩
    · cases e; exact List.mem_append_left _ (List.mem_of_getElem? hi)
    · exact List.mem_append_right _ (mem_somes.2 (List.mem_of_getElem? hi))
  have inj : ∀ {n n' q}, srcN bx cx n = some (some q) → srcN bx cx n' = some (some q) → n = n' := fun {n n' q} e e' => by
    obtain ⟨hn1, hn2, hn3⟩ := List.nodup_append.1 hnd
    rcases srcN_inv e with ⟨i, m, hi, rfl, _, em⟩ | ⟨i, hi, rfl⟩ <;> rcases srcN_inv e' with ⟨i', m', hi', rfl, _, em'⟩ | ⟨i', hi', rfl⟩
    · cases em; cases em'
      have := (List.getElem?_inj (List.getElem?_eq_some_iff.1 hi).1 hn1).1 (hi.trans hi'.symm)
      rw [this]
    · cases em
      exact absurd rfl (hn3 _ (List.mem_of_getElem? hi) _ (mem_somes.2 (List.mem_of_getElem? hi')))
    · cases em'
      exact absurd rfl (hn3 _ (List.mem_of_getElem? hi') _ (mem_somes.2 (List.mem_of_getElem? hi)))
    · rw [somes_at hn2 hi hi']
  have blk : ∀ {n k l}, callEnv env bx cx n = .blk k l → ∃ q, srcN bx cx n = some (some q) ∧ env q = .blk k l := fun {n k l} he => by
    unfold callEnv at he
    split at he
    · rename_i o ho
      cases o with
      | none => cases he
      | some q => exact ⟨q, ho, he⟩
    · cases he
  refine ⟨rfl, rfl, rfl, Nat.le_refl _, fun _ _ _ => rfl, mf.Alt, ?_, ?_, ?_, fun b hb => .inl hb, mf.gl⟩
  · intro n
    cases hs : srcN bx cx n with
    | none =>
      rw [hgn n hs]
      show callEnv env bx cx n = .un
      unfold callEnv; rw [hs]
    | some o =>
      obtain ⟨b', g1, g4, g5⟩ := hg n o hs
      rw [g1]
      have he : callEnv env bx cx n = evOf env o := by unfold callEnv; rw [hs]
      rcases g5 with ⟨q, b, rfl, g2, g3, g5, g6⟩ | ⟨rfl, E, t, e2⟩
      · have hm := m.nm q
        rw [g2] at hm
        rcases hm with ⟨kk, len, e1, _⟩ | ⟨e1, _⟩
        · refine .inl ⟨kk, len, by rw [he]; exact e1, g5 _ _ e1, fun _ hA => ?_⟩
          rcases hA with hA | ⟨n', x', l', hx, he'⟩
          · exact (m.live_blk g2 e1).2 g3 hA
          · obtain ⟨E, t, xs, hl', _⟩ := hfz n' x' hx
            have := m.inj q n' b _ kk len l' g2 hl' g3 rfl e1 he'
            subst this
            exact hdj q (memS hs rfl) (List.mem_map_of_mem (f := (·.1)) hx)
        · obtain ⟨E, t, e⟩ := g6 e1
          exact .inr ⟨by rw [he]; exact e1, E, t, .inl e⟩
      · exact .inr ⟨by rw [he]; rfl, E, t, .inl e2⟩
  · intro n b k l hl hm he
    obtain ⟨q, hs, e2⟩ := blk he
    exact .inl ⟨q, l, memS hs rfl, e2⟩
  · intro n n' b c k l l' hl hl' hm hm' he he'
    obtain ⟨q, hs, e1⟩ := blk he
    obtain ⟨q', hs', e2⟩ := blk he'
    obtain ⟨b1, _, _, ⟨q1, c1, e, g2, g3, _⟩ | ⟨e, _⟩⟩ := hg n _ hs
    · obtain ⟨b2, _, _, ⟨q2, c2, e', f2, f3, _⟩ | ⟨e', _⟩⟩ := hg n' _ hs'
      · cases e; cases e'
        have := m.inj q q' c1 c2 k l l' g2 f2 g3 f3 e1 e2
        subst this
        exact inj hs hs'
      · cases e'
    · cases e

/-- Back to the caller. -/
def retEnv (R : Rn) (env env1 : Env) : Env := fun n => match lookR R n with
  | none => env n
  | some _ => renEnv R env1 n

theorem Mod.retn {As A' A1 : Nat → Prop} {env1 : Env} {hs h1 : Heap} {w1 : World} {Nc : Old} {U : List (Nat × Nm)} {R : Rn}
    (ms : Mod w0 N0 As env hs w) (m1 : Mod w Nc A1 env1 h1 w1) (hshape : ∀ b s, w.shape? b = some s → w1.shape? b = some s)
    (hU : ∀ n x, (n, x) ∈ U → x = .dead ∨ ∃ b, x = .live b ∧ b.mut = true ∧ ((∃ m b0, lookR R n = some (some m) ∧ h1 m = .live b0 ∧ b0.mut = true ∧
      (∀ k len, env1 m = .blk k len → BlkDen A' (retEnv R env env1) w1 k len b) ∧ (env1 m = .nil → ∃ E t, b = .row E t [])) ∨ (lookR R n = some none ∧ ∃ E t, b = .row E t [])))
    (hdom : ∀ n, lookR R n ≠ none → n ∈ U.map (·.1)) (hinj : InjR R)
    (hold : ∀ n, lookR R n ≠ none → hs n = .un ∨ ∃ b, hs n = .live b ∧ b.mut = true ∧ (renEnv R env1 n = env n))
    (hNc : ∀ k, Nc.n k → ∃ n b l, n ∈ U.map (·.1) ∧ hs n = .live b ∧ b.mut = true ∧ env n = .blk k l)
    (hA : ∀ b, As b → A' b) (hA1 : ∀ b, A' b → As b ∨ ((Nc.n b ∨ w.heap.size ≤ b) ∧ b < w1.heap.size))
    (hAm : ∀ m b k l, h1 m = .live b → b.mut = true → env1 m = .blk k l → (∃ n, lookR R n = some (some m)) → ¬ A' k) :
    Mod w0 N0 A' (retEnv R env env1) (setAll U hs) w1 ∧ Ext As env w A' (retEnv R env env1) w1 := by
  have src : ∀ k, (Nc.n k ∨ w.heap.size ≤ k) → Src (fun n => n ∈ U.map (·.1)) env hs w k := fun k hk => by
    rcases hk with hk | hk
    · obtain ⟨n, b, l, e1, e2, e3, e4⟩ := hNc k hk
      exact .inr ⟨n, b, l, e1, e2, e3, e4⟩
    · exact .inl hk
  have mem : ∀ n, n ∈ U.map (·.1) → (n, setAll U hs n) ∈ U := fun n hn => by
    have hl : ∀ (V : List (Nat × Nm)) , n ∈ V.map (·.1) → (n, setAll V hs n) ∈ V := by
      intro V
      induction V with
      | nil => intro h; simp at h
      | cons p V ih =>
        obtain ⟨q, y⟩ := p
        intro h
        by_cases hq : n = q
        · subst hq; simp [setAll]
        · rw [setAll, Heap.set_other _ _ hq]
          rcases List.mem_cons.1 h with e | h
          · exact absurd e hq
          · exact List.mem_cons_of_mem _ (ih h)
    exact hl U hn
  have envR : ∀ n y, lookR R n = some y → retEnv R env env1 n = renEnv R env1 n := fun n y hn => by
    unfold retEnv; rw [hn]
  have u : Upd (fun n => n ∈ U.map (·.1)) Nc.n As env hs w A' (retEnv R env env1) (setAll U hs) w1 := by
    refine ⟨⟨m1.os, m1.tape, m1.output, m1.size, m1.fr, hshape⟩, ?_, hA, ?_, ?_, ?_, fun n hn => setAll_other hn, ?_, ?_, ?_⟩
    · intro k hk
      obtain ⟨n, b, l, e1, e2, e3, e4⟩ := hNc k hk
      exact ⟨n, b, l, e1, e2, e3, e4⟩
    · intro b hb
      rcases hA1 b hb with h | ⟨h, h'⟩
      · exact .inl h
      · exact .inr ⟨src b h, h'⟩
    · intro n hn
      unfold retEnv
      cases hl : lookR R n with
      | none => rfl
      | some y => exact absurd (hdom n (by rw [hl]; simp)) hn
    · intro n hn
      unfold retEnv
      cases hl : lookR R n with
      | none => rfl
      | some y =>
        rcases hold n (by rw [hl]; simp) with h | ⟨b, _, _, h⟩
        · exact absurd (by have := ms.nm n; rw [h] at this; exact this) hn
        · exact h
    · intro n hn
      have hmem := mem n hn
      rcases hU n _ hmem with e | ⟨b, e, hmut, hh⟩
      · rw [e]; trivial
      · rw [e]
        rcases hh with ⟨m', b0, e1, e2, e3, e4, e5⟩ | ⟨e1, E, t, e2⟩
        · have he : retEnv R env env1 n = env1 m' := by rw [envR n _ e1, renEnv_some e1]
          have hm' := m1.nm m'
          rw [e2] at hm'
          rcases hm' with ⟨k, len, he', _, _⟩ | ⟨he', _⟩
          · exact .inl ⟨k, len, he.trans he', e4 k len he', fun _ => hAm m' b0 k len e2 e3 he' ⟨n, e1⟩⟩
          · obtain ⟨E, t, e⟩ := e5 he'
            exact .inr ⟨he.trans he', E, t, .inl e⟩
        · exact .inr ⟨by rw [envR n _ e1, renEnv_nil e1], E, t, .inl e2⟩
    · intro n b k l hn hl hm he
      have hmem := mem n hn
      rw [hl] at hmem
      rcases hU n _ hmem with e | ⟨b', e, hmut, hh⟩
      · cases e
      · rcases hh with ⟨m', b0, e1, e2, e3, _⟩ | ⟨e1, _⟩
        · rw [envR n _ e1, renEnv_some e1] at he
          exact src k (m1.own m' b0 k l e2 e3 he)
        · rw [envR n _ e1, renEnv_nil e1] at he; cases he
    · intro n n' b c k l l' hn hn' hl hl' hm hm' he he'
      have hmem1 := mem n hn
      have hmem2 := mem n' hn'
      rw [hl] at hmem1
      rw [hl'] at hmem2
      rcases hU n _ hmem1 with e | ⟨_, _, _, hh1⟩
      · cases e
      rcases hU n' _ hmem2 with e | ⟨_, _, _, hh2⟩
      · cases e
      rcases hh1 with ⟨m', b0, e1, e2, e3, _⟩ | ⟨e1, _⟩
      · rw [envR n _ e1, renEnv_some e1] at he
        rcases hh2 with ⟨m2, c0, f1, f2, f3, _⟩ | ⟨f1, _⟩
        · rw [envR n' _ f1, renEnv_some f1] at he'
          have := m1.inj m' m2 b0 c0 k l l' e2 f2 e3 f3 he he'
          subst this
          exact hinj n n' m' e1 f1
        · rw [envR n' _ f1, renEnv_nil f1] at he'; cases he'
      · rw [envR n _ e1, renEnv_nil e1] at he; cases he
  exact ⟨ms.upd u, ms.ext u⟩
end
end Go.SX
