/- SX, part 20: into a function and out of it. -/
import Derived.Test.YtnpjmdldhdhdkaaSx19
namespace Go.SX
set_option linter.unusedVariables false

section
variable {w0 : World} {N0 : Old} {A Ac : Nat → Prop} {env : Env} {h : Heap} {w : World}

def nodupN : List Nat → Bool
  | [] => true
  | n :: r => !memN n r && nodupN r
theorem nodupN_iff : ∀ {l : List Nat}, nodupN l = true → l.Nodup
  | [], _ => List.nodup_nil
  | n :: r, h => by
    simp only [nodupN, Bool.and_eq_true, Bool.not_eq_true'] at h
    refine List.nodup_cons.2 ⟨fun hm => ?_, nodupN_iff h.2⟩
    rw [memN_iff.2 hm] at h; cases h.1

/-- The callee's names. -/
def callEnv (env : Env) (bx : List Nat) : Env := fun n => match Nat.ble PN n with
  | true => match bx[n - PN]? with
    | some m => env m
    | none => .un
  | false => .un
theorem callEnv_at {bx : List Nat} {i n : Nat} (hi : bx[i]? = some n) : callEnv env bx (PN + i) = env n := by
  unfold callEnv
  have : Nat.ble PN (PN + i) = true := Nat.ble_eq_true_of_le (by omega)
  rw [this]
  simp only [Nat.add_sub_cancel_left, hi]

theorem BoxOK.get {Ac : Nat → Prop} : ∀ {bx : List Nat} {l : List (Nat × Nm)} {j : Nat}, BoxOK Ac env h w bx l j → bx.length = l.length ∧ ∀ i n, bx[i]? = some n →
    ∃ b b', lookN l (PN + (j + i)) = .live b' ∧ h n = .live b ∧ b.mut = true ∧ b'.mut = true ∧ ((∃ k len, env n = .blk k len ∧ ∀ e, BlkDen Ac e w k len b') ∨ (env n = .nil ∧ ∃ E t, b' = .row E t []))
  | [], [], j, _ => ⟨rfl, fun i n hi => by simp at hi⟩
  | n :: bx, (m, x) :: l, j, ⟨⟨hm, b, b', h1, h2, h3, h4, h5⟩, hr⟩ => by
    obtain ⟨hl, hg⟩ := BoxOK.get hr
    refine ⟨by simp [hl], fun i n' hi => ?_⟩
    cases i with
    | zero =>
      simp at hi
      subst hi
      exact ⟨b, b', by simp only [lookN, hm, Nat.add_zero, Nat.beq_refl, h3], h1, h2, h4, h5⟩
    | succ i =>
      obtain ⟨c, c', g1, g2⟩ := hg i n' (by simpa using hi)
      refine ⟨c, c', ?_, g2⟩
      simp only [lookN]
      have : Nat.beq (PN + (j + (i + 1))) m = false := by
        cases hb : Nat.beq (PN + (j + (i + 1))) m with
        | false => rfl
        | true => have := Nat.eq_of_beq_eq_true hb; omega
      rw [this, show PN + (j + (i + 1)) = PN + (j + 1 + i) from by omega]
      exact g1
  | [], _ :: _, _, h => h.elim
  | _ :: _, [], _, h => h.elim

theorem boxesOf_names : ∀ {ps : List PK} {d : PDs ps} {j n : Nat} , lookN (boxesOf ps d j) n ≠ .un → PN + j ≤ n ∧ n < PN + j + (boxesOf ps d j).length
  | [], d, j, n, h => by simp [boxesOf, lookN] at h
  | .val t :: ps, d, j, n, h => boxesOf_names (ps := ps) h
  | .agg t :: ps, d, j, n, h => boxesOf_names (ps := ps) h
  | .fn _ _ :: ps, d, j, n, h => boxesOf_names (ps := ps) h
  | .nils :: ps, d, j, n, h => boxesOf_names (ps := ps) h
  | .box E t :: ps, d, j, n, h => by
    simp only [boxesOf, lookN, List.length_cons] at h ⊢
    split at h
    · rename_i hb; have := Nat.eq_of_beq_eq_true hb; omega
    · have := boxesOf_names (ps := ps) h; omega
  | .row E t :: ps, d, j, n, h => by
    simp only [boxesOf, lookN, List.length_cons] at h ⊢
    split at h
    · rename_i hb; have := Nat.eq_of_beq_eq_true hb; omega
    · have := boxesOf_names (ps := ps) h; omega

def boxBlk (env : Env) (bx : List Nat) (k : Nat) : Prop := ∃ n l, n ∈ bx ∧ env n = .blk k l

/-- Where a callee begins. -/
theorem Mod.call (m : Mod w0 N0 A env h w) {ps : List PK} {d : PDs ps} {fz : List (Nat × Nm)} {bx : List Nat} (hfz : FrzOk h fz) (hb : BoxOK (frzA A env fz) env h w bx (boxesOf ps d 0) 0)
    (hdj : ∀ n b, (n, b) ∈ fz → n ∉ bx) (hnd : bx.Nodup) :
    Mod w ⟨boxBlk env bx, frzA A env fz⟩ (frzA A env fz) (callEnv env bx) (lookN (boxesOf ps d 0)) w := by
  obtain ⟨hlen, hg⟩ := hb.get
  have mf := (m.freeze hfz).1
  have key : ∀ n, lookN (boxesOf ps d 0) n ≠ .un → ∃ i k, bx[i]? = some k ∧ n = PN + i := fun n hn => by
    have := boxesOf_names hn
    have hi : n - PN < bx.length := by omega
    exact ⟨n - PN, bx[n - PN], List.getElem?_eq_getElem hi, by omega⟩
  have un : ∀ n, callEnv env bx n ≠ .un → ∃ i k, bx[i]? = some k ∧ n = PN + i ∧ callEnv env bx n = env k := fun n hn => by
    unfold callEnv at hn ⊢
    split at hn
    · rename_i hle
      have hle := Nat.le_of_ble_eq_true hle
      split at hn
      · rename_i k hk
        exact ⟨n - PN, k, hk, by omega, rfl⟩
      · exact absurd rfl hn
    · exact absurd rfl hn
  refine ⟨rfl, rfl, rfl, Nat.le_refl _, fun _ _ _ => rfl, mf.Alt, ?_, ?_, ?_, fun b hb => .inl hb⟩
  · intro n
    by_cases hn : lookN (boxesOf ps d 0) n = .un
    · rw [hn]
      show callEnv env bx n = .un
      refine Classical.byContradiction fun hu => ?_
      obtain ⟨i, k, hi, rfl, _⟩ := un n hu
      obtain ⟨b, b', g1, _⟩ := hg i k hi
      rw [Nat.zero_add] at g1
      rw [g1] at hn; cases hn
    · obtain ⟨i, k, hi, rfl⟩ := key n hn
      obtain ⟨b, b', g1, g2, g3, g4, g5⟩ := hg i k hi
      rw [Nat.zero_add] at g1
      rw [g1]
      rcases g5 with ⟨kk, len, e1, e2⟩ | ⟨e1, E, t, e2⟩
      · refine .inl ⟨kk, len, by rw [callEnv_at hi]; exact e1, e2 _, fun _ hA => ?_⟩
        rcases hA with hA | ⟨n', x', l', hx, he'⟩
        · exact (m.live_blk g2 e1).2 g3 hA
        · obtain ⟨E, t, xs, hl, _⟩ := hfz n' x' hx
          have := m.inj k n' b _ kk len l' g2 hl g3 rfl e1 he'
          subst this
          exact hdj k x' hx (List.mem_of_getElem? hi)
      · exact .inr ⟨by rw [callEnv_at hi]; exact e1, E, t, .inl e2⟩
  · intro n b k l hl hm he
    obtain ⟨i, k', hi, _, e2⟩ := un n (by rw [he]; simp)
    exact .inl ⟨k', l, List.mem_of_getElem? hi, by rw [← e2]; exact he⟩
  · intro n n' b c k l l' hl hl' hm hm' he he'
    obtain ⟨i, k1, hi, rfl, e1⟩ := un n (by rw [he]; simp)
    obtain ⟨i', k2, hi', rfl, e2⟩ := un n' (by rw [he']; simp)
    obtain ⟨b1, _, _, g2, g3, _⟩ := hg i k1 hi
    obtain ⟨b2, _, _, f2, f3, _⟩ := hg i' k2 hi'
    have := m.inj k1 k2 b1 b2 k l l' g2 f2 g3 f3 (by rw [← e1]; exact he) (by rw [← e2]; exact he')
    subst this
    have := (List.getElem?_inj (List.getElem?_eq_some_iff.1 hi).1 hnd).1 (hi.trans hi'.symm)
    rw [this]

/-- Back to the caller. -/
def retEnv (R : Rn) (env env1 : Env) : Env := fun n => match lookR R n with
  | none => env n
  | some _ => renEnv R env1 n

theorem Mod.retn {As A' A1 : Nat → Prop} {env1 : Env} {hs h1 : Heap} {w1 : World} {Nc : Old} {U : List (Nat × Nm)} {R : Rn}
    (ms : Mod w0 N0 As env hs w) (m1 : Mod w Nc A1 env1 h1 w1) (hshape : ∀ b s, w.shape? b = some s → w1.shape? b = some s)
    (hU : ∀ n x, (n, x) ∈ U → ∃ b, x = .live b ∧ b.mut = true ∧ ((∃ m b0, lookR R n = some (some m) ∧ h1 m = .live b0 ∧ b0.mut = true ∧
      (∀ k len, env1 m = .blk k len → BlkDen A' (retEnv R env env1) w1 k len b) ∧ (env1 m = .nil → ∃ E t, b = .row E t [])) ∨ (lookR R n = some none ∧ ∃ E t, b = .row E t [])))
    (hdom : ∀ n, lookR R n ≠ none → n ∈ U.map (·.1)) (hinj : InjR R)
    (hold : ∀ n, lookR R n ≠ none → hs n = .un ∨ ∃ b, hs n = .live b ∧ b.mut = true ∧ (renEnv R env1 n = env n))
    (hNc : ∀ k, Nc.n k → ∃ n b l, lookR R n ≠ none ∧ hs n = .live b ∧ b.mut = true ∧ env n = .blk k l)
    (hA : ∀ b, As b → A' b) (hA1 : ∀ b, A' b → As b ∨ ((Nc.n b ∨ w.heap.size ≤ b) ∧ b < w1.heap.size))
    (hAm : ∀ m b k l, h1 m = .live b → b.mut = true → env1 m = .blk k l → (∃ n, lookR R n = some (some m)) → ¬ A' k) :
    Mod w0 N0 A' (retEnv R env env1) (setAll U hs) w1 ∧ Ext As env w A' (retEnv R env env1) w1 := by
  have src : ∀ k, (Nc.n k ∨ w.heap.size ≤ k) → Src (fun n => n ∈ U.map (·.1)) env hs w k := fun k hk => by
    rcases hk with hk | hk
    · obtain ⟨n, b, l, e1, e2, e3, e4⟩ := hNc k hk
      exact .inr ⟨n, b, l, hdom n e1, e2, e3, e4⟩
    · exact .inl hk
  have mem : ∀ n, n ∈ U.map (·.1) → ∃ b, setAll U hs n = .live b ∧ (n, Nm.live b) ∈ U := fun n hn => by
    have hl : ∀ (V : List (Nat × Nm)) , n ∈ V.map (·.1) → (n, setAll V hs n) ∈ V := by
      intro V
      induction V with
      | nil => intro h; simp at h
      | cons p V ih =>
        obtain ⟨q, y⟩ := p
        intro h
        by_cases hq : n = q
        · subst hq; simp [setAll]
        · rw [setAll, Heap.set_other _ _ hq]
          rcases List.mem_cons.1 h with e | h
          · exact absurd e hq
          · exact List.mem_cons_of_mem _ (ih h)
    have := hl U hn
    obtain ⟨b, e, _⟩ := hU n _ this
    exact ⟨b, e, by rw [← e]; exact this⟩
  have inR : ∀ n, n ∈ U.map (·.1) → lookR R n ≠ none := fun n hn => by
    obtain ⟨b, _, hb⟩ := mem n hn
    obtain ⟨_, _, _, ⟨m, _, e, _⟩ | ⟨e, _⟩⟩ := hU n _ hb <;> rw [e] <;> simp
  have envR : ∀ n, n ∈ U.map (·.1) → retEnv R env env1 n = renEnv R env1 n := fun n hn => by
    unfold retEnv
    have := inR n hn
    split
    · rename_i h; exact absurd h this
    · rfl
  have u : Upd (fun n => n ∈ U.map (·.1)) Nc.n As env hs w A' (retEnv R env env1) (setAll U hs) w1 := by
    refine ⟨⟨m1.os, m1.tape, m1.output, m1.size, m1.fr, hshape⟩, ?_, hA, ?_, ?_, ?_, fun n hn => setAll_other hn, ?_, ?_, ?_⟩
    · intro k hk
      obtain ⟨n, b, l, e1, e2, e3, e4⟩ := hNc k hk
      exact ⟨n, b, l, hdom n e1, e2, e3, e4⟩
    · intro b hb
      rcases hA1 b hb with h | ⟨h, h'⟩
      · exact .inl h
      · exact .inr ⟨src b h, h'⟩
    · intro n hn
      unfold retEnv
      cases hl : lookR R n with
      | none => rfl
      | some y => exact absurd (hdom n (by rw [hl]; simp)) hn
    · intro n hn
      unfold retEnv
      cases hl : lookR R n with
      | none => rfl
      | some y =>
        rcases hold n (by rw [hl]; simp) with h | ⟨b, _, _, h⟩
        · exact absurd (by have := ms.nm n; rw [h] at this; exact this) hn
        · exact h
    · intro n hn
      obtain ⟨b, hb, hmem⟩ := mem n hn
      rw [hb]
      obtain ⟨b', e, hmut, hh⟩ := hU n _ hmem
      cases e
      rcases hh with ⟨m', b0, e1, e2, e3, e4, e5⟩ | ⟨e1, E, t, e2⟩
      · have he : retEnv R env env1 n = env1 m' := by rw [envR n hn, renEnv_some e1]
        have hm' := m1.nm m'
        rw [e2] at hm'
        rcases hm' with ⟨k, len, he', _, _⟩ | ⟨he', _⟩
        · exact .inl ⟨k, len, he.trans he', e4 k len he', fun _ => hAm m' b0 k len e2 e3 he' ⟨n, e1⟩⟩
        · obtain ⟨E, t, e⟩ := e5 he'
          exact .inr ⟨he.trans he', E, t, .inl e⟩
      · exact .inr ⟨by rw [envR n hn, renEnv_nil e1], E, t, .inl e2⟩
    · intro n b k l hn hl hm he
      obtain ⟨b1, hb, hmem⟩ := mem n hn
      obtain ⟨b', e, hmut, hh⟩ := hU n _ hmem
      rw [envR n hn] at he
      rcases hh with ⟨m', b0, e1, e2, e3, _⟩ | ⟨e1, _⟩
      · rw [renEnv_some e1] at he
        exact src k (m1.own m' b0 k l e2 e3 he)
      · rw [renEnv_nil e1] at he; cases he
    · intro n n' b c k l l' hn hn' hl hl' hm hm' he he'
      obtain ⟨b1, hb1, hmem1⟩ := mem n hn
      obtain ⟨b2, hb2, hmem2⟩ := mem n' hn'
      obtain ⟨_, _, _, hh1⟩ := hU n _ hmem1
      obtain ⟨_, _, _, hh2⟩ := hU n' _ hmem2
      rw [envR n hn] at he
      rw [envR n' hn'] at he'
      rcases hh1 with ⟨m', b0, e1, e2, e3, _⟩ | ⟨e1, _⟩
      · rw [renEnv_some e1] at he
        rcases hh2 with ⟨m2, c0, f1, f2, f3, _⟩ | ⟨f1, _⟩
        · rw [renEnv_some f1] at he'
          have := m1.inj m' m2 b0 c0 k l l' e2 f2 e3 f3 he he'
          subst this
          exact hinj n n' m' e1 f1
        · rw [renEnv_nil f1] at he'; cases he'
      · rw [renEnv_nil e1] at he; cases he
  exact ⟨ms.upd u, ms.ext u⟩
end
end Go.SX
