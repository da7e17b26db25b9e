/- SX, part 17: one symbolic state seen as another: names renamed, values forgotten. -/
import Derived.Test.YtdegakknelbjiaaGreatDoorSx16
namespace Go.SX
set_option linter.unusedVariables false

/-- From this number on: the names of a function's parameters. -/
def PN : Nat := 1048576
/-- From this number on: the names of rows that a function takes over. -/
def QN : Nat := 2097152
theorem PN_lt : PN < QN := by decide

/-- What a name of the new state stands for: a name of the old one, or nothing (a slice without elements). -/
abbrev Rn := List (Nat × Option Nat)

def lookR : Rn → Nat → Option (Option Nat)
  | [], _ => none
  | (m, x) :: r, n => match Nat.beq n m with
    | true => some x
    | false => lookR r n

def optBeq : Option Nat → Option Nat → Bool
  | none, none => true
  | some a, some b => Nat.beq a b
  | _, _ => false
theorem optBeq_eq {a b : Option Nat} (h : optBeq a b = true) : a = b := by
  cases a <;> cases b <;> simp only [optBeq, Bool.false_eq_true] at h
  · rfl
  · rw [Nat.eq_of_beq_eq_true h]

def hasSrc (m : Nat) : Rn → Bool
  | [] => false
  | (_, some k) :: r => Nat.beq m k || hasSrc m r
  | (_, none) :: r => hasSrc m r

def addR (c : Nat) (x : Option Nat) (R : Rn) : Option Rn := match lookR R c with
  | some y => match optBeq y x with
    | true => some R
    | false => none
  | none => match x with
    | none => some ((c, none) :: R)
    | some m => match hasSrc m R with
      | true => none
      | false => some ((c, some m) :: R)

def InjR (R : Rn) : Prop := ∀ c c' m, lookR R c = some (some m) → lookR R c' = some (some m) → c = c'
def LeR (R R' : Rn) : Prop := ∀ n y, lookR R n = some y → lookR R' n = some y
theorem LeR.refl {R : Rn} : LeR R R := fun _ _ h => h
theorem LeR.trans {a b c : Rn} (h : LeR a b) (k : LeR b c) : LeR a c := fun n y e => k n y (h n y e)

theorem hasSrc_spec {m : Nat} : ∀ {R : Rn}, hasSrc m R = false → ∀ c, lookR R c ≠ some (some m)
  | [], _, c => by simp [lookR]
  | (n, some k) :: r, h, c => by
    simp only [hasSrc, Bool.or_eq_false_iff] at h
    simp only [lookR]
    split
    · intro e; cases e; rw [Nat.beq_refl] at h; cases h.1
    · exact hasSrc_spec h.2 c
  | (n, none) :: r, h, c => by
    simp only [hasSrc] at h
    simp only [lookR]
    split
    · intro e; cases e
    · exact hasSrc_spec h c

theorem lookR_cons {c n : Nat} {x : Option Nat} {R : Rn} : lookR ((c, x) :: R) n = if n = c then some x else lookR R n := by
  simp only [lookR]
  by_cases h : n = c
  · subst h; simp
  · have : Nat.beq n c = false := by
      cases hb : Nat.beq n c with
      | false => rfl
      | true => exact absurd (Nat.eq_of_beq_eq_true hb) h
    rw [this, if_neg h]

theorem addR_spec {c : Nat} {x : Option Nat} {R R' : Rn} (h : addR c x R = some R') : lookR R' c = some x ∧ LeR R R' ∧ (InjR R → InjR R') := by
  unfold addR at h
  split at h
  · rename_i y hy
    split at h
    · rename_i hb
      cases h
      rw [optBeq_eq hb] at hy
      exact ⟨hy, LeR.refl, id⟩
    · cases h
  · rename_i hn
    have le : ∀ y, LeR R ((c, y) :: R) := fun y n z hz => by
      rw [lookR_cons, if_neg (fun e => by rw [e, hn] at hz; cases hz)]; exact hz
    split at h
    · cases h
      refine ⟨by rw [lookR_cons, if_pos rfl], le _, fun hi a b m ha hb => ?_⟩
      rw [lookR_cons] at ha hb
      split at ha
      · cases ha
      · split at hb
        · cases hb
        · exact hi a b m ha hb
    · rename_i m
      split at h
      · cases h
      · rename_i hs
        cases h
        refine ⟨by rw [lookR_cons, if_pos rfl], le _, fun hi a b k ha hb => ?_⟩
        rw [lookR_cons] at ha hb
        split at ha
        · rename_i ea
          cases ha
          split at hb
          · rename_i eb; rw [ea, eb]
          · exact absurd hb (hasSrc_spec hs b)
        · split at hb
          · cases hb; exact absurd ha (hasSrc_spec hs a)
          · exact hi a b k ha hb

/-- The new names, as 'R' says. -/
def renEnv (R : Rn) (env : Env) : Env := fun n => match lookR R n with
  | some (some m) => env m
  | some none => .nil
  | none => .un

theorem renEnv_some {R : Rn} {env : Env} {c m : Nat} (h : lookR R c = some (some m)) : renEnv R env c = env m := by unfold renEnv; rw [h]
theorem renEnv_nil {R : Rn} {env : Env} {c : Nat} (h : lookR R c = some none) : renEnv R env c = .nil := by unfold renEnv; rw [h]

def eqs1 (p : Prop) (R : Rn) : Option (Rn × List Prop) := some (R, [p])
def addE (c : Nat) (x : Option Nat) (ps : List Prop) (R : Rn) : Option (Rn × List Prop) := match addR c x R with
  | some R' => some (R', ps)
  | none => none

/-- The value 'u' of the old state seen as the value 'v' of the new one. -/
def ren0 (v u : SV) (R : Rn) : Option (Rn × List Prop) := match v, u with
  | .junk, _ => some (R, [])
  | .int k n, .int k' m => match kEq k k' with
    | true => eqs1 (m = n) R
    | false => none
  | .bool b, .bool c => eqs1 (c = b) R
  | .str b, .str c => eqs1 (c = b) R
  | .dsl t xs, .dsl t' ys => match castL t' t ys with
    | some zs => eqs1 (zs = xs) R
    | none => none
  | .dsl t xs, .dsx t' ys => match castL t' t ys with
    | some zs => eqs1 (zs = xs) R
    | none => none
  | .dsl t xs, .nilsl => eqs1 (xs = []) R
  | .dsx t xs, .dsx t' ys => match castL t' t ys with
    | some zs => eqs1 (zs = xs) R
    | none => none
  | .nilsl, .nilsl => some (R, [])
  | .own c sz, .own d sz' => match Nat.beq sz sz' with
    | true => addE c (some d) [] R
    | false => none
  | .own c sz, .nilsl => addE c none [] R
  | .ptr c o, .ptr d o' => match Nat.beq o o' with
    | true => addE c (some d) [] R
    | false => none
  | .nilp, .nilp => some (R, [])
  | .cv x, .cv y => eqs1 (y = x) R
  | _, _ => none

def renL : List SV → List SV → Rn → Option (Rn × List Prop)
  | [], [], R => some (R, [])
  | v :: vs, u :: us, R => match ren0 v u R with
    | some (R1, p) => match renL vs us R1 with
      | some (R2, q) => some (R2, p ++ q)
      | none => none
    | none => none
  | _, _, _ => none

def ren1 (v u : SV) (R : Rn) : Option (Rn × List Prop) := match v, u with
  | .agg cs, .agg ds => renL cs ds R
  | .fn f cs, .fn g ds => match Nat.beq f g with
    | true => renL cs ds R
    | false => none
  | v, u => ren0 v u R

def renB (b b0 : Blk) (R : Rn) : Option (Rn × List Prop) := match b, b0 with
  | .cells E cs, .cells E' ds => match Nat.beq E E' with
    | true => renL cs ds R
    | false => none
  | .row E t xs, .row E' t' ys => match Nat.beq E E', castL t' t ys with
    | true, some zs => eqs1 (zs = xs) R
    | _, _ => none
  | .frz E t xs, .frz E' t' ys => match Nat.beq E E', castL t' t ys with
    | true, some zs => eqs1 (zs = xs) R
    | _, _ => none
  | _, _ => none

section
variable {A : Nat → Prop} {env : Env} {w : World}

theorem addE_spec {c : Nat} {x : Option Nat} {ps ps' : List Prop} {R R' : Rn} (h : addE c x ps R = some (R', ps')) : lookR R' c = some x ∧ LeR R R' ∧ (InjR R → InjR R') ∧ ps' = ps := by
  unfold addE at h
  split at h
  · rename_i R1 h1
    cases h
    obtain ⟨a, b, c⟩ := addR_spec h1
    exact ⟨a, b, c, rfl⟩
  · cases h

theorem eqs1_spec {p : Prop} {ps' : List Prop} {R R' : Rn} (h : eqs1 p R = some (R', ps')) : R' = R ∧ (conj ps' → p) := by
  cases h; exact ⟨rfl, fun h => h.1⟩

/-- What a renaming of values must keep. -/
def RenOK (R R' : Rn) (ps : List Prop) (env : Env) (hden : Rn → Prop) : Prop :=
  LeR R R' ∧ (InjR R → InjR R') ∧ (conj ps → ∀ Rf, LeR R' Rf → hden Rf)

theorem ren0_sound {v u : SV} {R R' : Rn} {ps : List Prop} (h : ren0 v u R = some (R', ps)) :
    LeR R R' ∧ (InjR R → InjR R') ∧ (conj ps → ∀ Rf, LeR R' Rf → ∀ x, Den A env w u x → Den A (renEnv Rf env) w v x) := by
  have easy : ∀ {p : Prop}, eqs1 p R = some (R', ps) → (p → ∀ Rf : Rn, LeR R' Rf → ∀ x, Den A env w u x → Den A (renEnv Rf env) w v x) →
      LeR R R' ∧ (InjR R → InjR R') ∧ (conj ps → ∀ Rf, LeR R' Rf → ∀ x, Den A env w u x → Den A (renEnv Rf env) w v x) := fun e f => by
    obtain ⟨rfl, hp⟩ := eqs1_spec e
    exact ⟨LeR.refl, id, fun h => f (hp h)⟩
  have triv : some (R, ([] : List Prop)) = some (R', ps) → (∀ Rf : Rn, ∀ x, Den A env w u x → Den A (renEnv Rf env) w v x) →
      LeR R R' ∧ (InjR R → InjR R') ∧ (conj ps → ∀ Rf, LeR R' Rf → ∀ x, Den A env w u x → Den A (renEnv Rf env) w v x) := fun e f => by
    cases e
    exact ⟨LeR.refl, id, fun _ Rf _ => f Rf⟩
  unfold ren0 at h
  split at h
  · exact triv h fun Rf x _ => by simp only [Den]
  · split at h
    · rename_i hk
      cases kEq_eq hk
      exact easy h fun e Rf _ x hx => by subst e; simpa only [Den] using hx
    · cases h
  · exact easy h fun e Rf _ x hx => by subst e; simpa only [Den] using hx
  · exact easy h fun e Rf _ x hx => by subst e; simpa only [Den] using hx
  · split at h
    · rename_i zs hc
      obtain ⟨et, ez⟩ := castL_eq hc
      subst et
      exact easy h fun e Rf _ x hx => by simp only at ez; subst ez; subst e; simpa only [Den] using hx
    · cases h
  · split at h
    · rename_i zs hc
      obtain ⟨et, ez⟩ := castL_eq hc
      subst et
      exact easy h fun e Rf _ x hx => by simp only at ez; subst ez; subst e; simp only [Den] at hx ⊢; exact hx.1
    · cases h
  · exact easy h fun e Rf _ x hx => by subst e; simp only [Den] at hx ⊢; subst hx; exact ⟨by simp, .inl ⟨⟨_, rfl⟩, rfl⟩⟩
  · split at h
    · rename_i zs hc
      obtain ⟨et, ez⟩ := castL_eq hc
      subst et
      exact easy h fun e Rf _ x hx => by simp only at ez; subst ez; subst e; simpa only [Den] using hx
    · cases h
  · exact triv h fun Rf x hx => by simpa only [Den] using hx
  · split at h
    · rename_i hs
      have hs := Nat.eq_of_beq_eq_true hs
      subst hs
      obtain ⟨h1, h2, h3, rfl⟩ := addE_spec h
      refine ⟨h2, h3, fun _ Rf hf x hx => ?_⟩
      simp only [Den] at hx ⊢
      rw [renEnv_some (hf _ _ h1)]; exact hx
    · cases h
  · obtain ⟨h1, h2, h3, rfl⟩ := addE_spec h
    refine ⟨h2, h3, fun _ Rf hf x hx => ?_⟩
    simp only [Den] at hx ⊢
    exact .inl ⟨renEnv_nil (hf _ _ h1), _, hx⟩
  · split at h
    · rename_i hs
      have hs := Nat.eq_of_beq_eq_true hs
      subst hs
      obtain ⟨h1, h2, h3, rfl⟩ := addE_spec h
      refine ⟨h2, h3, fun _ Rf hf x hx => ?_⟩
      simp only [Den] at hx ⊢
      rw [renEnv_some (hf _ _ h1)]; exact hx
    · cases h
  · exact triv h fun Rf x hx => by simpa only [Den] using hx
  · exact easy h fun e Rf _ x hx => by subst e; simpa only [Den] using hx
  · cases h

theorem renL_sound : ∀ {vs us : List SV} {R R' : Rn} {ps : List Prop}, renL vs us R = some (R', ps) →
    LeR R R' ∧ (InjR R → InjR R') ∧ (conj ps → ∀ Rf, LeR R' Rf → ∀ xs, DenL A env w us xs → DenL A (renEnv Rf env) w vs xs)
  | [], [], R, R', ps, h => by
    cases h
    exact ⟨LeR.refl, id, fun _ Rf _ xs hx => by simpa only [DenL] using hx⟩
  | v :: vs, u :: us, R, R', ps, h => by
    simp only [renL] at h
    split at h
    · rename_i R1 p h1
      split at h
      · rename_i R2 q h2
        cases h
        obtain ⟨a1, a2, a3⟩ := ren0_sound (A := A) (env := env) (w := w) h1
        obtain ⟨b1, b2, b3⟩ := renL_sound h2
        refine ⟨a1.trans b1, fun h => b2 (a2 h), fun hc Rf hf xs hx => ?_⟩
        obtain ⟨c1, c2⟩ := conj_append.1 hc
        simp only [DenL] at hx ⊢
        obtain ⟨x, r, rfl, hx, hr⟩ := hx
        exact ⟨x, r, rfl, a3 c1 Rf (b1.trans hf) x hx, b3 c2 Rf hf r hr⟩
      · cases h
    · cases h
  | [], _ :: _, _, _, _, h => by cases h
  | _ :: _, [], _, _, _, h => by cases h

theorem ren1_sound {v u : SV} {R R' : Rn} {ps : List Prop} (h : ren1 v u R = some (R', ps)) :
    LeR R R' ∧ (InjR R → InjR R') ∧ (conj ps → ∀ Rf, LeR R' Rf → ∀ x, Den A env w u x → Den A (renEnv Rf env) w v x) := by
  unfold ren1 at h
  split at h
  · obtain ⟨a1, a2, a3⟩ := renL_sound (A := A) (env := env) (w := w) h
    refine ⟨a1, a2, fun hc Rf hf x hx => ?_⟩
    simp only [Den] at hx ⊢
    obtain ⟨vs, e, hd⟩ := hx
    exact ⟨vs, e, a3 hc Rf hf _ hd⟩
  · split at h
    · rename_i hb
      have hb := Nat.eq_of_beq_eq_true hb
      subst hb
      obtain ⟨a1, a2, a3⟩ := renL_sound (A := A) (env := env) (w := w) h
      refine ⟨a1, a2, fun hc Rf hf x hx => ?_⟩
      simp only [Den] at hx ⊢
      obtain ⟨vs, e, hd⟩ := hx
      exact ⟨vs, e, a3 hc Rf hf _ hd⟩
    · cases h
  · exact ren0_sound h

theorem renB_sound {b b0 : Blk} {R R' : Rn} {ps : List Prop} (h : renB b b0 R = some (R', ps)) :
    LeR R R' ∧ (InjR R → InjR R') ∧ b.mut = b0.mut ∧ (conj ps → ∀ Rf, LeR R' Rf → ∀ k len, BlkDen A env w k len b0 → BlkDen A (renEnv Rf env) w k len b) ∧
      (conj ps → ∀ E t, b0 = .row E t [] ∨ b0 = .frz E t [] → ∃ E t, b = .row E t [] ∨ b = .frz E t []) := by
  unfold renB at h
  split at h
  · split at h
    · rename_i hb
      have hb := Nat.eq_of_beq_eq_true hb
      subst hb
      obtain ⟨a1, a2, a3⟩ := renL_sound (A := A) (env := env) (w := w) h
      refine ⟨a1, a2, rfl, fun hc Rf hf k len ⟨vs, e, hd⟩ => ⟨vs, e, a3 hc Rf hf _ hd⟩, fun _ E t he => ?_⟩
      rcases he with he | he <;> cases he
    · cases h
  · split at h
    · rename_i zs hb hc
      have hb := Nat.eq_of_beq_eq_true hb
      subst hb
      obtain ⟨et, ez⟩ := castL_eq hc
      subst et
      simp only at ez
      subst ez
      obtain ⟨rfl, hp⟩ := eqs1_spec h
      refine ⟨LeR.refl, id, rfl, fun hc Rf hf k len hb => by rw [← hp hc]; exact hb, fun hc E t he => ?_⟩
      have := hp hc
      subst this
      rcases he with he | he <;> cases he
      exact ⟨_, _, .inl rfl⟩
    · cases h
  · split at h
    · rename_i zs hb hc
      have hb := Nat.eq_of_beq_eq_true hb
      subst hb
      obtain ⟨et, ez⟩ := castL_eq hc
      subst et
      simp only at ez
      subst ez
      obtain ⟨rfl, hp⟩ := eqs1_spec h
      refine ⟨LeR.refl, id, rfl, fun hc Rf hf k len hb => by rw [← hp hc]; exact hb, fun hc E t he => ?_⟩
      have := hp hc
      subst this
      rcases he with he | he <;> cases he
      exact ⟨_, _, .inr rfl⟩
    · cases h
  · cases h
end

/-! ### A whole state -/
def forceR (R : Rn) (k : Rn → Prop) : Prop := match R with
  | [] => k []
  | (n, x) :: r => forceR r fun r => match x with
    | none => k ((n, none) :: r)
    | some m => k ((n, some m) :: r)
theorem forceR_eq : ∀ (R : Rn) (k : Rn → Prop), forceR R k = k R
  | [], k => rfl
  | (n, none) :: r, k => by simp only [forceR, forceR_eq r]
  | (n, some m) :: r, k => by simp only [forceR, forceR_eq r]

def entS : List SV → List SV → Rn → (Rn → Prop) → Prop
  | [], [], R, k => k R
  | v :: vs, u :: us, R, k => match ren1 v u R with
    | some (R', ps) => forceR R' fun R' => conjK ps (entS vs us R' k)
    | none => False
  | _, _, _, _ => False

def entN (H : List (Nat × Nm)) (c m : Nat) (b : Blk) (R : Rn) (k : Rn → Prop) : Prop := match lookN H m with
  | .live b0 => match renB b b0 R with
    | some (R', ps) => forceR R' fun R' => conjK ps (k R')
    | none => False
  | _ => False

def entH (H : List (Nat × Nm)) : List (Nat × Nm) → Rn → (Rn → Prop) → Prop
  | [], R, k => k R
  | (c, b) :: r, R, k => match b with
    | .live b => match lookR R c with
      | some (some m) => entN H c m b R fun R' => entH H r R' k
      | some none => match b with
        | .row _ _ xs => xs = [] ∧ entH H r R k
        | _ => False
      | none => match addR c (some c) R with
        | some R1 => entN H c c b R1 fun R' => entH H r R' k
        | none => False
    | _ => False

def hasName (n : Nat) : List (Nat × Nm) → Bool
  | [] => false
  | (m, _) :: r => Nat.beq n m || hasName n r
def coverR (Hh : List (Nat × Nm)) : Rn → Bool
  | [] => true
  | (c, _) :: r => hasName c Hh && coverR Hh r
def paramsOk (R : Rn) : List (Nat × Nm) → Bool
  | [] => true
  | (n, _) :: r => (Nat.blt n PN || Nat.ble QN n || (match lookR R n with | some (some m) => Nat.beq m n | _ => false)) && paramsOk R r

/-- The state 'S' seen as the state 'T': what must hold. -/
def enter (S T : St) : Prop := entS T.sl S.sl [] fun R => entH S.H T.H R fun R => match coverR T.H R, paramsOk R S.H with
  | true, true => True
  | _, _ => False

theorem hasName_iff {n : Nat} : ∀ {H : List (Nat × Nm)}, hasName n H = true ↔ n ∈ H.map (·.1)
  | [] => by simp [hasName]
  | (m, b) :: r => by
    simp only [hasName, Bool.or_eq_true, List.map_cons, List.mem_cons, hasName_iff]
    constructor
    · rintro (h | h)
      · exact .inl (Nat.eq_of_beq_eq_true h)
      · exact .inr h
    · rintro (h | h)
      · left; rw [h]; exact Nat.beq_refl _
      · exact .inr h

theorem coverR_spec {Hh : List (Nat × Nm)} : ∀ {R : Rn}, coverR Hh R = true → ∀ c, lookR R c ≠ none → c ∈ Hh.map (·.1)
  | [], _, c, h => by simp [lookR] at h
  | (n, x) :: r, h, c, hc => by
    simp only [coverR, Bool.and_eq_true] at h
    rw [lookR_cons] at hc
    split at hc
    · rename_i e; rw [e]; exact hasName_iff.1 h.1
    · exact coverR_spec h.2 c hc

theorem paramsOk_spec {R : Rn} : ∀ {H : List (Nat × Nm)}, paramsOk R H = true → ∀ n, PN ≤ n → n < QN → n ∈ H.map (·.1) → lookR R n = some (some n)
  | [], _, n, _, _, h => by simp at h
  | (m, b) :: r, h, n, hn, hn', hm => by
    simp only [paramsOk, Bool.and_eq_true, Bool.or_eq_true] at h
    rcases List.mem_cons.1 hm with e | hm
    · have e : n = m := e
      subst e
      rcases h.1 with (h1 | h1) | h1
      · have := Nat.le_of_ble_eq_true h1
        have hn : PN ≤ n := hn
        omega
      · have := Nat.le_of_ble_eq_true h1
        have hn : n < QN := hn'
        omega
      · split at h1
        · rename_i k hk
          rw [hk, Nat.eq_of_beq_eq_true h1]
        · cases h1
    · exact paramsOk_spec h.2 n hn hn' hm

theorem lookN_mem {H : List (Nat × Nm)} {n : Nat} : lookN H n = .un ∨ (n, lookN H n) ∈ H := by
  induction H with
  | nil => exact .inl rfl
  | cons p r ih =>
    obtain ⟨m, b⟩ := p
    unfold lookN
    split
    · rename_i hb; rw [Nat.eq_of_beq_eq_true hb]; exact .inr (List.mem_cons_self ..)
    · rcases ih with h | h
      · exact .inl h
      · exact .inr (List.mem_cons_of_mem _ h)

theorem lookN_none {H : List (Nat × Nm)} {n : Nat} (h : n ∉ H.map (·.1)) : lookN H n = .un := by
  rcases lookN_mem (H := H) (n := n) with h1 | h1
  · exact h1
  · exact absurd (List.mem_map_of_mem (f := (·.1)) h1) h

/-- The names and the immutable blocks that outlive a change of state. -/
structure Ext0 (A : Nat → Prop) (env : Env) (w : World) (A' : Nat → Prop) (env' : Env) (w' : World) : Prop where
  imm : ∀ b, A b → A' b
  envp : ∀ n, PN ≤ n → n < QN → env n ≠ .un → env' n = env n
  keep : ∀ b o, A b → w'.cell? ⟨b, o, none⟩ = w.cell? ⟨b, o, none⟩
  shape : ∀ b s, w.shape? b = some s → w'.shape? b = some s

theorem Ext.ext0 {A : Nat → Prop} {env : Env} {w : World} {A' : Nat → Prop} {env' : Env} {w' : World} (x : Ext A env w A' env' w') : Ext0 A env w A' env' w' := by
  refine ⟨x.imm, fun n _ _ hn => ?_, x.keep, x.shape⟩
  cases h : env n with
  | un => exact absurd h hn
  | nil => exact x.envn n h
  | blk b l => exact x.envb n b l h

theorem Ext0.trans {A A' A'' : Nat → Prop} {env env' env'' : Env} {w w' w'' : World} (h : Ext0 A env w A' env' w') (k : Ext0 A' env' w' A'' env'' w'') : Ext0 A env w A'' env'' w'' :=
  ⟨fun b hb => k.imm b (h.imm b hb), fun n hn hn' e => (k.envp n hn hn' (by rw [h.envp n hn hn' e]; exact e)).trans (h.envp n hn hn' e),
   fun b o hb => (k.keep b o (h.imm b hb)).trans (h.keep b o hb), fun b s e => k.shape b s (h.shape b s e)⟩

section
variable {w0 : World} {N0 : Old} {A : Nat → Prop} {env : Env} {w : World} {a : Act}

theorem entS_spec : ∀ {vs us : List SV} {R : Rn} {k : Rn → Prop}, entS vs us R k →
    ∃ R', k R' ∧ vs.length = us.length ∧ LeR R R' ∧ (InjR R → InjR R') ∧ ∀ Rf, LeR R' Rf → ∀ i x, Den A env w (getSl us i) x → Den A (renEnv Rf env) w (getSl vs i) x
  | [], [], R, k, h => ⟨R, h, rfl, LeR.refl, id, fun Rf _ i x _ => by simp [getSl, getL, Den]⟩
  | v :: vs, u :: us, R, k, h => by
    simp only [entS] at h
    split at h
    · rename_i R1 ps h1
      rw [forceR_eq] at h
      obtain ⟨hc, h2⟩ := conjK_iff.1 h
      obtain ⟨a1, a2, a3⟩ := ren1_sound (A := A) (env := env) (w := w) h1
      obtain ⟨R2, b1, b2, b3, b4, b5⟩ := entS_spec h2
      refine ⟨R2, b1, by simp [b2], a1.trans b3, fun h => b4 (a2 h), fun Rf hf i x hx => ?_⟩
      cases i with
      | zero => exact a3 hc Rf (b3.trans hf) x hx
      | succ i => exact b5 Rf hf i x hx
    · exact h.elim
  | [], _ :: _, _, _, h => h.elim
  | _ :: _, [], _, _, h => h.elim

/-- What is known of an entry of the new state's heap. -/
def EntOK (A : Nat → Prop) (env : Env) (w : World) (H : List (Nat × Nm)) (R : Rn) (c : Nat) (x : Nm) : Prop :=
  ∃ b, x = .live b ∧ ((∃ m b0, lookR R c = some (some m) ∧ lookN H m = .live b0 ∧ b.mut = b0.mut ∧ (∀ Rf, LeR R Rf → ∀ k len, BlkDen A env w k len b0 → BlkDen A (renEnv Rf env) w k len b) ∧
      (∀ E t, b0 = .row E t [] ∨ b0 = .frz E t [] → ∃ E t, b = .row E t [] ∨ b = .frz E t [])) ∨
    (lookR R c = some none ∧ ∃ E t, b = .row E t []))

theorem EntOK.mono {H : List (Nat × Nm)} {R R' : Rn} {c : Nat} {x : Nm} (h : EntOK A env w H R c x) (le : LeR R R') : EntOK A env w H R' c x := by
  obtain ⟨b, e, ⟨m, b0, h1, h2, h3, h4, h5⟩ | ⟨h1, h2⟩⟩ := h
  · exact ⟨b, e, .inl ⟨m, b0, le _ _ h1, h2, h3, fun Rf hf => h4 Rf (le.trans hf), h5⟩⟩
  · exact ⟨b, e, .inr ⟨le _ _ h1, h2⟩⟩

theorem entN_spec {H : List (Nat × Nm)} {c m : Nat} {b : Blk} {R : Rn} {k : Rn → Prop} (hl : lookR R c = some (some m)) (h : entN H c m b R k) :
    ∃ R', k R' ∧ LeR R R' ∧ (InjR R → InjR R') ∧ EntOK A env w H R' c (.live b) := by
  unfold entN at h
  split at h
  · rename_i b0 h0
    split at h
    · rename_i R' ps h1
      rw [forceR_eq] at h
      obtain ⟨hc, h2⟩ := conjK_iff.1 h
      obtain ⟨a1, a2, a3, a4, a5⟩ := renB_sound (A := A) (env := env) (w := w) h1
      exact ⟨R', h2, a1, a2, b, rfl, .inl ⟨m, b0, a1 _ _ hl, h0, a3, a4 hc, a5 hc⟩⟩
    · exact h.elim
  · exact h.elim

theorem entH_spec {H : List (Nat × Nm)} : ∀ {Hh : List (Nat × Nm)} {R : Rn} {k : Rn → Prop}, entH H Hh R k →
    ∃ R', k R' ∧ LeR R R' ∧ (InjR R → InjR R') ∧ ∀ c x, (c, x) ∈ Hh → EntOK A env w H R' c x
  | [], R, k, h => ⟨R, h, LeR.refl, id, fun c x hx => by simp at hx⟩
  | (c, b) :: r, R, k, h => by
    simp only [entH] at h
    split at h
    · rename_i b
      have fin : ∀ {R1 R2 : Rn}, LeR R R1 → (InjR R → InjR R1) → LeR R1 R2 → (InjR R1 → InjR R2) → EntOK A env w H R2 c (.live b) → entH H r R2 k →
          ∃ R', k R' ∧ LeR R R' ∧ (InjR R → InjR R') ∧ ∀ c' x, (c', x) ∈ (c, Nm.live b) :: r → EntOK A env w H R' c' x := by
        intro R1 R2 l1 i1 l2 i2 ok hr
        obtain ⟨R3, c1, c2, c3, c4⟩ := entH_spec hr
        refine ⟨R3, c1, (l1.trans l2).trans c2, fun h => c3 (i2 (i1 h)), fun c' x hx => ?_⟩
        rcases List.mem_cons.1 hx with e | hx
        · cases e; exact ok.mono c2
        · exact c4 c' x hx
      split at h
      · rename_i m hl
        obtain ⟨R2, b1, b2, b3, b4⟩ := entN_spec (A := A) (env := env) (w := w) hl h
        exact fin LeR.refl id b2 b3 b4 b1
      · rename_i hl
        split at h
        · rename_i E t xs
          obtain ⟨rfl, h⟩ := h
          exact fin LeR.refl id LeR.refl id ⟨_, rfl, .inr ⟨hl, E, t, rfl⟩⟩ h
        · exact h.elim
      · split at h
        · rename_i R1 h1
          obtain ⟨a1, a2, a3⟩ := addR_spec h1
          obtain ⟨R2, b1, b2, b3, b4⟩ := entN_spec (A := A) (env := env) (w := w) a1 h
          exact fin a2 a3 b2 b3 b4 b1
        · exact h.elim
    · exact h.elim

/-- **One state seen as another.** -/
theorem enter_fits {S T : St} (h : enter S T) (t : Fits w0 N0 A env S.fs a w) : ∃ env', Fits w0 N0 A env' T.fs a w ∧ Ext0 A env w A env' w := by
  unfold enter at h
  obtain ⟨R1, h1, hlen, l1, i1, d1⟩ := entS_spec (A := A) (env := env) (w := w) h
  obtain ⟨R, h2, l2, i2, ok⟩ := entH_spec (A := A) (env := env) (w := w) h1
  have hinj : InjR R := i2 (i1 (fun c c' m hc => by simp [lookR] at hc))
  split at h2
  · rename_i hcov hpar
    have m := t.m
    have hdom : ∀ n, n ∉ T.H.map (·.1) → lookR R n = none := fun n hn => by
      cases hl : lookR R n with
      | none => rfl
      | some y => exact absurd (coverR_spec hcov n (by rw [hl]; simp)) hn
    -- what a live name of the new state is
    have live : ∀ n b, T.fs.h n = .live b → EntOK A env w S.H R n (.live b) := fun n b hb => by
      rcases lookN_mem (H := T.H) (n := n) with h | h
      · simp only [St.fs] at hb; rw [h] at hb; cases hb
      · simp only [St.fs] at hb; rw [hb] at h; exact ok n _ h
    have hmut : ∀ n b k l, T.fs.h n = .live b → b.mut = true → renEnv R env n = .blk k l → ∃ m b0, lookR R n = some (some m) ∧ lookN S.H m = .live b0 ∧ b0.mut = true ∧ env m = .blk k l := by
      intro n b k l hb hm he
      obtain ⟨b', e, ⟨m', b0, e1, e2, e3, _⟩ | ⟨e1, _⟩⟩ := live n b hb
      · cases e
        unfold renEnv at he; rw [e1] at he
        exact ⟨m', b0, e1, e2, by rw [← e3]; exact hm, he⟩
      · unfold renEnv at he; rw [e1] at he; cases he
    refine ⟨renEnv R env, ⟨⟨m.os, m.tape, m.output, m.size, m.fr, m.Alt, ?_, ?_, ?_, m.fresh, m.gl⟩, by rw [show T.fs.sl.length = S.fs.sl.length from hlen]; exact t.len, fun i => d1 R l2 i _ (t.f i), t.dfr⟩, ⟨fun _ h => h, ?_, fun _ _ _ => rfl, fun _ _ h => h⟩⟩
    · intro n
      cases hn : T.fs.h n with
      | dead => trivial
      | un =>
        show renEnv R env n = .un
        have : n ∉ T.H.map (·.1) := fun hmem => by
          rcases lookN_mem (H := T.H) (n := n) with h | h
          · obtain ⟨⟨n', x⟩, hx, rfl⟩ := List.mem_map.1 hmem
            -- every entry is live; the first one of this name too
            have : ∀ (H : List (Nat × Nm)), (∀ c x, (c, x) ∈ H → ∃ b, x = .live b) → ∀ n, n ∈ H.map (·.1) → ∃ b, lookN H n = .live b := by
              intro H
              induction H with
              | nil => intro _ n hn; simp at hn
              | cons p H ih =>
                obtain ⟨q, y⟩ := p
                intro hall n hn
                simp only [lookN]
                split
                · exact hall q y (List.mem_cons_self ..)
                · rename_i hne
                  refine ih (fun c x hx => hall c x (List.mem_cons_of_mem _ hx)) n ?_
                  rcases List.mem_cons.1 hn with e | hn
                  · simp only at e; subst e; rw [Nat.beq_refl] at hne; cases hne
                  · exact hn
            obtain ⟨b, hb⟩ := this T.H (fun c x hx => let ⟨b, e, _⟩ := ok c x hx; ⟨b, e⟩) n' hmem
            simp only [St.fs] at hn; rw [hb] at hn; cases hn
          · simp only [St.fs] at hn
            rw [hn] at h
            obtain ⟨b, e, _⟩ := ok n _ h
            cases e
        unfold renEnv; rw [hdom n this]
      | live b =>
        obtain ⟨b', e, ⟨m', b0, e1, e2, e3, e4, e5⟩ | ⟨e1, E, tt, e2⟩⟩ := live n b hn
        · cases e
          have he : renEnv R env n = env m' := by unfold renEnv; rw [e1]
          have hm := m.nm m'
          simp only [St.fs, e2] at hm
          rcases hm with ⟨k, len, he', hb, hA⟩ | ⟨he', E, tt, hb⟩
          · exact .inl ⟨k, len, he.trans he', e4 R LeR.refl k len hb, fun hmm => hA (by rw [← e3]; exact hmm)⟩
          · exact .inr ⟨he.trans he', e5 E tt hb⟩
        · cases e
          exact .inr ⟨by unfold renEnv; rw [e1], E, tt, .inl e2⟩
    · intro n b k l hb hm he
      obtain ⟨m', b0, e1, e2, e3, e4⟩   := hmut n b k l hb hm he
      exact m.own m' b0 k l e2 e3 e4
    · intro n n' b c k l l' hb hc hbm hcm he he'
      obtain ⟨m1, b1, e1, e2, e3, e4⟩   := hmut n b k l hb hbm he
      obtain ⟨m2, b2, f1, f2, f3, f4⟩ := hmut n' c k l' hc hcm he'
      have := m.inj m1 m2 b1 b2 k l l' e2 f2 e3 f3 e4 f4
      subst this
      exact hinj n n' m1 e1 f1
    · intro n hn hn' hne
      have : n ∈ S.H.map (·.1) := by
        refine Classical.byContradiction fun hno => hne ?_
        have := m.nm n
        simp only [St.fs, lookN_none hno] at this
        exact this
      have := paramsOk_spec hpar n hn hn' this
      unfold renEnv; rw [this]
  · exact h2.elim
end
end Go.SX
