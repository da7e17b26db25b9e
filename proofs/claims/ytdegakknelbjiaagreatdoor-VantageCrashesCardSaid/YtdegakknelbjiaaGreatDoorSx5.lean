/- SX, part 5: the cells of structs and arrays; data out of cells. -/
import Derived.Test.YtdegakknelbjiaaGreatDoorSx4
namespace Go.SX
set_option linter.unusedVariables false

/-- The cells of a datum. -/
def flat : (t : CT) → t.D → List SV
  | .int k, n => [.int k n]
  | .bool, b => [.bool b]
  | .str, s => [.str s]
  | .sl t, xs => [.dsl t xs]
  | .pair a b, d => flat a d.1 ++ flat b d.2

theorem flat_len : ∀ (t : CT) (d : t.D), (flat t d).length = t.size
  | .int k, n => rfl
  | .bool, b => rfl
  | .str, s => rfl
  | .sl t, xs => rfl
  | .pair a b, d => by simp [flat, CT.size, flat_len a d.1, flat_len b d.2]

theorem allOne_append {a b : List SV} : allOne (a ++ b) = (allOne a && allOne b) := by
  induction a with
  | nil => rfl
  | cons x a ih => simp [allOne, ih, Bool.and_assoc]

theorem flat_one : ∀ (t : CT) (d : t.D), allOne (flat t d) = true
  | .int k, n => rfl
  | .bool, b => rfl
  | .str, s => rfl
  | .sl t, xs => rfl
  | .pair a b, d => by simp [flat, allOne_append, flat_one a d.1, flat_one b d.2]

theorem flat_den {A : Nat → Prop} {env : Env} {w : World} : ∀ (t : CT) (d : t.D) (cv : Nat → Option Value) (o : Nat), Rd A w t cv o d →
    ∃ vs : List Value, vs.length = t.size ∧ (∀ j, j < t.size → cv (o + j) = vs[j]?) ∧ DenL A env w (flat t d) vs
  | .int k, n, cv, o, h => ⟨[.int k n], rfl, fun j hj => by
      simp only [CT.size] at hj; have : j = 0 := by omega
      subst this; simpa using h.1, by simp only [flat, DenL, Den]; exact ⟨_, [], rfl, ⟨rfl, h.2⟩, rfl⟩⟩
  | .bool, b, cv, o, h => ⟨[.bool b], rfl, fun j hj => by
      simp only [CT.size] at hj; have : j = 0 := by omega
      subst this; simp only [Rd] at h; simpa using h, by simp only [flat, DenL, Den]; exact ⟨_, [], rfl, rfl, rfl⟩⟩
  | .str, s, cv, o, h => ⟨[.string s], rfl, fun j hj => by
      simp only [CT.size] at hj; have : j = 0 := by omega
      subst this; simpa using h.1, by simp only [flat, DenL, Den]; exact ⟨_, [], rfl, ⟨rfl, h.2⟩, rfl⟩⟩
  | .sl t, xs, cv, o, h => by
      obtain ⟨v, hv, hs⟩ := Rd_sl.1 h
      exact ⟨[v], rfl, fun j hj => by
        simp only [CT.size] at hj; have : j = 0 := by omega
        subst this; simpa using hv, by simp only [flat, DenL, Den]; exact ⟨_, [], rfl, hs, rfl⟩⟩
  | .pair a b, d, cv, o, h => by
      obtain ⟨us, l1, c1, d1⟩ := flat_den (env := env) a d.1 cv o h.1
      obtain ⟨vs, l2, c2, d2⟩ := flat_den (env := env) b d.2 cv (o + a.size) h.2
      refine ⟨us ++ vs, by simp [CT.size, l1, l2], fun j hj => ?_, DenL_append d1 d2⟩
      by_cases hlt : j < a.size
      · rw [c1 j hlt, List.getElem?_append_left (by omega)]
      · simp only [CT.size] at hj
        have := c2 (j - a.size) (by omega)
        rw [show o + a.size + (j - a.size) = o + j from by omega] at this
        rw [this, List.getElem?_append_right (by omega), l1]

theorem Rd_of_flat {A : Nat → Prop} {env : Env} {w : World} : ∀ (t : CT) (d : t.D) (vs : List Value) (cv : Nat → Option Value) (o : Nat), DenL A env w (flat t d) vs →
    (∀ j, j < t.size → cv (o + j) = vs[j]?) → Rd A w t cv o d
  | .int k, n, vs, cv, o, h, hc => by
      simp only [flat, DenL, Den] at h
      obtain ⟨v, r, rfl, ⟨rfl, hh⟩, rfl⟩ := h
      have := hc 0 (by simp [CT.size])
      exact ⟨by simpa using this, hh⟩
  | .bool, b, vs, cv, o, h, hc => by
      simp only [flat, DenL, Den] at h
      obtain ⟨v, r, rfl, rfl, rfl⟩ := h
      have := hc 0 (by simp [CT.size])
      simpa [Rd] using this
  | .str, s, vs, cv, o, h, hc => by
      simp only [flat, DenL, Den] at h
      obtain ⟨v, r, rfl, ⟨rfl, hh⟩, rfl⟩ := h
      have := hc 0 (by simp [CT.size])
      exact ⟨by simpa using this, hh⟩
  | .sl t, xs, vs, cv, o, h, hc => by
      simp only [flat, DenL, Den] at h
      obtain ⟨v, r, rfl, hs, rfl⟩ := h
      have := hc 0 (by simp [CT.size])
      exact Rd_sl.2 ⟨v, by simpa using this, hs⟩
  | .pair a b, d, vs, cv, o, h, hc => by
      simp only [flat] at h
      obtain ⟨us, rs, rfl, h1, h2⟩ := DenL_split h
      have l1 := DenL_length h1
      rw [flat_len] at l1
      have hcs : ∀ j, j < a.size + b.size → cv (o + j) = (us ++ rs)[j]? := fun j hj => hc j (by simpa [CT.size] using hj)
      refine ⟨Rd_of_flat a d.1 us cv o h1 fun j hj => ?_, Rd_of_flat b d.2 rs cv (o + a.size) h2 fun j hj => ?_⟩
      · rw [hcs j (by omega), List.getElem?_append_left (by omega)]
      · have := hcs (a.size + j) (by omega)
        rw [show o + a.size + j = o + (a.size + j) from by omega, this, List.getElem?_append_right (by omega), l1]
        congr 1; omega

/-- A type of another spelling: the same data. -/
def castL (t t' : CT) (xs : List t.D) : Option (List t'.D) := if h : t = t' then some (h ▸ xs) else none

theorem castL_eq {t t' : CT} {xs : List t.D} {ys : List t'.D} (h : castL t t' xs = some ys) : ∃ e : t = t', ys = e ▸ xs := by
  unfold castL at h
  split at h
  · rename_i e; cases h; exact ⟨e, rfl⟩
  · cases h

/-- Data out of cells; what is left; which owned rows must be immutable from now on. -/
def projC : (t : CT) → List SV → Q (t.D × List SV × List (Nat × Nm))
  | .int k, .int k' n :: r => match kEq k k' with
    | true => .ret (n, r, [])
    | false => .fail
  | .bool, .bool b :: r => .ret (b, r, [])
  | .str, .str s :: r => .ret (s, r, [])
  | .sl t, .dsl t' xs :: r => match castL t' t xs with
    | some ys => .ret (ys, r, [])
    | none => .fail
  | .sl t, .dsx t' xs :: r => match castL t' t xs with
    | some ys => .ret (ys, r, [])
    | none => .fail
  | .sl t, .nilsl :: r => .ret ([], r, [])
  | .sl t, .own n sz :: r => .ask n fun
    | .live (.row E t' xs) => match Nat.beq sz t'.size, castL t' t xs with
      | true, some ys => .ret (ys, r, [(n, .live (.frz E t' xs))])
      | _, _ => .fail
    | .live (.frz E t' xs) => match Nat.beq sz t'.size, castL t' t xs with
      | true, some ys => .ret (ys, r, [])
      | _, _ => .fail
    | _ => .fail
  | .pair a b, cs => (projC a cs).bind fun p => (projC b p.2.1).bind fun q => .ret ((p.1, q.1), q.2.1, p.2.2 ++ q.2.2)
  | _, _ => .fail

/-- The blocks that become immutable. -/
def FrzBlk (env : Env) (fz : List (Nat × Nm)) (k : Nat) : Prop := ∃ n b l, (n, b) ∈ fz ∧ env n = .blk k l

/-- 'fz' asks of live rows that they be immutable from now on, and no more. -/
def FrzOk (h : Heap) (fz : List (Nat × Nm)) : Prop := ∀ n b, (n, b) ∈ fz → ∃ E t xs, h n = .live (.row E t xs) ∧ b = .live (.frz E t xs)

section
variable {w0 : World} {N0 : Old} {A A' : Nat → Prop} {env : Env} {h : Heap} {w : World}

theorem RdSl_of_row (hA : ∀ b, A b → A' b) {k len : Nat} {E : TypeId} {t : CT} {xs : List t.D} (hr : RowDen A w k len E t xs) (hk : A' k) {c : Nat} {E' : TypeId}
    (hs : w.shape? k = some (E', c)) : RdSl A' w t (.slice (some ⟨k, 0, none⟩) len (c / t.size)) xs := by
  obtain ⟨vs, cap, hh, h1, h2, h3, h4, h5⟩ := hr
  have hc : c = vs.size := by
    unfold World.shape? at hs
    rw [hh] at hs
    simp only [Option.some.injEq, Prod.mk.injEq] at hs
    exact hs.2.symm
  have hcap : c / t.size = cap := by rw [hc, h1]; exact Nat.mul_div_cancel _ t.size_pos
  subst h2
  rw [hcap]
  refine ⟨by omega, .inr ⟨k, 0, cap, rfl, h3, h4, hk, fun i hi => ?_⟩⟩
  refine Rd_mono hA (fun _ _ _ => rfl) t _ _ _ _ (fun j _ => ?_) (by simpa using h5 i hi)
  simp only [Nat.zero_add]
  rw [cell_of_row w k _ vs E (0, 0) hh]

theorem Rd_shift' {t : CT} {cv : Nat → Option Value} {o : Nat} {d : t.D} (hr : Rd A w t cv o d) (n : Nat) : Rd A w t (fun j => cv (j - n)) (o + n) d := by
  have key : ∀ (t : CT) (cv : Nat → Option Value) (o : Nat) (d : t.D), Rd A w t cv o d → Rd A w t (fun j => cv (j - n)) (o + n) d := by
    intro t
    induction t with
    | pair a b iha ihb =>
      intro cv o d hh
      refine ⟨iha _ _ _ hh.1, ?_⟩
      have := ihb _ _ _ hh.2
      rwa [show o + a.size + n = o + n + a.size from by omega] at this
    | int k => intro cv o d hh; simpa [Rd] using hh
    | bool => intro cv o d hh; simpa [Rd] using hh
    | str => intro cv o d hh; simpa [Rd] using hh
    | sl t ih => intro cv o d hh; simpa [Rd] using hh
  exact key t cv o d hr

theorem Rd_shift {t : CT} {cv : Nat → Option Value} {d : t.D} (hr : Rd A w t cv 0 d) (n : Nat) : Rd A w t (fun j => cv (j - n)) (0 + n) d := Rd_shift' hr n

theorem projC_sound (m : Mod w0 N0 A env h w) : ∀ (t : CT) (cs : List SV) (vs : List Value) (d : t.D) (rest : List SV) (fz : List (Nat × Nm)) (r : List Nat),
    (projC t cs).run h = some ((d, rest, fz), r) → DenL A env w cs vs → (∀ b, A b → A' b) → (∀ k, FrzBlk env fz k → A' k) →
    FrzOk h fz ∧ (∀ n b, (n, b) ∈ fz → n ∈ r) ∧ vs.length = t.size + rest.length ∧ Rd A' w t (fun j => vs[j]?) 0 d ∧ DenL A env w rest (vs.drop t.size) := by
  intro t
  have hnil : ∀ {n : Nat} {b : Nm}, (n, b) ∈ ([] : List (Nat × Nm)) → False := fun hh => by simp at hh
  induction t with
  | int k =>
    intro cs vs d rest fz r e hd hA hF
    match cs with
    | .int k' n :: cs => ?_
    | [] | .bool _ :: _ | .str _ :: _ | .dsl _ _ :: _ | .dsx _ _ :: _ | .nilsl :: _ | .own _ _ :: _ | .ptr _ _ :: _ | .eptr _ _ _ _ :: _ | .dptr _ _ _ :: _ | .nilp :: _ | .fn _ _ :: _ | .agg _ :: _ | .tup _ :: _ | .opt _ _ :: _ | .cv _ :: _ | .gl _ :: _ | .junk :: _ => cases e
    simp only [projC] at e
    split at e
    · rename_i hk
      cases kEq_eq hk
      simp only [Q.run, Option.some.injEq, Prod.mk.injEq] at e
      obtain ⟨⟨rfl, rfl, rfl⟩, rfl⟩ := e
      simp only [DenL, Den] at hd
      obtain ⟨v, r, rfl, ⟨rfl, hh⟩, hr⟩ := hd
      have hl := DenL_length hr
      exact ⟨fun _ _ h => (hnil h).elim, fun _ _ h => (hnil h).elim, by simp [CT.size, hl]; omega, ⟨by simp, hh⟩, by simpa [CT.size] using hr⟩
    · cases e
  | bool =>
    intro cs vs d rest fz r e hd hA hF
    match cs with
    | .bool n :: cs => ?_
    | [] | .int _ _ :: _ | .str _ :: _ | .dsl _ _ :: _ | .dsx _ _ :: _ | .nilsl :: _ | .own _ _ :: _ | .ptr _ _ :: _ | .eptr _ _ _ _ :: _ | .dptr _ _ _ :: _ | .nilp :: _ | .fn _ _ :: _ | .agg _ :: _ | .tup _ :: _ | .opt _ _ :: _ | .cv _ :: _ | .gl _ :: _ | .junk :: _ => cases e
    simp only [projC] at e
    simp only [Q.run, Option.some.injEq, Prod.mk.injEq] at e
    obtain ⟨⟨rfl, rfl, rfl⟩, rfl⟩ := e
    simp only [DenL, Den] at hd
    obtain ⟨v, r, rfl, rfl, hr⟩ := hd
    have hl := DenL_length hr
    exact ⟨fun _ _ h => (hnil h).elim, fun _ _ h => (hnil h).elim, by simp [CT.size, hl]; omega, by simp [Rd], by simpa [CT.size] using hr⟩
  | str =>
    intro cs vs d rest fz r e hd hA hF
    match cs with
    | .str n :: cs => ?_
    | [] | .int _ _ :: _ | .bool _ :: _ | .dsl _ _ :: _ | .dsx _ _ :: _ | .nilsl :: _ | .own _ _ :: _ | .ptr _ _ :: _ | .eptr _ _ _ _ :: _ | .dptr _ _ _ :: _ | .nilp :: _ | .fn _ _ :: _ | .agg _ :: _ | .tup _ :: _ | .opt _ _ :: _ | .cv _ :: _ | .gl _ :: _ | .junk :: _ => cases e
    simp only [projC] at e
    simp only [Q.run, Option.some.injEq, Prod.mk.injEq] at e
    obtain ⟨⟨rfl, rfl, rfl⟩, rfl⟩ := e
    simp only [DenL, Den] at hd
    obtain ⟨v, r, rfl, ⟨rfl, hh⟩, hr⟩ := hd
    have hl := DenL_length hr
    exact ⟨fun _ _ h => (hnil h).elim, fun _ _ h => (hnil h).elim, by simp [CT.size, hl]; omega, ⟨by simp, hh⟩, by simpa [CT.size] using hr⟩
  | sl t ih =>
    intro cs vs d rest fz r e hd hA hF
    match cs with
    | .dsl t' xs :: cs =>
      simp only [projC] at e
      split at e
      · rename_i ys hc
        obtain ⟨et, ey⟩ := castL_eq hc
        subst et
        simp only [Q.run, Option.some.injEq, Prod.mk.injEq] at e
        obtain ⟨⟨rfl, rfl, rfl⟩, rfl⟩ := e
        simp only at ey
        subst ey
        simp only [DenL, Den] at hd
        obtain ⟨v, r, rfl, hs, hr⟩ := hd
        have hl := DenL_length hr
        exact ⟨fun _ _ h => (hnil h).elim, fun _ _ h => (hnil h).elim, by simp [CT.size, hl]; omega, Rd_sl.2 ⟨v, by simp, RdSl_mono hA (fun _ _ _ => rfl) hs⟩, by simpa [CT.size] using hr⟩
      · cases e
    | .dsx t' xs :: cs =>
      simp only [projC] at e
      split at e
      · rename_i ys hc
        obtain ⟨et, ey⟩ := castL_eq hc
        subst et
        simp only [Q.run, Option.some.injEq, Prod.mk.injEq] at e
        obtain ⟨⟨rfl, rfl, rfl⟩, rfl⟩ := e
        simp only at ey
        subst ey
        simp only [DenL, Den] at hd
        obtain ⟨v, r, rfl, hs, hr⟩ := hd
        have hl := DenL_length hr
        exact ⟨fun _ _ h => (hnil h).elim, fun _ _ h => (hnil h).elim, by simp [CT.size, hl]; omega, Rd_sl.2 ⟨v, by simp, RdSl_mono hA (fun _ _ _ => rfl) hs.1⟩, by simpa [CT.size] using hr⟩
      · cases e
    | .nilsl :: cs =>
      simp only [projC] at e
      simp only [Q.run, Option.some.injEq, Prod.mk.injEq] at e
      obtain ⟨⟨rfl, rfl, rfl⟩, rfl⟩ := e
      simp only [DenL, Den] at hd
      obtain ⟨v, r, rfl, rfl, hr⟩ := hd
      have hl := DenL_length hr
      exact ⟨fun _ _ h => (hnil h).elim, fun _ _ h => (hnil h).elim, by simp [CT.size, hl]; omega, Rd_sl.2 ⟨_, by simp; rfl, by simp, .inl ⟨⟨_, rfl⟩, rfl⟩⟩, by simpa [CT.size] using hr⟩
    | .own n sz :: cs =>
      simp only [projC, Q.run] at e
      simp only [DenL, Den] at hd
      obtain ⟨v, r', rfl, hv, hr⟩ := hd
      have hl := DenL_length hr
      have hm := m.nm n
      split at e
      · rename_i p q hk
        simp only [Option.some.injEq, Prod.mk.injEq] at e
        obtain ⟨rfl, rfl⟩ := e
        split at hk
        · rename_i E t' xs hl'
          rw [hl'] at hm
          split at hk
          · rename_i ys hsz hc
            obtain ⟨et, ey⟩ := castL_eq hc
            subst et
            simp only [Q.run, Option.some.injEq, Prod.mk.injEq] at hk
            obtain ⟨⟨rfl, rfl, rfl⟩, rfl⟩ := hk
            simp only at ey
            subst ey
            have hsz : sz = t'.size := Nat.eq_of_beq_eq_true hsz
            subst hsz
            refine ⟨?_, ?_, by simp [CT.size, hl]; omega, ?_, by simpa [CT.size] using hr⟩
            · intro n' b' hh
              simp only [List.mem_singleton, Prod.mk.injEq] at hh
              obtain ⟨rfl, rfl⟩ := hh
              exact ⟨E, t', _, hl', rfl⟩
            · intro n' b' hh
              simp only [List.mem_singleton, Prod.mk.injEq] at hh
              simp [hh.1]
            · rcases hv with ⟨he, a, rfl⟩ | ⟨b, len, E', c, he, hs, rfl⟩
              · rcases hm with ⟨k, len, he', _⟩ | ⟨_, E2, t2, hb⟩
                · rw [he] at he'; cases he'
                · have hx : ys = [] := by
                    rcases hb with hb | hb <;> cases hb <;> rfl
                  subst hx
                  exact Rd_sl.2 ⟨_, by simp; rfl, by simp, .inl ⟨⟨_, rfl⟩, rfl⟩⟩
              · rcases hm with ⟨k, len', he', hb, _⟩ | ⟨he', _⟩
                · rw [he] at he'; cases he'
                  exact Rd_sl.2 ⟨_, by simp, RdSl_of_row hA hb (hF b ⟨n, _, len, by simp; rfl, he⟩) hs⟩
                · rw [he] at he'; cases he'
          · cases hk
        · rename_i E t' xs hl'
          rw [hl'] at hm
          split at hk
          · rename_i ys hsz hc
            obtain ⟨et, ey⟩ := castL_eq hc
            subst et
            simp only [Q.run, Option.some.injEq, Prod.mk.injEq] at hk
            obtain ⟨⟨rfl, rfl, rfl⟩, rfl⟩ := hk
            simp only at ey
            subst ey
            have hsz : sz = t'.size := Nat.eq_of_beq_eq_true hsz
            subst hsz
            refine ⟨fun _ _ h => (hnil h).elim, fun _ _ h => (hnil h).elim, by simp [CT.size, hl]; omega, ?_, by simpa [CT.size] using hr⟩
            · rcases hv with ⟨he, a, rfl⟩ | ⟨b, len, E', c, he, hs, rfl⟩
              · rcases hm with ⟨k, len, he', _⟩ | ⟨_, E2, t2, hb⟩
                · rw [he] at he'; cases he'
                · have hx : ys = [] := by
                    rcases hb with hb | hb <;> cases hb <;> rfl
                  subst hx
                  exact Rd_sl.2 ⟨_, by simp; rfl, by simp, .inl ⟨⟨_, rfl⟩, rfl⟩⟩
              · rcases hm with ⟨k, len', he', hb, _⟩ | ⟨he', _⟩
                · rw [he] at he'; cases he'
                  exact Rd_sl.2 ⟨_, by simp, RdSl_of_row hA hb.2 (hA _ hb.1) hs⟩
                · rw [he] at he'; cases he'
          · cases hk
        · cases hk
      · cases e
    | [] | .int _ _ :: _ | .bool _ :: _ | .str _ :: _ | .ptr _ _ :: _ | .eptr _ _ _ _ :: _ | .dptr _ _ _ :: _ | .nilp :: _ | .fn _ _ :: _ | .agg _ :: _ | .tup _ :: _ | .opt _ _ :: _ | .cv _ :: _ | .gl _ :: _ | .junk :: _ => cases e
  | pair a b iha ihb =>
    intro cs vs d rest fz r e hd hA hF
    simp only [projC] at e
    obtain ⟨⟨d1, r1, f1⟩, q1, q2, e1, e2, rfl⟩ := Q.run_bind _ _ _ e
    obtain ⟨⟨d2, r2, f2⟩, q3, q4, e3, e4, rfl⟩ := Q.run_bind _ _ _ e2
    simp only [Q.run, Option.some.injEq, Prod.mk.injEq] at e4
    obtain ⟨⟨rfl, rfl, rfl⟩, rfl⟩ := e4
    have hF1 : ∀ k, FrzBlk env f1 k → A' k := fun k ⟨n, x, l, hx, he⟩ => hF k ⟨n, x, l, List.mem_append_left _ hx, he⟩
    have hF2 : ∀ k, FrzBlk env f2 k → A' k := fun k ⟨n, x, l, hx, he⟩ => hF k ⟨n, x, l, List.mem_append_right _ hx, he⟩
    obtain ⟨o1, n1, l1, rd1, dr1⟩ := iha cs vs d1 r1 f1 q1 e1 hd hA hF1
    obtain ⟨o2, n2, l2, rd2, dr2⟩ := ihb r1 _ d2 r2 f2 q3 e3 dr1 hA hF2
    refine ⟨?_, ?_, ?_, ⟨rd1, ?_⟩, ?_⟩
    · intro n x hx
      rcases List.mem_append.1 hx with hx | hx
      · exact o1 n x hx
      · exact o2 n x hx
    · intro n x hx
      rcases List.mem_append.1 hx with hx | hx
      · exact List.mem_append_left _ (n1 n x hx)
      · exact List.mem_append_right _ (List.mem_append_left _ (n2 n x hx))
    · simp only [CT.size]; simp at l2; omega
    · refine Rd_mono (fun _ h => h) (fun _ _ _ => rfl) b _ _ _ _ (fun j _ => ?_) (Rd_shift rd2 a.size)
      simp [Nat.add_comm]
    · simp only [CT.size]
      rw [← List.drop_drop]
      exact dr2
end
end Go.SX
