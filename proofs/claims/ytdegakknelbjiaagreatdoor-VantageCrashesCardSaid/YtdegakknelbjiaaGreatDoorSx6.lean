/- SX, part 6: parts of structs and arrays, addresses, loads, lengths. -/
import Derived.Test.YtdegakknelbjiaaGreatDoorSx5
namespace Go.SX
set_option linter.unusedVariables false

def ofO : Option SV → Q Dl
  | some v => det0 v
  | none => .fail

def fieldOf (P : Program) (s : TypeId) (f : Nat) : Option Field := match P.underlying s with
  | some (.struct fs) => fs[f]?
  | _ => none

def sField (P : Program) (s : TypeId) (f : Nat) (x : SV) : Q Dl := match x, fieldOf P s f with
  | .agg cs, some fd => ofO (partS P fd.type cs fd.offset)
  | _, _ => .fail

def sExtract (i : Nat) (x : SV) : Q Dl := match x with
  | .tup cs => ofO (getL cs i)
  | _ => .fail

def sNil (x : SV) : Q Dl := match x with
  | .ptr n o => det0 (.ptr n o)
  | .eptr n s i o => det0 (.eptr n s i o)
  | .dptr t d o => det0 (.dptr t d o)
  | .fn f c => det0 (.fn f c)
  | _ => .fail

def sFieldAddr (P : Program) (s : TypeId) (f : Nat) (x : SV) : Q Dl := match fieldOf P s f with
  | some fd => match sizeT P fd.type with
    | some (_ + 1) => match x with
      | .ptr n o => det0 (.ptr n (o + fd.offset))
      | .eptr n sz i o => det0 (.eptr n sz i (o + fd.offset))
      | .dptr t d o => det0 (.dptr t d (o + fd.offset))
      | _ => .fail
    | _ => .fail
  | none => .fail

def sLoad (P : Program) (ty : TypeId) (x : SV) : Q Dl := match x with
  | .ptr n off => .ask n fun
    | .live (.cells _ cs) => ofO (partS P ty cs off)
    | _ => .fail
  | .eptr n sz i off => .ask n fun
    | .live (.row _ t xs) => match Nat.beq sz t.size with
      | true => ofO (partS P ty (flat t (elem t xs i)) off)
      | false => .fail
    | .live (.frz _ t xs) => match Nat.beq sz t.size with
      | true => ofO (partS P ty (flat t (elem t xs i)) off)
      | false => .fail
    | _ => .fail
  | .dptr t d off => ofO (partS P ty (flat t d) off)
  | _ => .fail

/-- The element type of a slice type, and its size. -/
def elemT (P : Program) (t : TypeId) : Option (TypeId × Nat) := match P.underlying t with
  | some (.slice e) => match sizeT P e with
    | some n => some (e, n)
    | none => none
  | _ => none

def sIndexAddr (P : Program) (t : TypeId) (x i : SV) : Q Dl := match i, elemT P t with
  | .int _ i, some (_, n) => match x with
    | .dsl u xs => match Nat.beq n u.size with
      | true => .ret (.det [0 ≤ i, i < xs.length] (.dptr u (elem u xs i.toNat) 0) [])
      | false => .fail
    | .own m sz => .ask m fun
      | .live (.row _ u xs) => match Nat.beq n u.size, Nat.beq sz u.size with
        | true, true => .ret (.det [0 ≤ i, i < xs.length] (.eptr m sz i.toNat 0) [])
        | _, _ => .fail
      | .live (.frz _ u xs) => match Nat.beq n u.size, Nat.beq sz u.size with
        | true, true => .ret (.det [0 ≤ i, i < xs.length] (.eptr m sz i.toNat 0) [])
        | _, _ => .fail
      | _ => .fail
    | _ => .fail
  | _, _ => .fail

def sLen (P : Program) (t : TypeId) (x : SV) : Q Dl := match P.underlying t with
  | some (.slice _) => match x with
    | .dsl _ xs => det0 (.int .i64 xs.length)
    | .dsx _ xs => det0 (.int .i64 xs.length)
    | .nilsl => det0 (.int .i64 0)
    | .own n _ => .ask n fun
      | .live (.row _ _ xs) => det0 (.int .i64 xs.length)
      | .live (.frz _ _ xs) => det0 (.int .i64 xs.length)
      | _ => .fail
    | _ => .fail
  | _ => .fail

def sMin (x y : SV) : Q Dl := match x, y with
  | .int k a, .int k' b => match kEq k k' with
    | true => det0 (.int k (min a b))
    | false => .fail
  | _, _ => .fail
def sMax (x y : SV) : Q Dl := match x, y with
  | .int k a, .int k' b => match kEq k k' with
    | true => det0 (.int k (max a b))
    | false => .fail
  | _, _ => .fail

section
variable {P : Program} {w0 : World} {N0 : Old} {A : Nat → Prop} {env : Env} {h : Heap} {w : World} {o : Oper} {a : Act} {ρ : Nat → SV} {d : Dl} {r : List Nat}

theorem partS_load {t : TypeId} {cs : List SV} {off : Nat} {s : SV} {us : List Value} {k o : Nat} (e : partS P t cs off = some s) (hd : DenL A env w cs us)
    (hc : ∀ j, j < us.length → w.cell? ⟨k, o + j, none⟩ = us[j]?) :
    ∃ v, (loadVar t ⟨k, o + off, none⟩).run P w = .ok v w ∧ Den A env w s v := by
  unfold partS at e
  split at e
  · rename_i ha
    split at e
    · rename_i n hn
      split at e
      · rename_i hle
        cases e
        have hle : off + n ≤ cs.length := Nat.le_of_ble_eq_true hle
        have hl := DenL_length hd
        have hrow : ∃ dd, P.underlying t = some dd ∧ dd.isRow = true := by
          unfold aggT at ha
          split at ha
          · rename_i hu; exact ⟨_, hu, rfl⟩
          · rename_i hu; exact ⟨_, hu, rfl⟩
          · cases ha
          · cases ha
        obtain ⟨dd, hu, hdd⟩ := hrow
        have hi : (P.info? t).map (·.size) = some ((us.drop off).take n).length := by
          unfold sizeT at hn
          split at hn
          · rename_i i hii; cases hn; rw [hii]; simp; omega
          · cases hn
        refine ⟨.agg ((us.drop off).take n).toArray, run_loadVar_mid w k (o + off) t _ dd ?_ hu hdd hi, ?_⟩
        · intro j v hj
          have hj' := hj
          rw [List.getElem?_take] at hj
          split at hj
          · rename_i hjn
            rw [List.getElem?_drop] at hj
            have hlt : off + j < us.length := (List.getElem?_eq_some_iff.1 hj).1
            have := hc (off + j) hlt
            rw [show o + off + j = o + (off + j) from by omega, this]; exact hj
          · cases hj
        · simp only [Den]
          exact ⟨_, rfl, by simpa using DenL_take n (DenL_drop off hd)⟩
      · cases e
    · cases e
  · rename_i ha
    rw [getL_eq] at e
    obtain ⟨v, hv, hd'⟩ := DenL_get _ _ hd e
    refine ⟨v, ?_, hd'⟩
    have hlt : off < us.length := (List.getElem?_eq_some_iff.1 hv).1
    have hcell := hc off hlt
    rw [hv] at hcell
    simp [loadVar, Sem.run_bind, aggT_run ha w, hcell]
  · cases e

theorem ofO_inj {x : Option SV} (e : (ofO x).run h = some (d, r)) : ∃ s, x = some s ∧ d = .det [] s [] := by
  cases x with
  | none => cases e
  | some s => exact ⟨s, rfl, (ret_inj e).symm⟩

theorem fieldOf_spec {s : TypeId} {f : Nat} {fd : Field} (e : fieldOf P s f = some fd) : ∃ fs, P.underlying s = some (.struct fs) ∧ fs[f]? = some fd := by
  unfold fieldOf at e
  split at e
  · rename_i fs hu; exact ⟨fs, hu, e⟩
  · cases e

theorem field_sound (m : Mod w0 N0 A env h w) (f : FD A env w ρ a) {s : TypeId} {x : Operand} {i : Nat} (ho : o.op = .field s x i)
    (e : (sField P s i (opnd ρ x)).run h = some (d, r)) : Yields P o a w0 N0 A env h w d := by
  have dx := Den_opnd f x
  unfold sField at e
  split at e
  · rename_i cs fd hx hf
    obtain ⟨sv, e1, rfl⟩ := ofO_inj e
    obtain ⟨fs, hu, hfs⟩ := fieldOf_spec hf
    rw [hx] at dx; simp only [Den] at dx
    obtain ⟨vs, ev, dv⟩ := dx
    obtain ⟨v, hr, hd⟩ := partS_part e1 dv
    refine Yields.pure m (v := v) ?_ hd
    unfold execOp; rw [ho]
    simp [Instr.field, run_underlying hu, hfs, ev, asAgg, hr]
  · cases e

theorem extract_sound (m : Mod w0 N0 A env h w) (f : FD A env w ρ a) {x : Operand} {i : Nat} (ho : o.op = .extract x i)
    (e : (sExtract i (opnd ρ x)).run h = some (d, r)) : Yields P o a w0 N0 A env h w d := by
  have dx := Den_opnd f x
  unfold sExtract at e
  split at e
  · rename_i cs hx
    obtain ⟨sv, e1, rfl⟩ := ofO_inj e
    rw [hx] at dx; simp only [Den] at dx
    obtain ⟨vs, ev, dv⟩ := dx
    rw [getL_eq] at e1
    obtain ⟨v, hv, hd⟩ := DenL_get _ _ dv e1
    have hv' : vs[i]? = some v := by rw [← Array.getElem?_toList]; exact hv
    refine Yields.pure m (v := v) ?_ hd
    unfold execOp; rw [ho]
    simp [Instr.extract, ev, hv']
  · cases e

theorem nil_sound (m : Mod w0 N0 A env h w) (f : FD A env w ρ a) {x : Operand} (ho : o.op = .nilCheck x)
    (e : (sNil (opnd ρ x)).run h = some (d, r)) : Yields P o a w0 N0 A env h w d := by
  have dx := Den_opnd f x
  unfold sNil det0 at e
  split at e
  · rename_i n o' hx
    cases ret_inj e
    rw [hx] at dx
    have dx' := dx
    simp only [Den] at dx
    obtain ⟨b, l, he, ev⟩ := dx
    exact Yields.pure m (v := a.eval x) (by unfold execOp; rw [ho]; simp [ev]) dx'
  · rename_i n s i o' hx
    cases ret_inj e
    rw [hx] at dx
    have dx' := dx
    simp only [Den] at dx
    obtain ⟨b, l, he, hl, ev⟩ := dx
    exact Yields.pure m (v := a.eval x) (by unfold execOp; rw [ho]; simp [ev]) dx'
  · rename_i t d' o' hx
    cases ret_inj e
    rw [hx] at dx
    have dx' := dx
    simp only [Den] at dx
    obtain ⟨b, l, ev, he⟩ := dx
    exact Yields.pure m (v := a.eval x) (by unfold execOp; rw [ho]; simp [ev]) dx'
  · rename_i ff c hx
    cases ret_inj e
    rw [hx] at dx
    have dx' := dx
    simp only [Den] at dx
    obtain ⟨vs, ev, he⟩ := dx
    exact Yields.pure m (v := a.eval x) (by unfold execOp; rw [ho]; simp [ev]) dx'
  · cases e

theorem fieldAddr_sound (m : Mod w0 N0 A env h w) (f : FD A env w ρ a) {s : TypeId} {x : Operand} {i : Nat} (ho : o.op = .fieldAddr s x i)
    (e : (sFieldAddr P s i (opnd ρ x)).run h = some (d, r)) : Yields P o a w0 N0 A env h w d := by
  have dx := Den_opnd f x
  unfold sFieldAddr at e
  split at e
  · rename_i fd hf
    obtain ⟨fs, hu, hfs⟩ := fieldOf_spec hf
    split at e
    · rename_i z hsz
      have go : ∀ (b off : Nat), a.eval x = .pointer (some ⟨b, off, none⟩) → (execOp a.eval o).run P w = .ok (.value (.pointer (some ⟨b, off + fd.offset, none⟩))) w := by
        intro b off ev
        unfold execOp; rw [ho]
        have hz : ¬ (z + 1 = 0) := by omega
        simp [Instr.fieldAt, run_underlying hu, hfs, ev, Instr.sureAddr, fieldPlace, sizeT_run hsz, Addr.add_lit]
      split at e
      · rename_i n o' hx
        unfold det0 at e
        cases ret_inj e
        rw [hx] at dx; simp only [Den] at dx
        obtain ⟨b, l, he, ev⟩ := dx
        exact Yields.pure m (go b o' ev) (by simp only [Den]; exact ⟨b, l, he, rfl⟩)
      · rename_i n s' i' o' hx
        unfold det0 at e
        cases ret_inj e
        rw [hx] at dx; simp only [Den] at dx
        obtain ⟨b, l, he, hl, ev⟩ := dx
        exact Yields.pure m (go b _ ev) (by simp only [Den]; exact ⟨b, l, he, hl, by rw [Nat.add_assoc]⟩)
      · rename_i t d' o' hx
        unfold det0 at e
        cases ret_inj e
        rw [hx] at dx; simp only [Den] at dx
        obtain ⟨b, l, ev, hA, hr⟩ := dx
        exact Yields.pure m (go b _ ev) (by simp only [Den]; exact ⟨b, l, by rw [Nat.add_assoc], hA, hr⟩)
      · cases e
    · cases e
  · cases e

theorem elem_get {t : CT} {xs : List t.D} {i : Nat} (hi : i < xs.length) : elem t xs i = xs[i] := by
  simp [elem, List.getD_eq_getElem?_getD, hi]

theorem RowDen_elem {k len : Nat} {E : TypeId} {t : CT} {xs : List t.D} (hr : RowDen A w k len E t xs) {i : Nat} (hi : i < len) :
    Rd A w t (fun o => w.cell? ⟨k, o, none⟩) (i * t.size) (elem t xs i) := by
  obtain ⟨vs, cap, hh, h1, h2, h3, h4, h5⟩ := hr
  rw [elem_get (by omega : i < xs.length)]
  refine Rd_mono (fun _ h => h) (fun _ _ _ => rfl) t _ _ _ _ (fun j _ => ?_) (h5 i (by omega))
  rw [cell_of_row w k _ vs E (0, 0) hh]

theorem Rd_load {t : CT} {d' : t.D} {k ob off : Nat} {ty : TypeId} {s : SV} (hr : Rd A w t (fun o => w.cell? ⟨k, o, none⟩) ob d') (e : partS P ty (flat t d') off = some s) :
    ∃ v, (loadVar ty ⟨k, ob + off, none⟩).run P w = .ok v w ∧ Den A env w s v := by
  obtain ⟨us, hl, hc, hd⟩ := flat_den (env := env) t d' _ ob hr
  exact partS_load e hd (fun j hj => hc j (by omega))

theorem load_sound (m : Mod w0 N0 A env h w) {ty : TypeId} {x : Operand} (φ : Operand → SV) (dx : Den A env w (φ x) (a.eval x)) (ho : o.op = .load ty x)
    (e : (sLoad P ty (φ x)).run h = some (d, r)) : Yields P o a w0 N0 A env h w d := by
  have go : ∀ {b off : Nat} {v : Value}, a.eval x = .pointer (some ⟨b, off, none⟩) → (loadVar ty ⟨b, off, none⟩).run P w = .ok v w → (execOp a.eval o).run P w = .ok (.value v) w := by
    intro b off v ev hr
    unfold execOp; rw [ho]
    simp only [ev, Instr.loadAt, Instr.sureAddr, Sem.run_bind, Sem.run_pure, Result.andThen_ok, hr]
  unfold sLoad at e
  split at e
  · rename_i n off hx
    rw [hx] at dx; simp only [Den] at dx
    obtain ⟨b, l, he, ev⟩ := dx
    simp only [Q.run] at e
    split at e
    · rename_i p q hk
      simp only [Option.some.injEq, Prod.mk.injEq] at e
      obtain ⟨rfl, rfl⟩ := e
      split at hk
      · rename_i E cs hl
        obtain ⟨s, e1, rfl⟩ := ofO_inj hk
        obtain ⟨⟨vs, hh, hd⟩, _⟩ := m.live_blk hl he
        obtain ⟨v, hr, hv⟩ := partS_load (o := 0) (k := b) e1 hd (fun j hj => by rw [cell_of_row w b _ vs E (0, 0) hh]; simp)
        rw [Nat.zero_add] at hr
        exact Yields.pure m (go ev hr) hv
      · cases hk
    · cases e
  · rename_i n sz i off hx
    rw [hx] at dx; simp only [Den] at dx
    obtain ⟨b, l, he, hil, ev⟩ := dx
    simp only [Q.run] at e
    split at e
    · rename_i p q hk
      simp only [Option.some.injEq, Prod.mk.injEq] at e
      obtain ⟨rfl, rfl⟩ := e
      split at hk
      · rename_i E t xs hl
        split at hk
        · rename_i hsz
          have hsz : sz = t.size := Nat.eq_of_beq_eq_true hsz
          subst hsz
          obtain ⟨s, e1, rfl⟩ := ofO_inj hk
          obtain ⟨v, hr, hv⟩ := Rd_load (env := env) (RowDen_elem (m.live_blk hl he).1 hil) e1
          exact Yields.pure m (go ev hr) hv
        · cases hk
      · rename_i E t xs hl
        split at hk
        · rename_i hsz
          have hsz : sz = t.size := Nat.eq_of_beq_eq_true hsz
          subst hsz
          obtain ⟨s, e1, rfl⟩ := ofO_inj hk
          obtain ⟨v, hr, hv⟩ := Rd_load (env := env) (RowDen_elem (m.live_blk hl he).1.2 hil) e1
          exact Yields.pure m (go ev hr) hv
        · cases hk
      · cases hk
    · cases e
  · rename_i t d' off hx
    rw [hx] at dx; simp only [Den] at dx
    obtain ⟨b, l, ev, hA, hr⟩ := dx
    obtain ⟨s, e1, rfl⟩ := ofO_inj e
    obtain ⟨v, hr, hv⟩ := Rd_load (env := env) hr e1
    exact Yields.pure m (go ev hr) hv
  · cases e

theorem elemT_spec {t e : TypeId} {n : Nat} (hh : elemT P t = some (e, n)) : P.underlying t = some (.slice e) ∧ sizeT P e = some n := by
  unfold elemT at hh
  split at hh
  · rename_i e' hu
    split at hh
    · rename_i n' hn; cases hh; exact ⟨hu, hn⟩
    · cases hh
  · cases hh

theorem indexAddr_sound (m : Mod w0 N0 A env h w) (f : FD A env w ρ a) {t : TypeId} {x i : Operand} (ho : o.op = .indexAddr t x i)
    (e : (sIndexAddr P t (opnd ρ x) (opnd ρ i)).run h = some (d, r)) (hp : conj d.pre) : Yields P o a w0 N0 A env h w d := by
  have dx := Den_opnd f x
  have di := Den_opnd f i
  unfold sIndexAddr at e
  split at e
  · rename_i k iv E n hi he
    obtain ⟨hu, hn⟩ := elemT_spec he
    rw [hi] at di; simp only [Den] at di
    have go : ∀ {b off len cap : Nat}, a.eval x = .slice (some ⟨b, off, none⟩) len cap → 0 ≤ iv → iv < len →
        (execOp a.eval o).run P w = .ok (.value (.pointer (some ⟨b, off + iv.toNat * n, none⟩))) w := by
      intro b off len cap ev h0 h1
      unfold execOp; rw [ho]
      simp [Instr.indexAt, ev, di.1, asIntOf, run_underlying hu, sizeT_run hn, h0, h1, Addr.add_lit]
    split at e
    · rename_i u xs hx
      rw [hx] at dx; simp only [Den] at dx
      split at e
      · rename_i hsz
        have hsz : n = u.size := Nat.eq_of_beq_eq_true hsz
        cases ret_inj e
        simp only [Dl.pre, conj, and_true] at hp
        obtain ⟨hlen, ⟨_, rfl⟩ | ⟨b, off, cap, ev, h1, h2, h3, h4⟩⟩ := dx
        · simp at hp; try omega
        · refine Yields.pure m (go ev hp.1 hp.2) ?_
          simp only [Den]
          have hlt : iv.toNat < xs.length := by omega
          exact ⟨b, off + iv.toNat * n, rfl, h3, by rw [elem_get hlt, hsz]; exact h4 _ hlt⟩
      · cases e
    · rename_i mm sz hx
      rw [hx] at dx; simp only [Den] at dx
      simp only [Q.run] at e
      split at e
      · rename_i p q hk
        simp only [Option.some.injEq, Prod.mk.injEq] at e
        obtain ⟨rfl, rfl⟩ := e
        have fin : ∀ {E' : TypeId} {u : CT} {xs : List u.D}, (h mm = .live (.row E' u xs) ∨ h mm = .live (.frz E' u xs)) → n = u.size → sz = u.size → 0 ≤ iv → iv < xs.length →
            Yields P o a w0 N0 A env h w (.det [0 ≤ iv, iv < xs.length] (.eptr mm sz iv.toNat 0) []) := by
          intro E' u xs hl hn' hsz' h0 h1
          rcases dx with ⟨hnil, _⟩ | ⟨b, len, E2, c, hb, _, ev⟩
          · exfalso
            have := m.nm mm
            rcases hl with hl | hl <;> rw [hl] at this <;> rcases this with ⟨k', l', he', _⟩ | ⟨_, E3, t3, hb⟩
            · rw [hnil] at he'; cases he'
            · (rcases hb with hb | hb <;> cases hb); simp at h1; try omega
            · rw [hnil] at he'; cases he'
            · (rcases hb with hb | hb <;> cases hb); simp at h1; try omega
          · have hlen : xs.length = len := by
              rcases hl with hl | hl
              · obtain ⟨vs, cap, _, _, h2, _⟩ := (m.live_blk hl hb).1; exact h2
              · obtain ⟨_, vs, cap, _, _, h2, _⟩ := (m.live_blk hl hb).1; exact h2
            refine Yields.pure m (go ev h0 (by omega)) ?_
            simp only [Den]
            exact ⟨b, len, hb, by omega, by rw [hn', hsz']; simp⟩
        split at hk
        · rename_i E' u xs hl
          split at hk
          · rename_i h1 h2
            cases ret_inj hk
            simp only [Dl.pre, conj, and_true] at hp
            exact fin (.inl hl) (Nat.eq_of_beq_eq_true h1) (Nat.eq_of_beq_eq_true h2) hp.1 hp.2
          · cases hk
        · rename_i E' u xs hl
          split at hk
          · rename_i h1 h2
            cases ret_inj hk
            simp only [Dl.pre, conj, and_true] at hp
            exact fin (.inr hl) (Nat.eq_of_beq_eq_true h1) (Nat.eq_of_beq_eq_true h2) hp.1 hp.2
          · cases hk
        · cases hk
      · cases e
    · cases e
  · cases e

theorem maxLen_i64 {n : Nat} (h : n ≤ maxLen) : IntKind.i64.has n := by
  simp only [maxLen] at h
  exact ⟨by have : IntKind.i64.min = -9223372036854775808 := by decide
            omega, by rw [IntKind.max_i64]; omega⟩

theorem len_sound (m : Mod w0 N0 A env h w) (f : FD A env w ρ a) {t : TypeId} {x : Operand} (ho : o.op = .call { callee := .builtin .len, args := #[x], argTypes := #[t] })
    (e : (sLen P t (opnd ρ x)).run h = some (d, r)) : Yields P o a w0 N0 A env h w d := by
  have dx := Den_opnd f x
  unfold sLen at e
  split at e
  · rename_i E hu
    have go : ∀ {p : Option Addr} {len cap : Nat}, a.eval x = .slice p len cap → (execOp a.eval o).run P w = .ok (.value (.int .i64 len)) w := by
      intro p len cap ev
      unfold execOp; rw [ho]
      simp [resolve, invoke, builtin, Builtin.len_, run_underlying hu, ev, goInt]
    split at e
    · rename_i u xs hx
      unfold det0 at e
      cases ret_inj e
      rw [hx] at dx; simp only [Den] at dx
      obtain ⟨hlen, ⟨⟨p, ev⟩, rfl⟩ | ⟨b, off, cap, ev, _⟩⟩ := dx
      · exact Yields.pure m (go ev) (by simp only [Den]; exact ⟨by simp, maxLen_i64 hlen⟩)
      · exact Yields.pure m (go ev) (by simp only [Den]; exact ⟨trivial, maxLen_i64 hlen⟩)
    · rename_i u xs hx
      unfold det0 at e
      cases ret_inj e
      rw [hx] at dx; simp only [Den] at dx
      obtain ⟨hh, p, ev⟩ := dx
      exact Yields.pure m (go ev) (by simp only [Den]; exact ⟨trivial, maxLen_i64 hh.1⟩)
    · rename_i hx
      unfold det0 at e
      cases ret_inj e
      rw [hx] at dx; simp only [Den] at dx
      exact Yields.pure m (go dx) (by simp only [Den]; exact ⟨by simp, maxLen_i64 (n := 0) (by simp)⟩)
    · rename_i mm sz hx
      rw [hx] at dx; simp only [Den] at dx
      simp only [Q.run] at e
      split at e
      · rename_i p q hk
        simp only [Option.some.injEq, Prod.mk.injEq] at e
        obtain ⟨rfl, rfl⟩ := e
        have fin : ∀ {E' : TypeId} {u : CT} {xs : List u.D}, (h mm = .live (.row E' u xs) ∨ h mm = .live (.frz E' u xs)) →
            Yields P o a w0 N0 A env h w (.det [] (.int .i64 xs.length) []) := by
          intro E' u xs hl
          rcases dx with ⟨hnil, p, ev⟩ | ⟨b, len, E2, c, hb, _, ev⟩
          · have hx : xs.length = 0 := by
              have := m.nm mm
              rcases hl with hl | hl <;> rw [hl] at this <;> rcases this with ⟨k', l', he', _⟩ | ⟨_, E3, t3, hb⟩
              · rw [hnil] at he'; cases he'
              · rcases hb with hb | hb <;> cases hb; rfl
              · rw [hnil] at he'; cases he'
              · rcases hb with hb | hb <;> cases hb; rfl
            exact Yields.pure m (go ev) (by simp only [Den]; rw [hx]; exact ⟨by simp, maxLen_i64 (n := 0) (by simp)⟩)
          · have hlen : xs.length = len ∧ len ≤ maxLen := by
              rcases hl with hl | hl
              · obtain ⟨vs, cap, _, _, h2, h3, h4, _⟩ := (m.live_blk hl hb).1; exact ⟨h2, by omega⟩
              · obtain ⟨_, vs, cap, _, _, h2, h3, h4, _⟩ := (m.live_blk hl hb).1; exact ⟨h2, by omega⟩
            exact Yields.pure m (go ev) (by simp only [Den]; rw [hlen.1]; exact ⟨rfl, maxLen_i64 hlen.2⟩)
        split at hk
        · rename_i E' u xs hl
          unfold det0 at hk
          cases ret_inj hk
          exact fin (.inl hl)
        · rename_i E' u xs hl
          unfold det0 at hk
          cases ret_inj hk
          exact fin (.inr hl)
        · cases hk
      · cases e
    · cases e
  · cases e

theorem min_sound (m : Mod w0 N0 A env h w) (f : FD A env w ρ a) {ts : Array TypeId} {x y : Operand} (ho : o.op = .call { callee := .builtin .min, args := #[x, y], argTypes := ts })
    (e : (sMin (opnd ρ x) (opnd ρ y)).run h = some (d, r)) : Yields P o a w0 N0 A env h w d := by
  have dx := Den_opnd f x
  have dy := Den_opnd f y
  unfold sMin at e
  split at e
  · rename_i k u k' v hx hy
    split at e
    · rename_i hk
      cases kEq_eq hk
      unfold det0 at e
      cases ret_inj e
      rw [hx] at dx; rw [hy] at dy; simp only [Den] at dx dy
      refine Yields.pure m (v := .int k (min u v)) ?_ (by simp only [Den]; refine ⟨trivial, ?_⟩; rcases Int.le_total u v with hh | hh; rw [Int.min_eq_left hh]; exact dx.2; rw [Int.min_eq_right hh]; exact dy.2)
      unfold execOp; rw [ho]
      have hm : (if v < u then v else u) = min u v := by split <;> omega
      simp [resolve, invoke, builtin, dx.1, dy.1, run_min_int2, hm]
    · cases e
  · cases e

theorem max_sound (m : Mod w0 N0 A env h w) (f : FD A env w ρ a) {ts : Array TypeId} {x y : Operand} (ho : o.op = .call { callee := .builtin .max, args := #[x, y], argTypes := ts })
    (e : (sMax (opnd ρ x) (opnd ρ y)).run h = some (d, r)) : Yields P o a w0 N0 A env h w d := by
  have dx := Den_opnd f x
  have dy := Den_opnd f y
  unfold sMax at e
  split at e
  · rename_i k u k' v hx hy
    split at e
    · rename_i hk
      cases kEq_eq hk
      unfold det0 at e
      cases ret_inj e
      rw [hx] at dx; rw [hy] at dy; simp only [Den] at dx dy
      refine Yields.pure m (v := .int k (max u v)) ?_ (by simp only [Den]; refine ⟨trivial, ?_⟩; rcases Int.le_total u v with hh | hh; rw [Int.max_eq_right hh]; exact dy.2; rw [Int.max_eq_left hh]; exact dx.2)
      unfold execOp; rw [ho]
      have hm : (if u < v then v else u) = max u v := by split <;> omega
      simp [resolve, invoke, builtin, dx.1, dy.1, run_max_int2, hm]
    · cases e
  · cases e
end
end Go.SX
