/- SX, part 23: from a law's arguments to data, and a law's contract to its row. -/
import Derived.Test.YtdegakknelbjiaaGreatDoorSx22
import Derived.ProofKit
import Derived.OpenShut
import Derived.ChangeOld
import Derived.Below
namespace Go.SX
open Go.ChangeShapes Go.WideShapes Go.ChangeAt Go.RowKit
set_option linter.unusedVariables false
universe u v

/-! ### Types -/
def fieldsFit (P : Program) (f : CT → TypeId → Bool) : List Field → CT → Nat → Bool
  | [], _, _ => false
  | [fd], t, o => f t fd.type && Nat.beq fd.offset o && Nat.beq (P.cellsOf fd.type) t.size
  | fd :: g :: r, .pair a b, o => f a fd.type && Nat.beq fd.offset o && Nat.beq (P.cellsOf fd.type) a.size && fieldsFit P f (g :: r) b (o + a.size)
  | _, _, _ => false
def arrFit (P : Program) (f : CT → TypeId → Bool) (e : TypeId) : Nat → CT → Bool
  | 0, _ => false
  | 1, t => f t e && Nat.beq (P.cellsOf e) t.size
  | n + 2, .pair a b => f a e && Nat.beq (P.cellsOf e) a.size && arrFit P f e (n + 1) b
  | _, _ => false
/-- The type's values are data of 't'. -/
def fitsT (P : Program) : Nat → CT → TypeId → Bool
  | 0, _, _ => false
  | n + 1, t, τ => match P.underlying τ, t with
    | some (.int k), .int k' => kEq k k'
    | some .bool, .bool => true
    | some .string, .str => true
    | some (.slice e), .sl u => fitsT P n u e && Nat.beq (P.cellsOf e) u.size
    | some (.struct fs), t => fieldsFit P (fitsT P n) fs.toList t 0
    | some (.array k e), t => arrFit P (fitsT P n) e k t
    | _, _ => false

section
variable {H : Type} {enc : TypeId × Value → H} {P : Program} {w : World} {base : Nat} {held : Bool}

theorem Rd_part {A : Nat → Prop} {t : CT} {cs : List Value} {o sz : Nat} {d : t.D} (hs : sz = t.size) (h : Rd A w t (fun j => ((cs.drop o).take sz)[j]?) 0 d) : Rd A w t (fun j => cs[j]?) o d := by
  have := Rd_shift h o
  rw [Nat.zero_add] at this
  refine Rd_mono (fun _ h => h) (fun _ _ _ => rfl) t _ _ _ _ (fun j hj => ?_) this
  simp only [List.getElem?_take, Nat.add_sub_cancel_left]
  rw [if_pos (by omega), List.getElem?_drop]

theorem fieldsFit_rd {A : Nat → Prop} {f : CT → TypeId → Bool} {cs : List Value} {n : Nat}
    (hf : ∀ t τ cs x, f t τ = true → DataW.trod enc P w base (fun _ => true) held n τ cs = some x → ∃ d, Rd A w t (fun j => cs[j]?) 0 d) :
    ∀ (fs : List Field) (t : CT) (o : Nat), fieldsFit P f fs t o = true → (∀ fd ∈ fs, ∃ x, DataW.trod enc P w base (fun _ => true) held n fd.type ((cs.drop fd.offset).take (P.cellsOf fd.type)) = some x) → ∃ d, Rd A w t (fun j => cs[j]?) o d
  | [], t, o, h, _ => by cases h
  | [fd], t, o, h, hx => by
    simp only [fieldsFit, Bool.and_eq_true] at h
    obtain ⟨⟨h1, h2⟩, h3⟩ := h
    have h2 := Nat.eq_of_beq_eq_true h2
    have h3 := Nat.eq_of_beq_eq_true h3
    obtain ⟨x, hx⟩ := hx fd (by simp)
    obtain ⟨d, hd⟩ := hf t fd.type _ x h1 hx
    rw [h2] at hd
    exact ⟨d, Rd_part h3 hd⟩
  | fd :: g :: r, .pair a b, o, h, hx => by
    simp only [fieldsFit, Bool.and_eq_true] at h
    obtain ⟨⟨⟨h1, h2⟩, h3⟩, h4⟩ := h
    have h2 := Nat.eq_of_beq_eq_true h2
    have h3 := Nat.eq_of_beq_eq_true h3
    obtain ⟨x, hx1⟩ := hx fd (by simp)
    obtain ⟨d, hd⟩ := hf a fd.type _ x h1 hx1
    rw [h2] at hd
    obtain ⟨d', hd'⟩ := fieldsFit_rd hf (g :: r) b (o + a.size) h4 (fun fd' hm => hx fd' (List.mem_cons_of_mem _ hm))
    exact ⟨(d, d'), Rd_part h3 hd, hd'⟩
  | _ :: _ :: _, .int _, _, h, _ => by cases h
  | _ :: _ :: _, .bool, _, h, _ => by cases h
  | _ :: _ :: _, .str, _, h, _ => by cases h
  | _ :: _ :: _, .sl _, _, h, _ => by cases h

theorem arrFit_rd {A : Nat → Prop} {f : CT → TypeId → Bool} {cs : List Value} {n : Nat} {e : TypeId}
    (hf : ∀ t τ cs x, f t τ = true → DataW.trod enc P w base (fun _ => true) held n τ cs = some x → ∃ d, Rd A w t (fun j => cs[j]?) 0 d) :
    ∀ (k : Nat) (t : CT) (i : Nat), arrFit P f e k t = true → (∀ j, i ≤ j → j < i + k → ∃ x, DataW.trod enc P w base (fun _ => true) held n e ((cs.drop (j * P.cellsOf e)).take (P.cellsOf e)) = some x) → ∃ d, Rd A w t (fun j => cs[j]?) (i * P.cellsOf e) d
  | 0, t, i, h, _ => by cases h
  | 1, t, i, h, hx => by
    simp only [arrFit, Bool.and_eq_true] at h
    obtain ⟨h1, h2⟩ := h
    have h2 := Nat.eq_of_beq_eq_true h2
    obtain ⟨x, hx⟩ := hx i (by omega) (by omega)
    obtain ⟨d, hd⟩ := hf t e _ x h1 hx
    exact ⟨d, Rd_part h2 hd⟩
  | k + 2, .pair a b, i, h, hx => by
    simp only [arrFit, Bool.and_eq_true] at h
    obtain ⟨⟨h1, h2⟩, h4⟩ := h
    have h2 := Nat.eq_of_beq_eq_true h2
    obtain ⟨x, hx1⟩ := hx i (by omega) (by omega)
    obtain ⟨d, hd⟩ := hf a e _ x h1 hx1
    obtain ⟨d', hd'⟩ := arrFit_rd hf (k + 1) b (i + 1) h4 (fun j h1 h2 => hx j (by omega) (by omega))
    refine ⟨(d, d'), Rd_part h2 hd, ?_⟩
    rw [Nat.add_mul, Nat.one_mul] at hd'
    rw [← h2]; exact hd'
  | _ + 2, .int _, _, h, _ => by cases h
  | _ + 2, .bool, _, h, _ => by cases h
  | _ + 2, .str, _, h, _ => by cases h
  | _ + 2, .sl _, _, h, _ => by cases h

theorem list_of {α : Type} (n : Nat) (p : Nat → α → Prop) (h : ∀ i, i < n → ∃ a, p i a) : ∃ l : List α, l.length = n ∧ ∀ i (hi : i < l.length), p i l[i] := by
  induction n with
  | zero => exact ⟨[], rfl, fun i hi => by simp at hi⟩
  | succ n ih =>
    obtain ⟨l, hl, hp⟩ := ih fun i hi => h i (by omega)
    obtain ⟨a, ha⟩ := h n (by omega)
    refine ⟨l ++ [a], by simp [hl], fun i hi => ?_⟩
    by_cases hlt : i < l.length
    · rw [List.getElem_append_left hlt]; exact hp i hlt
    · have : i = l.length := by simp at hi; omega
      subst this
      simp only [List.getElem_concat_length]
      rw [hl]; exact ha

theorem addr_add (b off n : Nat) : (⟨b, off, none⟩ : Addr).add n = ⟨b, off + n, none⟩ := by
  unfold Addr.add
  split
  · rename_i h; subst h; rfl
  · rfl

theorem lit_has {k : IntKind} {n : Int} (h : (Lit.int k n).wf = true) : k.has n := by
  simp only [Lit.wf, Bool.and_eq_true, decide_eq_true_eq] at h; exact h

theorem trod_rd : ∀ (n : Nat) (t : CT) (τ : TypeId) (fuel : Nat) (cs : List Value) (x : DataW H × List MemPlace), fitsT P n t τ = true → DataW.trod enc P w base (fun _ => true) held fuel τ cs = some x →
    ∃ d, Rd (fun b => b < w.heap.size) w t (fun j => cs[j]?) 0 d
  | 0, t, τ, fuel, cs, x, h, _ => by cases h
  | n + 1, t, τ, fuel, cs, x, h, hx => by
    unfold fitsT at h
    split at h
    · rename_i k k' hu
      cases kEq_eq h
      obtain ⟨m, rfl, _, hw⟩ := DataW.trod_int hu hx
      exact ⟨m, by simp, lit_has hw⟩
    · rename_i hu
      obtain ⟨b, rfl, _⟩ := DataW.trod_bool hu hx
      exact ⟨b, by simp [Rd]⟩
    · rename_i hu
      obtain ⟨s, rfl, _, hs⟩ := DataW.trod_string hu hx
      exact ⟨s, by simp, hs⟩
    · rename_i e u hu
      simp only [Bool.and_eq_true] at h
      obtain ⟨h1, h2⟩ := h
      have h2 := Nat.eq_of_beq_eq_true h2
      rcases DataW.trod_slice hu hx with ⟨rfl, _⟩ | ⟨a, len, cap, elems, rest, m, _, rfl, _, _, hl, hm, hlen, hel, hsp, _⟩
      · exact ⟨[], Rd_sl.2 ⟨_, rfl, by simp, .inl ⟨⟨_, rfl⟩, rfl⟩⟩⟩
      · have hcap := (hsp rfl)
        by_cases h0 : cap = 0
        · have : len = 0 := by omega
          subst this h0
          exact ⟨[], Rd_sl.2 ⟨_, rfl, by simp, .inl ⟨⟨_, rfl⟩, rfl⟩⟩⟩
        · -- the cells that are there
          have first : ∃ v, w.cell? a = some v := by
            have hb : ∃ cs', w.cells? base (a.add 0) (P.cellsOf e) = some cs' := by
              by_cases hl0 : 0 < len
              · have := hel 0 hl0
                rw [Nat.zero_mul] at this
                have hs : ∃ y, elems[0]? = some y := ⟨_, List.getElem?_eq_getElem (by omega)⟩
                obtain ⟨y, hy⟩ := hs
                rw [hy, Option.bind_eq_some_iff] at this
                obtain ⟨cs', hcs, _⟩ := this
                exact ⟨cs', hcs⟩
              · have := hcap.2 0 (by omega)
                have hz : (len + 0) * P.cellsOf e = 0 := by
                  have : len = 0 := by omega
                  subst this; simp
                rw [hz] at this
                have hs : ∃ y, rest[0]? = some y := ⟨_, List.getElem?_eq_getElem (by omega)⟩
                obtain ⟨y, hy⟩ := hs
                rw [hy, Option.bind_eq_some_iff] at this
                obtain ⟨cs', hcs, _⟩ := this
                exact ⟨cs', hcs⟩
            obtain ⟨cs', hcs⟩ := hb
            obtain ⟨_, hl1, hl2⟩ := World.cells?_some hcs
            have hp := u.size_pos
            have := hl2 0 (by omega)
            refine ⟨cs'[0]'(by omega), ?_⟩
            rw [List.getElem?_eq_getElem (by omega)] at this
            simpa [Addr.add] using this
          obtain ⟨v0, hv0⟩ := first
          have hspot := World.cell?_spot hv0
          obtain ⟨b, off, spot⟩ := a
          simp only at hspot
          subst hspot
          have hlt : b < w.heap.size := by
            unfold World.cell? at hv0
            simp only at hv0
            split at hv0
            · rename_i c E sp hb
              exact (Array.getElem?_eq_some_iff.1 hb).1
            · cases hv0
          obtain ⟨xs, hxl, hxp⟩ := list_of len (fun i d => Rd (fun b => b < w.heap.size) w u (fun o => w.cell? ⟨b, o, none⟩) (off + i * u.size) d) fun i hi => by
            have := hel i hi
            rw [List.getElem?_eq_getElem (by omega), Option.bind_eq_some_iff] at this
            obtain ⟨cs', hcs, ht⟩ := this
            obtain ⟨_, hl1, hl2⟩ := World.cells?_some hcs
            obtain ⟨d, hd⟩ := trod_rd n u e _ cs' _ h1 ht
            refine ⟨d, ?_⟩
            have := Rd_shift hd (off + i * u.size)
            rw [Nat.zero_add] at this
            refine Rd_mono (fun _ h => h) (fun _ _ _ => rfl) u _ _ _ _ (fun j hj => ?_) this
            have := hl2 j (by omega)
            rw [addr_add, addr_add, h2] at this
            rw [Nat.add_sub_cancel_left, ← this]
          subst hxl
          exact ⟨xs, Rd_sl.2 ⟨_, rfl, by omega, .inr ⟨b, off, cap, rfl, hl, hm, hlt, fun i hi => hxp i hi⟩⟩⟩
    · rename_i t' fs hu
      obtain ⟨xs, m, _, _, hl, hlen, hf⟩ := DataW.trod_struct hu hx
      refine fieldsFit_rd (n := m) (fun t τ cs x h1 h2 => trod_rd n t τ m cs x h1 h2) fs.toList _ 0 h fun fd hm => ?_
      obtain ⟨i, hi, rfl⟩ := List.mem_iff_getElem.1 hm
      have := hf i fs[i] (Array.getElem?_eq_getElem (by simpa using hi))
      have hi' : i < fs.size := by simpa using hi
      rw [List.getElem?_eq_getElem (by omega)] at this
      exact ⟨_, by simpa using this⟩
    · rename_i t' k e hu
      obtain ⟨xs, m, _, _, hl, hlen, hf⟩ := DataW.trod_array hu hx
      have := arrFit_rd (n := m) (cs := cs) (e := e) (fun t τ cs x h1 h2 => trod_rd n t τ m cs x h1 h2) k _ 0 h fun j _ hj => by
        have := hf j (by omega)
        rw [List.getElem?_eq_getElem (by omega)] at this
        exact ⟨_, this⟩
      simpa using this
    · cases h

/-! ### A law's arguments -/
/-- Each parameter: is it a struct or an array; its data. -/
abbrev LPs := List (Bool × CT)
def lawPs : LPs → List PK
  | [] => []
  | (true, t) :: r => .agg t :: lawPs r
  | (false, t) :: r => .val t :: lawPs r
def lawB : (l : LPs) → BDs (lawPs l)
  | [] => ()
  | (true, _) :: r => lawB r
  | (false, _) :: r => lawB r
/-- A law's contract: it returns true. -/
def lawCt (l : LPs) : Ct := ⟨lawPs l, [.val .bool], fun _ => [], fun _ => ((true, ()), lawB l)⟩

def isAggT (P : Program) (τ : TypeId) : Bool := match P.underlying τ with
  | some (.struct _) => true
  | some (.array _ _) => true
  | _ => false
def flatOne : CT → Bool
  | .pair _ _ => false
  | _ => true
def lawFits (P : Program) : LPs → List TypeId → Bool
  | [], [] => true
  | (b, t) :: r, τ :: τs => (match b, isAggT P τ with | true, true => true | false, false => flatOne t | _, _ => false) && fitsT P 12 t τ && Nat.beq (P.cellsOf τ) t.size && lawFits P r τs
  | _, _ => false

theorem okWide_agg {r : Reach} {b0 : Nat} {τ : TypeId} {v : Value} (h : isAggT P τ = true) (hv : Value.okWide P w r b0 τ v) : ∃ vs, v = .agg vs ∧ vs.size = P.cellsOf τ := by
  unfold isAggT at h
  unfold Value.okWide at hv
  split at h
  · rename_i fs hu; rw [hu] at hv; obtain ⟨cs, h1, h2, _⟩ := hv; exact ⟨cs, h1, h2⟩
  · rename_i fs hu; rw [hu] at hv; obtain ⟨cs, h1, h2, _⟩ := hv; exact ⟨cs, h1, h2⟩
  · cases h

theorem okWide_bool1 {r : Reach} {b0 : Nat} {τ : TypeId} {v : Value} (ht : P.underlying τ = some .bool) (h : Value.okWide P w r b0 τ v) : ∃ b, v = .bool b := by
  simp only [Value.okWide, ht, Cell.okWide] at h
  cases v <;> simp_all [Cell.ok]

theorem okWide_one {r : Reach} {b0 : Nat} {n : Nat} {t : CT} {τ : TypeId} {v : Value} (hf : flatOne t = true) (hq : isAggT P τ = false) (h : fitsT P n t τ = true) (hv : Value.okWide P w r b0 τ v) : v.cells = #[v] := by
  cases n with
  | zero => cases h
  | succ n =>
    unfold fitsT at h
    split at h
    · rename_i k k' hu; obtain ⟨m, rfl⟩ := okWide_int hu hv; rfl
    · rename_i hu; obtain ⟨m, rfl⟩ := okWide_bool1 hu hv; rfl
    · rename_i hu; obtain ⟨m, rfl⟩ := okWide_string hu hv; rfl
    · rename_i e u hu; obtain ⟨a, l, c, rfl⟩ := okWide_slice hu hv; rfl
    · rename_i t' fs hu; unfold isAggT at hq; rw [hu] at hq; cases hq
    · rename_i t' k e hu; unfold isAggT at hq; rw [hu] at hq; cases hq
    · cases h

theorem kEq_refl (k : IntKind) : kEq k k = true := by cases k <;> rfl
theorem castL_refl {t : CT} {xs : List t.D} : castL t t xs = some xs := by unfold castL; rw [dif_pos rfl]

theorem projC_flat {h : Heap} : ∀ (t : CT) (d : t.D) (rest : List SV), (projC t (flat t d ++ rest)).run h = some ((d, rest, []), [])
  | .int k, d, rest => by simp only [flat, List.cons_append, List.nil_append, projC, kEq_refl]; rfl
  | .bool, d, rest => rfl
  | .str, d, rest => rfl
  | .sl t, d, rest => by simp only [flat, List.cons_append, List.nil_append, projC, castL_refl]; rfl
  | .pair a b, d, rest => by
    have bindrun : ∀ {α β : Type} (q : Q α) (f : α → Q β) (x : α) (y : β), q.run h = some (x, []) → (f x).run h = some (y, []) → (q.bind f).run h = some (y, []) := by
      intro α β q
      induction q with
      | ret a => intro f x y h1 h2; simp only [Q.run, Option.some.injEq, Prod.mk.injEq] at h1; rw [← h1.1] at h2; exact h2
      | ask n k ih =>
        intro f x y h1 h2
        simp only [Q.run] at h1
        split at h1
        · simp only [Option.some.injEq, Prod.mk.injEq] at h1
          exact absurd h1.2 (by simp)
        · cases h1
      | fail => intro f x y h1 h2; cases h1
    simp only [flat, List.append_assoc, projC]
    refine bindrun _ _ _ _ (projC_flat a d.1 (flat b d.2 ++ rest)) ?_
    exact bindrun _ _ _ _ (projC_flat b d.2 rest) rfl

theorem Q.bind_run0 {h : Heap} {α : Type u} {β : Type v} (q : Q α) (f : α → Q β) (x : α) (y : β) (h1 : q.run h = some (x, [])) (h2 : (f x).run h = some (y, [])) : (q.bind f).run h = some (y, []) := by
  cases q with
  | ret a => simp only [Q.run, Option.some.injEq, Prod.mk.injEq] at h1; rw [← h1.1] at h2; exact h2
  | ask n k =>
    simp only [Q.run] at h1
    split at h1
    · simp only [Option.some.injEq, Prod.mk.injEq] at h1
      exact absurd h1.2 (by simp)
    · cases h1
  | fail => cases h1

theorem val1_flat {t : CT} (hf : flatOne t = true) (d : t.D) : flat t d = [val1 t d] := by
  cases t <;> first | rfl | cases hf

def lpsOk : LPs → Bool
  | [] => true
  | (b, t) :: r => (b || flatOne t) && lpsOk r

theorem match_law {h : Heap} : ∀ (l : LPs) (d : PDs (lawPs l)), lpsOk l = true → (matchArgs (lawPs l) (argsOf (lawPs l) d 0 0)).run h = some ((d, [], [], []), [])
  | [], d, _ => rfl
  | (true, t) :: r, d, hok => by
    simp only [lpsOk, Bool.and_eq_true] at hok
    simp only [lawPs, argsOf, matchArgs]
    refine Q.bind_run0 _ _ _ _ (by have := projC_flat (h := h) t d.1 []; rw [List.append_nil] at this; exact this) ?_
    exact Q.bind_run0 _ _ _ _ (match_law r d.2 hok.2) rfl
  | (false, t) :: r, d, hok => by
    simp only [lpsOk, Bool.and_eq_true, Bool.false_or] at hok
    simp only [lawPs, argsOf, matchArgs]
    refine Q.bind_run0 _ _ _ _ (by have := projC_flat (h := h) t d.1 []; rw [List.append_nil, val1_flat hok.1] at this; exact this) ?_
    exact Q.bind_run0 _ _ _ _ (match_law r d.2 hok.2) rfl

theorem law_args {r : Reach} {b0 : Nat} : ∀ (l : LPs) (τs : List TypeId) (vs : List Value) (ds : List (DataW H)) (ps : List MemPlace), lawFits P l τs = true → DataW.TrodAll enc P w base (fun _ => true) held τs vs ds ps →
    (∀ (j : Nat) t v, τs[j]? = some t → vs[j]? = some v → Value.okWide P w r b0 t v) → lpsOk l = true ∧ ∃ d : PDs (lawPs l), DenL (fun b => b < w.heap.size) (fun _ => .un) w (argsOf (lawPs l) d 0 0) vs
  | [], [], vs, ds, ps, h, ht, hv => by
    obtain ⟨rfl, _, _⟩ := trodAll_nil ht
    exact ⟨rfl, (), by simp [lawPs, argsOf, DenL]⟩
  | (b, t) :: l, τ :: τs, vs, ds, ps, h, ht, hv => by
    obtain ⟨v, vs', d, ds', p, q, rfl, rfl, rfl, h0, hr⟩ := trodAll_cons ht
    simp only [lawFits, Bool.and_eq_true] at h
    obtain ⟨⟨⟨h1, h2⟩, h3⟩, h4⟩ := h
    have h3 := Nat.eq_of_beq_eq_true h3
    obtain ⟨g1, d2, g2⟩ := law_args l τs vs' ds' q h4 hr (fun j t v ht hv' => hv (j + 1) t v (by simpa using ht) (by simpa using hv'))
    have hv0 := hv 0 τ v rfl rfl
    obtain ⟨fuel, hf⟩ := h0
    obtain ⟨d1, hd1⟩ := trod_rd 12 t τ fuel _ _ h2 hf
    cases b with
    | true =>
      have hag : isAggT P τ = true := by
        cases hq : isAggT P τ with
        | true => rfl
        | false => rw [hq] at h1; cases h1
      obtain ⟨us, rfl, hus⟩ := okWide_agg hag hv0
      refine ⟨by simp [lpsOk, g1], (d1, d2), ?_⟩
      simp only [lawPs, argsOf, DenL, Den]
      refine ⟨_, vs', rfl, ⟨us, rfl, den_flatL (by simpa using hus.trans h3) (by simpa [Value.cells] using hd1)⟩, g2⟩
    | false =>
      have hq : isAggT P τ = false := by
        cases hq : isAggT P τ with
        | true => rw [hq] at h1; cases h1
        | false => rfl
      rw [hq] at h1
      simp only at h1
      refine ⟨by simp [lpsOk, g1, h1], (d1, d2), ?_⟩
      simp only [lawPs, argsOf, DenL]
      have hc := okWide_one h1 hq h2 hv0
      rw [hc] at hd1
      exact ⟨v, vs', rfl, den_flat1 (rest := []) (by simpa using hd1), g2⟩
  | [], _ :: _, _, _, _, h, _, _ => by cases h
  | _ :: _, [], _, _, _, h, _, _ => by cases h

theorem disjN_nil : ∀ (l : List Nat), disjN [] l = true
  | [] => rfl
  | n :: r => by simp [disjN, notIn, disjN_nil r]

/-- What the package-level variables hold. -/
def GlobsOK (w : World) (G : Globs) : Prop := ∀ g x, G g = some x → g < w.heap.size ∧ Rd (fun b => b < w.heap.size) w x.1 (fun o => w.cell? ⟨g, o, none⟩) 0 x.2

/-- **A law that keeps its contract returns true, and writes nothing that was there.** -/
theorem law_walkG {G : Globs} (hG : GlobsOK w G) {f : FuncId} {l : LPs} (ok : SpecOK P G f (lawCt l).spec) {r : Reach} {b0 : Nat} {τs : List TypeId} {args : Array Value} {ds : List (DataW H)} {ps : List MemPlace} (hl : lawFits P l τs = true)
    (ht : DataW.TrodAll enc P w base (fun _ => true) held τs args.toList ds ps) (hv : ∀ (j : Nat) t v, τs.toArray[j]? = some t → args[j]? = some v → Value.okWide P w r b0 t v) :
    Calls P f args w fun e w' => e = .returned (.bool true) ∧ Below w.heap.size w w' := by
  obtain ⟨hok, d, hd⟩ := law_args l τs args.toList ds ps hl ht (fun j t v h1 h2 => hv j t v (by simpa using h1) (by simpa using h2))
  have hkeep : keepF (lawPs l) [.val .bool] = false := by
    have : ∀ l : LPs, psPlain (lawPs l) = true := by
      intro l
      induction l with
      | nil => rfl
      | cons x l ih => obtain ⟨b, t⟩ := x; cases b <;> exact ih
    simp only [keepF, this, rsPlain, CT.plain, Bool.and_self, Bool.not_true]
  have hbU : ∀ nb, boxU (lawPs l) (lawB l) [] nb = [] := by
    intro nb
    induction l with
    | nil => rfl
    | cons x l ih =>
      obtain ⟨b, t⟩ := x
      have : ∀ l : LPs, boxU (lawPs l) (lawB l) [] nb = [] := by
        intro l
        induction l with
        | nil => rfl
        | cons x l ih => obtain ⟨b, t⟩ := x; cases b <;> exact ih
      cases b <;> exact this l
  have hnU : ∀ (l : LPs) nb, newU (lawPs l) (lawB l) nb = [] := by
    intro l nb
    induction l with
    | nil => rfl
    | cons x l ih => obtain ⟨b, t⟩ := x; cases b <;> exact ih
  have hnB : ∀ (l : LPs), nOwnB (lawPs l) = 0 := by
    intro l
    induction l with
    | nil => rfl
    | cons x l ih => obtain ⟨b, t⟩ := x; cases b <;> exact ih
  have hrun : ((lawCt l).spec 0 (argsOf (lawPs l) d 0 0)).run (fun _ => .un) = some (Dl.det [] (.bool true) [], []) := by
    unfold Ct.spec
    refine Q.bind_run0 _ _ _ _ (match_law l d hok) ?_
    simp only [namesOk, somes, List.append_nil, nodupN, disjN, lawCt, retU, hkeep, hbU, hnU, hnB, deadU, resH, resSV, resV, val1, flat, nOwn, askUn]
    rfl
  have m : Mod w ⟨fun _ => False, fun b => b < w.heap.size, G⟩ (fun b => b < w.heap.size) (fun _ => .un) (fun _ => .un) w :=
    ⟨rfl, rfl, rfl, Nat.le_refl _, fun _ _ _ => rfl, fun _ h => h, fun _ => rfl, fun _ _ _ _ h => (by cases h), fun _ _ _ _ _ _ _ h => (by cases h), fun b hb => .inl hb, hG⟩
  have := ok 0 (argsOf (lawPs l) d 0 0) (fun _ => .un) _ _ hrun trivial w _ _ _ w args.toList rfl m hd
  refine Calls.mono this ?_
  rintro e w' ⟨v, rfl, x, A', env', _, hm, _, hden⟩
  simp only [Dl.val, Den] at hden
  exact ⟨by rw [hden], hm.os, hm.tape, hm.output, hm.size, fun k hk => hm.fr k hk (fun h => h)⟩

theorem law_walk {f : FuncId} {l : LPs} (ok : SpecOK P (fun _ => none) f (lawCt l).spec) {r : Reach} {b0 : Nat} {τs : List TypeId} {args : Array Value} {ds : List (DataW H)} {ps : List MemPlace} (hl : lawFits P l τs = true)
    (ht : DataW.TrodAll enc P w base (fun _ => true) held τs args.toList ds ps) (hv : ∀ (j : Nat) t v, τs.toArray[j]? = some t → args[j]? = some v → Value.okWide P w r b0 t v) :
    Calls P f args w fun e w' => e = .returned (.bool true) ∧ Below w.heap.size w w' := law_walkG (fun g x h => by cases h) ok hl ht hv

def tysOk (P : Program) : List TypeId → Bool
  | [] => true
  | t :: r => P.readableRec t && decide (t < P.types.size) && tysOk P r

theorem trodAll_below (hl : laidOutB P = true) : ∀ {τs : List TypeId} {vs : List Value} {ds : List (DataW H)} {ps : List MemPlace} {w' : World}, tysOk P τs = true →
    DataW.TrodAll enc P w 0 (fun _ => true) true τs vs ds ps → Below w.heap.size w w' → DataW.TrodAll enc P w' 0 (fun b => decide (b < w.heap.size)) true τs vs ds ps
  | [], vs, ds, ps, w', _, h, hb => by
    obtain ⟨rfl, rfl, rfl⟩ := trodAll_nil h
    exact trodAll_mk0
  | τ :: τs, vs, ds, ps, w', hr, h, hb => by
    obtain ⟨v, vs', d, ds', p, q, rfl, rfl, rfl, h0, hr'⟩ := trodAll_cons h
    simp only [tysOk, Bool.and_eq_true, decide_eq_true_eq] at hr
    have lt : ∀ x ∈ p, x.block < w.heap.size := by
      obtain ⟨m, hm⟩ := h0
      exact DataW.trod_lt m _ _ _ hm
    exact trodAll_cons_mk (Below.trod hl hr.1.1 hr.1.2 h0 hb lt) (trodAll_below hl hr.2 hr' hb)
end
end Go.SX
