/- SX, part 19: a function's parameters. -/
import Derived.Test.YtnpjmdldhdhdkaaSx18
namespace Go.SX
set_option linter.unusedVariables false

/-- Kinds of parameters: one cell of data; a struct of data; a pointer to a variable that the function may change; a slice whose row it may change. -/
inductive PK where
  | val (t : CT)
  | agg (t : CT)
  | box (E : TypeId) (t : CT)
  | row (E : TypeId) (t : CT)
  | fn (f : FuncId) (k : Nat)
  | nils

@[reducible] def PK.D : PK → Type
  | .val t => t.D
  | .agg t => t.D
  | .box _ t => t.D
  | .row _ t => List t.D
  | .fn _ _ => Unit
  | .nils => Unit
@[reducible] def PDs : List PK → Type
  | [] => Unit
  | p :: r => p.D × PDs r
def PK.wf : (p : PK) → p.D → Prop
  | .val t, d => t.wf d
  | .agg t, d => t.wf d
  | .box _ t, d => t.wf d
  | .row _ t, d => d.length ≤ maxLen ∧ ∀ x ∈ d, t.wf x
  | .fn _ _, _ => True
  | .nils, _ => True
def wfP : (ps : List PK) → PDs ps → Prop
  | [], _ => True
  | p :: r, d => p.wf d.1 ∧ wfP r d.2

/-- For all data, its parts by themselves: of small data. -/
def allS : (t : CT) → (t.D → Prop) → Prop
  | .pair a b, k => allS a fun x => allS b fun y => k (x, y)
  | .int _, k => ∀ x : Int, k x
  | .bool, k => ∀ x : Bool, k x
  | .str, k => ∀ x : ByteArray, k x
  | .sl t, k => ∀ x : List t.D, k x
theorem allS_iff : ∀ {t : CT} {k : t.D → Prop}, allS t k ↔ ∀ d, k d
  | .pair a b, k => by
    simp only [allS, allS_iff (t := a), allS_iff (t := b)]
    exact ⟨fun h d => h d.1 d.2, fun h x y => h (x, y)⟩
  | .int _, k => Iff.rfl
  | .bool, k => Iff.rfl
  | .str, k => Iff.rfl
  | .sl t, k => Iff.rfl
def allD (t : CT) (k : t.D → Prop) : Prop := match Nat.ble t.size 6 with
  | true => allS t k
  | false => ∀ d : t.D, k d
theorem allD_iff {t : CT} {k : t.D → Prop} : allD t k ↔ ∀ d, k d := by
  unfold allD
  split
  · exact allS_iff
  · exact Iff.rfl
def PK.all : (p : PK) → (p.D → Prop) → Prop
  | .val t, k => allD t k
  | .agg t, k => allD t k
  | .box _ t, k => allD t k
  | .row _ t, k => ∀ x : List t.D, k x
  | .fn _ _, k => k ()
  | .nils, k => k ()
theorem PK.all_iff {p : PK} {k : p.D → Prop} : p.all k ↔ ∀ d, k d := by
  cases p <;> simp only [PK.all, allD_iff] <;> exact ⟨fun h _ => h, fun h => h ()⟩
def allP : (ps : List PK) → (PDs ps → Prop) → Prop
  | [], k => k ()
  | p :: r, k => p.all fun x => allP r fun y => k (x, y)
theorem allP_iff : ∀ {ps : List PK} {k : PDs ps → Prop}, allP ps k ↔ ∀ d, k d
  | [], k => ⟨fun h d => h, fun h => h ()⟩
  | p :: r, k => by
    simp only [allP, PK.all_iff, allP_iff (ps := r)]
    exact ⟨fun h d => h d.1 d.2, fun h x y => h (x, y)⟩

def val1 (t : CT) (d : t.D) : SV := match flat t d with
  | [s] => s
  | _ => .junk

/-- The data of the arguments; rows that must be immutable while the callee runs; the blocks that it may change. -/
def matchArgs : (ps : List PK) → List SV → Q (PDs ps × List (Nat × Nm) × List Nat)
  | [], [] => .ret ((), [], [])
  | .val t :: ps, v :: vs => (projC t [v]).bind fun p => match p.2.1 with
    | [] => (matchArgs ps vs).bind fun q => .ret ((p.1, q.1), p.2.2 ++ q.2.1, q.2.2)
    | _ => .fail
  | .agg t :: ps, .agg cs :: vs => (projC t cs).bind fun p => match p.2.1 with
    | [] => (matchArgs ps vs).bind fun q => .ret ((p.1, q.1), p.2.2 ++ q.2.1, q.2.2)
    | _ => .fail
  | .nils :: ps, .nilsl :: vs => (matchArgs ps vs).bind fun q => .ret (((), q.1), q.2.1, q.2.2)
  | .fn f k :: ps, .fn g cs :: vs => match Nat.beq f g, Nat.beq cs.length k with
    | true, true => (matchArgs ps (cs ++ vs)).bind fun q => .ret (((), q.1), q.2.1, q.2.2)
    | _, _ => .fail
  | .box E t :: ps, .ptr n 0 :: vs => .ask n fun
    | .live (.cells E' cs) => match Nat.beq E E' with
      | true => (projC t cs).bind fun p => match p.2.1 with
        | [] => (matchArgs ps vs).bind fun q => .ret ((p.1, q.1), p.2.2 ++ q.2.1, n :: q.2.2)
        | _ => .fail
      | false => .fail
    | _ => .fail
  | .row E t :: ps, .own n sz :: vs => .ask n fun
    | .live (.row E' t' xs) => match Nat.beq E E', Nat.beq sz t.size, castL t' t xs with
      | true, true, some ys => (matchArgs ps vs).bind fun q => .ret ((ys, q.1), q.2.1, n :: q.2.2)
      | _, _, _ => .fail
    | _ => .fail
  | _, _ => .fail

/-- The callee's view. -/
def argsOf : (ps : List PK) → PDs ps → Nat → List SV
  | [], _, _ => []
  | .val t :: ps, d, j => val1 t d.1 :: argsOf ps d.2 j
  | .agg t :: ps, d, j => .agg (flat t d.1) :: argsOf ps d.2 j
  | .box E t :: ps, d, j => .ptr (PN + j) 0 :: argsOf ps d.2 (j + 1)
  | .row E t :: ps, d, j => .own (PN + j) t.size :: argsOf ps d.2 (j + 1)
  | .fn f k :: ps, d, j => .fn f ((argsOf ps d.2 j).take k) :: (argsOf ps d.2 j).drop k
  | .nils :: ps, d, j => .nilsl :: argsOf ps d.2 j
def boxesOf : (ps : List PK) → PDs ps → Nat → List (Nat × Nm)
  | [], _, _ => []
  | .val t :: ps, d, j => boxesOf ps d.2 j
  | .agg t :: ps, d, j => boxesOf ps d.2 j
  | .box E t :: ps, d, j => (PN + j, .live (.cells E (flat t d.1))) :: boxesOf ps d.2 (j + 1)
  | .row E t :: ps, d, j => (PN + j, .live (.row E t d.1)) :: boxesOf ps d.2 (j + 1)
  | .fn f k :: ps, d, j => boxesOf ps d.2 j
  | .nils :: ps, d, j => boxesOf ps d.2 j

section
variable {w0 : World} {N0 : Old} {A Ac : Nat → Prop} {env envc : Env} {h : Heap} {w : World}

/-- What the callee may change: of the caller's blocks 'bx', in the callee's view 'l'. -/
def BoxOK (Ac : Nat → Prop) (env : Env) (h : Heap) (w : World) : List Nat → List (Nat × Nm) → Nat → Prop
  | [], [], _ => True
  | n :: bx, (m, x) :: l, j => (m = PN + j ∧ ∃ b b', h n = .live b ∧ b.mut = true ∧ x = .live b' ∧ b'.mut = true ∧ ((∃ k len, env n = .blk k len ∧ ∀ e, BlkDen Ac e w k len b') ∨ (env n = .nil ∧ ∃ E t, b' = .row E t []))) ∧ BoxOK Ac env h w bx l (j + 1)
  | _, _, _ => False

theorem den_flat1 {t : CT} {d : t.D} {v : Value} {rest : List SV} (hr : Rd A w t (fun j => [v][j]?) 0 d) : Den A env w (val1 t d) v := by
  obtain ⟨vs, hl, hc, hd⟩ := flat_den (env := env) t d _ 0 hr
  unfold val1
  split
  · rename_i s hs
    rw [hs] at hd
    simp only [DenL] at hd
    obtain ⟨u, r, rfl, hu, rfl⟩ := hd
    have h0 := hc 0 t.size_pos
    simp at h0
    rw [h0]; exact hu
  · simp only [Den]

theorem den_flatL {t : CT} {d : t.D} {vs : List Value} (hl : vs.length = t.size) (hr : Rd A w t (fun j => vs[j]?) 0 d) : DenL A env w (flat t d) vs := by
  obtain ⟨us, hlu, hc, hd⟩ := flat_den (env := env) t d _ 0 hr
  have : us = vs := by
    apply List.ext_getElem?
    intro j
    by_cases hj : j < t.size
    · have := hc j hj
      simpa using this.symm
    · rw [List.getElem?_eq_none (by omega), List.getElem?_eq_none (by omega)]
  rw [← this]; exact hd

theorem row_wf {k len : Nat} {E : TypeId} {t : CT} {xs : List t.D} (hr : RowDen A w k len E t xs) : xs.length ≤ maxLen ∧ ∀ x ∈ xs, t.wf x := by
  obtain ⟨vs, cap, _, _, h2, h3, h4, h5⟩ := hr
  refine ⟨by omega, fun x hx => ?_⟩
  obtain ⟨i, hi, rfl⟩ := List.mem_iff_getElem.1 hx
  exact Rd_wf _ _ _ _ (h5 i hi)

theorem matchArgs_agg {t : CT} {ps : List PK} {svs : List SV} {x} (e : (matchArgs (.agg t :: ps) svs).run h = some x) : ∃ cs r, svs = .agg cs :: r := by
  cases svs with
  | nil => cases e
  | cons s r => cases s <;> first | exact ⟨_, _, rfl⟩ | cases e
theorem matchArgs_box {E : TypeId} {t : CT} {ps : List PK} {svs : List SV} {x} (e : (matchArgs (.box E t :: ps) svs).run h = some x) : ∃ n r, svs = .ptr n 0 :: r := by
  cases svs with
  | nil => cases e
  | cons s r =>
    cases s with
    | ptr n off => cases off with
      | zero => exact ⟨_, _, rfl⟩
      | succ k => cases e
    | _ => cases e
theorem matchArgs_row {E : TypeId} {t : CT} {ps : List PK} {svs : List SV} {x} (e : (matchArgs (.row E t :: ps) svs).run h = some x) : ∃ n sz r, svs = .own n sz :: r := by
  cases svs with
  | nil => cases e
  | cons s r => cases s <;> first | exact ⟨_, _, _, rfl⟩ | cases e

theorem matchArgs_nils {ps : List PK} {svs : List SV} {x} (e : (matchArgs (.nils :: ps) svs).run h = some x) : ∃ r, svs = .nilsl :: r := by
  cases svs with
  | nil => cases e
  | cons s r => cases s <;> first | exact ⟨_, rfl⟩ | cases e
theorem matchArgs_fn {f : FuncId} {k : Nat} {ps : List PK} {svs : List SV} {x} (e : (matchArgs (.fn f k :: ps) svs).run h = some x) : ∃ g cs r, svs = .fn g cs :: r := by
  cases svs with
  | nil => cases e
  | cons s r => cases s <;> first | exact ⟨_, _, _, rfl⟩ | cases e

theorem matchArgs_sound (m : Mod w0 N0 A env h w) : ∀ (ps : List PK) (svs : List SV) (vs : List Value) (d : PDs ps) (fz : List (Nat × Nm)) (bx : List Nat) (r : List Nat) (j : Nat),
    (matchArgs ps svs).run h = some ((d, fz, bx), r) → DenL A env w svs vs → (∀ b, A b → Ac b) → (∀ k, FrzBlk env fz k → Ac k) →
    FrzOk h fz ∧ (∀ n b, (n, b) ∈ fz → n ∈ r) ∧ (∀ n, n ∈ bx → n ∈ r) ∧ wfP ps d ∧ BoxOK Ac env h w bx (boxesOf ps d j) j ∧
      ((∀ i n, bx[i]? = some n → envc (PN + (j + i)) = env n) → DenL Ac envc w (argsOf ps d j) vs)
  | [], [], vs, d, fz, bx, r, j, e, hd, hA, hF => by
    simp only [matchArgs, Q.run, Option.some.injEq, Prod.mk.injEq] at e
    obtain ⟨⟨-, rfl, rfl⟩, rfl⟩ := e
    exact ⟨fun n b hh => by simp at hh, fun n b hh => by simp at hh, fun n hh => by simp at hh, trivial, trivial, fun _ => by simpa [argsOf, DenL] using hd⟩
  | .val t :: ps, v :: svs, vs, d, fz, bx, r, j, e, hd, hA, hF => by
    simp only [matchArgs] at e
    obtain ⟨⟨d1, r1, f1⟩, q1, q2, e1, e2, rfl⟩ := Q.run_bind _ _ _ e
    split at e2
    · rename_i hr1
      simp only at hr1
      subst hr1
      obtain ⟨⟨d2, f2, b2⟩, q3, q4, e3, e4, rfl⟩ := Q.run_bind _ _ _ e2
      simp only [Q.run, Option.some.injEq, Prod.mk.injEq] at e4
      obtain ⟨⟨rfl, rfl, rfl⟩, rfl⟩ := e4
      simp only [DenL] at hd
      obtain ⟨x, vr, rfl, hx, hr⟩ := hd
      have hF1 : ∀ k, FrzBlk env f1 k → Ac k := fun k ⟨n, x, l, hx, he⟩ => hF k ⟨n, x, l, List.mem_append_left _ hx, he⟩
      have hF2 : ∀ k, FrzBlk env f2 k → Ac k := fun k ⟨n, x, l, hx, he⟩ => hF k ⟨n, x, l, List.mem_append_right _ hx, he⟩
      obtain ⟨p1, p2, p3, p4, _⟩ := projC_sound m t [v] [x] d1 [] f1 q1 e1 (by simp only [DenL]; exact ⟨x, [], rfl, hx, rfl⟩) hA hF1
      obtain ⟨s1, s2, s3, s4, s5, s6⟩ := matchArgs_sound m ps svs vr d2 f2 b2 q3 j e3 hr hA hF2
      refine ⟨fun n b hh => ?_, fun n b hh => ?_, fun n hh => ?_, ⟨Rd_wf _ _ _ _ p4, s4⟩, s5, fun he => ?_⟩
      · rcases List.mem_append.1 hh with hh | hh
        · exact p1 n b hh
        · exact s1 n b hh
      · rcases List.mem_append.1 hh with hh | hh
        · exact List.mem_append_left _ (p2 n b hh)
        · exact List.mem_append_right _ (List.mem_append_left _ (s2 n b hh))
      · exact List.mem_append_right _ (List.mem_append_left _ (s3 n hh))
      · simp only [argsOf, DenL]
        exact ⟨x, vr, rfl, den_flat1 (rest := []) p4, s6 he⟩
    · cases e2
  | .nils :: ps, svs0, vs, d, fz, bx, r, j, e, hd, hA, hF => by
    obtain ⟨svs, rfl⟩ := matchArgs_nils e
    simp only [matchArgs] at e
    obtain ⟨⟨d2, f2, b2⟩, q3, q4, e3, e4, rfl⟩ := Q.run_bind _ _ _ e
    simp only [Q.run, Option.some.injEq, Prod.mk.injEq] at e4
    obtain ⟨⟨rfl, rfl, rfl⟩, rfl⟩ := e4
    simp only [DenL, Den] at hd
    obtain ⟨x, vr, rfl, rfl, hr⟩ := hd
    obtain ⟨s1, s2, s3, s4, s5, s6⟩ := matchArgs_sound m ps svs vr d2 f2 b2 q3 j e3 hr hA hF
    refine ⟨s1, fun n b hh => List.mem_append_left _ (s2 n b hh), fun n hh => List.mem_append_left _ (s3 n hh), ⟨trivial, s4⟩, s5, fun he => ?_⟩
    simp only [argsOf, DenL, Den]
    exact ⟨_, vr, rfl, rfl, s6 he⟩
  | .fn f k :: ps, svs0, vs, d, fz, bx, r, j, e, hd, hA, hF => by
    obtain ⟨g, cs, svs, rfl⟩ := matchArgs_fn e
    simp only [matchArgs] at e
    split at e
    · rename_i hf hk
      have hf := Nat.eq_of_beq_eq_true hf
      have hk := Nat.eq_of_beq_eq_true hk
      subst hf
      obtain ⟨⟨d2, f2, b2⟩, q3, q4, e3, e4, rfl⟩ := Q.run_bind _ _ _ e
      simp only [Q.run, Option.some.injEq, Prod.mk.injEq] at e4
      obtain ⟨⟨rfl, rfl, rfl⟩, rfl⟩ := e4
      simp only [DenL, Den] at hd
      obtain ⟨x, vr, rfl, ⟨us, rfl, hu⟩, hr⟩ := hd
      have hul := DenL_length hu
      obtain ⟨s1, s2, s3, s4, s5, s6⟩ := matchArgs_sound m ps (cs ++ svs) (us.toList ++ vr) d2 f2 b2 q3 j e3 (DenL_append hu hr) hA hF
      refine ⟨s1, fun n b hh => List.mem_append_left _ (s2 n b hh), fun n hh => List.mem_append_left _ (s3 n hh), ⟨trivial, s4⟩, s5, fun he => ?_⟩
      have h6 := s6 he
      simp only [argsOf, DenL, Den]
      refine ⟨_, vr, rfl, ⟨us, rfl, ?_⟩, ?_⟩
      · have := DenL_take k h6
        rwa [List.take_left' (by omega)] at this
      · have := DenL_drop k h6
        rwa [List.drop_left' (by omega)] at this
    · cases e
  | .agg t :: ps, svs0, vs, d, fz, bx, r, j, e, hd, hA, hF => by
    obtain ⟨cs, svs, rfl⟩ := matchArgs_agg e
    simp only [matchArgs] at e
    obtain ⟨⟨d1, r1, f1⟩, q1, q2, e1, e2, rfl⟩ := Q.run_bind _ _ _ e
    split at e2
    · rename_i hr1
      simp only at hr1
      subst hr1
      obtain ⟨⟨d2, f2, b2⟩, q3, q4, e3, e4, rfl⟩ := Q.run_bind _ _ _ e2
      simp only [Q.run, Option.some.injEq, Prod.mk.injEq] at e4
      obtain ⟨⟨rfl, rfl, rfl⟩, rfl⟩ := e4
      simp only [DenL, Den] at hd
      obtain ⟨x, vr, rfl, ⟨us, rfl, hx⟩, hr⟩ := hd
      have hF1 : ∀ k, FrzBlk env f1 k → Ac k := fun k ⟨n, x, l, hx, he⟩ => hF k ⟨n, x, l, List.mem_append_left _ hx, he⟩
      have hF2 : ∀ k, FrzBlk env f2 k → Ac k := fun k ⟨n, x, l, hx, he⟩ => hF k ⟨n, x, l, List.mem_append_right _ hx, he⟩
      obtain ⟨p1, p2, p3, p4, _⟩ := projC_sound m t cs us.toList d1 [] f1 q1 e1 hx hA hF1
      obtain ⟨s1, s2, s3, s4, s5, s6⟩ := matchArgs_sound m ps svs vr d2 f2 b2 q3 j e3 hr hA hF2
      refine ⟨fun n b hh => ?_, fun n b hh => ?_, fun n hh => ?_, ⟨Rd_wf _ _ _ _ p4, s4⟩, s5, fun he => ?_⟩
      · rcases List.mem_append.1 hh with hh | hh
        · exact p1 n b hh
        · exact s1 n b hh
      · rcases List.mem_append.1 hh with hh | hh
        · exact List.mem_append_left _ (p2 n b hh)
        · exact List.mem_append_right _ (List.mem_append_left _ (s2 n b hh))
      · exact List.mem_append_right _ (List.mem_append_left _ (s3 n hh))
      · simp only [argsOf, DenL, Den]
        exact ⟨_, vr, rfl, ⟨us, rfl, den_flatL (by simpa using p3) p4⟩, s6 he⟩
    · cases e2
  | .box E t :: ps, svs0, vs, d, fz, bx, r, j, e, hd, hA, hF => by
    obtain ⟨n, svs, rfl⟩ := matchArgs_box e
    simp only [matchArgs, Q.run] at e
    split at e
    · rename_i p0 q0 hk
      simp only [Option.some.injEq, Prod.mk.injEq] at e
      obtain ⟨rfl, rfl⟩ := e
      split at hk
      · rename_i E' cs hl
        split at hk
        · rename_i hE
          have hE := Nat.eq_of_beq_eq_true hE
          subst hE
          obtain ⟨⟨d1, r1, f1⟩, q1, q2, e1, e2, rfl⟩ := Q.run_bind _ _ _ hk
          split at e2
          · rename_i hr1
            simp only at hr1
            subst hr1
            obtain ⟨⟨d2, f2, b2⟩, q3, q4, e3, e4, rfl⟩ := Q.run_bind _ _ _ e2
            simp only [Q.run, Option.some.injEq, Prod.mk.injEq] at e4
            obtain ⟨⟨rfl, rfl, rfl⟩, rfl⟩ := e4
            simp only [DenL, Den] at hd
            obtain ⟨x, vr, rfl, ⟨k, len, hek, rfl⟩, hr⟩ := hd
            have hb := (m.live_blk hl hek).1
            obtain ⟨us, hus, hdu⟩ := hb
            have hF1 : ∀ k, FrzBlk env f1 k → Ac k := fun k ⟨n, x, l, hx, he⟩ => hF k ⟨n, x, l, List.mem_append_left _ hx, he⟩
            have hF2 : ∀ k, FrzBlk env f2 k → Ac k := fun k ⟨n, x, l, hx, he⟩ => hF k ⟨n, x, l, List.mem_append_right _ hx, he⟩
            obtain ⟨p1, p2, p3, p4, _⟩ := projC_sound m t cs us.toList d1 [] f1 q1 e1 hdu hA hF1
            obtain ⟨s1, s2, s3, s4, s5, s6⟩ := matchArgs_sound m ps svs vr d2 f2 b2 q3 (j + 1) e3 hr hA hF2
            refine ⟨fun n b hh => ?_, fun n b hh => ?_, fun n hh => ?_, ⟨Rd_wf _ _ _ _ p4, s4⟩, ⟨⟨rfl, _, _, hl, rfl, rfl, rfl, .inl ⟨k, len, hek, fun e => ⟨us, hus, den_flatL (by simpa using p3) p4⟩⟩⟩, s5⟩, fun he => ?_⟩
            · rcases List.mem_append.1 hh with hh | hh
              · exact p1 n b hh
              · exact s1 n b hh
            · refine List.mem_cons_of_mem _ ?_
              rcases List.mem_append.1 hh with hh | hh
              · exact List.mem_append_left _ (p2 n b hh)
              · exact List.mem_append_right _ (List.mem_append_left _ (s2 n b hh))
            · rcases List.mem_cons.1 hh with rfl | hh
              · exact List.mem_cons_self ..
              · exact List.mem_cons_of_mem _ (List.mem_append_right _ (List.mem_append_left _ (s3 _ hh)))
            · simp only [argsOf, DenL, Den]
              refine ⟨_, vr, rfl, ⟨k, len, ?_, rfl⟩, s6 fun i n hi => ?_⟩
              · have := he 0 n (by simp)
                simp only [Nat.add_zero] at this
                rw [this]; exact hek
              · have := he (i + 1) n (by simpa using hi)
                rwa [show j + (i + 1) = j + 1 + i from by omega] at this
          · cases e2
        · cases hk
      · cases hk
    · cases e
  | .row E t :: ps, svs0, vs, d, fz, bx, r, j, e, hd, hA, hF => by
    obtain ⟨n, sz, svs, rfl⟩ := matchArgs_row e
    simp only [matchArgs, Q.run] at e
    split at e
    · rename_i p0 q0 hk
      simp only [Option.some.injEq, Prod.mk.injEq] at e
      obtain ⟨rfl, rfl⟩ := e
      split at hk
      · rename_i E' t' xs hl
        split at hk
        · rename_i ys hE hsz hc
          have hE := Nat.eq_of_beq_eq_true hE
          subst hE
          have hsz := Nat.eq_of_beq_eq_true hsz
          subst hsz
          obtain ⟨et, ez⟩ := castL_eq hc
          subst et
          simp only at ez
          subst ez
          obtain ⟨⟨d2, f2, b2⟩, q3, q4, e3, e4, rfl⟩ := Q.run_bind _ _ _ hk
          simp only [Q.run, Option.some.injEq, Prod.mk.injEq] at e4
          obtain ⟨⟨rfl, rfl, rfl⟩, rfl⟩ := e4
          simp only [DenL, Den] at hd
          obtain ⟨x, vr, rfl, hv, hr⟩ := hd
          obtain ⟨s1, s2, s3, s4, s5, s6⟩ := matchArgs_sound m ps svs vr d2 f2 b2 q3 (j + 1) e3 hr hA hF
          have hm := m.nm n
          rw [hl] at hm
          have hbox : (ys.length ≤ maxLen ∧ ∀ x ∈ ys, t'.wf x) ∧ ((∃ k len, env n = .blk k len ∧ ∀ e, BlkDen Ac e w k len (.row E t' ys)) ∨ (env n = .nil ∧ ∃ E2 t2, Blk.row E t' ys = .row E2 t2 [])) := by
            rcases hm with ⟨k, len, hek, hb, _⟩ | ⟨hen, E2, t2, hb⟩
            · refine ⟨row_wf hb, .inl ⟨k, len, hek, fun e => ?_⟩⟩
              obtain ⟨us, cap, g1, g2, g3, g4, g5, g6⟩ := hb
              exact ⟨us, cap, g1, g2, g3, g4, g5, fun i hi => Rd_mono hA (fun _ _ _ => rfl) _ _ _ _ _ (fun _ _ => rfl) (g6 i hi)⟩
            · rcases hb with hb | hb
              · cases hb; exact ⟨⟨by simp, by simp⟩, .inr ⟨hen, _, _, rfl⟩⟩
              · cases hb
          refine ⟨s1, fun n b hh => List.mem_cons_of_mem _ (List.mem_append_left _ (s2 n b hh)), fun n hh => ?_, ⟨hbox.1, s4⟩, ⟨⟨rfl, _, _, hl, rfl, rfl, rfl, hbox.2⟩, s5⟩, fun he => ?_⟩
          · rcases List.mem_cons.1 hh with rfl | hh
            · exact List.mem_cons_self ..
            · exact List.mem_cons_of_mem _ (List.mem_append_left _ (s3 _ hh))
          · simp only [argsOf, DenL, Den]
            have h0 := he 0 n (by simp)
            simp only [Nat.add_zero] at h0
            refine ⟨_, vr, rfl, ?_, s6 fun i n hi => ?_⟩
            · rw [h0]; exact hv
            · have := he (i + 1) n (by simpa using hi)
              rwa [show j + (i + 1) = j + 1 + i from by omega] at this
        · cases hk
      · cases hk
    · cases e
  | [], _ :: _, _, _, _, _, _, _, e, _, _, _ => by simp [matchArgs, Q.run] at e
  | .val _ :: _, [], _, _, _, _, _, _, e, _, _, _ => by simp [matchArgs, Q.run] at e
end
end Go.SX
