/- SX, part 21: a function's contract, off its symbolic run. -/
import Derived.Test.YtnpjmdldhdhdkaaSx20
import Derived.Laws.Sem
import Derived.Laws.NewBlocks
namespace Go.SX
set_option linter.unusedVariables false

def CT.plain : CT → Bool
  | .sl _ => false
  | .pair a b => a.plain && b.plain
  | _ => true

theorem Rd_plain {A A' : Nat → Prop} {w w' : World} : ∀ {t : CT} {cv : Nat → Option Value} {o : Nat} {d : t.D}, t.plain = true → Rd A w t cv o d → Rd A' w' t cv o d
  | .int k, cv, o, d, _, h => h
  | .bool, cv, o, d, _, h => h
  | .str, cv, o, d, _, h => h
  | .sl t, cv, o, d, hp, _ => by cases hp
  | .pair a b, cv, o, d, hp, h => by
    simp only [CT.plain, Bool.and_eq_true] at hp
    exact ⟨Rd_plain hp.1 h.1, Rd_plain hp.2 h.2⟩

theorem Rd_lift {A A' : Nat → Prop} {w : World} {t : CT} {cv : Nat → Option Value} {o : Nat} {d : t.D} (L : t.plain = true ∨ ∀ b, A b → A' b) (h : Rd A w t cv o d) : Rd A' w t cv o d := by
  rcases L with L | L
  · exact Rd_plain L h
  · exact Rd_mono L (fun _ _ _ => rfl) t _ _ _ _ (fun _ _ => rfl) h

theorem RowDen_lift {A A' : Nat → Prop} {w : World} {k len : Nat} {E : TypeId} {t : CT} {xs : List t.D} (L : t.plain = true ∨ ∀ b, A b → A' b) (h : RowDen A w k len E t xs) : RowDen A' w k len E t xs := by
  obtain ⟨vs, cap, g1, g2, g3, g4, g5, g6⟩ := h
  exact ⟨vs, cap, g1, g2, g3, g4, g5, fun i hi => Rd_lift L (g6 i hi)⟩

/-- Kinds of results: one cell of data; a struct of data; a slice of a new row. -/
inductive RK where
  | val (t : CT)
  | agg (t : CT)
  | own (E : TypeId) (t : CT)
  | box (E : TypeId) (t : CT)
@[reducible] def RK.D : RK → Type
  | .val t => t.D
  | .agg t => t.D
  | .own _ t => List t.D
  | .box _ t => t.D
@[reducible] def RDs : List RK → Type
  | [] => Unit
  | p :: r => p.D × RDs r
/-- What stands in the variables behind the pointers, and in the rows. -/
@[reducible] def BDs : List PK → Type
  | [] => Unit
  | .val _ :: r => BDs r
  | .agg _ :: r => BDs r
  | .fn _ _ :: r => BDs r
  | .nils :: r => BDs r
  | .box _ t :: r => t.D × BDs r
  | .row _ t :: r => List t.D × BDs r

def rsPlain : List RK → Bool
  | [] => true
  | .val t :: r => t.plain && rsPlain r
  | .agg t :: r => t.plain && rsPlain r
  | .own _ t :: r => t.plain && rsPlain r
  | .box _ t :: r => t.plain && rsPlain r
def psPlain : List PK → Bool
  | [] => true
  | .val _ :: r => psPlain r
  | .agg _ :: r => psPlain r
  | .fn _ _ :: r => psPlain r
  | .nils :: r => psPlain r
  | .box _ t :: r => t.plain && psPlain r
  | .row _ t :: r => t.plain && psPlain r

/-- A contract: 'out': what the function computes, and what then stands in the variables that it may change. -/
structure Ct where
  ps : List PK
  rs : List RK
  pre : PDs ps → List Prop
  out : PDs ps → RDs rs × BDs ps

/-! ### At the end of the callee -/
def outR : (rs : List RK) → List SV → Heap → Option (RDs rs × List (Nat × Nm) × List (Option Nat))
  | [], [], _ => some ((), [], [])
  | .val t :: rs, v :: vs, h => match (projC t [v]).run h with
    | some ((x, [], fz), _) => match outR rs vs h with
      | some (y, f, o) => some ((x, y), fz ++ f, o)
      | none => none
    | _ => none
  | .agg t :: rs, .agg cs :: vs, h => match (projC t cs).run h with
    | some ((x, [], fz), _) => match outR rs vs h with
      | some (y, f, o) => some ((x, y), fz ++ f, o)
      | none => none
    | _ => none
  | .own E t :: rs, .own m sz :: vs, h => match h m with
    | .live (.row E' t' xs) => match Nat.beq E E', Nat.beq sz t.size, castL t' t xs with
      | true, true, some ys => match outR rs vs h with
        | some (y, f, o) => some ((ys, y), f, some m :: o)
        | none => none
      | _, _, _ => none
    | _ => none
  | .own E t :: rs, .nilsl :: vs, h => match outR rs vs h with
    | some (y, f, o) => some (([], y), f, none :: o)
    | none => none
  | .box E t :: rs, .ptr m 0 :: vs, h => match h m with
    | .live (.cells E' cs) => match Nat.beq E E', (projC t cs).run h with
      | true, some ((x, [], fz), _) => match outR rs vs h with
        | some (y, f, o) => some ((x, y), fz ++ f, some m :: o)
        | none => none
      | _, _ => none
    | _ => none
  | _, _, _ => none

def outB : (ps : List PK) → Nat → Heap → Option (BDs ps × List (Nat × Nm))
  | [], _, _ => some ((), [])
  | .val _ :: ps, j, h => outB ps j h
  | .agg _ :: ps, j, h => outB ps j h
  | .fn _ _ :: ps, j, h => outB ps j h
  | .nils :: ps, j, h => outB ps j h
  | .box E t :: ps, j, h => match h (PN + j) with
    | .live (.cells E' cs) => match Nat.beq E E', (projC t cs).run h with
      | true, some ((x, [], fz), _) => match outB ps (j + 1) h with
        | some (y, f) => some ((x, y), fz ++ f)
        | none => none
      | _, _ => none
    | _ => none
  | .row E t :: ps, j, h => match h (PN + j) with
    | .live (.row E' t' xs) => match Nat.beq E E', castL t' t xs with
      | true, some ys => match outB ps (j + 1) h with
        | some (y, f) => some ((ys, y), f)
        | none => none
      | _, _ => none
    | _ => none

def memO (n : Nat) : List (Option Nat) → Bool
  | [] => false
  | some m :: r => Nat.beq n m || memO n r
  | none :: r => memO n r
def ownOk (fz : List (Nat × Nm)) : List (Option Nat) → Bool
  | [] => true
  | none :: r => ownOk fz r
  | some m :: r => Nat.blt m PN && notIn m fz && !memO m r && ownOk fz r
def allLt : List (Nat × Nm) → Bool
  | [] => true
  | (n, _) :: r => Nat.blt n PN && allLt r

/-! ### In the caller -/
def resSV : (rs : List RK) → RDs rs → Nat → List SV
  | [], _, _ => []
  | .val t :: rs, d, n => val1 t d.1 :: resSV rs d.2 n
  | .agg t :: rs, d, n => .agg (flat t d.1) :: resSV rs d.2 n
  | .own E t :: rs, d, n => .own n t.size :: resSV rs d.2 (n + 1)
  | .box E t :: rs, d, n => .ptr n 0 :: resSV rs d.2 (n + 1)
def resH : (rs : List RK) → RDs rs → Nat → List (Nat × Nm)
  | [], _, _ => []
  | .val t :: rs, d, n => resH rs d.2 n
  | .agg t :: rs, d, n => resH rs d.2 n
  | .own E t :: rs, d, n => (n, .live (.row E t d.1)) :: resH rs d.2 (n + 1)
  | .box E t :: rs, d, n => (n, .live (.cells E (flat t d.1))) :: resH rs d.2 (n + 1)
def nOwn : List RK → Nat
  | [] => 0
  | .own _ _ :: r => nOwn r + 1
  | .box _ _ :: r => nOwn r + 1
  | .val _ :: r => nOwn r
  | .agg _ :: r => nOwn r
def boxU : (ps : List PK) → BDs ps → List Nat → List (Nat × Nm)
  | .val _ :: ps, d, bx => boxU ps d bx
  | .agg _ :: ps, d, bx => boxU ps d bx
  | .fn _ _ :: ps, d, bx => boxU ps d bx
  | .nils :: ps, d, bx => boxU ps d bx
  | .box E t :: ps, d, n :: bx => (n, .live (.cells E (flat t d.1))) :: boxU ps d.2 bx
  | .row E t :: ps, d, n :: bx => (n, .live (.row E t d.1)) :: boxU ps d.2 bx
  | _, _, _ => []
def resV : List SV → SV
  | [v] => v
  | l => .tup l
def disjN (fz : List (Nat × Nm)) : List Nat → Bool
  | [] => true
  | n :: r => notIn n fz && disjN fz r
def askUn : Nat → Nat → Dl → Q Dl
  | _, 0, d => .ret d
  | n, k + 1, d => .ask n fun
    | .un => askUn (n + 1) k d
    | _ => .fail
def keepF (ps : List PK) (rs : List RK) : Bool := !(rsPlain rs && psPlain ps)
/-- What the caller's heap is then. -/
def retU (ps : List PK) (rs : List RK) (y : RDs rs × BDs ps) (base : Nat) (fz : List (Nat × Nm)) (bx : List Nat) : List (Nat × Nm) :=
  (boxU ps y.2 bx ++ resH rs y.1 base) ++ (match keepF ps rs with | true => fz | false => [])

/-- What a caller may lean on. -/
def Ct.spec (c : Ct) : Spec := fun base svs => (matchArgs c.ps svs).bind fun p => match nodupN p.2.2, disjN p.2.1 p.2.2 with
  | true, true => askUn base (nOwn c.rs) (.det (c.pre p.1) (resV (resSV c.rs (c.out p.1).1 base)) (retU c.ps c.rs (c.out p.1) base p.2.1 p.2.2))
  | _, _ => .fail

/-- A contract that leaves open which of several outcomes there is. -/
structure Cn where
  ps : List PK
  rs : List RK
  pre : PDs ps → List Prop
  post : PDs ps → RDs rs × BDs ps → Prop
  inh : ∀ d, conj (pre d) → ∃ y, post d y

/-- The new contents, as functions of the outcome. -/
def boxUF {X : Type} : (ps : List PK) → (X → BDs ps) → List Nat → List (Nat × (X → Nm))
  | .val _ :: ps, d, bx => boxUF ps d bx
  | .agg _ :: ps, d, bx => boxUF ps d bx
  | .fn _ _ :: ps, d, bx => boxUF ps d bx
  | .nils :: ps, d, bx => boxUF ps d bx
  | .box E t :: ps, d, n :: bx => (n, fun x => .live (.cells E (flat t (d x).1))) :: boxUF ps (fun x => (d x).2) bx
  | .row E t :: ps, d, n :: bx => (n, fun x => .live (.row E t (d x).1)) :: boxUF ps (fun x => (d x).2) bx
  | _, _, _ => []
def resHF {X : Type} : (rs : List RK) → (X → RDs rs) → Nat → List (Nat × (X → Nm))
  | [], _, _ => []
  | .val t :: rs, d, n => resHF rs (fun x => (d x).2) n
  | .agg t :: rs, d, n => resHF rs (fun x => (d x).2) n
  | .own E t :: rs, d, n => (n, fun x => .live (.row E t (d x).1)) :: resHF rs (fun x => (d x).2) (n + 1)
  | .box E t :: rs, d, n => (n, fun x => .live (.cells E (flat t (d x).1))) :: resHF rs (fun x => (d x).2) (n + 1)
def fzF {X : Type} : List (Nat × Nm) → List (Nat × (X → Nm))
  | [] => []
  | (n, b) :: r => (n, fun _ => b) :: fzF r
def retUF (ps : List PK) (rs : List RK) (base : Nat) (fz : List (Nat × Nm)) (bx : List Nat) : List (Nat × (RDs rs × BDs ps → Nm)) :=
  (boxUF ps (fun y : RDs rs × BDs ps => y.2) bx ++ resHF rs (fun y : RDs rs × BDs ps => y.1) base) ++ (match keepF ps rs with | true => fzF fz | false => [])

theorem boxUF_eq {X : Type} (x : X) : ∀ (ps : List PK) (d : X → BDs ps) (bx : List Nat), (boxUF ps d bx).map (fun p => (p.1, p.2 x)) = boxU ps (d x) bx
  | [], _, _ => rfl
  | .val _ :: ps, d, bx => by simp only [boxUF, boxU]; exact boxUF_eq x ps d bx
  | .agg _ :: ps, d, bx => by simp only [boxUF, boxU]; exact boxUF_eq x ps d bx
  | .fn _ _ :: ps, d, bx => by simp only [boxUF, boxU]; exact boxUF_eq x ps d bx
  | .nils :: ps, d, bx => by simp only [boxUF, boxU]; exact boxUF_eq x ps d bx
  | .box E t :: ps, d, [] => rfl
  | .row E t :: ps, d, [] => rfl
  | .box E t :: ps, d, n :: bx => by simp only [boxUF, boxU, List.map_cons, boxUF_eq x ps]
  | .row E t :: ps, d, n :: bx => by simp only [boxUF, boxU, List.map_cons, boxUF_eq x ps]
theorem resHF_eq {X : Type} (x : X) : ∀ (rs : List RK) (d : X → RDs rs) (n : Nat), (resHF rs d n).map (fun p => (p.1, p.2 x)) = resH rs (d x) n
  | [], _, _ => rfl
  | .val t :: rs, d, n => by simp only [resHF, resH]; exact resHF_eq x rs _ n
  | .agg t :: rs, d, n => by simp only [resHF, resH]; exact resHF_eq x rs _ n
  | .own E t :: rs, d, n => by simp only [resHF, resH, List.map_cons, resHF_eq x rs]
  | .box E t :: rs, d, n => by simp only [resHF, resH, List.map_cons, resHF_eq x rs]
theorem fzF_eq {X : Type} (x : X) : ∀ (l : List (Nat × Nm)), (fzF (X := X) l).map (fun p => (p.1, p.2 x)) = l
  | [] => rfl
  | (n, b) :: r => by simp only [fzF, List.map_cons, fzF_eq x r]
theorem retUF_eq {ps : List PK} {rs : List RK} {base : Nat} {fz : List (Nat × Nm)} {bx : List Nat} (y : RDs rs × BDs ps) : (retUF ps rs base fz bx).map (fun p => (p.1, p.2 y)) = retU ps rs y base fz bx := by
  unfold retUF retU
  rw [List.map_append, List.map_append, boxUF_eq, resHF_eq]
  cases keepF ps rs with
  | true => simp only [fzF_eq]
  | false => rfl

def allR : (rs : List RK) → (RDs rs → Prop) → Prop
  | [], k => k ()
  | .val t :: r, k => allD t fun x => allR r fun y => k (x, y)
  | .agg t :: r, k => allD t fun x => allR r fun y => k (x, y)
  | .own _ t :: r, k => ∀ x : List t.D, allR r fun y => k (x, y)
  | .box _ t :: r, k => allD t fun x => allR r fun y => k (x, y)
theorem allR_all : ∀ {rs : List RK} {k : RDs rs → Prop}, allR rs k → ∀ d, k d
  | [], k, h, d => h
  | .val t :: r, k, h, d => allR_all (rs := r) (allD_iff.1 h d.1) d.2
  | .agg t :: r, k, h, d => allR_all (rs := r) (allD_iff.1 h d.1) d.2
  | .own _ t :: r, k, h, d => allR_all (rs := r) (h d.1) d.2
  | .box _ t :: r, k, h, d => allR_all (rs := r) (allD_iff.1 h d.1) d.2
def allB : (ps : List PK) → (BDs ps → Prop) → Prop
  | [], k => k ()
  | .val _ :: r, k => allB r k
  | .agg _ :: r, k => allB r k
  | .fn _ _ :: r, k => allB r k
  | .nils :: r, k => allB r k
  | .box _ t :: r, k => allD t fun x => allB r fun y => k (x, y)
  | .row _ t :: r, k => ∀ x : List t.D, allB r fun y => k (x, y)
theorem allB_all : ∀ {ps : List PK} {k : BDs ps → Prop}, allB ps k → ∀ d, k d
  | [], k, h, d => h
  | .val _ :: r, k, h, d => allB_all (ps := r) h d
  | .agg _ :: r, k, h, d => allB_all (ps := r) h d
  | .fn _ _ :: r, k, h, d => allB_all (ps := r) h d
  | .nils :: r, k, h, d => allB_all (ps := r) h d
  | .box _ t :: r, k, h, d => allB_all (ps := r) (allD_iff.1 h d.1) d.2
  | .row _ t :: r, k, h, d => allB_all (ps := r) (h d.1) d.2
def outQn (rs : List RK) (ps : List PK) : Qn (RDs rs × BDs ps) :=
  ⟨fun k => allR rs fun y => allB ps fun z => k (y, z), fun k h x => allB_all (allR_all h x.1) x.2, fun k => ∃ x, k x, fun _ h => h⟩
def Cn.spec (c : Cn) : Spec := fun base svs => (matchArgs c.ps svs).bind fun p => match nodupN p.2.2, disjN p.2.1 p.2.2 with
  | true, true => askUn base (nOwn c.rs) (.nd (RDs c.rs × BDs c.ps) (outQn c.rs c.ps) (c.pre p.1) (c.post p.1) (c.inh p.1) (fun y => resV (resSV c.rs y.1 base)) (retUF c.ps c.rs base p.2.1 p.2.2))
  | _, _ => .fail

section
variable {w0 : World} {N0 : Old} {A A' A1 A2 : Nat → Prop} {env env1 env' : Env} {h h1 : Heap} {w w1 : World}

def evOf (env1 : Env) : Option Nat → Ev
  | some m => env1 m
  | none => .nil

theorem lift_l {a b c : Bool} {p : Prop} (h : (a && b) = true ∨ p) : a = true ∨ p := by
  rcases h with h | h
  · exact .inl (by simp only [Bool.and_eq_true] at h; exact h.1)
  · exact .inr h
theorem lift_r {a b : Bool} {p : Prop} (h : (a && b) = true ∨ p) : b = true ∨ p := by
  rcases h with h | h
  · exact .inl (by simp only [Bool.and_eq_true] at h; exact h.2)
  · exact .inr h

theorem outR_agg {t : CT} {rs : List RK} {svs : List SV} {x} (e : outR (.agg t :: rs) svs h1 = some x) : ∃ cs r, svs = .agg cs :: r := by
  cases svs with
  | nil => cases e
  | cons s r => cases s <;> first | exact ⟨_, _, rfl⟩ | cases e
theorem outR_own {E : TypeId} {t : CT} {rs : List RK} {svs : List SV} {x} (e : outR (.own E t :: rs) svs h1 = some x) : (∃ n sz r, svs = .own n sz :: r) ∨ ∃ r, svs = .nilsl :: r := by
  cases svs with
  | nil => cases e
  | cons s r => cases s <;> first | exact .inl ⟨_, _, _, rfl⟩ | exact .inr ⟨_, rfl⟩ | cases e

theorem outR_box {E : TypeId} {t : CT} {rs : List RK} {svs : List SV} {x} (e : outR (.box E t :: rs) svs h1 = some x) : ∃ m r, svs = .ptr m 0 :: r := by
  cases svs with
  | nil => cases e
  | cons s r => cases s <;> first | cases e; done | (rename_i m o; cases o <;> first | exact ⟨_, _, rfl⟩ | cases e)

/-- What is known of the rows and variables that a function hands back. -/
def OwnOK (A' : Nat → Prop) (env1 : Env) (h1 : Heap) (w1 : World) : List (Option Nat) → List (Nat × Nm) → Nat → Prop
  | [], [], _ => True
  | o :: os, (m, x) :: l, n => (m = n ∧ ∃ b, x = .live b ∧ b.mut = true ∧ ((∃ q b0, o = some q ∧ h1 q = .live b0 ∧ b0.mut = true ∧ (∀ e k len, env1 q = .blk k len → BlkDen A' e w1 k len b) ∧ (env1 q = .nil → ∃ E t, b = .row E t [])) ∨ (o = none ∧ ∃ E t, b = .row E t []))) ∧ OwnOK A' env1 h1 w1 os l (n + 1)
  | _, _, _ => False

theorem outR_sound {Nc : Old} (m1 : Mod w Nc A1 env1 h1 w1) (hA : ∀ b, A1 b → A2 b) : ∀ (rs : List RK) (d : RDs rs) (svs : List SV) (vs : List Value) (fz : List (Nat × Nm)) (ow : List (Option Nat)) (n : Nat),
    outR rs svs h1 = some (d, fz, ow) → DenL A1 env1 w1 svs vs → (∀ k, FrzBlk env1 fz k → A2 k) → (rsPlain rs = true ∨ ∀ b, A2 b → A' b) →
    FrzOk h1 fz ∧ OwnOK A' env1 h1 w1 ow (resH rs d n) n ∧ ((∀ i o, ow[i]? = some o → env' (n + i) = evOf env1 o) → DenL A' env' w1 (resSV rs d n) vs)
  | [], d, [], vs, fz, ow, n, e, hd, hF, L => by
    simp only [outR, Option.some.injEq, Prod.mk.injEq] at e
    obtain ⟨-, rfl, rfl⟩ := e
    exact ⟨fun n b hh => by simp at hh, trivial, fun _ => by simpa [resSV, DenL] using hd⟩
  | .val t :: rs, d, v :: svs, vs, fz, ow, n, e, hd, hF, L => by
    simp only [outR] at e
    split at e
    · rename_i x f1 q hp
      split at e
      · rename_i ps f2 o hr
        simp only [Option.some.injEq, Prod.mk.injEq] at e
        obtain ⟨rfl, rfl, rfl⟩ := e
        simp only [DenL] at hd
        obtain ⟨u, vr, rfl, hu, hvr⟩ := hd
        have hF1 : ∀ k, FrzBlk env1 f1 k → A2 k := fun k ⟨n, x, l, hx, he⟩ => hF k ⟨n, x, l, List.mem_append_left _ hx, he⟩
        have hF2 : ∀ k, FrzBlk env1 f2 k → A2 k := fun k ⟨n, x, l, hx, he⟩ => hF k ⟨n, x, l, List.mem_append_right _ hx, he⟩
        obtain ⟨p1, _, p3, p4, _⟩ := projC_sound m1 t [v] [u] x [] f1 _ hp (by simp only [DenL]; exact ⟨u, [], rfl, hu, rfl⟩) hA hF1
        obtain ⟨s1, s2, s3⟩ := outR_sound m1 hA rs ps svs vr f2 o n hr hvr hF2 (lift_r L)
        refine ⟨fun n b hh => ?_, s2, fun he => ?_⟩
        · rcases List.mem_append.1 hh with hh | hh
          · exact p1 n b hh
          · exact s1 n b hh
        · simp only [resSV, DenL]
          refine ⟨u, vr, rfl, ?_, s3 he⟩
          exact den_flat1 (rest := []) (Rd_lift (lift_l (c := true) L) p4)
      · cases e
    · cases e
  | .agg t :: rs, d, svs0, vs, fz, ow, n, e, hd, hF, L => by
    obtain ⟨cs, svs, rfl⟩ := outR_agg e
    simp only [outR] at e
    split at e
    · rename_i x f1 q hp
      split at e
      · rename_i ps f2 o hr
        simp only [Option.some.injEq, Prod.mk.injEq] at e
        obtain ⟨rfl, rfl, rfl⟩ := e
        simp only [DenL, Den] at hd
        obtain ⟨u, vr, rfl, ⟨us, rfl, hu⟩, hvr⟩ := hd
        have hF1 : ∀ k, FrzBlk env1 f1 k → A2 k := fun k ⟨n, x, l, hx, he⟩ => hF k ⟨n, x, l, List.mem_append_left _ hx, he⟩
        have hF2 : ∀ k, FrzBlk env1 f2 k → A2 k := fun k ⟨n, x, l, hx, he⟩ => hF k ⟨n, x, l, List.mem_append_right _ hx, he⟩
        obtain ⟨p1, _, p3, p4, _⟩ := projC_sound m1 t cs us.toList x [] f1 _ hp hu hA hF1
        obtain ⟨s1, s2, s3⟩ := outR_sound m1 hA rs ps svs vr f2 o n hr hvr hF2 (lift_r L)
        refine ⟨fun n b hh => ?_, s2, fun he => ?_⟩
        · rcases List.mem_append.1 hh with hh | hh
          · exact p1 n b hh
          · exact s1 n b hh
        · simp only [resSV, DenL, Den]
          refine ⟨_, vr, rfl, ⟨us, rfl, ?_⟩, s3 he⟩
          exact den_flatL (by simpa using p3) (Rd_lift (lift_l (c := true) L) p4)
      · cases e
    · cases e
  | .own E t :: rs, d, svs0, vs, fz, ow, n, e, hd, hF, L => by
    have shift : ∀ {o : Option Nat} {os : List (Option Nat)}, (∀ i o', (o :: os)[i]? = some o' → env' (n + i) = evOf env1 o') → ∀ i o', os[i]? = some o' → env' (n + 1 + i) = evOf env1 o' := fun he i o' hi => by
      have := he (i + 1) o' (by simpa using hi)
      rwa [show n + (i + 1) = n + 1 + i from by omega] at this
    rcases outR_own e with ⟨q, sz, svs, rfl⟩ | ⟨svs, rfl⟩
    · simp only [outR] at e
      split at e
      · rename_i E' t' xs hl
        split at e
        · rename_i ys hE hsz hcl
          have hE := Nat.eq_of_beq_eq_true hE
          subst hE
          have hsz := Nat.eq_of_beq_eq_true hsz
          subst hsz
          obtain ⟨et, ez⟩ := castL_eq hcl
          subst et
          simp only at ez
          subst ez
          split at e
          · rename_i ps f2 o hr
            simp only [Option.some.injEq, Prod.mk.injEq] at e
            obtain ⟨rfl, rfl, rfl⟩ := e
            simp only [DenL, Den] at hd
            obtain ⟨u, vr, rfl, hu, hvr⟩ := hd
            obtain ⟨s1, s2, s3⟩ := outR_sound m1 hA rs ps svs vr f2 o (n + 1) hr hvr hF (lift_r L)
            have hm := m1.nm q
            rw [hl] at hm
            refine ⟨s1, ⟨⟨rfl, _, rfl, rfl, .inl ⟨q, _, rfl, hl, rfl, fun e k len he => ?_, fun he => ?_⟩⟩, s2⟩, fun he => ?_⟩
            · rcases hm with ⟨k', len', he', hb, _⟩ | ⟨he', _⟩
              · rw [he] at he'; cases he'
                obtain ⟨us, cap, g1, g2, g3, g4, g5, g6⟩ := hb
                exact ⟨us, cap, g1, g2, g3, g4, g5, fun i hi => Rd_lift (lift_l (c := true) L) (Rd_mono hA (fun _ _ _ => rfl) _ _ _ _ _ (fun _ _ => rfl) (g6 i hi))⟩
              · rw [he] at he'; cases he'
            · rcases hm with ⟨k', len', he', hb, _⟩ | ⟨he', E2, t2, hb⟩
              · rw [he] at he'; cases he'
              · rcases hb with hb | hb <;> cases hb
                exact ⟨_, _, rfl⟩
            · simp only [resSV, DenL, Den]
              have h0 := he 0 (some q) (by simp)
              simp only [Nat.add_zero, evOf] at h0
              refine ⟨u, vr, rfl, ?_, s3 (shift he)⟩
              rw [h0]; exact hu
          · cases e
        · cases e
      · cases e
    · simp only [outR] at e
      split at e
      · rename_i ps f2 o hr
        simp only [Option.some.injEq, Prod.mk.injEq] at e
        obtain ⟨rfl, rfl, rfl⟩ := e
        simp only [DenL, Den] at hd
        obtain ⟨u, vr, rfl, rfl, hvr⟩ := hd
        obtain ⟨s1, s2, s3⟩ := outR_sound m1 hA rs ps svs vr f2 o (n + 1) hr hvr hF (lift_r L)
        refine ⟨s1, ⟨⟨rfl, _, rfl, rfl, .inr ⟨rfl, _, _, rfl⟩⟩, s2⟩, fun he => ?_⟩
        simp only [resSV, DenL, Den]
        have h0 := he 0 none (by simp)
        simp only [Nat.add_zero, evOf] at h0
        exact ⟨_, vr, rfl, .inl ⟨h0, _, rfl⟩, s3 (shift he)⟩
      · cases e
  | .box E t :: rs, d, svs0, vs, fz, ow, n, e, hd, hF, L => by
    have shift : ∀ {o : Option Nat} {os : List (Option Nat)}, (∀ i o', (o :: os)[i]? = some o' → env' (n + i) = evOf env1 o') → ∀ i o', os[i]? = some o' → env' (n + 1 + i) = evOf env1 o' := fun he i o' hi => by
      have := he (i + 1) o' (by simpa using hi)
      rwa [show n + (i + 1) = n + 1 + i from by omega] at this
    obtain ⟨q, svs, rfl⟩ := outR_box e
    simp only [outR] at e
    split at e
    · rename_i E' cs hl
      split at e
      · rename_i x f1 q1 hE hp
        have hE := Nat.eq_of_beq_eq_true hE
        subst hE
        split at e
        · rename_i ps f2 o hr
          simp only [Option.some.injEq, Prod.mk.injEq] at e
          obtain ⟨rfl, rfl, rfl⟩ := e
          simp only [DenL, Den] at hd
          obtain ⟨u, vr, rfl, ⟨kb, lb, hkb, rfl⟩, hvr⟩ := hd
          have hF1 : ∀ k, FrzBlk env1 f1 k → A2 k := fun k ⟨n, x, l, hx, he⟩ => hF k ⟨n, x, l, List.mem_append_left _ hx, he⟩
          have hF2 : ∀ k, FrzBlk env1 f2 k → A2 k := fun k ⟨n, x, l, hx, he⟩ => hF k ⟨n, x, l, List.mem_append_right _ hx, he⟩
          obtain ⟨s1, s2, s3⟩ := outR_sound m1 hA rs ps svs vr f2 o (n + 1) hr hvr hF2 (lift_r L)
          obtain ⟨⟨us, hus, hdu⟩, _⟩ := m1.live_blk hl hkb
          obtain ⟨p1, _, p3, p4, _⟩ := projC_sound m1 t cs us.toList x [] f1 _ hp hdu hA hF1
          refine ⟨fun n b hh => ?_, ⟨⟨rfl, _, rfl, rfl, .inl ⟨q, _, rfl, hl, rfl, fun e k len he => ?_, fun he => ?_⟩⟩, s2⟩, fun he => ?_⟩
          · rcases List.mem_append.1 hh with hh | hh
            · exact p1 n b hh
            · exact s1 n b hh
          · rw [hkb] at he; cases he
            exact ⟨us, hus, den_flatL (by simpa using p3) (Rd_lift (lift_l (c := true) L) p4)⟩
          · rw [hkb] at he; cases he
          · simp only [resSV, DenL, Den]
            have h0 := he 0 (some q) (by simp)
            simp only [Nat.add_zero, evOf] at h0
            exact ⟨_, vr, rfl, ⟨kb, lb, by rw [h0]; exact hkb, rfl⟩, s3 (shift he)⟩
        · cases e
      · cases e
    · cases e
  | [], _, _ :: _, _, _, _, _, e, _, _, _ => by cases e
  | .val _ :: _, _, [], _, _, _, _, e, _, _, _ => by cases e

/-- What is known of the variables that a function may have changed. -/
def BxOut (A' : Nat → Prop) (env1 : Env) (h1 : Heap) (w1 : World) (bx : List Nat) (j : Nat) (n : Nat) (x : Nm) : Prop :=
  ∃ i b b0, bx[i]? = some n ∧ x = .live b ∧ b.mut = true ∧ h1 (PN + (j + i)) = .live b0 ∧ b0.mut = true ∧ (∀ e k len, env1 (PN + (j + i)) = .blk k len → BlkDen A' e w1 k len b) ∧ (env1 (PN + (j + i)) = .nil → ∃ E t, b = .row E t [])

theorem BxOut.cons {n0 : Nat} {bx : List Nat} {j n : Nat} {x : Nm} (h : BxOut A' env1 h1 w1 bx (j + 1) n x) : BxOut A' env1 h1 w1 (n0 :: bx) j n x := by
  obtain ⟨i, b, b0, g1, g2, g3, g4, g5, g6, g7⟩ := h
  rw [show j + 1 + i = j + (i + 1) from by omega] at g4 g6 g7
  exact ⟨i + 1, b, b0, by simpa using g1, g2, g3, g4, g5, g6, g7⟩

theorem outB_sound {Nc : Old} (m1 : Mod w Nc A1 env1 h1 w1) (hA : ∀ b, A1 b → A2 b) : ∀ (ps : List PK) (d0 : PDs ps) (d : BDs ps) (fz : List (Nat × Nm)) (bx : List Nat) (j : Nat),
    outB ps j h1 = some (d, fz) → (∀ k, FrzBlk env1 fz k → A2 k) → (psPlain ps = true ∨ ∀ b, A2 b → A' b) → bx.length = (boxesOf ps d0 j).length →
    FrzOk h1 fz ∧ (∀ n x, (n, x) ∈ boxU ps d bx → BxOut A' env1 h1 w1 bx j n x) ∧ ∀ n, n ∈ bx → n ∈ (boxU ps d bx).map (·.1)
  | [], d0, d, fz, bx, j, e, hF, L, hl => by
    simp only [outB, Option.some.injEq, Prod.mk.injEq] at e
    obtain ⟨-, rfl⟩ := e
    simp only [boxesOf, List.length_nil, List.length_eq_zero_iff] at hl
    subst hl
    exact ⟨fun n b hh => by simp at hh, fun n x hh => by simp [boxU] at hh, fun n hh => by simp at hh⟩
  | .val t :: ps, d0, d, fz, bx, j, e, hF, L, hl => by
    simp only [boxU]
    exact outB_sound m1 hA ps d0.2 d fz bx j (by simpa only [outB] using e) hF (by simpa only [psPlain] using L) (by simpa only [boxesOf] using hl)
  | .agg t :: ps, d0, d, fz, bx, j, e, hF, L, hl => by
    simp only [boxU]
    exact outB_sound m1 hA ps d0.2 d fz bx j (by simpa only [outB] using e) hF (by simpa only [psPlain] using L) (by simpa only [boxesOf] using hl)
  | .fn _ _ :: ps, d0, d, fz, bx, j, e, hF, L, hl => by
    simp only [boxU]
    exact outB_sound m1 hA ps d0.2 d fz bx j (by simpa only [outB] using e) hF (by simpa only [psPlain] using L) (by simpa only [boxesOf] using hl)
  | .nils :: ps, d0, d, fz, bx, j, e, hF, L, hl => by
    simp only [boxU]
    exact outB_sound m1 hA ps d0.2 d fz bx j (by simpa only [outB] using e) hF (by simpa only [psPlain] using L) (by simpa only [boxesOf] using hl)
  | .box E t :: ps, d0, d, fz, bx, j, e, hF, L, hl => by
    cases bx with
    | nil => simp [boxesOf] at hl
    | cons n0 bx =>
    simp only [outB] at e
    split at e
    · rename_i E' cs hlk
      split at e
      · rename_i x f1 q hE hp
        have hE := Nat.eq_of_beq_eq_true hE
        subst hE
        split at e
        · rename_i ps' f2 hr
          simp only [Option.some.injEq, Prod.mk.injEq] at e
          obtain ⟨rfl, rfl⟩ := e
          have hF1 : ∀ k, FrzBlk env1 f1 k → A2 k := fun k ⟨n, x, l, hx, he⟩ => hF k ⟨n, x, l, List.mem_append_left _ hx, he⟩
          have hF2 : ∀ k, FrzBlk env1 f2 k → A2 k := fun k ⟨n, x, l, hx, he⟩ => hF k ⟨n, x, l, List.mem_append_right _ hx, he⟩
          obtain ⟨s1, s2, s3⟩ := outB_sound m1 hA ps d0.2 ps' f2 bx (j + 1) hr hF2 (lift_r L) (by simpa [boxesOf] using hl)
          have hm := m1.nm (PN + j)
          rw [hlk] at hm
          have hbd : ∀ k len, env1 (PN + j) = .blk k len → FrzOk h1 f1 ∧ ∀ e, BlkDen A' e w1 k len (.cells E (flat t x)) := fun k len he => by
            rcases hm with ⟨k', len', he', hb, _⟩ | ⟨he', _⟩
            · rw [he] at he'; cases he'
              obtain ⟨us, hus, hdu⟩ := hb
              obtain ⟨p1, _, p3, p4, _⟩ := projC_sound m1 t cs us.toList x [] f1 _ hp hdu hA hF1
              refine ⟨p1, fun e => ⟨us, hus, ?_⟩⟩
              exact den_flatL (by simpa using p3) (Rd_lift (lift_l (c := true) L) p4)
            · rw [he] at he'; cases he'
          have hnn : env1 (PN + j) = .nil → False := fun he => by
            rcases hm with ⟨k', len', he', hb, _⟩ | ⟨he', _, _, hb | hb⟩
            · rw [he] at he'; cases he'
            · cases hb
            · cases hb
          have hf1 : FrzOk h1 f1 := by
            rcases hm with ⟨k', len', he', hb, _⟩ | ⟨he', _, _, hb | hb⟩
            · exact (hbd k' len' he').1
            · cases hb
            · cases hb
          refine ⟨fun n b hh => ?_, fun n x hh => ?_, fun n hh => ?_⟩
          · rcases List.mem_append.1 hh with hh | hh
            · exact hf1 n b hh
            · exact s1 n b hh
          · simp only [boxU] at hh
            rcases List.mem_cons.1 hh with hh | hh
            · cases hh
              exact ⟨0, _, _, by simp, rfl, rfl, hlk, rfl, fun e k len he => (hbd k len he).2 e, fun he => (hnn he).elim⟩
            · exact (s2 n x hh).cons
          · simp only [boxU, List.map_cons]
            rcases List.mem_cons.1 hh with rfl | hh
            · exact List.mem_cons_self ..
            · exact List.mem_cons_of_mem _ (s3 n hh)
        · cases e
      · cases e
    · cases e
  | .row E t :: ps, d0, d, fz, bx, j, e, hF, L, hl => by
    cases bx with
    | nil => simp [boxesOf] at hl
    | cons n0 bx =>
    simp only [outB] at e
    split at e
    · rename_i E' t' xs hlk
      split at e
      · rename_i ys hE hcl
        have hE := Nat.eq_of_beq_eq_true hE
        subst hE
        obtain ⟨et, ez⟩ := castL_eq hcl
        subst et
        simp only at ez
        subst ez
        split at e
        · rename_i ps' f2 hr
          simp only [Option.some.injEq, Prod.mk.injEq] at e
          obtain ⟨rfl, rfl⟩ := e
          obtain ⟨s1, s2, s3⟩ := outB_sound m1 hA ps d0.2 ps' f2 bx (j + 1) hr hF (lift_r L) (by simpa [boxesOf] using hl)
          have hm := m1.nm (PN + j)
          rw [hlk] at hm
          refine ⟨s1, fun n x hh => ?_, fun n hh => ?_⟩
          · simp only [boxU] at hh
            rcases List.mem_cons.1 hh with hh | hh
            · cases hh
              refine ⟨0, _, _, by simp, rfl, rfl, hlk, rfl, fun e k len he => ?_, fun he => ?_⟩
              · rcases hm with ⟨k', len', he', hb, _⟩ | ⟨he', _⟩
                · rw [Nat.add_zero] at he; rw [he] at he'; cases he'
                  obtain ⟨us, cap, g1, g2, g3, g4, g5, g6⟩ := hb
                  exact ⟨us, cap, g1, g2, g3, g4, g5, fun i hi => Rd_lift (lift_l (c := true) L) (Rd_mono hA (fun _ _ _ => rfl) _ _ _ _ _ (fun _ _ => rfl) (g6 i hi))⟩
                · rw [Nat.add_zero] at he; rw [he] at he'; cases he'
              · rcases hm with ⟨k', len', he', hb, _⟩ | ⟨he', E2, t2, hb⟩
                · rw [Nat.add_zero] at he; rw [he] at he'; cases he'
                · rcases hb with hb | hb <;> cases hb
                  exact ⟨_, _, rfl⟩
            · exact (s2 n x hh).cons
          · simp only [boxU, List.map_cons]
            rcases List.mem_cons.1 hh with rfl | hh
            · exact List.mem_cons_self ..
            · exact List.mem_cons_of_mem _ (s3 n hh)
        · cases e
      · cases e
    · cases e
end
end Go.SX
