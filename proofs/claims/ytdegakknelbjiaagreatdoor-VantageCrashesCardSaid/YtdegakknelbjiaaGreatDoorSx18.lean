/- SX, part 18: a function's code. -/
import Derived.Test.YtdegakknelbjiaaGreatDoorSx17
import Derived.Scope
namespace Go.SX
set_option linter.unusedVariables false

/-- How a piece of code ends. -/
inductive Ex where
  | normal
  | exit (id : Nat)
  | ret

def Ex.to : Ex → Exit
  | .normal => .normal
  | .exit id => .exit id
  | .ret => .ret

/-- What holds where a loop's round begins, or at a cut. -/
structure Ann : Type 1 where
  ι : Type
  μ : ι → Nat := fun _ => 0
  inv : ι → Prop
  qn : Qn ι := .plain ι
  keep : List Nat := []
  slots : ι → List (Nat × SV) := fun _ => []
  keepN : List Nat := []
  names : ι → List (Nat × Nm) := fun _ => []

def assocS (n : Nat) : List (Nat × SV) → SV
  | [] => .junk
  | (m, v) :: r => match Nat.beq n m with
    | true => v
    | false => assocS n r
def headSl (keep : List Nat) (l : List (Nat × SV)) : Nat → List SV → List SV
  | _, [] => []
  | n, v :: r => (match memN n keep with | true => v | false => assocS n l) :: headSl keep l (n + 1) r
def headH (H : List (Nat × Nm)) (r : List (Nat × Nm)) : List Nat → List (Nat × Nm)
  | [] => r
  | n :: l => (n, lookN H n) :: headH H r l
def head (S : St) (an : Ann) (i : an.ι) : St := ⟨headSl an.keep (an.slots i) 0 S.sl, headH S.H (an.names i) an.keepN⟩

def force2L : List SV → (List SV → Prop) → Prop
  | [], k => k []
  | x :: xs, k => force2 x fun y => force2L xs fun ys => k (y :: ys)
theorem force2L_eq : ∀ (l : List SV) (k : List SV → Prop), force2L l k = k l
  | [], k => rfl
  | x :: xs, k => by simp only [force2L, force2_eq, force2L_eq xs]
def forceH : List (Nat × Nm) → (List (Nat × Nm) → Prop) → Prop
  | [], k => k []
  | (n, b) :: r, k => forceNm b fun b => forceH r fun r => k ((n, b) :: r)
theorem forceH_eq : ∀ (l : List (Nat × Nm)) (k : List (Nat × Nm) → Prop), forceH l k = k l
  | [], k => rfl
  | (n, b) :: r, k => by simp only [forceH, forceNm_eq, forceH_eq r]
def forceSt (S : St) (k : St → Prop) : Prop := match S with
  | ⟨sl, H⟩ => force2L sl fun sl => forceH H fun H => k ⟨sl, H⟩
theorem forceSt_eq (S : St) (k : St → Prop) : forceSt S k = k S := by cases S; simp only [forceSt, force2L_eq, forceH_eq]

def firstId : Code → Nat
  | .region id _ _ => id
  | .seq a _ => firstId a
  | .block _ a => firstId a
  | .loop a => firstId a
  | .scope a => firstId a
  | .cond _ a _ => firstId a
  | _ => 0

/-- The annotations: of loops, of cuts ahead of a piece of code; by the first region's number. -/
structure Anns : Type 1 where
  loops : Nat → Option (St → Ann) := fun _ => none
  cuts : Nat → Option (St → Ann) := fun _ => none
  nms : List Nat := []
  unr : Nat → Nat := fun _ => 0

/-! What stands in a state where a loop begins: for annotations that speak of it. -/
def svI : SV → Int
  | .int _ n => n
  | _ => 0
def svB : SV → Bool
  | .bool b => b
  | _ => false
def svL (t : CT) : SV → List t.D
  | .dsl t' xs => match castL t' t xs with
    | some ys => ys
    | none => []
  | .dsx t' xs => match castL t' t xs with
    | some ys => ys
    | none => []
  | _ => []
def getD1 {α : Type} (x : Option (α × List Nat)) (d : α) : α := match x with
  | some (y, _) => y
  | none => d
/-- The datum of cells. -/
def svD (t : CT) (cs : List SV) : t.D := match (projC t cs).run (fun _ => .un) with
  | some ((d, _, _), _) => d
  | none => t.dflt
def St.i (S : St) (n : Nat) : Int := svI (getSl S.sl n)
def St.b (S : St) (n : Nat) : Bool := svB (getSl S.sl n)
def St.l (S : St) (t : CT) (n : Nat) : List t.D := svL t (getSl S.sl n)
def St.a (S : St) (t : CT) (n : Nat) : t.D := match getSl S.sl n with
  | .agg cs => svD t cs
  | _ => t.dflt
def St.r (S : St) (t : CT) (n : Nat) : List t.D := match lookN S.H n with
  | .live (.row _ t' xs) => match castL t' t xs with
    | some ys => ys
    | none => []
  | .live (.frz _ t' xs) => match castL t' t xs with
    | some ys => ys
    | none => []
  | _ => []
/-- A variable's datum, and an owned slice's row. -/
def St.c (S : St) (t : CT) (n : Nat) : t.D := match lookN S.H n with
  | .live (.cells _ cs) => svD t cs
  | _ => t.dflt
def St.o (S : St) (t : CT) (n : Nat) : List t.D := match getSl S.sl n with
  | .own m _ => S.r t m
  | _ => []
/-- What a pointer in a slot leads to. -/
def St.p (S : St) (t : CT) (n : Nat) : t.D := match getSl S.sl n with
  | .ptr m _ => S.c t m
  | _ => t.dflt

def optB : SV → Option Bool
  | .bool b => some b
  | _ => none

def sxExit (id : Nat) (K : Ex → St → Prop) : Ex → St → Prop := fun e S => match e with
  | .exit i => match Nat.beq i id with
    | true => K .normal S
    | false => K (.exit i) S
  | .normal => K .normal S
  | .ret => K .ret S

def sxThen (k : St → Prop) (K : Ex → St → Prop) : Ex → St → Prop := fun e S => match e with
  | .normal => k S
  | .exit i => K (.exit i) S
  | .ret => K .ret S

/-- A loop's rounds, one after the other, at most so many. -/
def unrollN (body : (Ex → St → Prop) → St → Prop) : Nat → (Ex → St → Prop) → St → Prop
  | 0, _, _ => False
  | n + 1, K, S => body (sxThen (unrollN body n K) K) S

def sx (P : Program) (sp : Specs) (an : Anns) : Code → (Ex → St → Prop) → St → Prop
  | .skip, K, S => K .normal S
  | .region _ ops draw, K, S => sxRegion P sp an.nms ops draw (K .normal) S
  | .seq a b, K, S => match an.cuts (firstId b) with
    | none => sx P sp an a (sxThen (sx P sp an b K) K) S
    | some c => sx P sp an a (sxThen (fun S' => (c S).qn.ex fun i => (c S).inv i ∧ enter S' (head S (c S) i)) K) S ∧ (c S).qn.all fun i => (c S).inv i → forceSt (head S (c S) i) (sx P sp an b K)
  | .cond c a b, K, S => match optB (opnd (getSl S.sl) c) with
    | some t => ifP t (sx P sp an a K S) (sx P sp an b K S)
    | none => False
  | .block id a, K, S => sx P sp an a (sxExit id K) S
  | .loop a, K, S => match an.unr (firstId a) with
   | n + 1 => unrollN (sx P sp an a) (n + 1) K S
   | 0 => match an.loops (firstId a) with
    | none => False
    | some c => ((c S).qn.ex fun i => (c S).inv i ∧ enter S (head S (c S) i)) ∧ (c S).qn.all fun i => (c S).inv i → forceSt (head S (c S) i) (sx P sp an a (sxThen (fun S' => (c S).qn.ex fun j => (c S).inv j ∧ (c S).μ j < (c S).μ i ∧ enter S' (head S (c S) j)) K))
  | .exit id, K, S => K (.exit id) S
  | .scope a, K, S => sx P sp an a K S
  | .ret, K, S => K .ret S
  | _, _, _ => False

section
variable {P : Program} {sp : Specs} {an : Anns} {w0 : World} {N0 : Old}

/-- **The symbolic run of a function's code tells what the code does.** -/
theorem sx_wp (hs : SpecsOK P sp ∧ N0.g = sp.gl) (hmix : P.follows .mixedOrders = true) : ∀ (c : Code) (K : Ex → St → Prop) (S : St) (Q : Exit → Act → World → Prop) (A : Nat → Prop) (env : Env) (a : Act) (w : World),
    sx P sp an c K S → Fits w0 N0 A env S.fs a w →
    (∀ e S' A' env' a' w', K e S' → Fits w0 N0 A' env' (St.fs S') a' w' → Ext0 A env w A' env' w' → Q e.to a' w') → c.wp P Q a w := by
  have refl0 : ∀ {A : Nat → Prop} {env : Env} {w : World}, Ext0 A env w A env w := Ext.refl.ext0
  intro c
  induction c with
  | skip => intro K S Q A env a w h t hQ; exact wp_skip (hQ .normal S A env a w h t refl0)
  | region id ops draw =>
    intro K S Q A env a w h t hQ
    exact sxRegion_wp hs hmix t h fun S' A' env' a' w' hk t' x => hQ .normal S' A' env' a' w' hk t' x.ext0
  | seq x y ihx ihy =>
    intro K S Q A env a w h t hQ
    simp only [sx] at h
    split at h
    · refine wp_seq (ihx _ S _ A env a w h t ?_)
      intro e S' A' env' a' w' hk t' x'
      cases e with
      | normal => exact ihy K S' Q A' env' a' w' hk t' fun e S2 A2 env2 a2 w2 hk2 t2 x2 => hQ e S2 A2 env2 a2 w2 hk2 t2 (x'.trans x2)
      | exit i => exact hQ (.exit i) S' A' env' a' w' hk t' x'
      | ret => exact hQ .ret S' A' env' a' w' hk t' x'
    · rename_i c hc
      refine wp_seq (ihx _ S _ A env a w h.1 t ?_)
      intro e S' A' env' a' w' hk t' x'
      cases e with
      | normal =>
        obtain ⟨i, hi, he⟩ := (c S).qn.hex _ hk
        obtain ⟨env2, t2, x2⟩ := enter_fits he t'
        have h2 := (c S).qn.hall _ h.2 i hi
        rw [forceSt_eq] at h2
        exact ihy K _ Q A' env2 a' w' h2 t2 fun e S3 A3 env3 a3 w3 hk3 t3 x3 => hQ e S3 A3 env3 a3 w3 hk3 t3 ((x'.trans x2).trans x3)
      | exit i => exact hQ (.exit i) S' A' env' a' w' hk t' x'
      | ret => exact hQ .ret S' A' env' a' w' hk t' x'
  | cond c x y ihx ihy =>
    intro K S Q A env a w h t hQ
    simp only [sx] at h
    split at h
    · rename_i b hb
      have hd := Den_opnd t.f c
      have hv : opnd (getSl S.sl) c = .bool b := by
        unfold optB at hb
        split at hb
        · rename_i b' he; cases hb; exact he
        · cases hb
      simp only [St.fs] at hd
      rw [hv] at hd
      simp only [Den] at hd
      cases b with
      | true => exact wp_cond_true hd (ihx K S Q A env a w h t hQ)
      | false => exact wp_cond_false hd (ihy K S Q A env a w h t hQ)
    · exact h.elim
  | block id x ih =>
    intro K S Q A env a w h t hQ
    refine wp_block (ih _ S _ A env a w h t ?_)
    intro e S' A' env' a' w' hk t' x'
    cases e with
    | normal => exact hQ .normal S' A' env' a' w' hk t' x'
    | exit i =>
      simp only [Ex.to, Exit.inBlock]
      by_cases hi : i = id
      · subst hi
        simp only [sxExit, Nat.beq_refl] at hk
        rw [if_pos rfl]
        exact hQ .normal S' A' env' a' w' hk t' x'
      · have hb : Nat.beq i id = false := by
          cases hb : Nat.beq i id with
          | false => rfl
          | true => exact absurd (Nat.eq_of_beq_eq_true hb) hi
        simp only [sxExit, hb] at hk
        rw [if_neg hi]
        exact hQ (.exit i) S' A' env' a' w' hk t' x'
    | ret => exact hQ .ret S' A' env' a' w' hk t' x'
  | loop x ih =>
    intro K S Q A env a w h t hQ
    simp only [sx] at h
    split at h
    · rename_i n0 _
      refine wp_loop_ghost (fun n a' w' => ∃ S' A' env', unrollN (sx P sp an x) n K S' ∧ Fits w0 N0 A' env' S'.fs a' w' ∧ Ext0 A env w A' env' w') (n0 + 1) ⟨S, A, env, h, t, refl0⟩ ?_
      rintro n a1 w1 ⟨S1, A1, env1, h1, t1, x1⟩
      cases n with
      | zero => exact h1.elim
      | succ n =>
        refine ih _ _ _ A1 env1 a1 w1 h1 t1 ?_
        intro e S' A' env' a' w' hk t' x'
        cases e with
        | normal => exact ⟨n, Nat.lt_succ_self n, S', A', env', hk, t', x1.trans x'⟩
        | exit i => exact hQ (.exit i) S' A' env' a' w' hk t' (x1.trans x')
        | ret => exact hQ .ret S' A' env' a' w' hk t' (x1.trans x')
    split at h
    · exact h.elim
    · rename_i c hc
      obtain ⟨hex, hr⟩ := h
      obtain ⟨i0, hi0, he0⟩ := (c S).qn.hex _ hex
      obtain ⟨env0, t0, x0⟩ := enter_fits he0 t
      refine wp_loop_ghost (fun n a' w' => ∃ i A' env', (c S).inv i ∧ n = (c S).μ i ∧ Fits w0 N0 A' env' (head S (c S) i).fs a' w' ∧ Ext0 A env w A' env' w') ((c S).μ i0) ⟨i0, A, env0, hi0, rfl, t0, x0⟩ ?_
      rintro n a1 w1 ⟨i, A1, env1, hi, rfl, t1, x1⟩
      have h1 := (c S).qn.hall _ hr i hi
      rw [forceSt_eq] at h1
      refine ih _ _ _ A1 env1 a1 w1 h1 t1 ?_
      intro e S' A' env' a' w' hk t' x'
      cases e with
      | normal =>
        obtain ⟨j, hj, hμ, he⟩ := (c S).qn.hex _ hk
        obtain ⟨env2, t2, x2⟩ := enter_fits he t'
        exact ⟨(c S).μ j, hμ, j, A', env2, hj, rfl, t2, (x1.trans x').trans x2⟩
      | exit i => exact hQ (.exit i) S' A' env' a' w' hk t' (x1.trans x')
      | ret => exact hQ .ret S' A' env' a' w' hk t' (x1.trans x')
  | exit id => intro K S Q A env a w h t hQ; exact wp_exit (hQ (.exit id) S A env a w h t refl0)
  | scope x ih =>
    intro K S Q A env a w h t hQ
    refine wp_scope_straight (ih K S _ A env a w h t ?_)
    intro e S' A' env' a' w' hk t' x'
    cases e with
    | normal => exact hQ .normal S' A' env' a' w' hk t' x'
    | exit i => exact hQ (.exit i) S' A' env' a' w' hk t' x'
    | ret => exact hQ .ret S' A' env' a' w' hk t' x'
  | ret => intro K S Q A env a w h t hQ; exact wp_ret (hQ .ret S A env a w h t refl0)
  | rangeFunc f ps as b _ _ => intro K S Q A env a w h t hQ; exact h.elim
  | label l => intro K S Q A env a w h t hQ; exact h.elim
  | goto l => intro K S Q A env a w h t hQ; exact h.elim
  | refuse s => intro K S Q A env a w h t hQ; exact h.elim
end
end Go.SX
