/- SX, part 21: a function's contract, off its symbolic run. -/
import Derived.Test.YtdegakknelbjiaaGreatDoorSx20
import Derived.Laws.Sem
import Derived.Laws.NewBlocks
namespace Go.SX
set_option linter.unusedVariables false

def CT.plain : CT → Bool
  | .sl _ => false
  | .pair a b => a.plain && b.plain
  | _ => true

theorem Rd_plain {A A' : Nat → Prop} {w w' : World} : ∀ {t : CT} {cv : Nat → Option Value} {o : Nat} {d : t.D}, t.plain = true → Rd A w t cv o d → Rd A' w' t cv o d
  | .int k, cv, o, d, _, h => h
  | .bool, cv, o, d, _, h => h
  | .str, cv, o, d, _, h => h
  | .sl t, cv, o, d, hp, _ => by cases hp
  | .pair a b, cv, o, d, hp, h => by
    simp only [CT.plain, Bool.and_eq_true] at hp
    exact ⟨Rd_plain hp.1 h.1, Rd_plain hp.2 h.2⟩

theorem Rd_lift {A A' : Nat → Prop} {w : World} {t : CT} {cv : Nat → Option Value} {o : Nat} {d : t.D} (L : t.plain = true ∨ ∀ b, A b → A' b) (h : Rd A w t cv o d) : Rd A' w t cv o d := by
  rcases L with L | L
  · exact Rd_plain L h
  · exact Rd_mono L (fun _ _ _ => rfl) t _ _ _ _ (fun _ _ => rfl) h

theorem RowDen_lift {A A' : Nat → Prop} {w : World} {k len : Nat} {E : TypeId} {t : CT} {xs : List t.D} (L : t.plain = true ∨ ∀ b, A b → A' b) (h : RowDen A w k len E t xs) : RowDen A' w k len E t xs := by
  obtain ⟨vs, cap, g1, g2, g3, g4, g5, g6⟩ := h
  exact ⟨vs, cap, g1, g2, g3, g4, g5, fun i hi => Rd_lift L (g6 i hi)⟩

/-- Kinds of results: one cell of data; a struct; a slice of a new row; a pointer to a new variable. -/
inductive RK where
  | val (t : CT)
  | agg (o : OT)
  | own (E : TypeId) (t : CT)
  | box (E : TypeId) (o : OT)
@[reducible] def RK.D : RK → Type
  | .val t => t.D
  | .agg o => o.X
  | .own _ t => List t.D
  | .box _ o => o.X
@[reducible] def RDs : List RK → Type
  | [] => Unit
  | p :: r => p.D × RDs r
/-- What stands in the variables behind the pointers, and in the rows. -/
@[reducible] def BDs : List PK → Type
  | [] => Unit
  | .val _ :: r => BDs r
  | .agg _ :: r => BDs r
  | .own _ _ :: r => BDs r
  | .fn _ _ :: r => BDs r
  | .nils :: r => BDs r
  | .box _ o :: r => o.X × BDs r
  | .row _ t :: r => List t.D × BDs r

def OT.plain : OT → Bool
  | .dat t => t.plain
  | .row _ t => t.plain
  | .rowg _ _ => true
  | .ref _ o => o.plain
  | .pair a b => a.plain && b.plain
def rsPlain : List RK → Bool
  | [] => true
  | .val t :: r => t.plain && rsPlain r
  | .agg o :: r => o.plain && rsPlain r
  | .own _ t :: r => t.plain && rsPlain r
  | .box _ o :: r => o.plain && rsPlain r
def psPlain : List PK → Bool
  | [] => true
  | .val _ :: r => psPlain r
  | .agg _ :: r => psPlain r
  | .own _ _ :: r => psPlain r
  | .fn _ _ :: r => psPlain r
  | .nils :: r => psPlain r
  | .box _ o :: r => o.plain && psPlain r
  | .row _ t :: r => t.plain && psPlain r

/-- A contract: 'out': what the function computes, and what then stands in the variables that it may change. -/
structure Ct where
  ps : List PK
  rs : List RK
  pre : PDs ps → List Prop
  out : PDs ps → RDs rs × BDs ps

/-! ### At the end of the callee -/
def takeRowH (E : TypeId) (t : CT) (h : Heap) : List SV → Option (List t.D × List SV × Option Nat)
  | .own m sz :: r => match h m with
    | .live (.row E' t' xs) => match Nat.beq E E', Nat.beq sz t.size, castL t' t xs with
      | true, true, some ys => some (ys, r, some m)
      | _, _, _ => none
    | _ => none
  | .nilsl :: r => some ([], r, none)
  | _ => none
/-- 'j': the number of the first variable behind a pointer; none: there may be no pointer. -/
def oOut (h : Heap) : (o : OT) → Option Nat → List SV → Option (o.X × List SV × List (Nat × Nm) × List (Option Nat))
  | .dat t, _, cs => match (projC t cs).run h with
    | some ((x, r, fz), _) => some (x, r, fz, [])
    | none => none
  | .row E t, _, cs => match takeRowH E t h cs with
    | some (ys, r, o) => some (ys, r, [], [o])
    | none => none
  | .rowg _ _, _, _ :: r => some ((), r, [], [])
  | .rowg _ _, _, [] => none
  | .ref E o, some j, .ptr m 0 :: r => match Nat.beq m (PN + j), h m with
    | true, .live (.cells E' cs) => match Nat.beq E E', oOut h o (some (j + 1)) cs with
      | true, some (x, [], fz, ow) => some (x, r, fz, ow)
      | _, _ => none
    | _, _ => none
  | .ref _ _, _, _ => none
  | .pair a b, j, cs => match oOut h a j cs with
    | some (x, r, f, w) => match oOut h b (j.map (· + a.nb)) r with
      | some (y, r', f', w') => some ((x, y), r', f ++ f', w ++ w')
      | none => none
    | none => none
def outR : (rs : List RK) → List SV → Heap → Option (RDs rs × List (Nat × Nm) × List (Option Nat))
  | [], [], _ => some ((), [], [])
  | .val t :: rs, v :: vs, h => match (projC t [v]).run h with
    | some ((x, [], fz), _) => match outR rs vs h with
      | some (y, f, o) => some ((x, y), fz ++ f, o)
      | none => none
    | _ => none
  | .agg t :: rs, .agg cs :: vs, h => match oOut h t none cs with
    | some (x, [], fz, w) => match outR rs vs h with
      | some (y, f, o) => some ((x, y), fz ++ f, w ++ o)
      | none => none
    | _ => none
  | .own E t :: rs, v :: vs, h => match takeRowH E t h [v] with
    | some (x, _, w) => match outR rs vs h with
      | some (y, f, o) => some ((x, y), f, w :: o)
      | none => none
    | none => none
  | .box E t :: rs, .ptr m 0 :: vs, h => match h m with
    | .live (.cells E' cs) => match Nat.beq E E', oOut h t none cs with
      | true, some (x, [], fz, w) => match outR rs vs h with
        | some (y, f, o) => some ((x, y), fz ++ f, some m :: (w ++ o))
        | none => none
      | _, _ => none
    | _ => none
  | _, _, _ => none

def outB : (ps : List PK) → Nat → Heap → Option (BDs ps × List (Nat × Nm) × List (Option Nat))
  | [], _, _ => some ((), [], [])
  | .val _ :: ps, j, h => outB ps j h
  | .agg _ :: ps, j, h => outB ps j h
  | .own _ _ :: ps, j, h => outB ps j h
  | .fn _ _ :: ps, j, h => outB ps j h
  | .nils :: ps, j, h => outB ps j h
  | .box E t :: ps, j, h => match h (PN + j) with
    | .live (.cells E' cs) => match Nat.beq E E', oOut h t (some (j + 1)) cs with
      | true, some (x, [], fz, w) => match outB ps (j + 1 + t.nb) h with
        | some (y, f, o) => some ((x, y), fz ++ f, w ++ o)
        | none => none
      | _, _ => none
    | _ => none
  | .row E t :: ps, j, h => match h (PN + j) with
    | .live (.row E' t' xs) => match Nat.beq E E', castL t' t xs with
      | true, some ys => match outB ps (j + 1) h with
        | some (y, f, o) => some ((ys, y), f, o)
        | none => none
      | _, _ => none
    | _ => none

def memO (n : Nat) : List (Option Nat) → Bool
  | [] => false
  | some m :: r => Nat.beq n m || memO n r
  | none :: r => memO n r
def ownOk (fz : List (Nat × Nm)) : List (Option Nat) → Bool
  | [] => true
  | none :: r => ownOk fz r
  | some m :: r => (Nat.blt m PN || Nat.ble QN m) && notIn m fz && !memO m r && ownOk fz r
def allLt : List (Nat × Nm) → Bool
  | [] => true
  | (n, _) :: r => (Nat.blt n PN || Nat.ble QN n) && allLt r

/-! ### In the caller -/
/-- The cells behind a call: 'bx': the variables behind the pointers; 'n': the first new name. -/
def xCells : (o : OT) → o.X → List Nat → Nat → List SV
  | .dat t, x, _, _ => flat t x
  | .row _ t, _, _, n => [.own n t.size]
  | .rowg _ _, _, _, _ => [.junk]
  | .ref _ _, _, bx, _ => match bx with
    | q :: _ => [.ptr q 0]
    | [] => [.junk]
  | .pair a b, x, bx, n => xCells a x.1 bx n ++ xCells b x.2 (bx.drop a.nb) (n + a.nr)
def xBox : (o : OT) → o.X → List Nat → Nat → List (Nat × Nm)
  | .dat _, _, _, _ => []
  | .row _ _, _, _, _ => []
  | .rowg _ _, _, _, _ => []
  | .ref E o, x, bx, n => match bx with
    | q :: r => (q, .live (.cells E (xCells o x r n))) :: xBox o x r n
    | [] => []
  | .pair a b, x, bx, n => xBox a x.1 bx n ++ xBox b x.2 (bx.drop a.nb) (n + a.nr)
def xNew : (o : OT) → o.X → Nat → List (Nat × Nm)
  | .dat _, _, _ => []
  | .row E t, x, n => [(n, .live (.row E t x))]
  | .rowg _ _, _, _ => []
  | .ref _ o, x, n => xNew o x n
  | .pair a b, x, n => xNew a x.1 n ++ xNew b x.2 (n + a.nr)
def resSV : (rs : List RK) → RDs rs → Nat → List SV
  | [], _, _ => []
  | .val t :: rs, d, n => val1 t d.1 :: resSV rs d.2 n
  | .agg o :: rs, d, n => .agg (xCells o d.1 [] n) :: resSV rs d.2 (n + o.nr)
  | .own E t :: rs, d, n => .own n t.size :: resSV rs d.2 (n + 1)
  | .box E o :: rs, d, n => .ptr n 0 :: resSV rs d.2 (n + 1 + o.nr)
def resH : (rs : List RK) → RDs rs → Nat → List (Nat × Nm)
  | [], _, _ => []
  | .val t :: rs, d, n => resH rs d.2 n
  | .agg o :: rs, d, n => xNew o d.1 n ++ resH rs d.2 (n + o.nr)
  | .own E t :: rs, d, n => (n, .live (.row E t d.1)) :: resH rs d.2 (n + 1)
  | .box E o :: rs, d, n => (n, .live (.cells E (xCells o d.1 [] (n + 1)))) :: (xNew o d.1 (n + 1) ++ resH rs d.2 (n + 1 + o.nr))
def nOwn : List RK → Nat
  | [] => 0
  | .own _ _ :: r => nOwn r + 1
  | .box _ o :: r => nOwn r + o.nr + 1
  | .val _ :: r => nOwn r
  | .agg o :: r => nOwn r + o.nr
def nOwnB : List PK → Nat
  | [] => 0
  | .val _ :: r => nOwnB r
  | .agg _ :: r => nOwnB r
  | .own _ _ :: r => nOwnB r
  | .fn _ _ :: r => nOwnB r
  | .nils :: r => nOwnB r
  | .box _ o :: r => nOwnB r + o.nr
  | .row _ _ :: r => nOwnB r
def boxU : (ps : List PK) → BDs ps → List Nat → Nat → List (Nat × Nm)
  | .val _ :: ps, d, bx, nb => boxU ps d bx nb
  | .agg _ :: ps, d, bx, nb => boxU ps d bx nb
  | .own _ _ :: ps, d, bx, nb => boxU ps d bx nb
  | .fn _ _ :: ps, d, bx, nb => boxU ps d bx nb
  | .nils :: ps, d, bx, nb => boxU ps d bx nb
  | .box E o :: ps, d, n :: bx, nb => (n, .live (.cells E (xCells o d.1 bx nb))) :: (xBox o d.1 bx nb ++ boxU ps d.2 (bx.drop o.nb) (nb + o.nr))
  | .row E t :: ps, d, n :: bx, nb => (n, .live (.row E t d.1)) :: boxU ps d.2 bx nb
  | _, _, _, _ => []
def newU : (ps : List PK) → BDs ps → Nat → List (Nat × Nm)
  | [], _, _ => []
  | .val _ :: ps, d, nb => newU ps d nb
  | .agg _ :: ps, d, nb => newU ps d nb
  | .own _ _ :: ps, d, nb => newU ps d nb
  | .fn _ _ :: ps, d, nb => newU ps d nb
  | .nils :: ps, d, nb => newU ps d nb
  | .box E o :: ps, d, nb => xNew o d.1 nb ++ newU ps d.2 (nb + o.nr)
  | .row E t :: ps, d, nb => newU ps d.2 nb
def deadU : List (Option Nat) → List (Nat × Nm)
  | [] => []
  | none :: r => deadU r
  | some n :: r => (n, .dead) :: deadU r
def resV : List SV → SV
  | [v] => v
  | l => .tup l
def disjN (fz : List (Nat × Nm)) : List Nat → Bool
  | [] => true
  | n :: r => notIn n fz && disjN fz r
def askUn : Nat → Nat → Dl → Q Dl
  | _, 0, d => .ret d
  | n, k + 1, d => .ask n fun
    | .un => askUn (n + 1) k d
    | _ => .fail
def keepF (ps : List PK) (rs : List RK) : Bool := !(rsPlain rs && psPlain ps)
/-- What the caller's heap is then. -/
def retU (ps : List PK) (rs : List RK) (y : RDs rs × BDs ps) (base : Nat) (fz : List (Nat × Nm)) (bx : List Nat) (cx : List (Option Nat)) : List (Nat × Nm) :=
  (boxU ps y.2 bx (base + nOwn rs) ++ (resH rs y.1 base ++ (newU ps y.2 (base + nOwn rs) ++ deadU cx))) ++ (match keepF ps rs with | true => fz | false => [])
/-- The names fit. -/
def namesOk (fz : List (Nat × Nm)) (bx : List Nat) (cx : List (Option Nat)) : Bool := nodupN (bx ++ somes cx) && disjN fz (bx ++ somes cx) && Nat.ble bx.length PN

/-- What a caller may lean on. -/
def Ct.spec (c : Ct) : Spec := fun base svs => (matchArgs c.ps svs).bind fun p => match namesOk p.2.1 p.2.2.1 p.2.2.2 with
  | true => askUn base (nOwn c.rs + nOwnB c.ps) (.det (c.pre p.1) (resV (resSV c.rs (c.out p.1).1 base)) (retU c.ps c.rs (c.out p.1) base p.2.1 p.2.2.1 p.2.2.2))
  | false => .fail

/-- A contract that leaves open which of several outcomes there is. -/
structure Cn where
  ps : List PK
  rs : List RK
  pre : PDs ps → List Prop
  post : PDs ps → RDs rs × BDs ps → Prop
  inh : ∀ d, conj (pre d) → ∃ y, post d y

/-- The new contents, as functions of the outcome. -/
def xBoxF {X : Type} : (o : OT) → (X → o.X) → List Nat → Nat → List (Nat × (X → Nm))
  | .dat _, _, _, _ => []
  | .row _ _, _, _, _ => []
  | .rowg _ _, _, _, _ => []
  | .ref E o, x, bx, n => match bx with
    | q :: r => (q, fun y => .live (.cells E (xCells o (x y) r n))) :: xBoxF o x r n
    | [] => []
  | .pair a b, x, bx, n => xBoxF a (fun y => (x y).1) bx n ++ xBoxF b (fun y => (x y).2) (bx.drop a.nb) (n + a.nr)
def xNewF {X : Type} : (o : OT) → (X → o.X) → Nat → List (Nat × (X → Nm))
  | .dat _, _, _ => []
  | .row E t, x, n => [(n, fun y => .live (.row E t (x y)))]
  | .rowg _ _, _, _ => []
  | .ref _ o, x, n => xNewF o x n
  | .pair a b, x, n => xNewF a (fun y => (x y).1) n ++ xNewF b (fun y => (x y).2) (n + a.nr)
def boxUF {X : Type} : (ps : List PK) → (X → BDs ps) → List Nat → Nat → List (Nat × (X → Nm))
  | .val _ :: ps, d, bx, nb => boxUF ps d bx nb
  | .agg _ :: ps, d, bx, nb => boxUF ps d bx nb
  | .own _ _ :: ps, d, bx, nb => boxUF ps d bx nb
  | .fn _ _ :: ps, d, bx, nb => boxUF ps d bx nb
  | .nils :: ps, d, bx, nb => boxUF ps d bx nb
  | .box E o :: ps, d, n :: bx, nb => (n, fun x => .live (.cells E (xCells o (d x).1 bx nb))) :: (xBoxF o (fun x => (d x).1) bx nb ++ boxUF ps (fun x => (d x).2) (bx.drop o.nb) (nb + o.nr))
  | .row E t :: ps, d, n :: bx, nb => (n, fun x => .live (.row E t (d x).1)) :: boxUF ps (fun x => (d x).2) bx nb
  | _, _, _, _ => []
def newUF {X : Type} : (ps : List PK) → (X → BDs ps) → Nat → List (Nat × (X → Nm))
  | [], _, _ => []
  | .val _ :: ps, d, nb => newUF ps d nb
  | .agg _ :: ps, d, nb => newUF ps d nb
  | .own _ _ :: ps, d, nb => newUF ps d nb
  | .fn _ _ :: ps, d, nb => newUF ps d nb
  | .nils :: ps, d, nb => newUF ps d nb
  | .box E o :: ps, d, nb => xNewF o (fun x => (d x).1) nb ++ newUF ps (fun x => (d x).2) (nb + o.nr)
  | .row E t :: ps, d, nb => newUF ps (fun x => (d x).2) nb
def resHF {X : Type} : (rs : List RK) → (X → RDs rs) → Nat → List (Nat × (X → Nm))
  | [], _, _ => []
  | .val t :: rs, d, n => resHF rs (fun x => (d x).2) n
  | .agg o :: rs, d, n => xNewF o (fun x => (d x).1) n ++ resHF rs (fun x => (d x).2) (n + o.nr)
  | .own E t :: rs, d, n => (n, fun x => .live (.row E t (d x).1)) :: resHF rs (fun x => (d x).2) (n + 1)
  | .box E o :: rs, d, n => (n, fun x => .live (.cells E (xCells o (d x).1 [] (n + 1)))) :: (xNewF o (fun x => (d x).1) (n + 1) ++ resHF rs (fun x => (d x).2) (n + 1 + o.nr))
def fzF {X : Type} : List (Nat × Nm) → List (Nat × (X → Nm))
  | [] => []
  | (n, b) :: r => (n, fun _ => b) :: fzF r
def retUF (ps : List PK) (rs : List RK) (base : Nat) (fz : List (Nat × Nm)) (bx : List Nat) (cx : List (Option Nat)) : List (Nat × (RDs rs × BDs ps → Nm)) :=
  (boxUF ps (fun y : RDs rs × BDs ps => y.2) bx (base + nOwn rs) ++ (resHF rs (fun y : RDs rs × BDs ps => y.1) base ++ (newUF ps (fun y : RDs rs × BDs ps => y.2) (base + nOwn rs) ++ fzF (deadU cx)))) ++ (match keepF ps rs with | true => fzF fz | false => [])

theorem xBoxF_eq {X : Type} (y : X) : ∀ (o : OT) (x : X → o.X) (bx : List Nat) (n : Nat), (xBoxF o x bx n).map (fun p => (p.1, p.2 y)) = xBox o (x y) bx n
  | .dat _, _, _, _ => rfl
  | .row _ _, _, _, _ => rfl
  | .rowg _ _, _, _, _ => rfl
  | .ref E o, x, [], n => rfl
  | .ref E o, x, q :: r, n => by simp only [xBoxF, xBox, List.map_cons, xBoxF_eq y o]
  | .pair a b, x, bx, n => by simp only [xBoxF, xBox, List.map_append, xBoxF_eq y a, xBoxF_eq y b]
theorem xNewF_eq {X : Type} (y : X) : ∀ (o : OT) (x : X → o.X) (n : Nat), (xNewF o x n).map (fun p => (p.1, p.2 y)) = xNew o (x y) n
  | .dat _, _, _ => rfl
  | .row _ _, _, _ => rfl
  | .rowg _ _, _, _ => rfl
  | .ref E o, x, n => by simp only [xNewF, xNew, xNewF_eq y o]
  | .pair a b, x, n => by simp only [xNewF, xNew, List.map_append, xNewF_eq y a, xNewF_eq y b]
theorem boxUF_eq {X : Type} (x : X) : ∀ (ps : List PK) (d : X → BDs ps) (bx : List Nat) (nb : Nat), (boxUF ps d bx nb).map (fun p => (p.1, p.2 x)) = boxU ps (d x) bx nb
  | [], _, _, _ => rfl
  | .val _ :: ps, d, bx, nb => by simp only [boxUF, boxU]; exact boxUF_eq x ps d bx nb
  | .agg _ :: ps, d, bx, nb => by simp only [boxUF, boxU]; exact boxUF_eq x ps d bx nb
  | .own _ _ :: ps, d, bx, nb => by simp only [boxUF, boxU]; exact boxUF_eq x ps d bx nb
  | .fn _ _ :: ps, d, bx, nb => by simp only [boxUF, boxU]; exact boxUF_eq x ps d bx nb
  | .nils :: ps, d, bx, nb => by simp only [boxUF, boxU]; exact boxUF_eq x ps d bx nb
  | .box E t :: ps, d, [], _ => rfl
  | .row E t :: ps, d, [], _ => rfl
  | .box E t :: ps, d, n :: bx, nb => by simp only [boxUF, boxU, List.map_cons, List.map_append, xBoxF_eq x t, boxUF_eq x ps]
  | .row E t :: ps, d, n :: bx, nb => by simp only [boxUF, boxU, List.map_cons, boxUF_eq x ps]
theorem newUF_eq {X : Type} (x : X) : ∀ (ps : List PK) (d : X → BDs ps) (nb : Nat), (newUF ps d nb).map (fun p => (p.1, p.2 x)) = newU ps (d x) nb
  | [], _, _ => rfl
  | .val _ :: ps, d, nb => by simp only [newUF, newU]; exact newUF_eq x ps d nb
  | .agg _ :: ps, d, nb => by simp only [newUF, newU]; exact newUF_eq x ps d nb
  | .own _ _ :: ps, d, nb => by simp only [newUF, newU]; exact newUF_eq x ps d nb
  | .fn _ _ :: ps, d, nb => by simp only [newUF, newU]; exact newUF_eq x ps d nb
  | .nils :: ps, d, nb => by simp only [newUF, newU]; exact newUF_eq x ps d nb
  | .box E t :: ps, d, nb => by simp only [newUF, newU, List.map_append, xNewF_eq x t, newUF_eq x ps]
  | .row E t :: ps, d, nb => by simp only [newUF, newU]; exact newUF_eq x ps _ nb
theorem resHF_eq {X : Type} (x : X) : ∀ (rs : List RK) (d : X → RDs rs) (n : Nat), (resHF rs d n).map (fun p => (p.1, p.2 x)) = resH rs (d x) n
  | [], _, _ => rfl
  | .val t :: rs, d, n => by simp only [resHF, resH]; exact resHF_eq x rs _ n
  | .agg t :: rs, d, n => by simp only [resHF, resH, List.map_append, xNewF_eq x t, resHF_eq x rs]
  | .own E t :: rs, d, n => by simp only [resHF, resH, List.map_cons, resHF_eq x rs]
  | .box E t :: rs, d, n => by simp only [resHF, resH, List.map_cons, List.map_append, xNewF_eq x t, resHF_eq x rs]
theorem fzF_eq {X : Type} (x : X) : ∀ (l : List (Nat × Nm)), (fzF (X := X) l).map (fun p => (p.1, p.2 x)) = l
  | [] => rfl
  | (n, b) :: r => by simp only [fzF, List.map_cons, fzF_eq x r]
theorem retUF_eq {ps : List PK} {rs : List RK} {base : Nat} {fz : List (Nat × Nm)} {bx : List Nat} {cx : List (Option Nat)} (y : RDs rs × BDs ps) : (retUF ps rs base fz bx cx).map (fun p => (p.1, p.2 y)) = retU ps rs y base fz bx cx := by
  unfold retUF retU
  simp only [List.map_append, boxUF_eq, resHF_eq, newUF_eq, fzF_eq]
  cases keepF ps rs with
  | true => simp only [fzF_eq]
  | false => rfl

def allX : (o : OT) → (o.X → Prop) → Prop
  | .dat t, k => allD t k
  | .row _ t, k => ∀ x : List t.D, k x
  | .rowg _ _, k => k ()
  | .ref _ o, k => allX o k
  | .pair a b, k => allX a fun x => allX b fun y => k (x, y)
theorem allX_all : ∀ {o : OT} {k : o.X → Prop}, allX o k → ∀ d, k d
  | .dat t, k, h, d => allD_iff.1 h d
  | .row _ t, k, h, d => h d
  | .rowg _ _, k, h, d => h
  | .ref _ o, k, h, d => allX_all (o := o) h d
  | .pair a b, k, h, d => allX_all (o := b) (allX_all (o := a) h d.1) d.2
def allR : (rs : List RK) → (RDs rs → Prop) → Prop
  | [], k => k ()
  | .val t :: r, k => allD t fun x => allR r fun y => k (x, y)
  | .agg o :: r, k => allX o fun x => allR r fun y => k (x, y)
  | .own _ t :: r, k => ∀ x : List t.D, allR r fun y => k (x, y)
  | .box _ o :: r, k => allX o fun x => allR r fun y => k (x, y)
theorem allR_all : ∀ {rs : List RK} {k : RDs rs → Prop}, allR rs k → ∀ d, k d
  | [], k, h, d => h
  | .val t :: r, k, h, d => allR_all (rs := r) (allD_iff.1 h d.1) d.2
  | .agg o :: r, k, h, d => allR_all (rs := r) (allX_all (o := o) h d.1) d.2
  | .own _ t :: r, k, h, d => allR_all (rs := r) (h d.1) d.2
  | .box _ o :: r, k, h, d => allR_all (rs := r) (allX_all (o := o) h d.1) d.2
def allB : (ps : List PK) → (BDs ps → Prop) → Prop
  | [], k => k ()
  | .val _ :: r, k => allB r k
  | .agg _ :: r, k => allB r k
  | .own _ _ :: r, k => allB r k
  | .fn _ _ :: r, k => allB r k
  | .nils :: r, k => allB r k
  | .box _ o :: r, k => allX o fun x => allB r fun y => k (x, y)
  | .row _ t :: r, k => ∀ x : List t.D, allB r fun y => k (x, y)
theorem allB_all : ∀ {ps : List PK} {k : BDs ps → Prop}, allB ps k → ∀ d, k d
  | [], k, h, d => h
  | .val _ :: r, k, h, d => allB_all (ps := r) h d
  | .agg _ :: r, k, h, d => allB_all (ps := r) h d
  | .own _ _ :: r, k, h, d => allB_all (ps := r) h d
  | .fn _ _ :: r, k, h, d => allB_all (ps := r) h d
  | .nils :: r, k, h, d => allB_all (ps := r) h d
  | .box _ o :: r, k, h, d => allB_all (ps := r) (allX_all (o := o) h d.1) d.2
  | .row _ t :: r, k, h, d => allB_all (ps := r) (h d.1) d.2
def outQn (rs : List RK) (ps : List PK) : Qn (RDs rs × BDs ps) :=
  ⟨fun k => allR rs fun y => allB ps fun z => k (y, z), fun k h x => allB_all (allR_all h x.1) x.2, fun k => ∃ x, k x, fun _ h => h⟩
def Cn.spec (c : Cn) : Spec := fun base svs => (matchArgs c.ps svs).bind fun p => match namesOk p.2.1 p.2.2.1 p.2.2.2 with
  | true => askUn base (nOwn c.rs + nOwnB c.ps) (.nd (RDs c.rs × BDs c.ps) (outQn c.rs c.ps) (c.pre p.1) (c.post p.1) (c.inh p.1) (fun y => resV (resSV c.rs y.1 base)) (retUF c.ps c.rs base p.2.1 p.2.2.1 p.2.2.2))
  | false => .fail

section
variable {w0 : World} {N0 : Old} {A A' A1 A2 : Nat → Prop} {env env1 env' : Env} {h h1 : Heap} {w w1 : World}

theorem lift_l {a b c : Bool} {p : Prop} (h : (a && b) = true ∨ p) : a = true ∨ p := by
  rcases h with h | h
  · exact .inl (by simp only [Bool.and_eq_true] at h; exact h.1)
  · exact .inr h
theorem lift_r {a b : Bool} {p : Prop} (h : (a && b) = true ∨ p) : b = true ∨ p := by
  rcases h with h | h
  · exact .inl (by simp only [Bool.and_eq_true] at h; exact h.2)
  · exact .inr h

theorem outR_agg {t : OT} {rs : List RK} {svs : List SV} {x} (e : outR (.agg t :: rs) svs h1 = some x) : ∃ cs r, svs = .agg cs :: r := by
  cases svs with
  | nil => cases e
  | cons s r => cases s <;> first | exact ⟨_, _, rfl⟩ | cases e
theorem outR_own {E : TypeId} {t : CT} {rs : List RK} {svs : List SV} {x} (e : outR (.own E t :: rs) svs h1 = some x) : ∃ v r, svs = v :: r := by
  cases svs with
  | nil => cases e
  | cons s r => exact ⟨_, _, rfl⟩
theorem outR_box {E : TypeId} {t : OT} {rs : List RK} {svs : List SV} {x} (e : outR (.box E t :: rs) svs h1 = some x) : ∃ m r, svs = .ptr m 0 :: r := by
  cases svs with
  | nil => cases e
  | cons s r => cases s <;> first | cases e; done | (rename_i m o; cases o <;> first | exact ⟨_, _, rfl⟩ | cases e)
theorem oOut_ref {E : TypeId} {t : OT} {j : Option Nat} {svs : List SV} {x} (e : oOut h1 (.ref E t) j svs = some x) : ∃ j0 m r, j = some j0 ∧ svs = .ptr m 0 :: r := by
  cases j with
  | none => cases svs <;> cases e
  | some j0 =>
    cases svs with
    | nil => cases e
    | cons s r => cases s <;> first | cases e; done | (rename_i m o; cases o <;> first | exact ⟨_, _, _, rfl, rfl⟩ | cases e)
theorem oOut_rowg {E : TypeId} {t : CT} {j : Option Nat} {svs : List SV} {x} (e : oOut h1 (.rowg E t) j svs = some x) : ∃ v r, svs = v :: r := by
  cases svs with
  | nil => cases e
  | cons s r => exact ⟨_, _, rfl⟩

theorem takeRowH_sound {Nc : Old} (m1 : Mod w Nc A1 env1 h1 w1) (hA : ∀ b, A1 b → A2 b) {E : TypeId} {t : CT} (L : t.plain = true ∨ ∀ b, A2 b → A' b) {cs rest : List SV} {vs : List Value} {ys : List t.D} {on : Option Nat}
    (e : takeRowH E t h1 cs = some (ys, rest, on)) (hd : DenL A1 env1 w1 cs vs) :
    ∃ v vr, vs = v :: vr ∧ rest = cs.drop 1 ∧ DenL A1 env1 w1 rest vr ∧ ∀ (e' : Env) (i : Nat), e' i = evOf env1 on → Den A' e' w1 (.own i t.size) v ∧ LinkOK A' env1 h1 e' w1 [on] [(i, .live (.row E t ys))] i := by
  cases cs with
  | nil => cases e
  | cons s cs =>
  cases s with
  | own n sz =>
    simp only [takeRowH] at e
    split at e
    · rename_i E' t' xs hl
      split at e
      · rename_i zs hE hsz hc
        have hE := Nat.eq_of_beq_eq_true hE
        subst hE
        have hsz := Nat.eq_of_beq_eq_true hsz
        subst hsz
        obtain ⟨et, ez⟩ := castL_eq hc
        subst et
        simp only at ez
        subst ez
        simp only [Option.some.injEq, Prod.mk.injEq] at e
        obtain ⟨rfl, rfl, rfl⟩ := e
        simp only [DenL, Den] at hd
        obtain ⟨x, vr, rfl, hv, hr⟩ := hd
        have hm := m1.nm n
        rw [hl] at hm
        refine ⟨x, vr, rfl, rfl, hr, fun e' i he => ⟨?_, ⟨rfl, _, rfl, rfl, .inl ⟨n, _, rfl, hl, rfl, fun k len he => ?_, fun he => ?_⟩⟩, trivial⟩⟩
        · simp only [evOf] at he
          simp only [Den]
          rw [he]; exact hv
        · rcases hm with ⟨k', len', he', hb, _⟩ | ⟨he', _⟩
          · rw [he] at he'; cases he'
            obtain ⟨us, cap, g1, g2, g3, g4, g5, g6⟩ := hb
            exact ⟨us, cap, g1, g2, g3, g4, g5, fun i hi => Rd_lift L (Rd_mono hA (fun _ _ _ => rfl) _ _ _ _ _ (fun _ _ => rfl) (g6 i hi))⟩
          · rw [he] at he'; cases he'
        · rcases hm with ⟨k', len', he', hb, _⟩ | ⟨he', E2, t2, hb⟩
          · rw [he] at he'; cases he'
          · rcases hb with hb | hb <;> cases hb
            exact ⟨_, _, rfl⟩
      · cases e
    · cases e
  | nilsl =>
    simp only [takeRowH, Option.some.injEq, Prod.mk.injEq] at e
    obtain ⟨rfl, rfl, rfl⟩ := e
    simp only [DenL, Den] at hd
    obtain ⟨x, vr, rfl, rfl, hr⟩ := hd
    refine ⟨_, vr, rfl, rfl, hr, fun e' i he => ⟨?_, ⟨rfl, _, rfl, rfl, .inr ⟨rfl, _, _, rfl⟩⟩, trivial⟩⟩
    simp only [Den]
    exact .inl ⟨he, _, rfl⟩
  | _ => cases e

/-- What is known of the variables that a function may have changed. -/
def BxOut (A' : Nat → Prop) (env1 : Env) (h1 : Heap) (env' : Env) (w1 : World) (bx : List Nat) (j : Nat) (n : Nat) (x : Nm) : Prop :=
  ∃ i b b0, bx[i]? = some n ∧ x = .live b ∧ b.mut = true ∧ h1 (PN + (j + i)) = .live b0 ∧ b0.mut = true ∧ (∀ k len, env1 (PN + (j + i)) = .blk k len → BlkDen A' env' w1 k len b) ∧ (env1 (PN + (j + i)) = .nil → ∃ E t, b = .row E t [])

theorem BxOut.shift {pre bx : List Nat} {j n : Nat} {x : Nm} (h : BxOut A' env1 h1 env' w1 bx (j + pre.length) n x) : BxOut A' env1 h1 env' w1 (pre ++ bx) j n x := by
  obtain ⟨i, b, b0, g1, g2, g3, g4, g5, g6, g7⟩ := h
  rw [show j + pre.length + i = j + (pre.length + i) from by omega] at g4 g6 g7
  exact ⟨pre.length + i, b, b0, by rw [List.getElem?_append_right (by omega), Nat.add_sub_cancel_left]; exact g1, g2, g3, g4, g5, g6, g7⟩
theorem BxOut.grow {bx post : List Nat} {j n : Nat} {x : Nm} (h : BxOut A' env1 h1 env' w1 bx j n x) : BxOut A' env1 h1 env' w1 (bx ++ post) j n x := by
  obtain ⟨i, b, b0, g1, g2⟩ := h
  exact ⟨i, b, b0, by rw [List.getElem?_append_left (List.getElem?_eq_some_iff.1 g1).1]; exact g1, g2⟩

theorem oOut_none : ∀ (o : OT) (cs : List SV) {x}, oOut h1 o none cs = some x → o.nb = 0
  | .dat t, _, _, _ => rfl
  | .row _ t, _, _, _ => rfl
  | .rowg _ t, _, _, _ => rfl
  | .ref _ o, cs, x, e => by obtain ⟨j0, m, r, hj, -⟩ := oOut_ref e; cases hj
  | .pair a b, cs, x, e => by
    simp only [oOut] at e
    split at e
    · rename_i h1'
      split at e
      · rename_i h2'
        have k1 := oOut_none a _ h1'
        have k2 := oOut_none b _ h2'
        simp only [OT.nb]; omega
      · cases e
    · cases e

/-- A variable's cells at the end. 'bx': exactly the variables behind its pointers. -/
theorem oOut_sound {Nc : Old} (m1 : Mod w Nc A1 env1 h1 w1) (hA : ∀ b, A1 b → A2 b) : ∀ (o : OT) (j : Option Nat) (cs : List SV) (vs : List Value) (x : o.X) (rest : List SV) (fz : List (Nat × Nm)) (ow : List (Option Nat)) (bx more : List Nat) (n : Nat),
    oOut h1 o j cs = some (x, rest, fz, ow) → DenL A1 env1 w1 cs vs → (∀ k, FrzBlk env1 fz k → A2 k) → (o.plain = true ∨ ∀ b, A2 b → A' b) → (j = none ∨ bx.length = o.nb) →
    FrzOk h1 fz ∧ ow.length = o.nr ∧ ∃ us rs, vs = us ++ rs ∧ DenL A1 env1 w1 rest rs ∧
      ((∀ k q, ow[k]? = some q → env' (n + k) = evOf env1 q) → (∀ j0 k q, j = some j0 → bx[k]? = some q → env' q = env1 (PN + (j0 + k))) →
        DenL A' env' w1 (xCells o x (bx ++ more) n) us ∧ LinkOK A' env1 h1 env' w1 ow (xNew o x n) n ∧ (∀ q y, (q, y) ∈ xBox o x (bx ++ more) n → ∃ j0, j = some j0 ∧ BxOut A' env1 h1 env' w1 bx j0 q y) ∧
        (j ≠ none → ∀ q, q ∈ bx → q ∈ (xBox o x (bx ++ more) n).map (·.1)))
  | .dat t, j, cs, vs, x, rest, fz, ow, bx, more, n, e, hd, hF, L, hbl => by
    simp only [oOut] at e
    split at e
    · rename_i x1 r1 f1 q1 hp
      simp only [Option.some.injEq, Prod.mk.injEq] at e
      obtain ⟨rfl, rfl, rfl, rfl⟩ := e
      obtain ⟨p1, p2, p3, p4, p5⟩ := projC_sound m1 t cs vs x1 r1 f1 _ hp hd hA hF
      refine ⟨p1, rfl, vs.take t.size, vs.drop t.size, (List.take_append_drop _ _).symm, p5, fun _ _ => ⟨?_, trivial, fun q y hh => by simp [xBox] at hh, fun hj q hq => ?_⟩⟩
      · simp only [xCells]
        refine den_flatL (by rw [List.length_take]; omega) (Rd_lift L ?_)
        refine Rd_mono (fun _ h => h) (fun _ _ _ => rfl) t _ _ _ _ (fun k hk => ?_) p4
        simp only [Nat.zero_add, List.getElem?_take]
        rw [if_pos hk]
      · rcases hbl with hbl | hbl
        · exact absurd hbl hj
        · rw [List.length_eq_zero_iff.1 hbl] at hq; cases hq
    · cases e
  | .row E t, j, cs, vs, x, rest, fz, ow, bx, more, n, e, hd, hF, L, hbl => by
    simp only [oOut] at e
    split at e
    · rename_i x1 r1 o1 hp
      simp only [Option.some.injEq, Prod.mk.injEq] at e
      obtain ⟨rfl, rfl, rfl, rfl⟩ := e
      obtain ⟨v, vr, rfl, -, p2, p3⟩ := takeRowH_sound (A' := A') m1 hA L hp hd
      refine ⟨fun n b hh => by simp at hh, rfl, [v], vr, rfl, p2, fun ho _ => ?_⟩
      obtain ⟨k1, k2⟩ := p3 env' n (ho 0 _ rfl)
      refine ⟨?_, k2, fun q y hh => by simp [xBox] at hh, fun hj q hq => ?_⟩
      · simp only [xCells, DenL]; exact ⟨v, [], rfl, k1, rfl⟩
      · rcases hbl with hbl | hbl
        · exact absurd hbl hj
        · rw [List.length_eq_zero_iff.1 hbl] at hq; cases hq
    · cases e
  | .rowg E t, j, cs0, vs, x, rest, fz, ow, bx, more, n, e, hd, hF, L, hbl => by
    obtain ⟨v, cs, rfl⟩ := oOut_rowg e
    simp only [oOut, Option.some.injEq, Prod.mk.injEq] at e
    obtain ⟨-, rfl, rfl, rfl⟩ := e
    simp only [DenL] at hd
    obtain ⟨u, vr, rfl, hu, hvr⟩ := hd
    refine ⟨fun n b hh => by simp at hh, rfl, [u], vr, rfl, hvr, fun ho _ => ⟨?_, trivial, fun q y hh => by simp [xBox] at hh, fun hj q hq => ?_⟩⟩
    · simp only [xCells, DenL, Den]; exact ⟨u, [], rfl, trivial, rfl⟩
    · rcases hbl with hbl | hbl
      · exact absurd hbl hj
      · rw [List.length_eq_zero_iff.1 hbl] at hq; cases hq
  | .ref E o, j, cs0, vs, x, rest, fz, ow, bx, more, n, e, hd, hF, L, hbl => by
    obtain ⟨j0, m, cs, rfl, rfl⟩ := oOut_ref e
    simp only [oOut] at e
    split at e
    · rename_i E' cs' hm hl
      have hm := Nat.eq_of_beq_eq_true hm
      subst hm
      split at e
      · rename_i x1 f1 w1' hE hp
        have hE := Nat.eq_of_beq_eq_true hE
        subst hE
        simp only [Option.some.injEq, Prod.mk.injEq] at e
        obtain ⟨rfl, rfl, rfl, rfl⟩ := e
        simp only [DenL, Den] at hd
        obtain ⟨u, vr, rfl, ⟨kb, lb, hkb, rfl⟩, hvr⟩ := hd
        obtain ⟨⟨us, hus, hdu⟩, _⟩ := m1.live_blk hl hkb
        cases bx with
        | nil => rcases hbl with hbl | hbl <;> cases hbl
        | cons q0 bx =>
        have hbl' : bx.length = o.nb := by
          rcases hbl with hbl | hbl
          · cases hbl
          · simpa [OT.nb] using hbl
        obtain ⟨s1, s2, us', rs', s5, s6, s7⟩ := oOut_sound m1 hA o (some (j0 + 1)) cs' us.toList x1 [] f1 w1' bx more n hp hdu hF L (.inr hbl')
        simp only [DenL] at s6
        subst s6
        rw [List.append_nil] at s5
        subst s5
        refine ⟨s1, s2, [_], vr, rfl, hvr, fun ho hb => ?_⟩
        have h0 := hb j0 0 q0 rfl rfl
        rw [Nat.add_zero] at h0
        obtain ⟨k1, k2, k3, k4⟩ := s7 ho (fun j1 k q hj hq => by
          cases hj
          have := hb j0 (k + 1) q rfl (by simpa using hq)
          rwa [show j0 + (k + 1) = j0 + 1 + k from by omega] at this)
        refine ⟨?_, k2, fun q y hh => ?_, fun _ q hq => ?_⟩
        · simp only [xCells, List.cons_append, DenL, Den]
          exact ⟨_, [], rfl, ⟨kb, lb, by rw [h0]; exact hkb, rfl⟩, rfl⟩
        · simp only [xBox, List.cons_append] at hh
          rcases List.mem_cons.1 hh with hh | hh
          · cases hh
            refine ⟨j0, rfl, 0, _, _, rfl, rfl, rfl, hl, rfl, fun k len he => ?_, fun he => ?_⟩
            · rw [Nat.add_zero, hkb] at he; cases he
              exact ⟨us, hus, k1⟩
            · rw [Nat.add_zero, hkb] at he; cases he
          · obtain ⟨j1, hj1, hbx⟩ := k3 q y hh
            cases hj1
            exact ⟨j0, rfl, BxOut.shift (pre := [q0]) hbx⟩
        · simp only [xBox, List.cons_append, List.map_cons]
          rcases List.mem_cons.1 hq with rfl | hq
          · exact List.mem_cons_self ..
          · exact List.mem_cons_of_mem _ (k4 (by simp) q hq)
      · cases e
    · cases e
  | .pair a b, j, cs, vs, x, rest, fz, ow, bx, more, n, e, hd, hF, L, hbl => by
    simp only [oOut] at e
    split at e
    · rename_i x1 r1 f1 o1 h1'
      split at e
      · rename_i x2 r2 f2 o2 h2'
        simp only [Option.some.injEq, Prod.mk.injEq] at e
        obtain ⟨rfl, rfl, rfl, rfl⟩ := e
        have hF1 : ∀ k, FrzBlk env1 f1 k → A2 k := fun k ⟨n, x, l, hx, he⟩ => hF k ⟨n, x, l, List.mem_append_left _ hx, he⟩
        have hF2 : ∀ k, FrzBlk env1 f2 k → A2 k := fun k ⟨n, x, l, hx, he⟩ => hF k ⟨n, x, l, List.mem_append_right _ hx, he⟩
        have La : a.plain = true ∨ ∀ b, A2 b → A' b := lift_l (c := true) L
        have Lb : b.plain = true ∨ ∀ b, A2 b → A' b := lift_r L
        have hla : j = none ∨ (bx.take a.nb).length = a.nb := by
          rcases hbl with hbl | hbl
          · exact .inl hbl
          · simp only [OT.nb] at hbl
            exact .inr (by rw [List.length_take]; omega)
        have hlb : j.map (· + a.nb) = none ∨ (bx.drop a.nb).length = b.nb := by
          rcases hbl with hbl | hbl
          · exact .inl (by rw [hbl]; rfl)
          · simp only [OT.nb] at hbl
            exact .inr (by rw [List.length_drop]; omega)
        obtain ⟨s1, s2, us, rs, rfl, s6, s7⟩ := oOut_sound m1 hA a j cs vs x1 r1 f1 o1 (bx.take a.nb) (bx.drop a.nb ++ more) n h1' hd hF1 La hla
        obtain ⟨t1, t2, us', rs', rfl, t6, t7⟩ := oOut_sound m1 hA b (j.map (· + a.nb)) r1 rs x2 r2 f2 o2 (bx.drop a.nb) more (n + a.nr) h2' s6 hF2 Lb hlb
        refine ⟨fun n b hh => ?_, by simp only [List.length_append, s2, t2, OT.nr], us ++ us', rs', by rw [List.append_assoc], t6, fun ho hb => ?_⟩
        · rcases List.mem_append.1 hh with hh | hh
          · exact s1 n b hh
          · exact t1 n b hh
        have eb : bx.take a.nb ++ (bx.drop a.nb ++ more) = bx ++ more := by rw [← List.append_assoc, List.take_append_drop]
        obtain ⟨k1, k2, k3, k4⟩ := s7 (fun k q hq => ho k q (by rw [List.getElem?_append_left (List.getElem?_eq_some_iff.1 hq).1]; exact hq))
          (fun j0 k q hj hq => by
            refine hb j0 k q hj ?_
            rw [List.getElem?_take] at hq
            split at hq
            · exact hq
            · cases hq)
        obtain ⟨l1, l2, l3, l4⟩ := t7 (fun k q hq => by
            have := ho (a.nr + k) q (by rw [List.getElem?_append_right (by omega), s2, Nat.add_sub_cancel_left]; exact hq)
            rwa [show n + (a.nr + k) = n + a.nr + k from by omega] at this)
          (fun j1 k q hj hq => by
            cases j with
            | none => cases hj
            | some j0 =>
              simp only [Option.map_some, Option.some.injEq] at hj
              subst hj
              rw [List.getElem?_drop] at hq
              have := hb j0 (a.nb + k) q rfl hq
              rwa [show j0 + (a.nb + k) = j0 + a.nb + k from by omega] at this)
        rw [eb] at k1 k3 k4
        have ed : (bx ++ more).drop a.nb = bx.drop a.nb ++ more := by
          rcases hbl with hbl | hbl
          · subst hbl
            rw [oOut_none a _ h1', List.drop_zero, List.drop_zero]
          · simp only [OT.nb] at hbl
            rw [List.drop_append_of_le_length (by omega)]
        have tl : ∀ j0, j = some j0 → (bx.take a.nb).length = a.nb := fun j0 hj => by
          rcases hla with h | h
          · rw [hj] at h; cases h
          · exact h
        rw [← ed] at l1 l3 l4
        simp only [xCells, xBox, xNew]
        refine ⟨DenL_append k1 l1, k2.append (by rw [s2]; exact l2), fun q y hh => ?_, fun hj q hq => ?_⟩
        · rcases List.mem_append.1 hh with hh | hh
          · obtain ⟨j0, hj, hx⟩ := k3 q y hh
            refine ⟨j0, hj, ?_⟩
            have := hx.grow (post := bx.drop a.nb)
            rwa [List.take_append_drop] at this
          · obtain ⟨j1, hj1, hx⟩ := l3 q y hh
            cases j with
            | none => cases hj1
            | some j0 =>
              simp only [Option.map_some, Option.some.injEq] at hj1
              subst hj1
              refine ⟨j0, rfl, ?_⟩
              have := BxOut.shift (pre := bx.take a.nb) (bx := bx.drop a.nb) (j := j0) (n := q) (x := y) (by rw [tl j0 rfl]; exact hx)
              rwa [List.take_append_drop] at this
        · rw [List.map_append]
          rw [← List.take_append_drop a.nb bx] at hq
          rcases List.mem_append.1 hq with hq | hq
          · exact List.mem_append_left _ (k4 hj q hq)
          · exact List.mem_append_right _ (l4 (by cases j with | none => exact absurd rfl hj | some j0 => simp) q hq)
      · cases e
    · cases e

/-- Each variable behind a pointer is among the names with new contents. -/
theorem xBox_keys : ∀ {o : OT} {x : o.X} {bx more : List Nat} {n : Nat}, bx.length = o.nb → ∀ q, q ∈ bx → q ∈ (xBox o x (bx ++ more) n).map (·.1)
  | .dat _, x, bx, more, n, hl, q, hq => by rw [List.length_eq_zero_iff.1 hl] at hq; cases hq
  | .row _ _, x, bx, more, n, hl, q, hq => by rw [List.length_eq_zero_iff.1 hl] at hq; cases hq
  | .rowg _ _, x, bx, more, n, hl, q, hq => by rw [List.length_eq_zero_iff.1 hl] at hq; cases hq
  | .ref E o, x, [], more, n, hl, q, hq => by cases hq
  | .ref E o, x, q0 :: bx, more, n, hl, q, hq => by
    simp only [List.cons_append, xBox, List.map_cons]
    rcases List.mem_cons.1 hq with rfl | hq
    · exact List.mem_cons_self ..
    · exact List.mem_cons_of_mem _ (xBox_keys (o := o) (by simpa [OT.nb] using hl) q hq)
  | .pair a b, x, bx, more, n, hl, q, hq => by
    simp only [OT.nb] at hl
    simp only [xBox, List.map_append]
    rw [← List.take_append_drop a.nb bx] at hq
    have e1 : bx ++ more = bx.take a.nb ++ (bx.drop a.nb ++ more) := by rw [← List.append_assoc, List.take_append_drop]
    rcases List.mem_append.1 hq with hq | hq
    · refine List.mem_append_left _ ?_
      rw [e1]
      exact xBox_keys (o := a) (by rw [List.length_take]; omega) q hq
    · refine List.mem_append_right _ ?_
      rw [List.drop_append_of_le_length (by omega)]
      exact xBox_keys (o := b) (by rw [List.length_drop]; omega) q hq

theorem outR_sound {Nc : Old} (m1 : Mod w Nc A1 env1 h1 w1) (hA : ∀ b, A1 b → A2 b) : ∀ (rs : List RK) (d : RDs rs) (svs : List SV) (vs : List Value) (fz : List (Nat × Nm)) (ow : List (Option Nat)) (n : Nat),
    outR rs svs h1 = some (d, fz, ow) → DenL A1 env1 w1 svs vs → (∀ k, FrzBlk env1 fz k → A2 k) → (rsPlain rs = true ∨ ∀ b, A2 b → A' b) →
    FrzOk h1 fz ∧ ow.length = nOwn rs ∧ ((∀ i o, ow[i]? = some o → env' (n + i) = evOf env1 o) → DenL A' env' w1 (resSV rs d n) vs ∧ LinkOK A' env1 h1 env' w1 ow (resH rs d n) n)
  | [], d, [], vs, fz, ow, n, e, hd, hF, L => by
    simp only [outR, Option.some.injEq, Prod.mk.injEq] at e
    obtain ⟨-, rfl, rfl⟩ := e
    exact ⟨fun n b hh => by simp at hh, rfl, fun _ => ⟨by simpa [resSV, DenL] using hd, trivial⟩⟩
  | .val t :: rs, d, v :: svs, vs, fz, ow, n, e, hd, hF, L => by
    simp only [outR] at e
    split at e
    · rename_i x f1 q hp
      split at e
      · rename_i ps f2 o hr
        simp only [Option.some.injEq, Prod.mk.injEq] at e
        obtain ⟨rfl, rfl, rfl⟩ := e
        simp only [DenL] at hd
        obtain ⟨u, vr, rfl, hu, hvr⟩ := hd
        have hF1 : ∀ k, FrzBlk env1 f1 k → A2 k := fun k ⟨n, x, l, hx, he⟩ => hF k ⟨n, x, l, List.mem_append_left _ hx, he⟩
        have hF2 : ∀ k, FrzBlk env1 f2 k → A2 k := fun k ⟨n, x, l, hx, he⟩ => hF k ⟨n, x, l, List.mem_append_right _ hx, he⟩
        obtain ⟨p1, _, p3, p4, _⟩ := projC_sound m1 t [v] [u] x [] f1 _ hp (by simp only [DenL]; exact ⟨u, [], rfl, hu, rfl⟩) hA hF1
        obtain ⟨s1, s2, s3⟩ := outR_sound m1 hA rs ps svs vr f2 o n hr hvr hF2 (lift_r L)
        refine ⟨fun n b hh => ?_, s2, fun he => ?_⟩
        · rcases List.mem_append.1 hh with hh | hh
          · exact p1 n b hh
          · exact s1 n b hh
        · obtain ⟨k1, k2⟩ := s3 he
          refine ⟨?_, k2⟩
          simp only [resSV, DenL]
          exact ⟨u, vr, rfl, den_flat1 (rest := []) (Rd_lift (lift_l (c := true) L) p4), k1⟩
      · cases e
    · cases e
  | .agg t :: rs, d, svs0, vs, fz, ow, n, e, hd, hF, L => by
    obtain ⟨cs, svs, rfl⟩ := outR_agg e
    simp only [outR] at e
    split at e
    · rename_i x f1 w' hp
      split at e
      · rename_i ps f2 o hr
        simp only [Option.some.injEq, Prod.mk.injEq] at e
        obtain ⟨rfl, rfl, rfl⟩ := e
        simp only [DenL, Den] at hd
        obtain ⟨u, vr, rfl, ⟨us, rfl, hu⟩, hvr⟩ := hd
        have hF1 : ∀ k, FrzBlk env1 f1 k → A2 k := fun k ⟨n, x, l, hx, he⟩ => hF k ⟨n, x, l, List.mem_append_left _ hx, he⟩
        have hF2 : ∀ k, FrzBlk env1 f2 k → A2 k := fun k ⟨n, x, l, hx, he⟩ => hF k ⟨n, x, l, List.mem_append_right _ hx, he⟩
        obtain ⟨p1, p2, us', rs', p3, p4, p5⟩ := oOut_sound (env' := env') m1 hA t none cs us.toList x [] f1 w' [] [] n hp hu hF1 (lift_l (c := true) L) (.inl rfl)
        simp only [DenL] at p4
        subst p4
        rw [List.append_nil] at p3
        subst p3
        obtain ⟨s1, s2, s3⟩ := outR_sound m1 hA rs ps svs vr f2 o (n + t.nr) hr hvr hF2 (lift_r L)
        refine ⟨fun n b hh => ?_, by simp only [List.length_append, p2, s2, nOwn]; omega, fun he => ?_⟩
        · rcases List.mem_append.1 hh with hh | hh
          · exact p1 n b hh
          · exact s1 n b hh
        · obtain ⟨l1, l2, _⟩ := p5 (fun k q hq => he k q (by rw [List.getElem?_append_left (List.getElem?_eq_some_iff.1 hq).1]; exact hq)) (fun j0 k q hj _ => by cases hj)
          obtain ⟨k1, k2⟩ := s3 (fun k q hq => by
            have := he (t.nr + k) q (by rw [List.getElem?_append_right (by omega), p2, Nat.add_sub_cancel_left]; exact hq)
            rwa [show n + (t.nr + k) = n + t.nr + k from by omega] at this)
          simp only [resSV, resH, DenL, Den]
          exact ⟨⟨_, vr, rfl, ⟨us, rfl, l1⟩, k1⟩, l2.append (by rw [p2]; exact k2)⟩
      · cases e
    · cases e
  | .own E t :: rs, d, svs0, vs, fz, ow, n, e, hd, hF, L => by
    obtain ⟨v, svs, rfl⟩ := outR_own e
    simp only [outR] at e
    split at e
    · rename_i x r1 w' hp
      split at e
      · rename_i ps f2 o hr
        simp only [Option.some.injEq, Prod.mk.injEq] at e
        obtain ⟨rfl, rfl, rfl⟩ := e
        simp only [DenL] at hd
        obtain ⟨u, vr, rfl, hu, hvr⟩ := hd
        obtain ⟨v', vr', p1, -, -, p3⟩ := takeRowH_sound (A' := A') m1 hA (lift_l (c := true) L) hp (vs := [u]) (by simp only [DenL]; exact ⟨u, [], rfl, hu, rfl⟩)
        cases p1
        obtain ⟨s1, s2, s3⟩ := outR_sound m1 hA rs ps svs vr f2 o (n + 1) hr hvr hF (lift_r L)
        refine ⟨s1, by simp only [List.length_cons, s2, nOwn], fun he => ?_⟩
        obtain ⟨l1, l2⟩ := p3 env' n (he 0 _ rfl)
        obtain ⟨k1, k2⟩ := s3 (fun k q hq => by have := he (k + 1) q (by simpa using hq); rwa [show n + (k + 1) = n + 1 + k from by omega] at this)
        simp only [resSV, resH, DenL]
        exact ⟨⟨u, vr, rfl, l1, k1⟩, l2.1, k2⟩
      · cases e
    · cases e
  | .box E t :: rs, d, svs0, vs, fz, ow, n, e, hd, hF, L => by
    obtain ⟨q, svs, rfl⟩ := outR_box e
    simp only [outR] at e
    split at e
    · rename_i E' cs hl
      split at e
      · rename_i x f1 w' hE hp
        have hE := Nat.eq_of_beq_eq_true hE
        subst hE
        split at e
        · rename_i ps f2 o hr
          simp only [Option.some.injEq, Prod.mk.injEq] at e
          obtain ⟨rfl, rfl, rfl⟩ := e
          simp only [DenL, Den] at hd
          obtain ⟨u, vr, rfl, ⟨kb, lb, hkb, rfl⟩, hvr⟩ := hd
          obtain ⟨⟨us, hus, hdu⟩, _⟩ := m1.live_blk hl hkb
          have hF1 : ∀ k, FrzBlk env1 f1 k → A2 k := fun k ⟨n, x, l, hx, he⟩ => hF k ⟨n, x, l, List.mem_append_left _ hx, he⟩
          have hF2 : ∀ k, FrzBlk env1 f2 k → A2 k := fun k ⟨n, x, l, hx, he⟩ => hF k ⟨n, x, l, List.mem_append_right _ hx, he⟩
          obtain ⟨p1, p2, us', rs', p3, p4, p5⟩ := oOut_sound (env' := env') m1 hA t none cs us.toList x [] f1 w' [] [] (n + 1) hp hdu hF1 (lift_l (c := true) L) (.inl rfl)
          simp only [DenL] at p4
          subst p4
          rw [List.append_nil] at p3
          subst p3
          obtain ⟨s1, s2, s3⟩ := outR_sound m1 hA rs ps svs vr f2 o (n + 1 + t.nr) hr hvr hF2 (lift_r L)
          refine ⟨fun n b hh => ?_, by simp only [List.length_cons, List.length_append, p2, s2, nOwn]; omega, fun he => ?_⟩
          · rcases List.mem_append.1 hh with hh | hh
            · exact p1 n b hh
            · exact s1 n b hh
          · have h0 := he 0 (some q) rfl
            simp only [Nat.add_zero, evOf] at h0
            have he' : ∀ k q', (w' ++ o)[k]? = some q' → env' (n + 1 + k) = evOf env1 q' := fun k q' hq => by
              have := he (k + 1) q' (by simpa using hq); rwa [show n + (k + 1) = n + 1 + k from by omega] at this
            obtain ⟨l1, l2, _⟩ := p5 (fun k q hq => he' k q (by rw [List.getElem?_append_left (List.getElem?_eq_some_iff.1 hq).1]; exact hq)) (fun j0 k q hj _ => by cases hj)
            obtain ⟨k1, k2⟩ := s3 (fun k q hq => by
              have := he' (t.nr + k) q (by rw [List.getElem?_append_right (by omega), p2, Nat.add_sub_cancel_left]; exact hq)
              rwa [show n + 1 + (t.nr + k) = n + 1 + t.nr + k from by omega] at this)
            simp only [resSV, resH, DenL, Den]
            refine ⟨⟨_, vr, rfl, ⟨kb, lb, by rw [h0]; exact hkb, rfl⟩, k1⟩, ⟨rfl, _, rfl, rfl, .inl ⟨q, _, rfl, hl, rfl, fun k len hk => ?_, fun hk => ?_⟩⟩, l2.append (by rw [p2]; exact k2)⟩
            · rw [hkb] at hk; cases hk
              exact ⟨us, hus, l1⟩
            · rw [hkb] at hk; cases hk
        · cases e
      · cases e
    · cases e
  | [], _, _ :: _, _, _, _, _, e, _, _, _ => by cases e
  | .val _ :: _, _, [], _, _, _, _, e, _, _, _ => by cases e

/-- How many variables a function may change. -/
def nBx : List PK → Nat
  | [] => 0
  | .val _ :: r => nBx r
  | .agg _ :: r => nBx r
  | .own _ _ :: r => nBx r
  | .fn _ _ :: r => nBx r
  | .nils :: r => nBx r
  | .box _ o :: r => o.nb + nBx r + 1
  | .row _ _ :: r => nBx r + 1

theorem oBox_len : ∀ {o : OT} {d : o.D} {j i : Nat}, (oBox o d j i).length = o.nb
  | .dat _, _, _, _ => rfl
  | .row _ _, _, _, _ => rfl
  | .rowg _ _, _, _, _ => rfl
  | .ref _ o, d, j, i => by simp only [oBox, List.length_cons, oBox_len (o := o), OT.nb]
  | .pair a b, d, j, i => by simp only [oBox, List.length_append, oBox_len (o := a), oBox_len (o := b), OT.nb]
theorem boxesOf_len : ∀ {ps : List PK} {d : PDs ps} {j i : Nat}, (boxesOf ps d j i).length = nBx ps
  | [], _, _, _ => rfl
  | .val t :: ps, d, j, i => boxesOf_len (ps := ps)
  | .agg t :: ps, d, j, i => boxesOf_len (ps := ps)
  | .own _ t :: ps, d, j, i => boxesOf_len (ps := ps)
  | .fn _ _ :: ps, d, j, i => boxesOf_len (ps := ps)
  | .nils :: ps, d, j, i => boxesOf_len (ps := ps)
  | .box E o :: ps, d, j, i => by simp only [boxesOf, List.length_cons, List.length_append, oBox_len, boxesOf_len (ps := ps), nBx]
  | .row E t :: ps, d, j, i => by simp only [boxesOf, List.length_cons, boxesOf_len (ps := ps), nBx]

theorem outB_sound {Nc : Old} (m1 : Mod w Nc A1 env1 h1 w1) (hA : ∀ b, A1 b → A2 b) : ∀ (ps : List PK) (d : BDs ps) (fz : List (Nat × Nm)) (ow : List (Option Nat)) (bx : List Nat) (j n : Nat),
    outB ps j h1 = some (d, fz, ow) → (∀ k, FrzBlk env1 fz k → A2 k) → (psPlain ps = true ∨ ∀ b, A2 b → A' b) → bx.length = nBx ps →
    FrzOk h1 fz ∧ ow.length = nOwnB ps ∧ ((∀ k q, ow[k]? = some q → env' (n + k) = evOf env1 q) → (∀ k q, bx[k]? = some q → env' q = env1 (PN + (j + k))) →
      LinkOK A' env1 h1 env' w1 ow (newU ps d n) n ∧ (∀ q x, (q, x) ∈ boxU ps d bx n → BxOut A' env1 h1 env' w1 bx j q x)) ∧ ∀ q, q ∈ bx → q ∈ (boxU ps d bx n).map (·.1)
  | [], d, fz, ow, bx, j, n, e, hF, L, hl => by
    simp only [outB, Option.some.injEq, Prod.mk.injEq] at e
    obtain ⟨-, rfl, rfl⟩ := e
    simp only [nBx, List.length_eq_zero_iff] at hl
    subst hl
    exact ⟨fun n b hh => by simp at hh, rfl, fun _ _ => ⟨trivial, fun q x hh => by simp [boxU] at hh⟩, fun q hh => by simp at hh⟩
  | .val t :: ps, d, fz, ow, bx, j, n, e, hF, L, hl => by
    simp only [boxU, newU, nOwnB]
    exact outB_sound m1 hA ps d fz ow bx j n (by simpa only [outB] using e) hF (by simpa only [psPlain] using L) (by simpa only [nBx] using hl)
  | .agg t :: ps, d, fz, ow, bx, j, n, e, hF, L, hl => by
    simp only [boxU, newU, nOwnB]
    exact outB_sound m1 hA ps d fz ow bx j n (by simpa only [outB] using e) hF (by simpa only [psPlain] using L) (by simpa only [nBx] using hl)
  | .own _ t :: ps, d, fz, ow, bx, j, n, e, hF, L, hl => by
    simp only [boxU, newU, nOwnB]
    exact outB_sound m1 hA ps d fz ow bx j n (by simpa only [outB] using e) hF (by simpa only [psPlain] using L) (by simpa only [nBx] using hl)
  | .fn _ _ :: ps, d, fz, ow, bx, j, n, e, hF, L, hl => by
    simp only [boxU, newU, nOwnB]
    exact outB_sound m1 hA ps d fz ow bx j n (by simpa only [outB] using e) hF (by simpa only [psPlain] using L) (by simpa only [nBx] using hl)
  | .nils :: ps, d, fz, ow, bx, j, n, e, hF, L, hl => by
    simp only [boxU, newU, nOwnB]
    exact outB_sound m1 hA ps d fz ow bx j n (by simpa only [outB] using e) hF (by simpa only [psPlain] using L) (by simpa only [nBx] using hl)
  | .box E o :: ps, d, fz, ow, bx, j, n, e, hF, L, hl => by
    cases bx with
    | nil => simp [nBx] at hl
    | cons n0 bx =>
    simp only [outB] at e
    split at e
    · rename_i E' cs hlk
      split at e
      · rename_i x f1 w' hE hp
        have hE := Nat.eq_of_beq_eq_true hE
        subst hE
        split at e
        · rename_i ps' f2 ow2 hr
          simp only [Option.some.injEq, Prod.mk.injEq] at e
          obtain ⟨rfl, rfl, rfl⟩ := e
          simp only [List.length_cons, nBx] at hl
          have hF1 : ∀ k, FrzBlk env1 f1 k → A2 k := fun k ⟨n, x, l, hx, he⟩ => hF k ⟨n, x, l, List.mem_append_left _ hx, he⟩
          have hF2 : ∀ k, FrzBlk env1 f2 k → A2 k := fun k ⟨n, x, l, hx, he⟩ => hF k ⟨n, x, l, List.mem_append_right _ hx, he⟩
          have hlt : (bx.take o.nb).length = o.nb := by rw [List.length_take]; omega
          have eb : bx.take o.nb ++ bx.drop o.nb = bx := List.take_append_drop ..
          obtain ⟨s1, s2, s3, s4⟩ := outB_sound m1 hA ps ps' f2 ow2 (bx.drop o.nb) (j + 1 + o.nb) (n + o.nr) hr hF2 (lift_r L) (by rw [List.length_drop]; omega)
          have hm := m1.nm (PN + j)
          rw [hlk] at hm
          have hbd : ∃ kb lb us, env1 (PN + j) = .blk kb lb ∧ w1.heap[kb]? = some (.cells us E (0, 0)) ∧ DenL A1 env1 w1 cs us.toList := by
            rcases hm with ⟨k', len', he', ⟨us, hus, hdu⟩, _⟩ | ⟨he', _, _, hb | hb⟩
            · exact ⟨k', len', us, he', hus, hdu⟩
            · cases hb
            · cases hb
          obtain ⟨kb, lb, us, hkb, hus, hdu⟩ := hbd
          obtain ⟨p1, p2, us', rs', p3, p4, p5⟩ := oOut_sound (env' := env') m1 hA o (some (j + 1)) cs us.toList x [] f1 w' (bx.take o.nb) (bx.drop o.nb) n hp hdu hF1 (lift_l (c := true) L) (.inr hlt)
          simp only [DenL] at p4
          subst p4
          rw [List.append_nil] at p3
          subst p3
          rw [eb] at p5
          refine ⟨fun n b hh => ?_, by simp only [List.length_append, p2, s2, nOwnB]; omega, fun ho hb => ?_, fun q hq => ?_⟩
          · rcases List.mem_append.1 hh with hh | hh
            · exact p1 n b hh
            · exact s1 n b hh
          · obtain ⟨l1, l2, l3, _⟩ := p5 (fun k q hq => ho k q (by rw [List.getElem?_append_left (List.getElem?_eq_some_iff.1 hq).1]; exact hq))
              (fun j0 k q hj hq => by
                cases hj
                rw [List.getElem?_take] at hq
                split at hq
                · have := hb (k + 1) q (by simpa using hq)
                  rwa [show j + (k + 1) = j + 1 + k from by omega] at this
                · cases hq)
            obtain ⟨k1, k2⟩ := s3 (fun k q hq => by
                have := ho (o.nr + k) q (by rw [List.getElem?_append_right (by omega), p2, Nat.add_sub_cancel_left]; exact hq)
                rwa [show n + (o.nr + k) = n + o.nr + k from by omega] at this)
              (fun k q hq => by
                rw [List.getElem?_drop] at hq
                have := hb (o.nb + k + 1) q (by simpa using hq)
                rwa [show j + (o.nb + k + 1) = j + 1 + o.nb + k from by omega] at this)
            simp only [newU, boxU]
            refine ⟨l2.append (by rw [p2]; exact k1), fun q y hh => ?_⟩
            rcases List.mem_cons.1 hh with hh | hh
            · cases hh
              refine ⟨0, _, _, rfl, rfl, rfl, hlk, rfl, fun k len he => ?_, fun he => ?_⟩
              · rw [Nat.add_zero, hkb] at he; cases he
                exact ⟨us, hus, l1⟩
              · rw [Nat.add_zero, hkb] at he; cases he
            · rcases List.mem_append.1 hh with hh | hh
              · obtain ⟨j0, hj, hx⟩ := l3 q y hh
                cases hj
                have := (BxOut.shift (pre := [n0]) (j := j) hx).grow (post := bx.drop o.nb)
                rwa [List.append_assoc, eb] at this
              · have := BxOut.shift (pre := n0 :: bx.take o.nb) (bx := bx.drop o.nb) (j := j) (n := q) (x := y) (by rw [List.length_cons, hlt, show j + (o.nb + 1) = j + 1 + o.nb from by omega]; exact k2 q y hh)
                rwa [List.cons_append, eb] at this
          · simp only [boxU, List.map_cons, List.map_append]
            rcases List.mem_cons.1 hq with rfl | hq
            · exact List.mem_cons_self ..
            · refine List.mem_cons_of_mem _ ?_
              rw [← eb] at hq
              rcases List.mem_append.1 hq with hq | hq
              · refine List.mem_append_left _ ?_
                have := xBox_keys (o := o) (x := x) (n := n) (more := bx.drop o.nb) hlt q hq
                rwa [eb] at this
              · exact List.mem_append_right _ (s4 q hq)
        · cases e
      · cases e
    · cases e
  | .row E t :: ps, d, fz, ow, bx, j, n, e, hF, L, hl => by
    cases bx with
    | nil => simp [nBx] at hl
    | cons n0 bx =>
    simp only [outB] at e
    split at e
    · rename_i E' t' xs hlk
      split at e
      · rename_i ys hE hcl
        have hE := Nat.eq_of_beq_eq_true hE
        subst hE
        obtain ⟨et, ez⟩ := castL_eq hcl
        subst et
        simp only at ez
        subst ez
        split at e
        · rename_i ps' f2 ow2 hr
          simp only [Option.some.injEq, Prod.mk.injEq] at e
          obtain ⟨rfl, rfl, rfl⟩ := e
          obtain ⟨s1, s2, s3, s4⟩ := outB_sound m1 hA ps ps' f2 ow2 bx (j + 1) n hr hF (lift_r L) (by simpa [nBx] using hl)
          have hm := m1.nm (PN + j)
          rw [hlk] at hm
          refine ⟨s1, s2, fun ho hb => ?_, fun q hq => ?_⟩
          · obtain ⟨k1, k2⟩ := s3 ho (fun k q hq => by have := hb (k + 1) q (by simpa using hq); rwa [show j + (k + 1) = j + 1 + k from by omega] at this)
            simp only [newU, boxU]
            refine ⟨k1, fun q y hh => ?_⟩
            rcases List.mem_cons.1 hh with hh | hh
            · cases hh
              refine ⟨0, _, _, rfl, rfl, rfl, hlk, rfl, fun k len he => ?_, fun he => ?_⟩
              · rcases hm with ⟨k', len', he', hb, _⟩ | ⟨he', _⟩
                · rw [Nat.add_zero] at he; rw [he] at he'; cases he'
                  obtain ⟨us, cap, g1, g2, g3, g4, g5, g6⟩ := hb
                  exact ⟨us, cap, g1, g2, g3, g4, g5, fun i hi => Rd_lift (lift_l (c := true) L) (Rd_mono hA (fun _ _ _ => rfl) _ _ _ _ _ (fun _ _ => rfl) (g6 i hi))⟩
                · rw [Nat.add_zero] at he; rw [he] at he'; cases he'
              · rcases hm with ⟨k', len', he', hb, _⟩ | ⟨he', E2, t2, hb⟩
                · rw [Nat.add_zero] at he; rw [he] at he'; cases he'
                · rcases hb with hb | hb <;> cases hb
                  exact ⟨_, _, rfl⟩
            · exact BxOut.shift (pre := [n0]) (k2 q y hh)
          · simp only [boxU, List.map_cons]
            rcases List.mem_cons.1 hq with rfl | hq
            · exact List.mem_cons_self ..
            · exact List.mem_cons_of_mem _ (s4 q hq)
        · cases e
      · cases e
    · cases e
end
end Go.SX
