/- SX, part 8: struct and array values, new slices, append, slicing. -/
import Derived.Test.YtdegakknelbjiaaGreatDoorSx7
namespace Go.SX
set_option linter.unusedVariables false

/-! ### build -/
def placeOf (P : Program) (t : TypeId) (i : Nat) : Option (Nat × Nat) := match P.underlying t with
  | some (.struct fs) => match fs[i]? with
    | some f => match sizeT P f.type with
      | some n => some (f.offset, n)
      | none => none
    | none => none
  | some (.array _ e) => match sizeT P e with
    | some n => some (i * n, n)
    | none => none
  | _ => none

def allSized (P : Program) : List Field → Bool
  | [] => true
  | f :: fs => (sizeT P f.type).isSome && allSized P fs

def fillS (P : Program) (place : Nat → Option (Nat × Nat)) : List SV → List (Nat × SV) → Option (List SV)
  | cs, [] => some cs
  | cs, (i, v) :: r => match place i, cellsOk v with
    | some (off, n), some vs => match Nat.beq vs.length n, Nat.ble (off + n) cs.length with
      | true, true => fillS P place (setR cs off vs) r
      | _, _ => none
    | _, _ => none

def buildOk (P : Program) (t : TypeId) : Bool := match P.underlying t with
  | some (.struct fs) => allSized P fs.toList
  | some (.array _ e) => (sizeT P e).isSome
  | _ => false

def sBuild (P : Program) (t : TypeId) (ps : List (Nat × SV)) : Q Dl := match buildOk P t, zeroCells P t with
  | true, some z => match fillS P (placeOf P t) z ps with
    | some cs => det0 (.agg cs)
    | none => .fail
  | _, _ => .fail

/-! ### rows -/
/-- The data type of a Go type. -/
def ctOf (P : Program) : Nat → TypeId → Option CT
  | 0, _ => none
  | n + 1, t => match P.underlying t with
    | some (.int k) => some (.int k)
    | some .bool => some .bool
    | some .string => some .str
    | some (.slice e) => match ctOf P n e with
      | some c => some (.sl c)
      | none => none
    | some (.struct fs) => ctAll (ctOf P n) fs.toList
    | _ => none
where
  ctAll (f : TypeId → Option CT) : List Field → Option CT
    | [] => none
    | [x] => f x.type
    | x :: xs => match f x.type, ctAll f xs with
      | some a, some b => some (.pair a b)
      | _, _ => none

/-- 'n' data one after the other. -/
def projN (t : CT) : Nat → List SV → Q (List t.D × List (Nat × Nm))
  | 0, _ => .ret ([], [])
  | n + 1, cs => (projC t cs).bind fun p => (projN t n p.2.1).bind fun q => .ret (p.1 :: q.1, p.2.2 ++ q.2)

def repL {α : Type} (l : List α) : Nat → List α
  | 0 => []
  | n + 1 => l ++ repL l n

def sBuildSlice (P : Program) (t : TypeId) (len nm : Nat) (ps : List (Nat × SV)) : Q Dl := match elemT P t with
  | some (e, sz) => match ctOf P 8 e, zeroCells P e with
    | some u, some z => match Nat.beq u.size sz, Nat.beq z.length sz, Nat.ble (len * sz) 16777216, fillS P (fun i => some (i * sz, sz)) (repL z len) ps with
      | true, true, true, some cs => (projN u len cs).bind fun p => .ask nm fun
        | .un => match notIn nm p.2 with
          | true => .ret (.det [] (.own nm sz) ((nm, .live (.row e u p.1)) :: p.2))
          | false => .fail
        | _ => .fail
      | _, _, _, _ => .fail
    | _, _ => .fail
  | none => .fail

/-- The zero datum, as cells. -/
def sMakeSlice (P : Program) (t : TypeId) (nm : Nat) (l c : SV) : Q Dl := match elemT P t, l, c with
  | some (e, sz), .int _ l, .int _ c => match ctOf P 8 e, zeroCells P e, P.info? e with
    | some u, some z, some i => match Nat.beq u.size sz, Nat.beq z.length sz, Nat.ble 1 i.bytes, projC u z with
      | true, true, true, .ret (d, _, []) => .ask nm fun
        | .un => .ret (.det [0 ≤ l, l ≤ c, (i.bytes : Int) * c ≤ 281474976710656] (.own nm sz) [(nm, .live (.row e u (List.replicate l.toNat d)))])
        | _ => .fail
      | _, _, _, _ => .fail
    | _, _, _ => .fail
  | _, _, _ => .fail

/-- What is appended: data. -/
def srcD (t : CT) (x : SV) : Q (List t.D) := match x with
  | .dsl u ys => match castL u t ys with
    | some ys => .ret ys
    | none => .fail
  | .dsx u ys => match castL u t ys with
    | some ys => .ret ys
    | none => .fail
  | .nilsl => .ret []
  | .own n sz => .ask n fun
    | .live (.row _ u ys) => match Nat.beq sz u.size, castL u t ys with
      | true, some ys => .ret ys
      | _, _ => .fail
    | .live (.frz _ u ys) => match Nat.beq sz u.size, castL u t ys with
      | true, some ys => .ret ys
      | _, _ => .fail
    | _ => .fail
  | _ => .fail

def sAppend (P : Program) (t : TypeId) (nm : Nat) (s x : SV) : Q Dl := match elemT P t with
  | some (e, sz) => match P.info? e with
    | some i => match Nat.ble 1 i.bytes, i.zero with
      | true, some z => match Nat.beq z.cells.size sz with
        | true => match s with
          | .own n sz' => .ask n fun
            | .live (.row E u xs) => match Nat.beq E e, Nat.beq sz u.size, Nat.beq sz' u.size with
              | true, true, true => (srcD u x).bind fun ys => .ask nm fun
                | .un => .ret (.det [(xs.length + ys.length) * i.bytes ≤ 140737488355328] (.own nm sz) [(nm, .live (.row e u (xs ++ ys))), (n, .dead)])
                | _ => .fail
              | _, _, _ => .fail
            | _ => .fail
          | .nilsl => match ctOf P 8 e with
            | some u => match Nat.beq sz u.size with
              | true => (srcD u x).bind fun ys => .ask nm fun
                | .un => .ret (.det [ys.length * i.bytes ≤ 140737488355328] (.own nm sz) [(nm, .live (.row e u ys))])
                | _ => .fail
              | false => .fail
            | none => .fail
          | .dsx u xs => match Nat.beq sz u.size with
            | true => (srcD u x).bind fun ys => .ask nm fun
              | .un => .ret (.det [(xs.length + ys.length) * i.bytes ≤ 140737488355328, xs = []] (.own nm sz) [(nm, .live (.row e u ys))])
              | _ => .fail
            | false => .fail
          | _ => .fail
        | false => .fail
      | _, _ => .fail
    | none => .fail
  | none => .fail

/-- A part of a list. -/
def subL {α : Type} (xs : List α) (l h : Nat) : List α := (xs.take h).drop l

def bound (x : Option SV) (dflt : Int) : Option Int := match x with
  | none => some dflt
  | some (.int _ n) => some n
  | _ => none

def sSlice (P : Program) (t : TypeId) (x : SV) (lo hi mx : Option SV) : Q Dl := match elemT P t with
  | some (_, sz) => match x with
    | .dsl u xs => match Nat.beq sz u.size, bound lo 0, bound hi xs.length with
      | true, some l, some h => match mx with
        | none => .ret (.det [0 ≤ l, l ≤ h, h ≤ xs.length] (.dsl u (subL xs l.toNat h.toNat)) [])
        | some (.int _ mm) => match hi with
          | some _ => .ret (.det [0 ≤ l, l ≤ h, h = mm, h ≤ xs.length] (.dsx u (subL xs l.toNat h.toNat)) [])
          | none => .fail
        | _ => .fail
      | _, _, _ => .fail
    | .own n sz' => match mx with
      | none => .ask n fun
        | .live (.row E u xs) => match Nat.beq sz u.size, Nat.beq sz' u.size, bound lo 0, bound hi xs.length with
          | true, true, some l, some h => .ret (.det [0 ≤ l, l ≤ h, h ≤ xs.length] (.dsl u (subL xs l.toNat h.toNat)) [(n, .live (.frz E u xs))])
          | _, _, _, _ => .fail
        | .live (.frz E u xs) => match Nat.beq sz u.size, Nat.beq sz' u.size, bound lo 0, bound hi xs.length with
          | true, true, some l, some h => .ret (.det [0 ≤ l, l ≤ h, h ≤ xs.length] (.dsl u (subL xs l.toNat h.toNat)) [])
          | _, _, _, _ => .fail
        | _ => .fail
      | _ => .fail
    | .nilsl => match bound lo 0, bound hi 0, mx with
      | some l, some h, none => .ret (.det [l = 0, h = 0] .nilsl [])
      | _, _, _ => .fail
    | _ => .fail
  | none => .fail

/-! ### an array's element at an index that is not known -/
def pickI (l : List Int) (i : Nat) : Int := l.getD i 0
def colInts (k : IntKind) (sz : Nat) : List SV → Nat → Option (List Int)
  | [], _ => some []
  | .int k' n :: cs, 0 => match kEq k k', colInts k sz cs (sz - 1) with
    | true, some l => some (n :: l)
    | _, _ => none
  | _ :: _, 0 => none
  | _ :: cs, s + 1 => colInts k sz cs s

def sIndex (P : Program) (t : TypeId) (x i : SV) : Q Dl := match x, i, P.underlying t with
  | .agg cs, .int _ i, some (.array len e) => match P.underlying e, sizeT P e with
    | some (.int k), some 1 => match colInts k 1 cs 0, Nat.beq cs.length len with
      | some l, true => .ret (.det [0 ≤ i, i < len] (.int k (pickI l i.toNat)) [])
      | _, _ => .fail
    | some (.array 2 e2), some 2 => match P.underlying e2, sizeT P e2 with
      | some (.int k), some 1 => match colInts k 2 cs 0, colInts k 2 cs 1, Nat.beq cs.length (len * 2) with
        | some l1, some l2, true => .ret (.det [0 ≤ i, i < len] (.agg [.int k (pickI l1 i.toNat), .int k (pickI l2 i.toNat)]) [])
        | _, _, _ => .fail
      | _, _ => .fail
    | _, _ => .fail
  | _, _, _ => .fail

section
variable {P : Program} {w0 : World} {N0 : Old} {A : Nat → Prop} {env : Env} {h : Heap} {w : World} {o : Oper} {a : Act} {ρ : Nat → SV} {d : Dl} {r : List Nat}

theorem run_mapM_list {α β : Type} (f : α → Sem β) (g : α → β) : ∀ (l : List α), (∀ x ∈ l, (f x).run P w = .ok (g x) w) → (l.mapM f).run P w = .ok (l.map g) w
  | [], _ => by simp
  | x :: l, hx => by
    have ih := run_mapM_list f g l (fun y hy => hx y (List.mem_cons_of_mem _ hy))
    rw [List.mapM_cons]
    simp only [Sem.run_bind, hx x (by simp), Result.andThen_ok, ih, Sem.run_pure, List.map_cons]

theorem run_mapM_array {α β : Type} (f : α → Sem β) (g : α → β) (l : Array α) (hx : ∀ x ∈ l.toList, (f x).run P w = .ok (g x) w) : (l.mapM f).run P w = .ok (l.map g) w := by
  rw [Array.mapM_eq_mapM_toList]
  have := run_mapM_list (P := P) (w := w) f g l.toList hx
  simp only [Sem.run_map, this, Result.andThen_ok]
  congr 1
  exact Array.ext' (by simp)

theorem fill_fold (vs : List Value) (off : Nat) (cs : List Value) (hfit : off + vs.length ≤ cs.length) :
    (vs.toArray.zipIdx.foldl (fun cs (x : Value × Nat) => cs.setIfInBounds (off + x.2) x.1) cs.toArray).toList = cs.take off ++ (vs ++ cs.drop (off + vs.length)) := by
  have key : ∀ (vs : List Value) (k : Nat) (pre mid suf : List Value), pre.length = off + k → mid.length = vs.length →
      ((vs.zipIdx k).foldl (fun (cs : Array Value) (x : Value × Nat) => cs.setIfInBounds (off + x.2) x.1) (pre ++ (mid ++ suf)).toArray).toList = pre ++ (vs ++ suf) := by
    intro vs
    induction vs with
    | nil => intro k pre mid suf _ hm; simp only [List.length_nil, List.length_eq_zero_iff] at hm; subst hm; simp
    | cons v vs ih =>
      intro k pre mid suf hp hm
      cases mid with
      | nil => simp at hm
      | cons u mid =>
        simp only [List.zipIdx_cons, List.foldl_cons]
        have : (pre ++ (u :: mid ++ suf)).toArray.setIfInBounds (off + k) v = ((pre ++ [v]) ++ (mid ++ suf)).toArray := by
          apply Array.ext'
          simp only [Array.toList_setIfInBounds]
          rw [List.set_append_right _ _ (by omega), hp]
          simp
        rw [this, ih (k + 1) (pre ++ [v]) mid suf (by simp [hp]; omega) (by simpa using hm)]
        simp
  have := key vs 0 (cs.take off) ((cs.drop off).take vs.length) (cs.drop (off + vs.length)) (by simp; omega) (by simp; omega)
  have e : cs.take off ++ ((cs.drop off).take vs.length ++ cs.drop (off + vs.length)) = cs := by
    rw [← List.drop_drop, List.take_append_drop, List.take_append_drop]
  rw [e] at this
  rw [← this, ← Array.foldl_toList, Array.toList_zipIdx]

theorem fillS_den {place place' : Nat → Option (Nat × Nat)} (hpl : ∀ i p, place i = some p → place' i = some p) : ∀ (ps : List (Nat × SV)) (qs : List (Nat × Value)) (cs rs : List SV) (us : Array Value),
    fillS P place cs ps = some rs → DenL A env w cs us.toList → qs.map (·.1) = ps.map (·.1) → DenL A env w (ps.map (·.2)) (qs.map (·.2)) →
    ∃ vs, Instr.fill place' us qs = some vs ∧ DenL A env w rs vs.toList
  | [], qs, cs, rs, us, e, hd, hi, hq => by
    have : qs = [] := by simpa using hi
    subst this
    simp only [fillS] at e
    cases e
    exact ⟨us, rfl, hd⟩
  | (i, v) :: ps, qs, cs, rs, us, e, hd, hi, hq => by
    match qs, hi with
    | (i', u) :: qs, hi2 =>
      clear hi
      simp only [List.map_cons, List.cons.injEq] at hi2
      obtain ⟨rfl, hi⟩ := hi2
      simp only [List.map_cons, DenL] at hq
      obtain ⟨u', r', hq1, hq2, hq3⟩ := hq
      simp only [List.cons.injEq] at hq1
      obtain ⟨rfl, rfl⟩ := hq1
      simp only [fillS] at e
      split at e
      · rename_i off n vs hp hc
        split at e
        · rename_i hb1 hb2
          have hb1 : vs.length = n := Nat.eq_of_beq_eq_true hb1
          have hb2 : off + n ≤ cs.length := Nat.le_of_ble_eq_true hb2
          obtain ⟨dv, _⟩ := cellsOk_den hc hq2
          have hlv := DenL_length dv
          have hlu := DenL_length hd
          have hlv' : u.cells.size = n := by rw [← Array.length_toList, hlv, hb1]
          have hlu' : us.size = cs.length := by rw [← Array.length_toList, hlu]
          have hR := DenL_setR (off := off) hd dv
          have hfold := fill_fold u.cells.toList off us.toList (by simp; omega)
          obtain ⟨ws, hw1, hw2⟩ := fillS_den hpl ps qs (setR cs off vs) rs (u.cells.zipIdx.foldl (fun cs (x : Value × Nat) => cs.setIfInBounds (off + x.2) x.1) us) e
            (by simp only [Array.toArray_toList] at hfold; rw [hfold]; exact hR) hi hq3
          refine ⟨ws, ?_, hw2⟩
          simp only [Instr.fill, hpl i' _ hp]
          have c1 : ¬ (u.cells.size ≠ n ∨ us.size < off + u.cells.size) := by omega
          simp only [hlv', ne_eq, not_true_eq_false, decide_false, Bool.false_or, gt_iff_lt]
          rw [if_neg (by simp; omega)]
          exact hw1
        · cases e
      · cases e

theorem build_sound (m : Mod w0 N0 A env h w) (f : FD A env w ρ a) {t : TypeId} {parts : Array (Nat × Operand)} (ho : o.op = .build t parts)
    (e : (sBuild P t (parts.toList.map fun p => (p.1, opnd ρ p.2))).run h = some (d, r)) : Yields P o a w0 N0 A env h w d := by
  unfold sBuild at e
  split at e
  · rename_i z hb hz
    split at e
    · rename_i cs hf
      unfold det0 at e
      cases ret_inj e
      obtain ⟨i, zv, hi, hzv, dz, _⟩ := zeroCells_den (A := A) (env := env) (w := w) hz
      have dps : DenL A env w ((parts.toList.map fun p => (p.1, opnd ρ p.2)).map (·.2)) ((parts.toList.map fun p => (p.1, a.eval p.2)).map (·.2)) := by
        generalize parts.toList = l
        induction l with
        | nil => simp [DenL]
        | cons p l ih => simp only [List.map_cons, DenL]; exact ⟨_, _, rfl, Den_opnd f p.2, ih⟩
      have exe : ∀ {vs : Array Value}, (Instr.build t (parts.map fun (x : Nat × Operand) => (x.1, a.eval x.2))).run P w = .ok (.agg vs) w → (execOp a.eval o).run P w = .ok (.value (.agg vs)) w := by
        intro vs hv
        unfold execOp; rw [ho]
        simp only [Sem.run_bind, hv, Result.andThen_ok, Sem.run_pure]
      have hzr : (zeroValue t).run P w = .ok zv w := by simp [zeroValue, typeInfo, hi, hzv]
      unfold buildOk at hb
      split at hb
      · rename_i fs hu
        have hall : ∀ x ∈ fs.toList, (sizeT P x.type).isSome = true := by
          generalize fs.toList = l at hb
          induction l with
          | nil => simp
          | cons x l ih =>
            simp only [allSized, Bool.and_eq_true] at hb
            intro y hy
            rcases List.mem_cons.1 hy with rfl | hy
            · exact hb.1
            · exact ih hb.2 y hy
        have hmap := run_mapM_array (P := P) (w := w) (fun (f : Field) => (do pure (f.offset, ← sizeOf f.type) : Sem (Nat × Nat))) (fun f => (f.offset, (sizeT P f.type).getD 0)) fs (fun x hx => by
          obtain ⟨n, hn⟩ := Option.isSome_iff_exists.1 (hall x hx)
          simp [sizeT_run hn, hn])
        obtain ⟨vs, hv, dv⟩ := fillS_den (A := A) (env := env) (w := w) (place := placeOf P t) (place' := fun i => (fs.map fun f => (f.offset, (sizeT P f.type).getD 0))[i]?) (fun i p hp => by
          unfold placeOf at hp
          rw [hu] at hp
          simp only at hp
          split at hp
          · rename_i f hf
            split at hp
            · rename_i n hn; cases hp; simp [hf, hn]
            · cases hp
          · cases hp) (parts.toList.map fun p => (p.1, opnd ρ p.2)) (parts.toList.map fun p => (p.1, a.eval p.2)) z cs zv.cells hf dz (by simp [Function.comp_def]) dps
        refine Yields.pure m (v := .agg vs) (exe ?_) (by simp only [Den]; exact ⟨vs, rfl, dv⟩)
        unfold Instr.build
        simp only [Sem.run_bind, hzr, Result.andThen_ok, run_underlying hu, hmap, Array.toList_map, hv, Sem.run_pure]
      · rename_i len e' hu
        obtain ⟨n, hn⟩ := Option.isSome_iff_exists.1 hb
        obtain ⟨vs, hv, dv⟩ := fillS_den (A := A) (env := env) (w := w) (place := placeOf P t) (place' := fun i => some (i * n, n)) (fun i p hp => by
          unfold placeOf at hp
          rw [hu] at hp
          simp only [hn] at hp
          exact hp) (parts.toList.map fun p => (p.1, opnd ρ p.2)) (parts.toList.map fun p => (p.1, a.eval p.2)) z cs zv.cells hf dz (by simp [Function.comp_def]) dps
        refine Yields.pure m (v := .agg vs) (exe ?_) (by simp only [Den]; exact ⟨vs, rfl, dv⟩)
        unfold Instr.build
        simp only [Sem.run_bind, hzr, Result.andThen_ok, run_underlying hu, sizeT_run hn, Array.toList_map, hv, Sem.run_pure]
      · cases hb
    · cases e
  · cases e

end
end Go.SX
