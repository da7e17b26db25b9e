/- SX, part 7: operations that make or write memory: variables, struct literals, stores. -/
import Derived.Test.YtdegakknelbjiaaGreatDoorSx6
namespace Go.SX
set_option linter.unusedVariables false

/-- The cells of a value that goes into memory. -/
def cellsOk (s : SV) : Option (List SV) := match s with
  | .agg cs => match allOne cs with
    | true => some cs
    | false => none
  | s => match s.one with
    | true => some [s]
    | false => none

def zeroCells (P : Program) (E : TypeId) : Option (List SV) := match P.info? E with
  | some i => match i.zero with
    | some (.agg cs) => match allOne (cs.toList.map ofV) with
      | true => some (cs.toList.map ofV)
      | false => none
    | some v => match (ofV v).one with
      | true => some [ofV v]
      | false => none
    | none => none
  | none => none

def sNew (E : TypeId) (nm : Nat) (cs : Option (List SV)) : Q Dl := .ask nm fun
  | .un => match cs with
    | some cs => .ret (.det [] (.ptr nm 0) [(nm, .live (.cells E cs))])
    | none => .fail
  | _ => .fail

def setR (cs : List SV) (off : Nat) (vs : List SV) : List SV := cs.take off ++ (vs ++ cs.drop (off + vs.length))

def notIn (n : Nat) : List (Nat × Nm) → Bool
  | [] => true
  | (m, _) :: r => !Nat.beq n m && notIn n r

def sStore (P : Program) (ty : TypeId) (x y : SV) : Q Dl := match cellsOk y, sizeT P ty with
  | some vs, some n => match Nat.beq n vs.length with
    | true => match x with
      | .ptr m off => .ask m fun
        | .live (.cells E cs) => match Nat.ble (off + vs.length) cs.length with
          | true => .ret (.det [] (.cv undef) [(m, .live (.cells E (setR cs off vs)))])
          | false => .fail
        | _ => .fail
      | .eptr m sz i off => .ask m fun
        | .live (.row E t xs) => match Nat.beq sz t.size, Nat.ble (off + vs.length) t.size with
          | true, true => (projC t (setR (flat t (elem t xs i)) off vs)).bind fun p => match notIn m p.2.2 with
            | true => .ret (.det [] (.cv undef) ((m, .live (.row E t (xs.set i p.1))) :: p.2.2))
            | false => .fail
          | _, _ => .fail
        | _ => .fail
      | _ => .fail
    | false => .fail
  | _, _ => .fail

section
variable {P : Program} {w0 : World} {N0 : Old} {A : Nat → Prop} {env : Env} {h : Heap} {w : World} {o : Oper} {a : Act} {ρ : Nat → SV} {d : Dl} {r : List Nat}

theorem cells_of_one {v : Value} (h : v.oneCell' = true) : v.cells = #[v] := by cases v <;> first | rfl | cases h

theorem cellsOk_den {s : SV} {cs : List SV} {v : Value} (e : cellsOk s = some cs) (hd : Den A env w s v) : DenL A env w cs v.cells.toList ∧ ∀ u ∈ v.cells.toList, u.oneCell' = true := by
  unfold cellsOk at e
  split at e
  · rename_i cs' 
    split at e
    · rename_i ho
      cases e
      simp only [Den] at hd
      obtain ⟨vs, rfl, hd⟩ := hd
      exact ⟨hd, DenL_one hd ho⟩
    · cases e
  · split at e
    · rename_i ho
      cases e
      have h1 := Den_one hd ho
      rw [cells_of_one h1]
      exact ⟨by simp only [DenL]; exact ⟨v, [], rfl, hd, rfl⟩, by simpa using h1⟩
    · cases e

theorem Good.fresh (m : Mod w0 N0 A env h w) {nm : Nat} (hn : h nm = .un) {b : Blk} {len : Nat} {s : SV} {v : Value} {w' : World} (hm : b.mut = true) (k : Nat) (hk : w.heap.size ≤ k)
    (c : Chg w w' fun _ => False) (hb : ∀ x : Ext A env w A (env.set nm (.blk k len)) w', BlkDen A (env.set nm (.blk k len)) w' k len b)
    (hd : Den A (env.set nm (.blk k len)) w' s v) : Good w0 N0 A env h w (.det [] s [(nm, .live b)]) v w' := by
  have hu : env nm = .un := by have := m.nm nm; rw [hn] at this; exact this
  have hA : ¬ A k := fun hA => by have := m.Alt k hA; omega
  have x : Ext A env w A (env.set nm (.blk k len)) w' := by
    refine ⟨fun _ h => h, fun n b l e => ?_, fun n e => ?_, fun b o hb => ?_, c.shape⟩
    · rw [Env.set_other]; exact e; intro e'; rw [e'] at e; rw [hu] at e; cases e
    · rw [Env.set_other]; exact e; intro e'; rw [e'] at e; rw [hu] at e; cases e
    · exact World.cell?_of_block (a := ⟨b, o, none⟩) (c.blk b (m.Alt b hb) (fun x => x))
  have u := Upd.fresh m hn (o := default) hm k hk hA c (hb x)
  exact ⟨(), A, env.set nm (.blk k len), trivial, m.upd u, x, hd⟩

theorem new_good (m : Mod w0 N0 A env h w) {E : TypeId} {nm : Nat} {cs : List SV} (hn : h nm = .un) {vs : Array Value} (hd : DenL A env w cs vs.toList) :
    Good w0 N0 A env h w (.det [] (.ptr nm 0) [(nm, .live (.cells E cs))]) (.pointer (some ⟨w.heap.size, 0, none⟩)) (w.alloc (.cells vs E)) := by
  refine Good.fresh m hn (len := 0) rfl w.heap.size (Nat.le_refl _) (Chg.alloc w _ _) (fun x => ⟨vs, heap_alloc_new w _, DenL_mono x _ _ hd⟩) ?_
  simp only [Den]
  exact ⟨_, 0, Env.set_same _ _ _, rfl⟩

theorem sNew_inv {E : TypeId} {nm : Nat} {cs : Option (List SV)} (e : (sNew E nm cs).run h = some (d, r)) :
    h nm = .un ∧ ∃ c, cs = some c ∧ d = .det [] (.ptr nm 0) [(nm, .live (.cells E c))] := by
  simp only [sNew, Q.run] at e
  split at e
  · rename_i p q hk
    simp only [Option.some.injEq, Prod.mk.injEq] at e
    obtain ⟨rfl, rfl⟩ := e
    split at hk
    · rename_i hun
      split at hk
      · exact ⟨hun, _, rfl, (ret_inj hk).symm⟩
      · cases hk
    · cases hk
  · cases e

theorem box_sound (m : Mod w0 N0 A env h w) (f : FD A env w ρ a) {E : TypeId} {x : Operand} {nm : Nat} (ho : o.op = .box E x)
    (e : (sNew E nm (cellsOk (opnd ρ x))).run h = some (d, r)) : Yields P o a w0 N0 A env h w d := by
  obtain ⟨hun, c, hc, rfl⟩ := sNew_inv e
  obtain ⟨h1, h2⟩ := cellsOk_den hc (Den_opnd f x)
  refine ⟨_, _, .inl ?_, new_good m hun h1⟩
  unfold execOp; rw [ho]
  simp [Instr.box, newVar, newRow]

theorem zeroCells_den {E : TypeId} {cs : List SV} (e : zeroCells P E = some cs) : ∃ i z, P.info? E = some i ∧ i.zero = some z ∧ DenL A env w cs z.cells.toList ∧ ∀ u ∈ z.cells.toList, u.oneCell' = true := by
  have key : ∀ l : List Value, DenL A env w (l.map ofV) l := by
    intro l
    induction l with
    | nil => simp [DenL]
    | cons v l ih => simp only [List.map_cons, DenL]; exact ⟨v, l, rfl, Den_ofV v, ih⟩
  unfold zeroCells at e
  split at e
  · rename_i i hi
    split at e
    · rename_i cs' hz
      split at e
      · rename_i ho
        cases e
        exact ⟨i, _, hi, hz, key _, DenL_one (A := A) (env := env) (w := w) (key _) ho⟩
      · cases e
    · rename_i v hna hz
      split at e
      · rename_i ho
        cases e
        have h1 := Den_one (A := A) (env := env) (w := w) (Den_ofV v) ho
        refine ⟨i, v, hi, hz, ?_, ?_⟩
        · rw [cells_of_one h1]; simp only [DenL]; exact ⟨v, [], rfl, Den_ofV v, rfl⟩
        · rw [cells_of_one h1]; simpa using h1
      · cases e
    · cases e
  · cases e

theorem alloc_sound (m : Mod w0 N0 A env h w) {E : TypeId} {nm : Nat} (ho : o.op = .alloc E)
    (e : (sNew E nm (zeroCells P E)).run h = some (d, r)) : Yields P o a w0 N0 A env h w d := by
  obtain ⟨hun, c, hc, rfl⟩ := sNew_inv e
  obtain ⟨i, z, hi, hz, h1, h2⟩ := zeroCells_den (A := A) (env := env) (w := w) hc
  refine ⟨_, _, .inl ?_, new_good m hun h1⟩
  unfold execOp; rw [ho]
  simp [Instr.alloc, zeroValue, typeInfo, hi, hz, newVar, newRow]

/-! ### Making rows immutable -/
theorem setAll_frz : ∀ {fz : List (Nat × Nm)}, FrzOk h fz → ∀ {n : Nat}, (∃ b, (n, b) ∈ fz) → ∃ E t xs, h n = .live (.row E t xs) ∧ setAll fz h n = .live (.frz E t xs)
  | [], _, n, hn => by obtain ⟨b, hb⟩ := hn; simp at hb
  | (m, b) :: fz, ok, n, hn => by
    by_cases hnm : n = m
    · subst hnm
      obtain ⟨E, t, xs, h1, h2⟩ := ok n b (by simp)
      exact ⟨E, t, xs, h1, by simp [setAll, h2]⟩
    · have hn' : ∃ b, (n, b) ∈ fz := by
        obtain ⟨b', hb'⟩ := hn
        rcases List.mem_cons.1 hb' with hh | hh
        · cases hh; exact absurd rfl hnm
        · exact ⟨b', hh⟩
      obtain ⟨E, t, xs, h1, h2⟩ := setAll_frz (fz := fz) (fun n b hb => ok n b (List.mem_cons_of_mem _ hb)) hn'
      exact ⟨E, t, xs, h1, by rw [setAll, Heap.set_other _ _ hnm]; exact h2⟩

def frzA (A : Nat → Prop) (env : Env) (fz : List (Nat × Nm)) : Nat → Prop := fun b => A b ∨ FrzBlk env fz b

theorem frz_upd (m : Mod w0 N0 A env h w) {fz : List (Nat × Nm)} (ok : FrzOk h fz) :
    Upd (fun n => ∃ b, (n, b) ∈ fz) (fun _ => False) A env h w (frzA A env fz) env (setAll fz h) w := by
  have x : Ext A env w (frzA A env fz) env w := ⟨fun b hb => .inl hb, fun _ _ _ h => h, fun _ h => h, fun _ _ _ => rfl, fun _ _ h => h⟩
  refine ⟨Chg.refl w _, fun _ h => h.elim, fun b hb => .inl hb, ?_, fun _ _ => rfl, fun _ _ => rfl, ?_, ?_, ?_, ?_⟩
  · rintro b (hb | ⟨n, nb, l, hn, he⟩)
    · exact .inl hb
    · obtain ⟨E, t, xs, h1, _⟩ := ok n nb hn
      exact .inr ⟨.inr ⟨n, _, l, ⟨nb, hn⟩, h1, rfl, he⟩, (m.live_blk h1 he).1.lt⟩
  · intro n hn
    exact setAll_other (fun hh => by
      obtain ⟨p, hp, rfl⟩ := List.mem_map.1 hh
      exact hn ⟨p.2, hp⟩)
  · rintro n ⟨b, hn⟩
    obtain ⟨E, t, xs, h1, h2⟩ := setAll_frz ok ⟨b, hn⟩
    rw [h2]
    have := m.nm n
    rw [h1] at this
    rcases this with ⟨k, l, he, hb, hA⟩ | ⟨he, E', t', hb⟩
    · refine .inl ⟨k, l, he, ⟨.inr ⟨n, b, l, hn, he⟩, RowDen_mono x rfl hb⟩, fun hm => by cases hm⟩
    · refine .inr ⟨he, E', t', .inr ?_⟩
      rcases hb with hb | hb <;> cases hb; rfl
  · rintro n b k l ⟨b', hn⟩ hl hm he
    obtain ⟨E, t, xs, h1, h2⟩ := setAll_frz ok ⟨b', hn⟩
    rw [h2] at hl; cases hl; cases hm
  · rintro n n' b c k l l' ⟨b', hn⟩ _ hl _ hm
    obtain ⟨E, t, xs, h1, h2⟩ := setAll_frz ok ⟨b', hn⟩
    rw [h2] at hl; cases hl; cases hm

theorem Mod.freeze (m : Mod w0 N0 A env h w) {fz : List (Nat × Nm)} (ok : FrzOk h fz) :
    Mod w0 N0 (frzA A env fz) env (setAll fz h) w ∧ Ext A env w (frzA A env fz) env w :=
  ⟨m.upd (frz_upd m ok), m.ext (frz_upd m ok)⟩

/-! ### Stores -/
theorem DenL_setR {cs vs : List SV} {us ws : List Value} {off : Nat} (h1 : DenL A env w cs us) (h2 : DenL A env w vs ws) :
    DenL A env w (setR cs off vs) (us.take off ++ (ws ++ us.drop (off + ws.length))) := by
  have hl := DenL_length h2
  rw [hl]
  exact DenL_append (DenL_take _ h1) (DenL_append h2 (DenL_drop _ h1))

theorem Chg.setRow (w : World) (k : Nat) (vs us : Array Value) (E : TypeId) (hk : w.heap[k]? = some (.cells vs E (0, 0))) (hs : us.size = vs.size) : Chg w (w.setRow k us) fun j => j = k := by
  refine ⟨rfl, rfl, rfl, by simp, fun j _ hj => setRow_other w k j us hj, ?_⟩
  intro j s hj
  unfold World.shape? at hj ⊢
  by_cases hjk : j = k
  · subst hjk
    rw [setRow_heap w j vs us E _ hk]
    rw [hk] at hj
    simp only at hj ⊢
    rw [hs]; exact hj
  · rw [setRow_other w k j us hjk]; exact hj

theorem storeVar_run {ty : TypeId} {k off : Nat} {v : Value} {vs : Array Value} {E : TypeId} (hk : w.heap[k]? = some (.cells vs E (0, 0))) (hsz : sizeT P ty = some v.cells.size)
    (hfit : off + v.cells.size ≤ vs.size) (h1 : ∀ u ∈ v.cells.toList, u.oneCell' = true) :
    (storeVar ty ⟨k, off, none⟩ v).run P w = .ok () (w.setRow k (vs.toList.take off ++ v.cells.toList ++ vs.toList.drop (off + v.cells.size)).toArray) := by
  have hst := run_storeCells_at P k off E v.cells.toList 0 vs w hk (by simpa using hfit) h1
  simp only [Nat.add_zero, Array.length_toList] at hst
  simp [storeVar, sizeT_run hsz, hst]

theorem notIn_spec {n : Nat} : ∀ {fz : List (Nat × Nm)}, notIn n fz = true → n ∉ fz.map (·.1)
  | [], _ => by simp
  | (m, b) :: fz, h => by
    simp only [notIn, Bool.and_eq_true, Bool.not_eq_true'] at h
    simp only [List.map_cons, List.mem_cons, not_or]
    exact ⟨fun e => by rw [e, Nat.beq_refl] at h; exact absurd h.1 (by simp), notIn_spec h.2⟩

theorem store_sound (m : Mod w0 N0 A env h w) (f : FD A env w ρ a) {ty : TypeId} {x y : Operand} (ho : o.op = .store ty x y)
    (e : (sStore P ty (opnd ρ x) (opnd ρ y)).run h = some (d, r)) : Yields P o a w0 N0 A env h w d := by
  have dx := Den_opnd f x
  have dy := Den_opnd f y
  unfold sStore at e
  split at e
  · rename_i vs n hc hn
    obtain ⟨dv, h1⟩ := cellsOk_den hc dy
    have hlv := DenL_length dv
    split at e
    · rename_i hb
      have hb : n = vs.length := Nat.eq_of_beq_eq_true hb
      have hsz : sizeT P ty = some (a.eval y).cells.size := by rw [hn, hb, ← hlv, Array.length_toList]
      have go : ∀ {b off : Nat} {w' : World}, a.eval x = .pointer (some ⟨b, off, none⟩) → (storeVar ty ⟨b, off, none⟩ (a.eval y)).run P w = .ok () w' → (execOp a.eval o).run P w = .ok .skip w' := by
        intro b off w' ev hr
        unfold execOp; rw [ho]
        simp only [ev, Instr.storeAt, Instr.sureAddr, Sem.run_bind, Sem.run_pure, Result.andThen_ok, hr]
      split at e
      · rename_i mm off hx
        rw [hx] at dx; simp only [Den] at dx
        obtain ⟨b, l, he, ev⟩ := dx
        simp only [Q.run] at e
        split at e
        · rename_i p q hk
          simp only [Option.some.injEq, Prod.mk.injEq] at e
          obtain ⟨rfl, rfl⟩ := e
          split at hk
          · rename_i E cs hl
            split at hk
            · rename_i hle
              have hle : off + vs.length ≤ cs.length := Nat.le_of_ble_eq_true hle
              cases ret_inj hk
              obtain ⟨⟨us, hh, hd⟩, _⟩ := m.live_blk hl he
              have hlu := DenL_length hd
              have hfit : off + (a.eval y).cells.size ≤ us.size := by rw [← Array.length_toList, hlv, ← Array.length_toList, hlu]; exact hle
              have hrun := storeVar_run hh hsz hfit h1
              refine ⟨undef, _, .inr ⟨go ev hrun, rfl⟩, ?_⟩
              have hdR := DenL_setR (off := off) hd dv
              have c := Chg.setRow w b us (us.toList.take off ++ (a.eval y).cells.toList ++ us.toList.drop (off + (a.eval y).cells.size)).toArray E hh
                (by simp only [List.size_toArray, List.length_append, List.length_take, List.length_drop, Array.length_toList]; omega)
              have x : Ext A env w A env (w.setRow b (us.toList.take off ++ (a.eval y).cells.toList ++ us.toList.drop (off + (a.eval y).cells.size)).toArray) :=
                ⟨fun _ h => h, fun _ _ _ h => h, fun _ h => h, fun b' o' hb' => World.cell?_of_block (a := ⟨b', o', none⟩) (c.blk b' (m.Alt b' hb') (fun e' => (m.live_blk hl he).2 rfl (e' ▸ hb'))), c.shape⟩
              have u := Upd.write (b' := .cells E (setR cs off vs)) m hl rfl he c ⟨_, setRow_heap w b us _ E _ hh, by
                have := DenL_mono x _ _ hdR
                simpa [List.append_assoc] using this⟩ rfl
              exact ⟨(), A, env, trivial, m.upd u, m.ext u, by simp only [Dl.val, Den]⟩
            · cases hk
          · cases hk
        · cases e
      · rename_i mm sz i off hx
        rw [hx] at dx; simp only [Den] at dx
        obtain ⟨b, l, he, hil, ev⟩ := dx
        simp only [Q.run] at e
        split at e
        · rename_i p q hk
          simp only [Option.some.injEq, Prod.mk.injEq] at e
          obtain ⟨rfl, rfl⟩ := e
          split at hk
          · rename_i E t xs hl
            split at hk
            · rename_i hs1 hle
              have hs1 : sz = t.size := Nat.eq_of_beq_eq_true hs1
              have hle : off + vs.length ≤ t.size := Nat.le_of_ble_eq_true hle
              subst hs1
              obtain ⟨⟨d', rest, fz⟩, r1, r2, e1, e2, rfl⟩ := Q.run_bind _ _ _ hk
              simp only at e2
              split at e2
              · rename_i hni
                cases ret_inj e2
                have hni := notIn_spec hni
                -- the element before
                obtain ⟨us, cap, hh, hus, hxl, hlc, hcm, hrd⟩ := (m.live_blk hl he).1
                have hix : i < xs.length := by omega
                obtain ⟨es, hel, hec, hed⟩ := flat_den (env := env) t (elem t xs i) _ _ (RowDen_elem (m.live_blk hl he).1 hil)
                have hdR := DenL_setR (off := off) hed dv
                have hle' : (flat t (elem t xs i)).length = t.size := flat_len _ _
                obtain ⟨ok, _, hlen, hrd', _⟩ := projC_sound m t _ _ d' rest fz r1 e1 hdR (A' := frzA A env fz) (fun b hb => .inl hb) (fun k hk' => .inr hk')
                obtain ⟨m2, x2⟩ := m.freeze ok
                have hl2 : setAll fz h mm = .live (.row E t xs) := by rw [setAll_other hni]; exact hl
                have hpos : i * t.size + t.size ≤ us.size := by
                  rw [hus]
                  have : (i + 1) * t.size ≤ cap * t.size := Nat.mul_le_mul_right _ (by omega)
                  rw [Nat.add_mul, Nat.one_mul] at this; exact this
                have hsv : (a.eval y).cells.size = vs.length := by rw [← Array.length_toList, hlv]
                have hfit : i * t.size + off + (a.eval y).cells.size ≤ us.size := by omega
                have hrun := storeVar_run hh hsz hfit h1
                refine ⟨undef, _, .inr ⟨go ev hrun, rfl⟩, ?_⟩
                have c := Chg.setRow w b us (us.toList.take (i * t.size + off) ++ (a.eval y).cells.toList ++ us.toList.drop (i * t.size + off + (a.eval y).cells.size)).toArray E hh
                  (by simp only [List.size_toArray, List.length_append, List.length_take, List.length_drop, Array.length_toList]; omega)
                have x3 : Ext (frzA A env fz) env w (frzA A env fz) env (w.setRow b (us.toList.take (i * t.size + off) ++ (a.eval y).cells.toList ++ us.toList.drop (i * t.size + off + (a.eval y).cells.size)).toArray) :=
                  ⟨fun _ h => h, fun _ _ _ h => h, fun _ h => h, fun b' o' hb' => World.cell?_of_block (a := ⟨b', o', none⟩) (c.blk b' (m2.Alt b' hb') (fun e' => (m2.live_blk hl2 he).2 rfl (e' ▸ hb'))), c.shape⟩
                have hrow : RowDen (frzA A env fz) (w.setRow b (us.toList.take (i * t.size + off) ++ (a.eval y).cells.toList ++ us.toList.drop (i * t.size + off + (a.eval y).cells.size)).toArray) b l E t (xs.set i d') := by
                  refine ⟨_, cap, setRow_heap w b us _ E _ hh, ?_, by simpa using hxl, hlc, hcm, ?_⟩
                  · simp only [List.size_toArray, List.length_append, List.length_take, List.length_drop, Array.length_toList]; omega
                  · intro j hj
                    have hj' : j < xs.length := by simpa using hj
                    rw [List.getElem_set]
                    have cellAt : ∀ p, (us.toList.take (i * t.size + off) ++ (a.eval y).cells.toList ++ us.toList.drop (i * t.size + off + (a.eval y).cells.size)).toArray[p]? =
                        if p < i * t.size + off then us[p]? else if p < i * t.size + off + vs.length then (a.eval y).cells[p - (i * t.size + off)]? else us[p]? := by
                      intro p
                      rw [List.getElem?_toArray, List.append_assoc, List.getElem?_append]
                      simp only [List.length_take, Array.length_toList]
                      rw [show min (i * t.size + off) us.size = i * t.size + off from by omega]
                      split
                      · rename_i hp; rw [List.getElem?_take, if_pos hp, Array.getElem?_toList]
                      · rename_i hp
                        rw [List.getElem?_append]
                        simp only [Array.length_toList, hsv]
                        by_cases h2 : p < i * t.size + off + vs.length
                        · rw [if_pos (by omega), if_pos h2, Array.getElem?_toList]
                        · rw [if_neg (by omega), if_neg h2, List.getElem?_drop, Array.getElem?_toList]
                          congr 1; omega
                    split
                    · rename_i hij
                      subst hij
                      have hsh := Rd_shift hrd' (i * t.size)
                      rw [Nat.zero_add] at hsh
                      refine Rd_mono (fun _ h => h) x3.keep t _ _ _ _ (fun q hq => ?_) hsh
                      rw [cellAt]
                      have hq2 : i * t.size + q - i * t.size = q := by omega
                      simp only [hq2]
                      have hel' : es.length = t.size := hel
                      have hecq := hec q hq
                      rw [cell_of_row w b _ us E (0, 0) hh] at hecq
                      rw [List.getElem?_append]
                      simp only [List.length_take, hel']
                      rw [show min off t.size = off from by omega]
                      by_cases c1 : q < off
                      · rw [if_pos (by omega), if_pos c1, List.getElem?_take, if_pos c1, hecq]
                      · rw [if_neg (by omega), if_neg c1, List.getElem?_append]
                        simp only [Array.length_toList, hsv]
                        by_cases c2 : q < off + vs.length
                        · rw [if_pos (by omega), if_pos (by omega), Array.getElem?_toList]
                          congr 1; omega
                        · rw [if_neg (by omega), if_neg (by omega), List.getElem?_drop, hecq]
                          congr 1; omega
                    · rename_i hij
                      refine Rd_mono (fun b hb => .inl hb) (fun b' o' hb' => x3.keep b' o' (.inl hb')) t _ _ _ _ (fun q hq => ?_) (hrd j hj')
                      rw [cellAt]
                      have hjt : j * t.size + t.size ≤ i * t.size ∨ i * t.size + t.size ≤ j * t.size := by
                        rcases Nat.lt_or_gt_of_ne hij with hlt | hlt
                        · right
                          have : (i + 1) * t.size ≤ j * t.size := Nat.mul_le_mul_right _ (by omega)
                          rw [Nat.add_mul, Nat.one_mul] at this; exact this
                        · left
                          have : (j + 1) * t.size ≤ i * t.size := Nat.mul_le_mul_right _ (by omega)
                          rw [Nat.add_mul, Nat.one_mul] at this; exact this
                      rcases hjt with hjt | hjt
                      · rw [if_pos (by omega)]
                      · rw [if_neg (by omega), if_neg (by omega)]
                have u := Upd.write (b' := .row E t (xs.set i d')) m2 hl2 rfl he c hrow rfl
                exact ⟨(), _, env, trivial, m2.upd u, x2.trans (m2.ext u), by simp only [Dl.val, Den]⟩
              · cases e2
            · cases hk
          · cases hk
        · cases e
      · cases e
    · cases e
  · cases e
end
end Go.SX
