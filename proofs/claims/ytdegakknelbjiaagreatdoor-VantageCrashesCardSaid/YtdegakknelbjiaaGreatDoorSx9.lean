/- SX, part 9: new slices, append, slicing: soundness. -/
import Derived.Test.YtdegakknelbjiaaGreatDoorSx8
namespace Go.SX
set_option linter.unusedVariables false
section
variable {P : Program} {w0 : World} {N0 : Old} {A : Nat → Prop} {env : Env} {h : Heap} {w : World} {o : Oper} {a : Act} {ρ : Nat → SV} {d : Dl} {r : List Nat}

theorem setAll_append (u v : List (Nat × Nm)) (h : Heap) : setAll (u ++ v) h = setAll u (setAll v h) := by
  induction u with
  | nil => rfl
  | cons p u ih => simp [setAll, ih]

theorem Good.of_frz (m : Mod w0 N0 A env h w) {fz : List (Nat × Nm)} (ok : FrzOk h fz) {pre : List Prop} {s : SV} {upd : List (Nat × Nm)} {v : Value} {w' : World}
    (g : Good w0 N0 (frzA A env fz) env (setAll fz h) w (.det pre s upd) v w') : Good w0 N0 A env h w (.det pre s (upd ++ fz)) v w' := by
  obtain ⟨x, A', env', _, m', e', d'⟩ := g
  exact ⟨(), A', env', trivial, by simpa only [Dl.hp, Dl.upd, setAll_append] using m', (m.freeze ok).2.trans e', d'⟩

theorem projN_sound (m : Mod w0 N0 A env h w) {A' : Nat → Prop} (hA : ∀ b, A b → A' b) (t : CT) : ∀ (n : Nat) (cs : List SV) (vs : List Value) (xs : List t.D) (fz : List (Nat × Nm)) (r : List Nat),
    (projN t n cs).run h = some ((xs, fz), r) → DenL A env w cs vs → (∀ k, FrzBlk env fz k → A' k) →
    FrzOk h fz ∧ xs.length = n ∧ n * t.size ≤ vs.length ∧ ∀ i (hi : i < xs.length), Rd A' w t (fun j => vs[j]?) (i * t.size) xs[i]
  | 0, cs, vs, xs, fz, r, e, hd, hF => by
    simp only [projN, Q.run, Option.some.injEq, Prod.mk.injEq] at e
    obtain ⟨⟨rfl, rfl⟩, rfl⟩ := e
    exact ⟨fun n b hb => by simp at hb, rfl, by simp, fun i hi => by simp at hi⟩
  | n + 1, cs, vs, xs, fz, r, e, hd, hF => by
    simp only [projN] at e
    obtain ⟨⟨d1, r1, f1⟩, q1, q2, e1, e2, rfl⟩ := Q.run_bind _ _ _ e
    obtain ⟨⟨ds, f2⟩, q3, q4, e3, e4, rfl⟩ := Q.run_bind _ _ _ e2
    simp only [Q.run, Option.some.injEq, Prod.mk.injEq] at e4
    obtain ⟨⟨rfl, rfl⟩, rfl⟩ := e4
    have hF1 : ∀ k, FrzBlk env f1 k → A' k := fun k ⟨n, x, l, hx, he⟩ => hF k ⟨n, x, l, List.mem_append_left _ hx, he⟩
    have hF2 : ∀ k, FrzBlk env f2 k → A' k := fun k ⟨n, x, l, hx, he⟩ => hF k ⟨n, x, l, List.mem_append_right _ hx, he⟩
    obtain ⟨o1, n1, l1, rd1, dr1⟩ := projC_sound m t cs vs d1 r1 f1 q1 e1 hd hA hF1
    obtain ⟨o2, n2, l2, rd2⟩ := projN_sound m hA t n r1 _ ds f2 q3 e3 dr1 hF2
    simp only [List.length_drop] at l2
    have hr1 := DenL_length dr1
    simp only [List.length_drop] at hr1
    refine ⟨?_, by simp [n2], by rw [Nat.add_mul, Nat.one_mul]; omega, ?_⟩
    · intro n x hx
      rcases List.mem_append.1 hx with hx | hx
      · exact o1 n x hx
      · exact o2 n x hx
    · intro i hi
      cases i with
      | zero => simpa using rd1
      | succ i =>
        have := rd2 i (by simpa using hi)
        have sh := Rd_shift' this t.size
        rw [show i * t.size + t.size = (i + 1) * t.size from by rw [Nat.add_mul, Nat.one_mul]] at sh
        simp only [List.getElem_cons_succ]
        refine Rd_mono (fun _ h => h) (fun _ _ _ => rfl) t _ _ _ _ (fun j _ => ?_) sh
        rw [List.getElem?_drop]
        congr 1
        have : (i + 1) * t.size = i * t.size + t.size := by rw [Nat.add_mul, Nat.one_mul]
        omega

theorem repL_length {α : Type} (l : List α) (n : Nat) : (repL l n).length = n * l.length := by
  induction n with
  | zero => simp [repL]
  | succ n ih => simp [repL, ih, Nat.add_mul]; omega

theorem repL_get {α : Type} (l : List α) : ∀ (n i : Nat), i < n * l.length → (repL l n)[i]? = l[i % l.length]?
  | 0, i, h => by simp at h
  | n + 1, i, h => by
    simp only [repL]
    by_cases hi : i < l.length
    · rw [List.getElem?_append_left hi, Nat.mod_eq_of_lt hi]
    · rw [List.getElem?_append_right (by omega), repL_get l n (i - l.length) (by rw [Nat.add_mul, Nat.one_mul] at h; omega)]
      congr 1
      rw [← Nat.mod_eq_sub_mod (by omega)]

theorem madeCells_list (z : Array Value) (n : Nat) (hz : 0 < z.size) : (madeCells z (n * z.size)).toList = repL z.toList n := by
  apply List.ext_getElem?
  intro i
  by_cases hi : i < n * z.size
  · rw [repL_get _ _ _ (by simpa using hi)]
    simp only [madeCells, Array.toList_map, Array.toList_range, List.getElem?_map, Array.length_toList, Array.getElem?_toList]
    rw [List.getElem?_range hi]
    have : i % z.size < z.size := Nat.mod_lt _ hz
    simp [getElem!_pos, this]
  · rw [List.getElem?_eq_none (by simp [madeCells]; omega), List.getElem?_eq_none (by rw [repL_length]; simpa using hi)]

theorem DenL_repL {z : List SV} {vs : List Value} (hd : DenL A env w z vs) : ∀ n, DenL A env w (repL z n) (repL vs n)
  | 0 => by simp [repL, DenL]
  | n + 1 => DenL_append hd (DenL_repL hd n)

theorem fillS_len {place : Nat → Option (Nat × Nat)} : ∀ (ps : List (Nat × SV)) (cs rs : List SV), fillS P place cs ps = some rs → rs.length = cs.length
  | [], cs, rs, e => by simp only [fillS] at e; cases e; rfl
  | (i, v) :: ps, cs, rs, e => by
    simp only [fillS] at e
    split at e
    · rename_i off n vs _ _
      split at e
      · rename_i hb1 hb2
        have hb1 : vs.length = n := Nat.eq_of_beq_eq_true hb1
        have hb2 : off + n ≤ cs.length := Nat.le_of_ble_eq_true hb2
        rw [fillS_len ps _ rs e]
        simp [setR]; omega
      · cases e
    · cases e

/-- A new row. -/
theorem row_good (m : Mod w0 N0 A env h w) {nm : Nat} (hn : h nm = .un) {E : TypeId} {t : CT} {xs : List t.D} {w1 w' : World} {vs : Array Value} {cap : Nat} {pre : List Prop}
    (c1 : Chg w w1 fun _ => False) (hw' : w' = w1.alloc (.cells vs E)) (hs : vs.size = cap * t.size) (hl : xs.length ≤ cap) (hc : cap ≤ maxLen)
    (hr : ∀ i (hi : i < xs.length), Rd A w t (fun o => vs[o]?) (i * t.size) xs[i]) :
    Good w0 N0 A env h w (.det pre (.own nm t.size) [(nm, .live (.row E t xs))]) (.slice (some ⟨w1.heap.size, 0, none⟩) xs.length cap) w' := by
  subst hw'
  have c : Chg w (w1.alloc (.cells vs E)) fun _ => False := c1.trans (Chg.alloc w1 _ _)
  obtain ⟨x, A', env', h1, h2, h3, h4⟩ := Good.fresh (s := .own nm t.size) (v := .slice (some ⟨w1.heap.size, 0, none⟩) xs.length cap) m hn (b := .row E t xs) (len := xs.length) rfl w1.heap.size c1.size c
    (fun x => ⟨vs, cap, heap_alloc_new w1 _, hs, rfl, hl, hc, fun i hi => Rd_mono x.imm x.keep t _ _ _ _ (fun _ _ => rfl) (hr i hi)⟩) (by
      simp only [Den]
      refine .inr ⟨w1.heap.size, xs.length, E, vs.size, Env.set_same _ _ _, ?_, ?_⟩
      · unfold World.shape?; rw [heap_alloc_new]
      · rw [hs, Nat.mul_div_cancel _ t.size_pos])
  exact ⟨(), A', env', trivial, h2, h3, h4⟩

theorem buildSlice_sound (m : Mod w0 N0 A env h w) (f : FD A env w ρ a) {t : TypeId} {len nm : Nat} {parts : Array (Nat × Operand)} (ho : o.op = .buildSlice t len parts)
    (e : (sBuildSlice P t len nm (parts.toList.map fun p => (p.1, opnd ρ p.2))).run h = some (d, r)) : Yields P o a w0 N0 A env h w d := by
  unfold sBuildSlice at e
  split at e
  · rename_i E sz he
    obtain ⟨hu, hsz⟩ := elemT_spec he
    split at e
    · rename_i u z hct hz
      split at e
      · rename_i cs hb1 hb2 hb3 hf
        have hb1 : u.size = sz := Nat.eq_of_beq_eq_true hb1
        have hb2 : z.length = sz := Nat.eq_of_beq_eq_true hb2
        have hb3 : len * sz ≤ 16777216 := Nat.le_of_ble_eq_true hb3
        obtain ⟨⟨xs, fz⟩, q1, q2, e1, e2, rfl⟩ := Q.run_bind _ _ _ e
        simp only [Q.run] at e2
        split at e2
        · rename_i p q hk
          simp only [Option.some.injEq, Prod.mk.injEq] at e2
          obtain ⟨rfl, rfl⟩ := e2
          split at hk
          · rename_i hun
            split at hk
            · rename_i hni
              have hni := notIn_spec hni
              cases ret_inj hk
              subst hb1
              obtain ⟨i, zv, hi, hzv, dz, _⟩ := zeroCells_den (A := A) (env := env) (w := w) hz
              have hzl : zv.cells.size = u.size := by rw [← Array.length_toList, DenL_length dz, hb2]
              have dps : DenL A env w ((parts.toList.map fun p => (p.1, opnd ρ p.2)).map (·.2)) ((parts.toList.map fun p => (p.1, a.eval p.2)).map (·.2)) := by
                generalize parts.toList = l
                induction l with
                | nil => simp [DenL]
                | cons p l ih => simp only [List.map_cons, DenL]; exact ⟨_, _, rfl, Den_opnd f p.2, ih⟩
              have hmade : (madeCells zv.cells (len * u.size)).toList = repL zv.cells.toList len := by rw [← hzl]; exact madeCells_list _ _ (by rw [hzl]; exact u.size_pos)
              obtain ⟨vs, hv, dv⟩ := fillS_den (A := A) (env := env) (w := w) (place := fun i => some (i * u.size, u.size)) (place' := fun i => some (i * u.size, u.size)) (fun i p hp => hp)
                (parts.toList.map fun p => (p.1, opnd ρ p.2)) (parts.toList.map fun p => (p.1, a.eval p.2)) (repL z len) cs (madeCells zv.cells (len * u.size)) hf (by rw [hmade]; exact DenL_repL dz len) (by simp [Function.comp_def]) dps
              obtain ⟨ok, hxl, hle, hrd⟩ := projN_sound m (A' := frzA A env fz) (fun b hb => .inl hb) u len cs vs.toList xs fz q1 e1 dv (fun k hk => .inr hk)
              obtain ⟨m2, x2⟩ := m.freeze ok
              have hcl : vs.size = len * u.size := by
                rw [← Array.length_toList, DenL_length dv, fillS_len _ _ _ hf, repL_length, hb2]
              have hrun : (execOp a.eval o).run P w = .ok (.value (.slice (some ⟨w.heap.size, 0, none⟩) len len)) (w.alloc (.cells vs E)) := by
                unfold execOp; rw [ho]
                have h24 : ¬ (len * u.size > 2 ^ 24) := by omega
                have hz' : (zeroValue E).run P w = .ok zv w := by simp [zeroValue, typeInfo, hi, hzv]
                by_cases h0 : len * u.size = 0
                · have hm0 : madeCells zv.cells (len * u.size) = #[] := by simp [h0, madeCells]
                  rw [hm0] at hv
                  have hr0 : Array.range (len * u.size) = #[] := by rw [h0]; rfl
                  simp only [Instr.buildSlice, Sem.run_bind, run_underlying hu, Result.andThen_ok, sizeT_run hsz, if_neg h24, if_pos h0, Sem.run_pure, hr0, List.map_toArray, List.map_nil, Array.toList_map, hv, newRow, run_newObj]
                  rfl
                · have hm0 : ((Array.range (len * u.size)).map (zv.cells[· % zv.cells.size]!)) = madeCells zv.cells (len * u.size) := rfl
                  simp only [Instr.buildSlice, Sem.run_bind, run_underlying hu, Result.andThen_ok, sizeT_run hsz, if_neg h24, if_neg h0, hz', Sem.run_pure, hm0, Array.toList_map, hv, newRow, run_newObj]
                  rfl
              have hxl' : xs.length = len := hxl
              have hlm : len ≤ maxLen := by
                have : len * 1 ≤ len * u.size := Nat.mul_le_mul_left _ u.size_pos
                simp only [maxLen]; omega
              have g := row_good m2 (nm := nm) (by rw [setAll_other hni]; exact hun) (E := E) (t := u) (xs := xs) (vs := vs) (cap := len) (pre := []) (Chg.refl w _) rfl hcl (by omega) hlm (fun i hi => by simpa using hrd i hi)
              refine ⟨_, _, .inl hrun, ?_⟩
              rw [hxl'] at g
              exact Good.of_frz m ok g
            · cases hk
          · cases hk
        · cases e2
      · cases e
    · cases e
  · cases e

theorem makeSlice_sound (m : Mod w0 N0 A env h w) (f : FD A env w ρ a) {t : TypeId} {nm : Nat} {x y : Operand} (ho : o.op = .makeSlice t x y)
    (e : (sMakeSlice P t nm (opnd ρ x) (opnd ρ y)).run h = some (d, r)) (hp : conj d.pre) : Yields P o a w0 N0 A env h w d := by
  have dx := Den_opnd f x
  have dy := Den_opnd f y
  unfold sMakeSlice at e
  split at e
  · rename_i E sz kl l kc c he hx hy
    obtain ⟨hu, hsz⟩ := elemT_spec he
    rw [hx] at dx; rw [hy] at dy
    simp only [Den] at dx dy
    split at e
    · rename_i u z i hct hz hi
      split at e
      · rename_i dd rest hb1 hb2 hb3 hpz
        have hb1 : u.size = sz := Nat.eq_of_beq_eq_true hb1
        have hb2 : z.length = sz := Nat.eq_of_beq_eq_true hb2
        have hb3 : 1 ≤ i.bytes := Nat.le_of_ble_eq_true hb3
        subst hb1
        simp only [Q.run] at e
        split at e
        · rename_i p q hk
          simp only [Option.some.injEq, Prod.mk.injEq] at e
          obtain ⟨rfl, rfl⟩ := e
          split at hk
          · rename_i hun
            cases ret_inj hk
            simp only [Dl.pre, conj, and_true] at hp
            obtain ⟨h0, hlc, hby⟩ := hp
            obtain ⟨i', zv, hi', hzv, dz, _⟩ := zeroCells_den (A := A) (env := env) (w := w) hz
            rw [hi] at hi'; cases hi'
            have hzl : zv.cells.size = u.size := by rw [← Array.length_toList, DenL_length dz, hb2]
            have hisz : i.size = u.size := by
              unfold sizeT at hsz; rw [hi] at hsz; simpa using hsz
            have hc63 : c ≤ 9223372036854775807 := by
              have : (1 : Int) * c ≤ (i.bytes : Int) * c := Int.mul_le_mul_of_nonneg_right (by omega) (by omega)
              omega
            have hrun := run_make (P := P) w t E i zv hu hi hzv kl kc l c h0 hlc hby hc63
            rw [hisz] at hrun
            have hproj := projC_sound m u z zv.cells.toList dd rest [] [] (by rw [hpz]; rfl) dz (A' := A) (fun _ hb => hb) (fun k ⟨n, b, l, hh, _⟩ => by simp at hh)
            have hmade : (madeCells zv.cells (c.toNat * u.size)).toList = repL zv.cells.toList c.toNat := by rw [← hzl]; exact madeCells_list _ _ (by rw [hzl]; exact u.size_pos)
            have g := row_good m (nm := nm) hun (E := E) (t := u) (xs := List.replicate l.toNat dd) (vs := madeCells zv.cells (c.toNat * u.size)) (cap := c.toNat) (pre := [0 ≤ l, l ≤ c, (i.bytes : Int) * c ≤ 281474976710656]) (Chg.refl w _) rfl
              (size_madeCells _ _) (by simp; omega) (by simp only [maxLen]; omega) (fun j hj => by
                simp only [List.length_replicate] at hj
                rw [List.getElem_replicate]
                have sh := Rd_shift hproj.2.2.2.1 (j * u.size)
                rw [Nat.zero_add] at sh
                refine Rd_mono (fun _ h => h) (fun _ _ _ => rfl) u _ _ _ _ (fun q hq => ?_) sh
                have hlt : j * u.size + q < c.toNat * u.size := by
                  have : (j + 1) * u.size ≤ c.toNat * u.size := Nat.mul_le_mul_right _ (by omega)
                  rw [Nat.add_mul, Nat.one_mul] at this; omega
                rw [← Array.getElem?_toList, hmade, repL_get _ _ _ (by simpa [hzl] using hlt)]
                congr 1
                simp only [Array.length_toList, hzl]
                rw [Nat.add_comm, Nat.add_mul_mod_self_right, Nat.mod_eq_of_lt hq]
                omega)
            refine ⟨_, _, .inl ?_, g⟩
            unfold execOp; rw [ho]
            simp only [dx.1, dy.1, Sem.run_bind, hrun, Result.andThen_ok, Sem.run_pure, List.length_replicate]
          · cases hk
        · cases e
      · cases e
    · cases e
  · cases e
end
end Go.SX
