/- SX, part 10: append, slicing, an array's element: soundness. -/
import Derived.Test.YtdegakknelbjiaaGreatDoorSx9
namespace Go.SX
set_option linter.unusedVariables false
section
variable {P : Program} {w0 : World} {N0 : Old} {A : Nat → Prop} {env : Env} {h : Heap} {w : World} {o : Oper} {a : Act} {ρ : Nat → SV} {d : Dl} {r : List Nat}

/-- A list of data that lies in memory: its cells. -/
theorem cells_list {t : CT} {cv : Nat → Option Value} : ∀ (ys : List t.D) (off : Nat), (∀ i (hi : i < ys.length), Rd A w t cv (off + i * t.size) ys[i]) →
    ∃ news : List Value, news.length = ys.length * t.size ∧ (∀ j, j < news.length → cv (off + j) = news[j]?) ∧ ∀ u ∈ news, u.oneCell' = true
  | [], off, _ => ⟨[], by simp, by simp, by simp⟩
  | y :: ys, off, hr => by
    obtain ⟨us, hl, hc, hd⟩ := flat_den (env := fun _ => .un) t y cv off (by have := hr 0 (by simp); simpa only [Nat.zero_mul, Nat.add_zero, List.getElem_cons_zero] using this)
    obtain ⟨news, hl2, hc2, h1⟩ := cells_list ys (off + t.size) (fun i hi => by
      have := hr (i + 1) (by simpa using hi)
      simp only [List.getElem_cons_succ] at this
      rw [show off + t.size + i * t.size = off + (i + 1) * t.size from by rw [Nat.add_mul, Nat.one_mul]; omega]
      exact this)
    refine ⟨us ++ news, by simp [hl, hl2, Nat.add_mul]; omega, fun j hj => ?_, ?_⟩
    · by_cases hlt : j < t.size
      · rw [hc j hlt, List.getElem?_append_left (by omega)]
      · rw [List.getElem?_append_right (by omega), hl]
        simp only [List.length_append] at hj
        have := hc2 (j - t.size) (by omega)
        rw [show off + t.size + (j - t.size) = off + j from by omega] at this
        exact this
    · intro u hu
      rcases List.mem_append.1 hu with hu | hu
      · exact DenL_one hd (flat_one _ _) u hu
      · exact h1 u hu

theorem RdSl_src {t : CT} {v : Value} {ys : List t.D} (hs : RdSl A w t v ys) : ∃ p c, v = .slice p ys.length c ∧ ys.length ≤ maxLen ∧
    (ys.length = 0 ∨ ∃ b off, p = some ⟨b, off, none⟩ ∧ ∀ i (hi : i < ys.length), Rd A w t (fun o => w.cell? ⟨b, o, none⟩) (off + i * t.size) ys[i]) := by
  obtain ⟨hl, ⟨⟨p, rfl⟩, rfl⟩ | ⟨b, off, cap, rfl, h1, h2, h3, h4⟩⟩ := hs
  · exact ⟨p, 0, rfl, hl, .inl rfl⟩
  · exact ⟨_, cap, rfl, hl, .inr ⟨b, off, rfl, h4⟩⟩

theorem srcD_sound (m : Mod w0 N0 A env h w) {t : CT} {x : SV} {v : Value} {ys : List t.D} (e : (srcD t x).run h = some (ys, r)) (hd : Den A env w x v) :
    ∃ p c, v = .slice p ys.length c ∧ ys.length ≤ maxLen ∧
    (ys.length = 0 ∨ ∃ b off, p = some ⟨b, off, none⟩ ∧ ∀ i (hi : i < ys.length), Rd A w t (fun o => w.cell? ⟨b, o, none⟩) (off + i * t.size) ys[i]) := by
  unfold srcD at e
  split at e
  · rename_i u zs
    split at e
    · rename_i zs' hc
      simp only [Q.run, Option.some.injEq, Prod.mk.injEq] at e
      obtain ⟨rfl, _⟩ := e
      obtain ⟨et, ey⟩ := castL_eq hc
      subst et
      simp only at ey
      subst ey
      simp only [Den] at hd
      exact RdSl_src hd
    · cases e
  · rename_i u zs
    split at e
    · rename_i zs' hc
      simp only [Q.run, Option.some.injEq, Prod.mk.injEq] at e
      obtain ⟨rfl, _⟩ := e
      obtain ⟨et, ey⟩ := castL_eq hc
      subst et
      simp only at ey
      subst ey
      simp only [Den] at hd
      exact RdSl_src hd.1
    · cases e
  · simp only [Q.run, Option.some.injEq, Prod.mk.injEq] at e
    obtain ⟨rfl, _⟩ := e
    simp only [Den] at hd
    exact ⟨none, 0, by rw [hd]; rfl, by simp, .inl rfl⟩
  · rename_i n sz
    simp only [Den] at hd
    simp only [Q.run] at e
    split at e
    · rename_i p q hk
      simp only [Option.some.injEq, Prod.mk.injEq] at e
      obtain ⟨rfl, rfl⟩ := e
      have fin : ∀ {E' : TypeId} {u : CT} {zs : List u.D}, (h n = .live (.row E' u zs) ∨ h n = .live (.frz E' u zs)) → castL u t zs = some p → 
          ∃ p' c, v = .slice p' p.length c ∧ p.length ≤ maxLen ∧
          (p.length = 0 ∨ ∃ b off, p' = some ⟨b, off, none⟩ ∧ ∀ i (hi : i < p.length), Rd A w t (fun o => w.cell? ⟨b, o, none⟩) (off + i * t.size) p[i]) := by
        intro E' u zs hl hc
        obtain ⟨et, ey⟩ := castL_eq hc
        subst et
        simp only at ey
        subst ey
        rcases hd with ⟨hnil, pp, ev⟩ | ⟨b, len, E2, c, hb, _, ev⟩
        · have hx : p.length = 0 := by
            have := m.nm n
            rcases hl with hl | hl <;> rw [hl] at this <;> rcases this with ⟨k', l', he', _⟩ | ⟨_, E3, t3, hb⟩
            · rw [hnil] at he'; cases he'
            · rcases hb with hb | hb <;> cases hb; rfl
            · rw [hnil] at he'; cases he'
            · rcases hb with hb | hb <;> cases hb; rfl
          exact ⟨pp, 0, by rw [hx]; exact ev, by omega, .inl hx⟩
        · have hrow : RowDen A w b len E' u p := by
            rcases hl with hl | hl
            · exact (m.live_blk hl hb).1
            · exact (m.live_blk hl hb).1.2
          have hlen : p.length = len ∧ len ≤ maxLen := by
            obtain ⟨vs, cap, _, _, h2, h3, h4, _⟩ := hrow
            exact ⟨h2, by omega⟩
          refine ⟨_, _, by rw [hlen.1]; exact ev, by omega, .inr ⟨b, 0, rfl, fun i hi => ?_⟩⟩
          have := RowDen_elem hrow (i := i) (by omega)
          rw [elem_get hi] at this
          simpa using this
      split at hk
      · rename_i E' u zs hl
        split at hk
        · rename_i zs' h1 hc
          simp only [Q.run, Option.some.injEq, Prod.mk.injEq] at hk
          obtain ⟨rfl, _⟩ := hk
          exact fin (.inl hl) hc
        · cases hk
      · rename_i E' u zs hl
        split at hk
        · rename_i zs' h1 hc
          simp only [Q.run, Option.some.injEq, Prod.mk.injEq] at hk
          obtain ⟨rfl, _⟩ := hk
          exact fin (.inr hl) hc
        · cases hk
      · cases hk
    · cases e
  · cases e

/-- A new name for an owned row; the old name, if any, is used up. -/
theorem take_good (m : Mod w0 N0 A env h w) {nm : Nat} (hun : h nm = .un) (dn : List Nat) (hdn : ∀ n ∈ dn, ∃ b, h n = .live b ∧ b.mut = true) {E : TypeId} {t : CT} {zs : List t.D} {v : Value} {w' : World}
    {pre : List Prop} {W : Nat → Prop} {ev : Ev} (c : Chg w w' W) (hW : ∀ k, W k → ∃ n l, n ∈ dn ∧ env n = .blk k l) (hne : ev ≠ .un)
    (hev : ∀ k len, ev = .blk k len → w.heap.size ≤ k ∨ ∃ n l, n ∈ dn ∧ env n = .blk k l)
    (hb : Ext A env w A (env.set nm ev) w' → (ev = .nil ∧ zs = [] ∧ ∃ p, v = .slice p 0 0) ∨ ∃ k len c, ev = .blk k len ∧ RowDen A w' k len E t zs ∧ w'.shape? k = some (E, c) ∧ v = .slice (some ⟨k, 0, none⟩) len (c / t.size)) :
    Good w0 N0 A env h w (.det pre (.own nm t.size) ((nm, .live (.row E t zs)) :: dn.map fun n => (n, .dead))) v w' := by
  have hu : env nm = .un := by have := m.nm nm; rw [hun] at this; exact this
  have hlv : ∀ k, W k → ∃ mm b l, mm ∈ dn ∧ h mm = .live b ∧ b.mut = true ∧ env mm = .blk k l := by
    intro k hk
    obtain ⟨n, l, hn, he⟩ := hW k hk
    obtain ⟨b, hb1, hb2⟩ := hdn n hn
    exact ⟨n, b, l, hn, hb1, hb2, he⟩
  have x : Ext A env w A (env.set nm ev) w' := by
    refine ⟨fun _ h => h, fun n b l e => ?_, fun n e => ?_, fun b o hb => ?_, c.shape⟩
    · rw [Env.set_other]; exact e; intro e'; rw [e'] at e; rw [hu] at e; cases e
    · rw [Env.set_other]; exact e; intro e'; rw [e'] at e; rw [hu] at e; cases e
    · refine World.cell?_of_block (a := ⟨b, o, none⟩) (c.blk b (m.Alt b hb) (fun hw => ?_))
      obtain ⟨mm, bb, l, _, hl, hm, he⟩ := hlv b hw
      exact (m.live_blk hl he).2 hm hb
  have hset : ∀ n, n ≠ nm → n ∉ dn → setAll ((nm, .live (.row E t zs)) :: dn.map fun n => (n, .dead)) h n = h n := by
    intro n h1 h2
    refine setAll_other ?_
    simp only [List.map_cons, List.map_map, List.mem_cons, List.mem_map, Function.comp_apply, not_or]
    exact ⟨h1, fun ⟨q, hq, e⟩ => h2 (e ▸ hq)⟩
  have hsetn : setAll ((nm, .live (.row E t zs)) :: dn.map fun n => (n, .dead)) h nm = .live (.row E t zs) := by simp [setAll]
  have hsetd : ∀ n, n ≠ nm → n ∈ dn → setAll ((nm, .live (.row E t zs)) :: dn.map fun n => (n, .dead)) h n = .dead := by
    intro n h1 h2
    simp only [setAll]
    rw [Heap.set_other _ _ h1]
    clear hdn hW hev hlv hset hsetn
    induction dn with
    | nil => simp at h2
    | cons q dn ih =>
      simp only [List.map_cons, setAll]
      by_cases hq : n = q
      · subst hq; simp
      · rw [Heap.set_other _ _ hq]; exact ih (by simpa [hq] using h2)
  have u : Upd (fun n => n = nm ∨ n ∈ dn) W A env h w A (env.set nm ev) (setAll ((nm, .live (.row E t zs)) :: dn.map fun n => (n, .dead)) h) w' := by
    refine ⟨c, fun k hk => ?_, fun _ h => h, fun _ h => .inl h, fun n hn => Env.set_other _ _ (fun e => hn (.inl e)), fun n hn => ?_, fun n hn => hset n (fun e => hn (.inl e)) (fun e => hn (.inr e)), ?_, ?_, ?_⟩
    · obtain ⟨mm, b, l, h1, h2, h3, h4⟩ := hlv k hk
      exact ⟨mm, b, l, .inr h1, h2, h3, h4⟩
    · exact Env.set_other _ _ (fun e => hn (e ▸ hu))
    · rintro n hn
      by_cases hnm : n = nm
      · subst hnm
        rw [hsetn]
        rcases hb x with ⟨h1, h2, _⟩ | ⟨k, len, c', h1, h2, _⟩
        · exact .inr ⟨by rw [Env.set_same]; exact h1, E, t, .inl (by rw [h2])⟩
        · refine .inl ⟨k, len, by rw [Env.set_same]; exact h1, h2, fun _ hA => ?_⟩
          rcases hev k len h1 with h3 | ⟨n', l, hn', he⟩
          · have := m.Alt k hA; omega
          · obtain ⟨b, hb1, hb2⟩ := hdn n' hn'
            exact (m.live_blk hb1 he).2 hb2 hA
      · rw [hsetd n hnm (hn.resolve_left hnm)]; trivial
    · intro n b k l hn hl hm he
      by_cases hnm : n = nm
      · subst hnm
        rw [Env.set_same] at he
        rcases hev k l he with h3 | ⟨n', l', hn', he'⟩
        · exact .inl h3
        · obtain ⟨b', hb1, hb2⟩ := hdn n' hn'
          exact .inr ⟨n', b', l', .inr hn', hb1, hb2, he'⟩
      · rw [hsetd n hnm (hn.resolve_left hnm)] at hl; cases hl
    · intro n n' b c k l l' hn hn' hl hl' _ _ _ _
      by_cases hnm : n = nm
      · by_cases hnm' : n' = nm
        · rw [hnm, hnm']
        · rw [hsetd n' hnm' (hn'.resolve_left hnm')] at hl'; cases hl'
      · rw [hsetd n hnm (hn.resolve_left hnm)] at hl; cases hl
  refine ⟨(), A, env.set nm ev, trivial, m.upd u, m.ext u, ?_⟩
  simp only [Dl.val, Den]
  rcases hb x with ⟨h1, h2, h3⟩ | ⟨k, len, c', h1, h2, h3, h4⟩
  · exact .inl ⟨by rw [Env.set_same]; exact h1, h3⟩
  · exact .inr ⟨k, len, E, c', by rw [Env.set_same]; exact h1, h3, h4⟩

theorem append_zero {t e ty : TypeId} (ht : P.underlying t = some (.slice e)) {sz : Nat} (hsz : sizeT P e = some sz) (p q : Option Addr) (n cap c : Nat) (hn : n ≤ cap) :
    (Builtin.append_ #[t, t] ty #[.slice p n cap, .slice q 0 c]).run P w = .ok (.slice p n cap) w := by
  have hf : (Builtin.firstCells sz 0 (.slice q 0 c)).run P w = .ok #[] w := by
    cases q <;> simp [Builtin.firstCells, loadCells, loadCellsFrom]
  cases p with
  | none => simp [Builtin.append_, run_underlying ht, sizeT_run hsz, Builtin.lenOf, hn, hf]
  | some b => simp [Builtin.append_, run_underlying ht, sizeT_run hsz, Builtin.lenOf, hn, hf, storeCells]

theorem Rd_at {t : CT} {cv cv' : Nat → Option Value} {o o' : Nat} {d : t.D} (h : Rd A w t cv o d) (hc : ∀ j, j < t.size → cv' (o' + j) = cv (o + j)) : Rd A w t cv' o' d := by
  have key : ∀ (t : CT) (cv cv' : Nat → Option Value) (o o' : Nat) (d : t.D), Rd A w t cv o d → (∀ j, j < t.size → cv' (o' + j) = cv (o + j)) → Rd A w t cv' o' d := by
    intro t
    induction t with
    | pair a b iha ihb =>
      intro cv cv' o o' d h hc
      refine ⟨iha _ _ _ _ _ h.1 (fun j hj => hc j (by simp only [CT.size]; omega)), ihb _ _ _ _ _ h.2 (fun j hj => ?_)⟩
      have := hc (a.size + j) (by simp only [CT.size]; omega)
      simpa [Nat.add_assoc] using this
    | int k => intro cv cv' o o' d h hc; have := hc 0 (by simp [CT.size]); simp only [Nat.add_zero] at this; simp only [Rd] at h ⊢; rw [this]; exact h
    | bool => intro cv cv' o o' d h hc; have := hc 0 (by simp [CT.size]); simp only [Nat.add_zero] at this; simp only [Rd] at h ⊢; rw [this]; exact h
    | str => intro cv cv' o o' d h hc; have := hc 0 (by simp [CT.size]); simp only [Nat.add_zero] at this; simp only [Rd] at h ⊢; rw [this]; exact h
    | sl t ih => intro cv cv' o o' d h hc; have := hc 0 (by simp [CT.size]); simp only [Nat.add_zero] at this; simp only [Rd] at h ⊢; rw [this]; exact h
  exact key t cv cv' o o' d h hc

/-- The row behind an append, cell by cell. -/
theorem appended_row {t : CT} {xs ys : List t.D} {olds news rest : List Value} (ho : olds.length = xs.length * t.size) (hn : news.length = ys.length * t.size)
    (hx : ∀ i (hi : i < xs.length), Rd A w t (fun j => olds[j]?) (i * t.size) xs[i]) (hy : ∀ i (hi : i < ys.length), Rd A w t (fun j => news[j]?) (i * t.size) ys[i]) :
    ∀ i (hi : i < (xs ++ ys).length), Rd A w t (fun j => (olds ++ news ++ rest).toArray[j]?) (i * t.size) (xs ++ ys)[i] := by
  intro i hi
  simp only [List.getElem?_toArray]
  by_cases hlt : i < xs.length
  · rw [List.getElem_append_left hlt]
    refine Rd_at (hx i hlt) fun j hj => ?_
    have : (i + 1) * t.size ≤ xs.length * t.size := Nat.mul_le_mul_right _ (by omega)
    rw [Nat.add_mul, Nat.one_mul] at this
    rw [List.append_assoc, List.getElem?_append_left (by omega)]
  · rw [List.getElem_append_right (by omega)]
    have hi' : i - xs.length < ys.length := by simp at hi; omega
    refine Rd_at (hy _ hi') fun j hj => ?_
    have e1 : i * t.size = xs.length * t.size + (i - xs.length) * t.size := by rw [← Nat.add_mul]; congr 1; omega
    have : (i - xs.length + 1) * t.size ≤ ys.length * t.size := Nat.mul_le_mul_right _ (by omega)
    rw [Nat.add_mul, Nat.one_mul] at this
    rw [List.append_assoc, List.getElem?_append_right (by omega), List.getElem?_append_left (by omega)]
    congr 1; omega
end
end Go.SX
