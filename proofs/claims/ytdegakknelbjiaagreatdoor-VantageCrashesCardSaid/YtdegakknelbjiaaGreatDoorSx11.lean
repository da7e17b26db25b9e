/- SX, part 11: append, slicing, an array's element: soundness. -/
import Derived.Test.YtdegakknelbjiaaGreatDoorSx10
namespace Go.SX
set_option linter.unusedVariables false
section
variable {P : Program} {w0 : World} {N0 : Old} {A : Nat → Prop} {env : Env} {h : Heap} {w : World} {o : Oper} {a : Act} {ρ : Nat → SV} {d : Dl} {r : List Nat}

theorem toArr_append (l : List Value) (z : Array Value) : l.toArray ++ z = (l ++ z.toList).toArray := by apply Array.ext'; simp
theorem toArr_append2 (l m : List Value) (z : Array Value) : l.toArray ++ m.toArray ++ z = (l ++ m ++ z.toList).toArray := by apply Array.ext'; simp

/-- A slice that is empty and has no room. -/
theorem append_empty (m : Mod w0 N0 A env h w) {t e ty : TypeId} {sz nm : Nat} {i : TypeInfo} {z : Value} {u : CT} {ys : List u.D} {p q : Option Addr} {c : Nat} {pre : List Prop}
    (ht : P.underlying t = some (.slice e)) (hsz : sizeT P e = some sz) (hi : P.info? e = some i) (hz : i.zero = some z) (hzs : z.cells.size = sz) (hb1 : 1 ≤ i.bytes) (hu : sz = u.size) (hun : h nm = .un)
    (dn : List Nat) (hdn : ∀ n ∈ dn, ∃ b, h n = .live b ∧ b.mut = true)
    (hl : ys.length ≤ maxLen) (hby : ys.length * i.bytes ≤ 140737488355328)
    (hsrc : ys.length = 0 ∨ ∃ b off, q = some ⟨b, off, none⟩ ∧ ∀ i (hi : i < ys.length), Rd A w u (fun o => w.cell? ⟨b, o, none⟩) (off + i * u.size) ys[i]) :
    ∃ v w', (Builtin.append_ #[t, t] ty #[.slice p 0 0, .slice q ys.length c]).run P w = .ok v w' ∧
      Good w0 N0 A env h w (.det pre (.own nm sz) ((nm, .live (.row e u ys)) :: dn.map fun n => (n, .dead))) v w' := by
  subst hu
  by_cases h0 : ys.length = 0
  · refine ⟨.slice p 0 0, w, by rw [h0]; exact append_zero ht hsz p q 0 0 c (Nat.le_refl _), ?_⟩
    have : ys = [] := List.eq_nil_of_length_eq_zero h0
    subst this
    exact take_good m hun dn hdn (W := fun _ => False) (ev := .nil) (Chg.refl w _) (fun _ h => h.elim) (by simp) (fun k l e => by cases e) (fun _ => .inl ⟨rfl, rfl, p, rfl⟩)
  · obtain ⟨b, off, rfl, hrd⟩ := hsrc.resolve_left h0
    obtain ⟨news, hnl, hnc, hn1⟩ := cells_list ys off hrd
    have hisz : i.size = u.size := by unfold sizeT at hsz; rw [hi] at hsz; simpa using hsz
    have hnews : ∀ j v, news[j]? = some v → w.cell? ((⟨b, off, none⟩ : Addr).add j) = some v := by
      intro j v hj
      rw [Addr.add_lit, hnc j (List.getElem?_eq_some_iff.1 hj).1]; exact hj
    have hrdn : ∀ i (hi : i < ys.length), Rd A w u (fun j => news[j]?) (i * u.size) ys[i] := fun i hi =>
      Rd_at (hrd i hi) fun j hj => by
        have : (i + 1) * u.size ≤ ys.length * u.size := Nat.mul_le_mul_right _ (by omega)
        rw [Nat.add_mul, Nat.one_mul] at this
        rw [← hnc _ (by omega), Nat.add_assoc]
    have h63 : ((ys.length : Nat) : Int) ≤ 9223372036854775807 := by simp only [maxLen] at hl; omega
    have fin : ∀ v w' cap, ys.length ≤ cap → cap ≤ maxLen → v = .slice (some ⟨w.heap.size, 0, none⟩) ys.length cap → w' = w.drew.alloc (.cells (news.toArray ++ Builtin.zeroCells z.cells (cap - ys.length)) e) →
        Good w0 N0 A env h w (.det pre (.own nm u.size) ((nm, .live (.row e u ys)) :: dn.map fun n => (n, .dead))) v w' := by
      rintro v w' cap hc1 hc2 rfl rfl
      have cg : Chg w (w.drew.alloc (.cells (news.toArray ++ Builtin.zeroCells z.cells (cap - ys.length)) e)) fun _ => False := (Chg.drew w _).trans (Chg.alloc w.drew _ _)
      have hsize : (news.toArray ++ Builtin.zeroCells z.cells (cap - ys.length)).size = cap * u.size := by
        simp only [Array.size_append, List.size_toArray, hnl, size_zeroCells, hzs, ← Nat.add_mul]; congr 1; omega
      refine take_good m hun dn hdn (W := fun _ => False) (ev := .blk w.heap.size ys.length) cg (fun _ h => h.elim) (by simp) (fun k l e => by cases e; exact .inl (Nat.le_refl _)) (fun x => .inr ⟨w.heap.size, ys.length, cap * u.size, rfl, ?_, ?_, ?_⟩)
      · refine ⟨_, cap, heap_alloc_new w.drew _, hsize, rfl, hc1, hc2, fun i hi => ?_⟩
        have := appended_row (A := A) (w := w) (xs := ([] : List u.D)) (ys := ys) (olds := []) (news := news) (rest := (Builtin.zeroCells z.cells (cap - ys.length)).toList) (by simp) hnl (by simp) hrdn i (by simpa using hi)
        refine Rd_mono (fun _ h => h) x.keep u _ _ _ _ (fun j _ => ?_) this
        rw [toArr_append]; rfl
      · unfold World.shape?
        have hh := heap_alloc_new w.drew (.cells (news.toArray ++ Builtin.zeroCells z.cells (cap - ys.length)) e)
        simp only [World.size_drew] at hh
        rw [hh]; simp only [hsize]
      · rw [Nat.mul_div_cancel _ u.size_pos]
    have hge := grownCap_ge w ys.length 0 e
    have hcm := grownCap_le_maxLen w ys.length 0 e hl
    cases p with
    | none =>
      exact ⟨_, _, run_append_nil (P := P) w t ty e i z ht hi hz ⟨b, off, none⟩ ys.length c news (by rw [hnl, hisz]) hnews (by omega) h63 (by omega), fin _ _ _ hge hcm rfl rfl⟩
    | some pa =>
      have hr := run_append_grow (P := P) w t ty e i z ht hi hz pa 0 0 [] (by simp) (by simp) ⟨b, off, none⟩ ys.length c news (by rw [hnl, hisz]) hnews (by omega) (by simpa using h63) (growslice_fits (by omega) (by simpa using hby))
      simp only [Nat.zero_add] at hr
      exact ⟨_, _, hr, fin _ _ _ hge hcm rfl (by simp)⟩

theorem append_sound (m : Mod w0 N0 A env h w) (f : FD A env w ρ a) {t : TypeId} {nm : Nat} {s x : Operand} (ho : o.op = .call { callee := .builtin .append, args := #[s, x], argTypes := #[t, t] })
    (e : (sAppend P t nm (opnd ρ s) (opnd ρ x)).run h = some (d, r)) (hp : conj d.pre) : Yields P o a w0 N0 A env h w d := by
  have ds := Den_opnd f s
  have dx := Den_opnd f x
  have exe : ∀ {v : Value} {w' : World}, (Builtin.append_ #[t, t] o.type #[a.eval s, a.eval x]).run P w = .ok v w' → (execOp a.eval o).run P w = .ok (.value v) w' := by
    intro v w' hr
    unfold execOp; rw [ho]
    simp only [resolve, invoke, builtin, Sem.run_bind, Sem.run_pure, Result.andThen_ok, List.map_toArray, List.map_cons, List.map_nil, hr]
  unfold sAppend at e
  split at e
  · rename_i E sz he
    obtain ⟨hu, hsz⟩ := elemT_spec he
    split at e
    · rename_i i hi
      split at e
      · rename_i z hb1 hz
        have hb1 : 1 ≤ i.bytes := Nat.le_of_ble_eq_true hb1
        split at e
        · rename_i hzs
          have hzs : z.cells.size = sz := Nat.eq_of_beq_eq_true hzs
          have hisz : i.size = sz := by unfold sizeT at hsz; rw [hi] at hsz; simpa using hsz
          split at e
          · rename_i n sz' hs
            rw [hs] at ds; simp only [Den] at ds
            simp only [Q.run] at e
            split at e
            · rename_i p q hk
              simp only [Option.some.injEq, Prod.mk.injEq] at e
              obtain ⟨rfl, rfl⟩ := e
              split at hk
              · rename_i E' u xs hl
                split at hk
                · rename_i hE h1 h2
                  have hE : E' = E := Nat.eq_of_beq_eq_true hE
                  have h1 : sz = u.size := Nat.eq_of_beq_eq_true h1
                  have h2 : sz' = u.size := Nat.eq_of_beq_eq_true h2
                  subst hE
                  obtain ⟨ys, q1, q2, e1, e2, rfl⟩ := Q.run_bind _ _ _ hk
                  simp only [Q.run] at e2
                  split at e2
                  · rename_i p' q' hk'
                    simp only [Option.some.injEq, Prod.mk.injEq] at e2
                    obtain ⟨rfl, rfl⟩ := e2
                    split at hk'
                    · rename_i hun
                      cases ret_inj hk'
                      simp only [Dl.pre, conj, and_true] at hp
                      obtain ⟨pq, c, ev, hyl, hsrc⟩ := srcD_sound m e1 dx
                      have hdn : ∀ n' ∈ [n], ∃ b, h n' = .live b ∧ b.mut = true := by simp [hl, Blk.mut]
                      rcases ds with ⟨hnil, pa, es⟩ | ⟨b, len, E2, cc, hb, hsh, es⟩
                      · have hx : xs = [] := by
                          have := m.nm n
                          rw [hl] at this
                          rcases this with ⟨k', l', he', _⟩ | ⟨_, E3, t3, hb⟩
                          · rw [hnil] at he'; cases he'
                          · rcases hb with hb | hb <;> cases hb; rfl
                        subst hx
                        simp only [List.length_nil, Nat.zero_add] at hp
                        obtain ⟨v, w', hr, g⟩ := append_empty (P := P) (ty := o.type) (p := pa) (q := pq) (c := c) (pre := [(([] : List u.D).length + ys.length) * i.bytes ≤ 140737488355328]) m hu hsz hi hz hzs hb1 h1 hun [n] hdn hyl hp hsrc
                        refine ⟨v, w', .inl (exe (by rw [es, ev]; exact hr)), ?_⟩
                        simpa using g
                      · obtain ⟨cur, cap, hh, hcs, hxl, hlc, hcm, hrd⟩ := (m.live_blk hl hb).1
                        have hcc : cc = cur.size := by
                          unfold World.shape? at hsh; rw [hh] at hsh
                          simp only [Option.some.injEq, Prod.mk.injEq] at hsh; exact hsh.2.symm
                        have hcap : cc / sz' = cap := by rw [hcc, hcs, h2]; exact Nat.mul_div_cancel _ u.size_pos
                        rw [hcap] at es
                        have hne : nm ≠ n := fun e' => by rw [e', hl] at hun; cases hun
                        have hnA := (m.live_blk hl hb).2 rfl
                        subst h1
                        by_cases h0 : ys.length = 0
                        · have : ys = [] := List.eq_nil_of_length_eq_zero h0
                          subst this
                          refine ⟨.slice (some ⟨b, 0, none⟩) len cap, w, .inl (exe (by rw [es, ev]; exact append_zero hu hsz _ _ _ _ _ hlc)), ?_⟩
                          have g := take_good (pre := [(xs.length + ([] : List u.D).length) * i.bytes ≤ 140737488355328]) (v := .slice (some ⟨b, 0, none⟩) len cap) (E := E') (t := u) (zs := xs ++ []) m hun [n] hdn (W := fun _ => False) (ev := .blk b len) (Chg.refl w _) (fun _ h => h.elim) (by simp)
                            (fun k l e => by cases e; exact .inr ⟨n, len, by simp, hb⟩) (fun x => .inr ⟨b, len, cc, rfl, by rw [List.append_nil]; exact (m.live_blk hl hb).1, by rw [hsh]; unfold World.shape? at hsh; rw [hh] at hsh; cases hsh; rfl, by rw [← h2, hcap]⟩)
                          simpa using g
                        · obtain ⟨bb, off, rfl, hrdy⟩ := hsrc.resolve_left h0
                          obtain ⟨news, hnl, hnc, hn1⟩ := cells_list ys off hrdy
                          have hnews : ∀ j v, news[j]? = some v → w.cell? ((⟨bb, off, none⟩ : Addr).add j) = some v := by
                            intro j v hj
                            rw [Addr.add_lit, hnc j (List.getElem?_eq_some_iff.1 hj).1]; exact hj
                          have hrdn : ∀ i (hi : i < ys.length), Rd A w u (fun j => news[j]?) (i * u.size) ys[i] := fun i hi =>
                            Rd_at (hrdy i hi) fun j hj => by
                              have : (i + 1) * u.size ≤ ys.length * u.size := Nat.mul_le_mul_right _ (by omega)
                              rw [Nat.add_mul, Nat.one_mul] at this
                              rw [← hnc _ (by omega), Nat.add_assoc]
                          have holds : ∀ i (hi : i < xs.length), Rd A w u (fun j => (cur.toList.take (len * u.size))[j]?) (i * u.size) xs[i] := fun i hi =>
                            Rd_at (hrd i hi) fun j hj => by
                              have : (i + 1) * u.size ≤ len * u.size := Nat.mul_le_mul_right _ (by omega)
                              rw [Nat.add_mul, Nat.one_mul] at this
                              rw [List.getElem?_take, if_pos (by omega), Array.getElem?_toList]
                          have hlec : len * u.size ≤ cur.size := by rw [hcs]; exact Nat.mul_le_mul_right _ hlc
                          have hol : (cur.toList.take (len * u.size)).length = xs.length * u.size := by rw [List.length_take, Array.length_toList, hxl]; omega
                          have hlen : (xs ++ ys).length = len + ys.length := by rw [List.length_append, hxl]
                          have hsum : len + ys.length ≤ maxLen := by
                            have : (len + ys.length) * 1 ≤ (xs.length + ys.length) * i.bytes := by rw [hxl]; exact Nat.mul_le_mul_left _ hb1
                            simp only [maxLen]; omega
                          by_cases hroom : len + ys.length ≤ cap
                          · have hfit : len * u.size + news.length ≤ cur.size := by rw [hnl, hcs, ← Nat.add_mul]; exact Nat.mul_le_mul_right _ hroom
                            have hr := run_append_room (P := P) w t o.type E' i hu hi b len cap cur hh ⟨bb, off, none⟩ ys.length c news (by rw [hnl, hisz]) hnews hn1 hroom (by rw [hisz]; exact hfit)
                            rw [hisz] at hr
                            refine ⟨_, _, .inl (exe (by rw [es, ev]; exact hr)), ?_⟩
                            have hsize : (cur.toList.take (len * u.size) ++ news ++ cur.toList.drop (len * u.size + news.length)).toArray.size = cur.size := by
                              simp only [List.size_toArray, List.length_append, List.length_take, List.length_drop, Array.length_toList]; omega
                            have cg := Chg.setRow w b cur _ E' hh hsize
                            refine take_good m hun [n] hdn (W := fun j => j = b) (ev := .blk b (len + ys.length)) cg (fun k hk => ⟨n, len, by simp, hk ▸ hb⟩) (by simp) (fun k l e => by cases e; exact .inr ⟨n, len, by simp, hb⟩) (fun x => .inr ⟨b, len + ys.length, cap * u.size, rfl, ?_, ?_, ?_⟩)
                            · refine ⟨_, cap, setRow_heap w b cur _ E' _ hh, by rw [hsize, hcs], hlen, hroom, hcm, fun i hi => ?_⟩
                              exact Rd_mono (fun _ h => h) x.keep u _ _ _ _ (fun j _ => rfl) (appended_row hol hnl holds hrdn i hi)
                            · unfold World.shape?; rw [setRow_heap w b cur _ E' _ hh]; simp only [hsize, hcs]
                            · rw [Nat.mul_div_cancel _ u.size_pos]
                          · have holdsc : ∀ j v, (cur.toList.take (len * u.size))[j]? = some v → w.cell? ((⟨b, 0, none⟩ : Addr).add j) = some v := by
                              intro j v hj
                              rw [Addr.add_lit, Nat.zero_add, cell_of_row w b j cur E' (0, 0) hh]
                              rw [List.getElem?_take] at hj
                              split at hj
                              · rwa [Array.getElem?_toList] at hj
                              · cases hj
                            have hr := run_append_grow (P := P) w t o.type E' i z hu hi hz ⟨b, 0, none⟩ len cap (cur.toList.take (len * u.size)) (by rw [hol, hxl, hisz]) holdsc ⟨bb, off, none⟩ ys.length c news (by rw [hnl, hisz]) hnews (by omega)
                              (by simp only [maxLen] at hsum; omega) (growslice_fits (by omega) (by rw [← hxl]; exact hp))
                            refine ⟨_, _, .inl (exe (by rw [es, ev]; exact hr)), ?_⟩
                            have hge := grownCap_ge w (len + ys.length) cap E'
                            have hcm' := grownCap_le_maxLen w (len + ys.length) cap E' hsum
                            generalize grownCap w (len + ys.length) cap E' = cap' at *
                            have hsize : ((cur.toList.take (len * u.size)).toArray ++ news.toArray ++ Builtin.zeroCells z.cells (cap' - (len + ys.length))).size = cap' * u.size := by
                              simp only [Array.size_append, List.size_toArray, hol, hnl, size_zeroCells, hzs, ← Nat.add_mul]; congr 1; omega
                            have cg : Chg w (w.drew.alloc (.cells ((cur.toList.take (len * u.size)).toArray ++ news.toArray ++ Builtin.zeroCells z.cells (cap' - (len + ys.length))) E')) fun _ => False := (Chg.drew w _).trans (Chg.alloc w.drew _ _)
                            refine take_good m hun [n] hdn (W := fun _ => False) (ev := .blk w.heap.size (len + ys.length)) cg (fun _ h => h.elim) (by simp) (fun k l e => by cases e; exact .inl (Nat.le_refl _)) (fun x => .inr ⟨w.heap.size, len + ys.length, cap' * u.size, rfl, ?_, ?_, ?_⟩)
                            · refine ⟨_, cap', heap_alloc_new w.drew _, hsize, hlen, hge, hcm', fun i hi => ?_⟩
                              have := appended_row (A := A) (w := w) (rest := (Builtin.zeroCells z.cells (cap' - (len + ys.length))).toList) hol hnl holds hrdn i hi
                              refine Rd_mono (fun _ h => h) x.keep u _ _ _ _ (fun j _ => ?_) this
                              rw [toArr_append2]
                            · unfold World.shape?
                              have hh' := heap_alloc_new w.drew (.cells ((cur.toList.take (len * u.size)).toArray ++ news.toArray ++ Builtin.zeroCells z.cells (cap' - (len + ys.length))) E')
                              simp only [World.size_drew] at hh'
                              rw [hh']; simp only [hsize]
                            · rw [Nat.mul_div_cancel _ u.size_pos]
                    · cases hk'
                  · cases e2
                · cases hk
              · cases hk
            · cases e
          · rename_i hs
            rw [hs] at ds; simp only [Den] at ds
            split at e
            · rename_i u hct
              split at e
              · rename_i h1
                have h1 : sz = u.size := Nat.eq_of_beq_eq_true h1
                obtain ⟨ys, q1, q2, e1, e2, rfl⟩ := Q.run_bind _ _ _ e
                simp only [Q.run] at e2
                split at e2
                · rename_i p' q' hk'
                  simp only [Option.some.injEq, Prod.mk.injEq] at e2
                  obtain ⟨rfl, rfl⟩ := e2
                  split at hk'
                  · rename_i hun
                    cases ret_inj hk'
                    simp only [Dl.pre, conj, and_true] at hp
                    obtain ⟨pq, c, ev, hyl, hsrc⟩ := srcD_sound m e1 dx
                    obtain ⟨v, w', hr, g⟩ := append_empty (P := P) (ty := o.type) (p := none) (q := pq) (c := c) (pre := [ys.length * i.bytes ≤ 140737488355328]) m hu hsz hi hz hzs hb1 h1 hun [] (by simp) hyl hp hsrc
                    exact ⟨v, w', .inl (exe (by rw [ds, ev]; exact hr)), g⟩
                  · cases hk'
                · cases e2
              · cases e
            · cases e
          · rename_i u xs hs
            rw [hs] at ds; simp only [Den] at ds
            split at e
            · rename_i h1
              have h1 : sz = u.size := Nat.eq_of_beq_eq_true h1
              obtain ⟨ys, q1, q2, e1, e2, rfl⟩ := Q.run_bind _ _ _ e
              simp only [Q.run] at e2
              split at e2
              · rename_i p' q' hk'
                simp only [Option.some.injEq, Prod.mk.injEq] at e2
                obtain ⟨rfl, rfl⟩ := e2
                split at hk'
                · rename_i hun
                  cases ret_inj hk'
                  simp only [Dl.pre, conj, and_true] at hp
                  obtain ⟨hp1, rfl⟩ := hp
                  obtain ⟨_, pa, es⟩ := ds
                  obtain ⟨pq, c, ev, hyl, hsrc⟩ := srcD_sound m e1 dx
                  simp only [List.length_nil, Nat.zero_add] at hp1
                  obtain ⟨v, w', hr, g⟩ := append_empty (P := P) (ty := o.type) (p := pa) (q := pq) (c := c) (pre := [(([] : List u.D).length + ys.length) * i.bytes ≤ 140737488355328, ([] : List u.D) = []]) m hu hsz hi hz hzs hb1 h1 hun [] (by simp) hyl hp1 hsrc
                  exact ⟨v, w', .inl (exe (by rw [es, ev]; exact hr)), g⟩
                · cases hk'
              · cases e2
            · cases e
          · cases e
        · cases e
      · cases e
    · cases e
  · cases e
end
end Go.SX
