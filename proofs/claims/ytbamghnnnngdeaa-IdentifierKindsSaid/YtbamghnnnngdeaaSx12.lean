/- SX, part 12: slicing, an array's element: soundness. -/
import Derived.Test.YtbamghnnnngdeaaSx11
namespace Go.SX
set_option linter.unusedVariables false
section
variable {P : Program} {w0 : World} {N0 : Old} {A : Nat → Prop} {env : Env} {h : Heap} {w : World} {o : Oper} {a : Act} {ρ : Nat → SV} {d : Dl} {r : List Nat}

theorem run_sliceBounds (len cap : Nat) (lo hi mx : Option Value) (l hh m : Nat)
    (hm : (mx = none ∧ m = cap) ∨ ∃ k i, mx = some (.int k i) ∧ 0 ≤ i ∧ i ≤ cap ∧ m = i.toNat)
    (hhi : (hi = none ∧ mx = none ∧ hh = len) ∨ ∃ k i, hi = some (.int k i) ∧ 0 ≤ i ∧ i ≤ m ∧ hh = i.toNat)
    (hlo : (lo = none ∧ l = 0) ∨ ∃ k i, lo = some (.int k i) ∧ 0 ≤ i ∧ i ≤ hh ∧ l = i.toNat) :
    (Instr.sliceBounds true len cap lo hi mx).run P w = .ok (l, hh, m) w := by
  rcases hm with ⟨rfl, rfl⟩ | ⟨km, im, rfl, m0, m1, rfl⟩ <;> rcases hhi with ⟨rfl, e, rfl⟩ | ⟨kh, ih, rfl, h0, h1, rfl⟩ <;> rcases hlo with ⟨rfl, rfl⟩ | ⟨kl, il, rfl, l0, l1, rfl⟩ <;>
    first
    | (cases e; done)
    | (simp [Instr.sliceBounds, run_sliceBound, *, -Int.ofNat_toNat])

theorem bound_spec {x : Option Operand} {dflt v : Int} (f : FD A env w ρ a) (e : bound (x.map (opnd ρ)) dflt = some v) :
    (x = none ∧ v = dflt) ∨ ∃ k y, x = some y ∧ a.eval y = .int k v := by
  cases x with
  | none => simp only [Option.map, bound] at e; cases e; exact .inl ⟨rfl, rfl⟩
  | some y =>
    have dy := Den_opnd f y
    simp only [Option.map] at e
    unfold bound at e
    split at e
    · rename_i hh; cases hh
    · rename_i k n hh
      cases e
      simp only [Option.some.injEq] at hh
      rw [hh] at dy; simp only [Den] at dy
      exact .inr ⟨k, y, rfl, dy.1⟩
    · cases e

/-- A part of immutable data is immutable data. -/
theorem RdSl_sub {t : CT} {v : Value} {xs : List t.D} (hs : RdSl A w t v xs) {l hh : Nat} (h1 : l ≤ hh) (h2 : hh ≤ xs.length) :
    ∃ p cap, v = .slice p xs.length cap ∧ xs.length ≤ cap ∧ cap ≤ maxLen ∧ ∀ m, hh ≤ m → m ≤ cap →
      RdSl A w t (.slice (if m = l then p else p.map (·.add (l * t.size))) (hh - l) (m - l)) (subL xs l hh) := by
  have hlen : (subL xs l hh).length = hh - l := by simp [subL]; omega
  obtain ⟨hl, ⟨⟨p, rfl⟩, rfl⟩ | ⟨b, off, cap, rfl, c1, c2, c3, c4⟩⟩ := hs
  · refine ⟨p, 0, rfl, Nat.le_refl _, by simp, fun m hm hm' => ?_⟩
    have : m = 0 := by omega
    subst this
    have hl0 : l = 0 := by simp at h2; omega
    have hh0 : hh = 0 := by simpa using h2
    subst hl0; subst hh0
    exact ⟨by simp [subL], .inl ⟨⟨p, by simp⟩, by simp [subL]⟩⟩
  · refine ⟨_, cap, rfl, c1, c2, fun m hm hm' => ⟨by omega, ?_⟩⟩
    by_cases hml : m = l
    · rw [if_pos hml]
      have : hh - l = 0 := by omega
      refine .inl ⟨⟨some ⟨b, off, none⟩, by rw [this, hml]; simp⟩, ?_⟩
      exact List.eq_nil_of_length_eq_zero (by omega)
    · rw [if_neg hml]
      refine .inr ⟨b, off + l * t.size, m - l, by rw [hlen]; simp [Addr.add_lit], by omega, by omega, c3, fun i hi => ?_⟩
      have hi' : i < hh - l := by omega
      have := c4 (l + i) (by omega)
      have eg : (subL xs l hh)[i] = xs[l + i] := by simp [subL]
      rw [eg]
      rw [show off + l * t.size + i * t.size = off + (l + i) * t.size from by rw [Nat.add_mul]; omega]
      exact this

theorem slice_sound (m : Mod w0 N0 A env h w) (f : FD A env w ρ a) {t : TypeId} {x : Operand} {lo hi mx : Option Operand} (ho : o.op = .slice t x lo hi mx)
    (e : (sSlice P t (opnd ρ x) (lo.map (opnd ρ)) (hi.map (opnd ρ)) (mx.map (opnd ρ))).run h = some (d, r)) (hp : conj d.pre) : Yields P o a w0 N0 A env h w d := by
  have dx := Den_opnd f x
  unfold sSlice at e
  split at e
  · rename_i E sz he
    obtain ⟨hu, hsz⟩ := elemT_spec he
    have exe : ∀ {p : Option Addr} {len cap l hh m : Nat}, a.eval x = .slice p len cap →
        ((mx = none ∧ m = cap) ∨ ∃ y k i, mx = some y ∧ a.eval y = .int k i ∧ 0 ≤ i ∧ i ≤ cap ∧ m = i.toNat) →
        ((hi = none ∧ mx = none ∧ hh = len) ∨ ∃ y k i, hi = some y ∧ a.eval y = .int k i ∧ 0 ≤ i ∧ i ≤ m ∧ hh = i.toNat) →
        ((lo = none ∧ l = 0) ∨ ∃ y k i, lo = some y ∧ a.eval y = .int k i ∧ 0 ≤ i ∧ i ≤ hh ∧ l = i.toNat) →
        (execOp a.eval o).run P w = .ok (.value (.slice (if m = l then p else p.map (·.add (l * sz))) (hh - l) (m - l))) w := by
      intro p len cap l hh m ev hm hhi hlo
      unfold execOp; rw [ho]
      have hb := run_sliceBounds (P := P) (w := w) len cap (lo.map a.eval) (hi.map a.eval) (mx.map a.eval) l hh m
        (by rcases hm with ⟨rfl, rfl⟩ | ⟨y, k, i, rfl, e1, e2⟩; exact .inl ⟨rfl, rfl⟩; exact .inr ⟨k, i, by simp [e1], e2⟩)
        (by rcases hhi with ⟨rfl, rfl, rfl⟩ | ⟨y, k, i, rfl, e1, e2⟩; exact .inl ⟨rfl, rfl, rfl⟩; exact .inr ⟨k, i, by simp [e1], e2⟩)
        (by rcases hlo with ⟨rfl, rfl⟩ | ⟨y, k, i, rfl, e1, e2⟩; exact .inl ⟨rfl, rfl⟩; exact .inr ⟨k, i, by simp [e1], e2⟩)
      simp only [Instr.sliceAt, Instr.slice, Sem.run_bind, run_underlying hu, Result.andThen_ok, ev, hb, sizeT_run hsz, Sem.run_pure]
    have loF : ∀ {l hh : Int} {len : Nat}, bound (lo.map (opnd ρ)) 0 = some l → 0 ≤ l → l ≤ hh → ((lo = none ∧ l.toNat = 0) ∨ ∃ y k i, lo = some y ∧ a.eval y = .int k i ∧ 0 ≤ i ∧ i ≤ hh.toNat ∧ l.toNat = i.toNat) := by
      intro l hh len hb h0 h1
      rcases bound_spec f hb with ⟨rfl, rfl⟩ | ⟨k, y, rfl, e1⟩
      · exact .inl ⟨rfl, rfl⟩
      · exact .inr ⟨y, k, l, rfl, e1, h0, by omega, rfl⟩
    split at e
    · rename_i u xs hx
      rw [hx] at dx; simp only [Den] at dx
      split at e
      · rename_i l hh hs1 hb1 hb2
        have hs1 : sz = u.size := Nat.eq_of_beq_eq_true hs1
        subst hs1
        split at e
        · rename_i hmx
          cases ret_inj e
          simp only [Dl.pre, conj, and_true] at hp
          have hmx' : mx = none := by cases mx <;> simp_all
          obtain ⟨p, cap, ev, c1, c2, c3⟩ := RdSl_sub dx (l := l.toNat) (hh := hh.toNat) (by omega) (by omega)
          refine Yields.pure m (exe ev (.inl ⟨hmx', rfl⟩) ?_ (loF (len := 0) hb1 hp.1 hp.2.1)) (by simp only [Den]; exact c3 cap (by omega) (Nat.le_refl _))
          rcases bound_spec f hb2 with ⟨rfl, rfl⟩ | ⟨k, y, rfl, e1⟩
          · exact .inl ⟨rfl, hmx', by simp⟩
          · exact .inr ⟨y, k, hh, rfl, e1, by omega, by omega, rfl⟩
        · rename_i km mm hmx
          split at e
          case h_2 => cases e
          rename_i ys hhi
          cases ret_inj e
          simp only [Dl.pre, conj, and_true] at hp
          obtain ⟨hp1, hp2, hp3, hp4⟩ := hp
          cases mx with
          | none => cases hmx
          | some y =>
            have dy := Den_opnd f y
            simp only [Option.map, Option.some.injEq] at hmx
            rw [hmx] at dy; simp only [Den] at dy
            obtain ⟨p, cap, ev, c1, c2, c3⟩ := RdSl_sub dx (l := l.toNat) (hh := hh.toNat) (by omega) (by omega)
            refine Yields.pure m (exe ev (.inr ⟨y, km, mm, rfl, dy.1, by omega, by omega, rfl⟩) ?_ (loF (len := 0) hb1 hp1 hp2)) ?_
            · rcases bound_spec f hb2 with ⟨rfl, rfl⟩ | ⟨k, y', rfl, e1⟩
              · cases hhi
              · exact .inr ⟨y', k, hh, rfl, e1, by omega, by omega, rfl⟩
            · simp only [Den]
              have hlen : (subL xs l.toNat hh.toNat).length = hh.toNat - l.toNat := by simp [subL]; omega
              exact ⟨c3 mm.toNat (by omega) (by omega), _, by rw [hlen]; congr 1; omega⟩
        · cases e
      · cases e
    · rename_i n sz' hx
      rw [hx] at dx; simp only [Den] at dx
      split at e
      · rename_i hmx
        have hmx' : mx = none := by cases mx <;> simp_all
        simp only [Q.run] at e
        split at e
        · rename_i p q hk
          simp only [Option.some.injEq, Prod.mk.injEq] at e
          obtain ⟨rfl, rfl⟩ := e
          have fin : ∀ {E' : TypeId} {u : CT} {xs : List u.D} {l hh : Int} {A' : Nat → Prop} {h' : Heap}, Mod w0 N0 A' env h' w → Ext A env w A' env w → (h n = .live (.row E' u xs) ∨ h n = .live (.frz E' u xs)) →
              h' n = .live (.frz E' u xs) → sz = u.size → sz' = u.size →
              bound (lo.map (opnd ρ)) 0 = some l → bound (hi.map (opnd ρ)) xs.length = some hh → 0 ≤ l → l ≤ hh → hh ≤ xs.length →
              ∃ v, (execOp a.eval o).run P w = .ok (.value v) w ∧ Den A' env w (.dsl u (subL xs l.toNat hh.toNat)) v := by
            intro E' u xs l hh A' h' m' x' hl hl' h1 h2 hb1 hb2 p1 p2 p3
            have hrs : RdSl A' w u (a.eval x) xs := by
              rcases dx with ⟨hnil, pa, ev⟩ | ⟨b, len, E2, c, hb, hsh, ev⟩
              · have hx0 : xs = [] := by
                  have := m'.nm n
                  rw [hl'] at this
                  rcases this with ⟨k', l', he', _⟩ | ⟨_, E3, t3, hb⟩
                  · rw [hnil] at he'; cases he'
                  · rcases hb with hb | hb <;> cases hb; rfl
                subst hx0
                exact ⟨by simp, .inl ⟨⟨pa, ev⟩, rfl⟩⟩
              · have hbd := (m'.live_blk hl' hb).1
                rw [ev, h2]
                exact RdSl_of_row (fun _ h => h) hbd.2 hbd.1 hsh
            subst h1
            obtain ⟨p, cap, ev, c1, c2, c3⟩ := RdSl_sub hrs (l := l.toNat) (hh := hh.toNat) (by omega) (by omega)
            refine ⟨_, exe ev (.inl ⟨hmx', rfl⟩) ?_ (loF (len := 0) hb1 p1 p2), by simp only [Den]; exact c3 cap (by omega) (Nat.le_refl _)⟩
            rcases bound_spec f hb2 with ⟨rfl, rfl⟩ | ⟨k, y, rfl, e1⟩
            · exact .inl ⟨rfl, hmx', by simp⟩
            · exact .inr ⟨y, k, hh, rfl, e1, by omega, by omega, rfl⟩
          split at hk
          · rename_i E' u xs hl
            split at hk
            · rename_i l hh h1 h2 hb1 hb2
              cases ret_inj hk
              simp only [Dl.pre, conj, and_true] at hp
              have ok : FrzOk h [(n, .live (.frz E' u xs))] := by
                intro n' b hb
                simp only [List.mem_singleton, Prod.mk.injEq] at hb
                obtain ⟨rfl, rfl⟩ := hb
                exact ⟨E', u, xs, hl, rfl⟩
              obtain ⟨m2, x2⟩ := m.freeze ok
              obtain ⟨v, hr, hd⟩ := fin m2 x2 (.inl hl) (by simp [setAll]) (Nat.eq_of_beq_eq_true h1) (Nat.eq_of_beq_eq_true h2) hb1 hb2 hp.1 hp.2.1 hp.2.2
              exact ⟨v, w, .inl hr, (), _, env, trivial, m2, x2, hd⟩
            · cases hk
          · rename_i E' u xs hl
            split at hk
            · rename_i l hh h1 h2 hb1 hb2
              cases ret_inj hk
              simp only [Dl.pre, conj, and_true] at hp
              obtain ⟨v, hr, hd⟩ := fin m Ext.refl (.inr hl) hl (Nat.eq_of_beq_eq_true h1) (Nat.eq_of_beq_eq_true h2) hb1 hb2 hp.1 hp.2.1 hp.2.2
              exact Yields.pure m hr hd
            · cases hk
          · cases hk
        · cases e
      · cases e
    · rename_i hx
      rw [hx] at dx; simp only [Den] at dx
      split at e
      · rename_i l hh hb1 hb2 hmx
        have hmx' : mx = none := by cases mx <;> simp_all
        cases ret_inj e
        simp only [Dl.pre, conj, and_true] at hp
        obtain ⟨rfl, rfl⟩ := hp
        have hr := exe (l := 0) (hh := 0) (m := 0) dx (.inl ⟨hmx', rfl⟩) (by
          rcases bound_spec f hb2 with ⟨rfl, _⟩ | ⟨k, y, rfl, e1⟩
          · exact .inl ⟨rfl, hmx', rfl⟩
          · exact .inr ⟨y, k, 0, rfl, e1, by omega, by omega, rfl⟩) (by
          rcases bound_spec f hb1 with ⟨rfl, _⟩ | ⟨k, y, rfl, e1⟩
          · exact .inl ⟨rfl, rfl⟩
          · exact .inr ⟨y, k, 0, rfl, e1, by omega, by omega, rfl⟩)
        exact Yields.pure m hr (by simp [Den])
      · cases e
    · cases e
  · cases e
end
end Go.SX
