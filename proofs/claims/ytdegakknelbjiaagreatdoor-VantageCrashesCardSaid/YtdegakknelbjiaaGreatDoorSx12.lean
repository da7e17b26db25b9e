/- SX, part 12: slicing, an array's element: soundness. -/
import Derived.Test.YtdegakknelbjiaaGreatDoorSx11
import Derived.Lib.AppendZeros
import Derived.Laws.BytesArg
import Derived.Laws.StructEq
namespace Go.SX
set_option linter.unusedVariables false
section
variable {P : Program} {w0 : World} {N0 : Old} {A : Nat → Prop} {env : Env} {h : Heap} {w : World} {o : Oper} {a : Act} {ρ : Nat → SV} {d : Dl} {r : List Nat}

theorem run_sliceBounds (len cap : Nat) (lo hi mx : Option Value) (l hh m : Nat)
    (hm : (mx = none ∧ m = cap) ∨ ∃ k i, mx = some (.int k i) ∧ 0 ≤ i ∧ i ≤ cap ∧ m = i.toNat)
    (hhi : (hi = none ∧ mx = none ∧ hh = len) ∨ ∃ k i, hi = some (.int k i) ∧ 0 ≤ i ∧ i ≤ m ∧ hh = i.toNat)
    (hlo : (lo = none ∧ l = 0) ∨ ∃ k i, lo = some (.int k i) ∧ 0 ≤ i ∧ i ≤ hh ∧ l = i.toNat) :
    (Instr.sliceBounds true len cap lo hi mx).run P w = .ok (l, hh, m) w := by
  rcases hm with ⟨rfl, rfl⟩ | ⟨km, im, rfl, m0, m1, rfl⟩ <;> rcases hhi with ⟨rfl, e, rfl⟩ | ⟨kh, ih, rfl, h0, h1, rfl⟩ <;> rcases hlo with ⟨rfl, rfl⟩ | ⟨kl, il, rfl, l0, l1, rfl⟩ <;>
    first
    | (cases e; done)
    | (simp [Instr.sliceBounds, run_sliceBound, *, -Int.ofNat_toNat])

theorem bound_spec {x : Option Operand} {dflt v : Int} (f : FD A env w ρ a) (e : bound (x.map (opnd ρ)) dflt = some v) :
    (x = none ∧ v = dflt) ∨ ∃ k y, x = some y ∧ a.eval y = .int k v := by
  cases x with
  | none => simp only [Option.map, bound] at e; cases e; exact .inl ⟨rfl, rfl⟩
  | some y =>
    have dy := Den_opnd f y
    simp only [Option.map] at e
    unfold bound at e
    split at e
    · rename_i hh; cases hh
    · rename_i k n hh
      cases e
      simp only [Option.some.injEq] at hh
      rw [hh] at dy; simp only [Den] at dy
      exact .inr ⟨k, y, rfl, dy.1⟩
    · cases e

/-- A part of immutable data is immutable data. -/
theorem RdSl_sub {t : CT} {v : Value} {xs : List t.D} (hs : RdSl A w t v xs) {l hh : Nat} (h1 : l ≤ hh) (h2 : hh ≤ xs.length) :
    ∃ p cap, v = .slice p xs.length cap ∧ xs.length ≤ cap ∧ cap ≤ maxLen ∧ ∀ m, hh ≤ m → m ≤ cap →
      RdSl A w t (.slice (if m = l then p else p.map (·.add (l * t.size))) (hh - l) (m - l)) (subL xs l hh) := by
  have hlen : (subL xs l hh).length = hh - l := by simp [subL]; omega
  obtain ⟨hl, ⟨⟨p, rfl⟩, rfl⟩ | ⟨b, off, cap, rfl, c1, c2, c3, c4⟩⟩ := hs
  · refine ⟨p, 0, rfl, Nat.le_refl _, by simp, fun m hm hm' => ?_⟩
    have : m = 0 := by omega
    subst this
    have hl0 : l = 0 := by simp at h2; omega
    have hh0 : hh = 0 := by simpa using h2
    subst hl0; subst hh0
    exact ⟨by simp [subL], .inl ⟨⟨p, by simp⟩, by simp [subL]⟩⟩
  · refine ⟨_, cap, rfl, c1, c2, fun m hm hm' => ⟨by omega, ?_⟩⟩
    by_cases hml : m = l
    · rw [if_pos hml]
      have : hh - l = 0 := by omega
      refine .inl ⟨⟨some ⟨b, off, none⟩, by rw [this, hml]; simp⟩, ?_⟩
      exact List.eq_nil_of_length_eq_zero (by omega)
    · rw [if_neg hml]
      refine .inr ⟨b, off + l * t.size, m - l, by rw [hlen]; simp [Addr.add_lit], by omega, by omega, c3, fun i hi => ?_⟩
      have hi' : i < hh - l := by omega
      have := c4 (l + i) (by omega)
      have eg : (subL xs l hh)[i] = xs[l + i] := by simp [subL]
      rw [eg]
      rw [show off + l * t.size + i * t.size = off + (l + i) * t.size from by rw [Nat.add_mul]; omega]
      exact this

theorem slice_sound (m : Mod w0 N0 A env h w) (f : FD A env w ρ a) {t : TypeId} {x : Operand} {lo hi mx : Option Operand} (ho : o.op = .slice t x lo hi mx)
    (e : (sSlice P t (opnd ρ x) (lo.map (opnd ρ)) (hi.map (opnd ρ)) (mx.map (opnd ρ))).run h = some (d, r)) (hp : conj d.pre) : Yields P o a w0 N0 A env h w d := by
  have dx := Den_opnd f x
  unfold sSlice at e
  split at e
  · rename_i E sz he
    obtain ⟨hu, hsz⟩ := elemT_spec he
    have exe : ∀ {p : Option Addr} {len cap l hh m : Nat}, a.eval x = .slice p len cap →
        ((mx = none ∧ m = cap) ∨ ∃ y k i, mx = some y ∧ a.eval y = .int k i ∧ 0 ≤ i ∧ i ≤ cap ∧ m = i.toNat) →
        ((hi = none ∧ mx = none ∧ hh = len) ∨ ∃ y k i, hi = some y ∧ a.eval y = .int k i ∧ 0 ≤ i ∧ i ≤ m ∧ hh = i.toNat) →
        ((lo = none ∧ l = 0) ∨ ∃ y k i, lo = some y ∧ a.eval y = .int k i ∧ 0 ≤ i ∧ i ≤ hh ∧ l = i.toNat) →
        (execOp a.eval o).run P w = .ok (.value (.slice (if m = l then p else p.map (·.add (l * sz))) (hh - l) (m - l))) w := by
      intro p len cap l hh m ev hm hhi hlo
      unfold execOp; rw [ho]
      have hb := run_sliceBounds (P := P) (w := w) len cap (lo.map a.eval) (hi.map a.eval) (mx.map a.eval) l hh m
        (by rcases hm with ⟨rfl, rfl⟩ | ⟨y, k, i, rfl, e1, e2⟩; exact .inl ⟨rfl, rfl⟩; exact .inr ⟨k, i, by simp [e1], e2⟩)
        (by rcases hhi with ⟨rfl, rfl, rfl⟩ | ⟨y, k, i, rfl, e1, e2⟩; exact .inl ⟨rfl, rfl, rfl⟩; exact .inr ⟨k, i, by simp [e1], e2⟩)
        (by rcases hlo with ⟨rfl, rfl⟩ | ⟨y, k, i, rfl, e1, e2⟩; exact .inl ⟨rfl, rfl⟩; exact .inr ⟨k, i, by simp [e1], e2⟩)
      simp only [Instr.sliceAt, Instr.slice, Sem.run_bind, run_underlying hu, Result.andThen_ok, ev, hb, sizeT_run hsz, Sem.run_pure]
    have loF : ∀ {l hh : Int} {len : Nat}, bound (lo.map (opnd ρ)) 0 = some l → 0 ≤ l → l ≤ hh → ((lo = none ∧ l.toNat = 0) ∨ ∃ y k i, lo = some y ∧ a.eval y = .int k i ∧ 0 ≤ i ∧ i ≤ hh.toNat ∧ l.toNat = i.toNat) := by
      intro l hh len hb h0 h1
      rcases bound_spec f hb with ⟨rfl, rfl⟩ | ⟨k, y, rfl, e1⟩
      · exact .inl ⟨rfl, rfl⟩
      · exact .inr ⟨y, k, l, rfl, e1, h0, by omega, rfl⟩
    split at e
    · rename_i u xs hx
      rw [hx] at dx; simp only [Den] at dx
      split at e
      · rename_i l hh hs1 hb1 hb2
        have hs1 : sz = u.size := Nat.eq_of_beq_eq_true hs1
        subst hs1
        split at e
        · rename_i hmx
          cases ret_inj e
          simp only [Dl.pre, conj, and_true] at hp
          have hmx' : mx = none := by cases mx <;> simp_all
          obtain ⟨p, cap, ev, c1, c2, c3⟩ := RdSl_sub dx (l := l.toNat) (hh := hh.toNat) (by omega) (by omega)
          refine Yields.pure m (exe ev (.inl ⟨hmx', rfl⟩) ?_ (loF (len := 0) hb1 hp.1 hp.2.1)) (by simp only [Den]; exact c3 cap (by omega) (Nat.le_refl _))
          rcases bound_spec f hb2 with ⟨rfl, rfl⟩ | ⟨k, y, rfl, e1⟩
          · exact .inl ⟨rfl, hmx', by simp⟩
          · exact .inr ⟨y, k, hh, rfl, e1, by omega, by omega, rfl⟩
        · rename_i km mm hmx
          split at e
          case h_2 => cases e
          rename_i ys hhi
          cases ret_inj e
          simp only [Dl.pre, conj, and_true] at hp
          obtain ⟨hp1, hp2, hp3, hp4⟩ := hp
          cases mx with
          | none => cases hmx
          | some y =>
            have dy := Den_opnd f y
            simp only [Option.map, Option.some.injEq] at hmx
            rw [hmx] at dy; simp only [Den] at dy
            obtain ⟨p, cap, ev, c1, c2, c3⟩ := RdSl_sub dx (l := l.toNat) (hh := hh.toNat) (by omega) (by omega)
            refine Yields.pure m (exe ev (.inr ⟨y, km, mm, rfl, dy.1, by omega, by omega, rfl⟩) ?_ (loF (len := 0) hb1 hp1 hp2)) ?_
            · rcases bound_spec f hb2 with ⟨rfl, rfl⟩ | ⟨k, y', rfl, e1⟩
              · cases hhi
              · exact .inr ⟨y', k, hh, rfl, e1, by omega, by omega, rfl⟩
            · simp only [Den]
              have hlen : (subL xs l.toNat hh.toNat).length = hh.toNat - l.toNat := by simp [subL]; omega
              exact ⟨c3 mm.toNat (by omega) (by omega), _, by rw [hlen]; congr 1; omega⟩
        · cases e
      · cases e
    · rename_i n sz' hx
      rw [hx] at dx; simp only [Den] at dx
      split at e
      · rename_i hmx
        have hmx' : mx = none := by cases mx <;> simp_all
        simp only [Q.run] at e
        split at e
        · rename_i p q hk
          simp only [Option.some.injEq, Prod.mk.injEq] at e
          obtain ⟨rfl, rfl⟩ := e
          have fin : ∀ {E' : TypeId} {u : CT} {xs : List u.D} {l hh : Int} {A' : Nat → Prop} {h' : Heap}, Mod w0 N0 A' env h' w → Ext A env w A' env w → (h n = .live (.row E' u xs) ∨ h n = .live (.frz E' u xs)) →
              h' n = .live (.frz E' u xs) → sz = u.size → sz' = u.size →
              bound (lo.map (opnd ρ)) 0 = some l → bound (hi.map (opnd ρ)) xs.length = some hh → 0 ≤ l → l ≤ hh → hh ≤ xs.length →
              ∃ v, (execOp a.eval o).run P w = .ok (.value v) w ∧ Den A' env w (.dsl u (subL xs l.toNat hh.toNat)) v := by
            intro E' u xs l hh A' h' m' x' hl hl' h1 h2 hb1 hb2 p1 p2 p3
            have hrs : RdSl A' w u (a.eval x) xs := by
              rcases dx with ⟨hnil, pa, ev⟩ | ⟨b, len, E2, c, hb, hsh, ev⟩
              · have hx0 : xs = [] := by
                  have := m'.nm n
                  rw [hl'] at this
                  rcases this with ⟨k', l', he', _⟩ | ⟨_, E3, t3, hb⟩
                  · rw [hnil] at he'; cases he'
                  · rcases hb with hb | hb <;> cases hb; rfl
                subst hx0
                exact ⟨by simp, .inl ⟨⟨pa, ev⟩, rfl⟩⟩
              · have hbd := (m'.live_blk hl' hb).1
                rw [ev, h2]
                exact RdSl_of_row (fun _ h => h) hbd.2 hbd.1 hsh
            subst h1
            obtain ⟨p, cap, ev, c1, c2, c3⟩ := RdSl_sub hrs (l := l.toNat) (hh := hh.toNat) (by omega) (by omega)
            refine ⟨_, exe ev (.inl ⟨hmx', rfl⟩) ?_ (loF (len := 0) hb1 p1 p2), by simp only [Den]; exact c3 cap (by omega) (Nat.le_refl _)⟩
            rcases bound_spec f hb2 with ⟨rfl, rfl⟩ | ⟨k, y, rfl, e1⟩
            · exact .inl ⟨rfl, hmx', by simp⟩
            · exact .inr ⟨y, k, hh, rfl, e1, by omega, by omega, rfl⟩
          split at hk
          · rename_i E' u xs hl
            split at hk
            · rename_i l hh h1 h2 hb1 hb2
              cases ret_inj hk
              simp only [Dl.pre, conj, and_true] at hp
              have ok : FrzOk h [(n, .live (.frz E' u xs))] := by
                intro n' b hb
                simp only [List.mem_singleton, Prod.mk.injEq] at hb
                obtain ⟨rfl, rfl⟩ := hb
                exact ⟨E', u, xs, hl, rfl⟩
              obtain ⟨m2, x2⟩ := m.freeze ok
              obtain ⟨v, hr, hd⟩ := fin m2 x2 (.inl hl) (by simp [setAll]) (Nat.eq_of_beq_eq_true h1) (Nat.eq_of_beq_eq_true h2) hb1 hb2 hp.1 hp.2.1 hp.2.2
              exact ⟨v, w, .inl hr, (), _, env, trivial, m2, x2, hd⟩
            · cases hk
          · rename_i E' u xs hl
            split at hk
            · rename_i l hh h1 h2 hb1 hb2
              cases ret_inj hk
              simp only [Dl.pre, conj, and_true] at hp
              obtain ⟨v, hr, hd⟩ := fin m Ext.refl (.inr hl) hl (Nat.eq_of_beq_eq_true h1) (Nat.eq_of_beq_eq_true h2) hb1 hb2 hp.1 hp.2.1 hp.2.2
              exact Yields.pure m hr hd
            · cases hk
          · cases hk
        · cases e
      · cases e
    · rename_i hx
      rw [hx] at dx; simp only [Den] at dx
      split at e
      · rename_i l hh hb1 hb2 hmx
        have hmx' : mx = none := by cases mx <;> simp_all
        cases ret_inj e
        simp only [Dl.pre, conj, and_true] at hp
        obtain ⟨rfl, rfl⟩ := hp
        have hr := exe (l := 0) (hh := 0) (m := 0) dx (.inl ⟨hmx', rfl⟩) (by
          rcases bound_spec f hb2 with ⟨rfl, _⟩ | ⟨k, y, rfl, e1⟩
          · exact .inl ⟨rfl, hmx', rfl⟩
          · exact .inr ⟨y, k, 0, rfl, e1, by omega, by omega, rfl⟩) (by
          rcases bound_spec f hb1 with ⟨rfl, _⟩ | ⟨k, y, rfl, e1⟩
          · exact .inl ⟨rfl, rfl⟩
          · exact .inr ⟨y, k, 0, rfl, e1, by omega, by omega, rfl⟩)
        exact Yields.pure m hr (by simp [Den])
      · cases e
    · cases e
  · cases e

/-! ### A slice that stays the owner of its row; zeros appended; capacities -/
def sSliceOwn (P : Program) (t : TypeId) (nm : Nat) (x : SV) (lo hi mx : Option SV) : Q Dl := match elemT P t, lo, hi, mx with
  | some (_, sz), none, some (.int _ hh), none => match x with
    | .own n sz' => .ask n fun
      | .live (.row E u xs) => match Nat.beq sz u.size, Nat.beq sz' u.size with
        | true, true => .ask nm fun
          | .un => .ret (.det [0 ≤ hh, hh ≤ xs.length] (.own nm sz) [(nm, .live (.row E u (xs.take hh.toNat))), (n, .dead)])
          | _ => .fail
        | _, _ => .fail
      | _ => .fail
    | _ => .fail
  | _, _, _, _ => .fail
def sAppendN (P : Program) (t tn : TypeId) (nm : Nat) (s x : SV) : Q Dl := match elemT P t, s, x, P.underlying tn with
  | some (e, sz), .nilsl, .int _ n, some (.int _) => match ctOf P 8 e, zeroCells P e, P.info? e with
    | some u, some z, some i => match Nat.beq u.size sz, Nat.beq z.length sz, Nat.ble 1 i.bytes, projC u z with
      | true, true, true, .ret (d, _, []) => .ask nm fun
        | .un => .ret (.det [0 ≤ n, n * (i.bytes : Int) ≤ 140737488355328] (.own nm sz) [(nm, .live (.row e u (List.replicate n.toNat d)))])
        | _ => .fail
      | _, _, _, _ => .fail
    | _, _, _ => .fail
  | _, _, _, _ => .fail
def sCap (P : Program) (t : TypeId) (x : SV) : Q Dl := match P.underlying t, x with
  | some (.slice _), .nilsl => det0 (.int .i64 0)
  | _, _ => .fail

theorem cap_sound (m : Mod w0 N0 A env h w) (f : FD A env w ρ a) {t : TypeId} {x : Operand} (ho : o.op = .call { callee := .builtin .cap, args := #[x], argTypes := #[t] })
    (e : (sCap P t (opnd ρ x)).run h = some (d, r)) : Yields P o a w0 N0 A env h w d := by
  have dx := Den_opnd f x
  unfold sCap at e
  split at e
  · rename_i E hu hx
    rw [hx] at dx; simp only [Den] at dx
    unfold det0 at e
    cases ret_inj e
    refine Yields.pure m (v := .int .i64 0) ?_ (by simp only [Den]; exact ⟨trivial, hasB_has (by decide)⟩)
    unfold execOp; rw [ho]
    simp [resolve, invoke, builtin, Builtin.cap_, run_underlying hu, dx, goInt]
  · cases e

theorem sliceOwn_sound (m : Mod w0 N0 A env h w) (f : FD A env w ρ a) {t : TypeId} {nm : Nat} {x : Operand} {lo hi mx : Option Operand} (ho : o.op = .slice t x lo hi mx)
    (e : (sSliceOwn P t nm (opnd ρ x) (lo.map (opnd ρ)) (hi.map (opnd ρ)) (mx.map (opnd ρ))).run h = some (d, r)) (hp : conj d.pre) : Yields P o a w0 N0 A env h w d := by
  have dx := Den_opnd f x
  unfold sSliceOwn at e
  split at e
  case h_2 => cases e
  rename_i E sz kh hh he hlo hhi hmx
  obtain ⟨hu, hsz⟩ := elemT_spec he
  have hlo' : lo = none := by cases lo <;> simp_all
  have hmx' : mx = none := by cases mx <;> simp_all
  subst hlo' hmx'
  cases hi with
  | none => cases hhi
  | some y =>
  simp only [Option.map, Option.some.injEq] at hhi
  have dy := Den_opnd f y
  rw [hhi] at dy; simp only [Den] at dy
  split at e
  case h_2 => cases e
  rename_i n sz' hx
  rw [hx] at dx; simp only [Den] at dx
  simp only [Q.run] at e
  split at e
  case h_2 => cases e
  rename_i p q hk
  simp only [Option.some.injEq, Prod.mk.injEq] at e
  obtain ⟨rfl, rfl⟩ := e
  split at hk
  case h_2 => cases hk
  rename_i E' u xs hl
  split at hk
  case h_2 => cases hk
  rename_i hs1 hs2
  have hs1 : sz = u.size := Nat.eq_of_beq_eq_true hs1
  have hs2 : sz' = u.size := Nat.eq_of_beq_eq_true hs2
  subst hs1
  simp only [Q.run] at hk
  split at hk
  case h_2 => cases hk
  rename_i p' q' hk'
  simp only [Option.some.injEq, Prod.mk.injEq] at hk
  obtain ⟨rfl, rfl⟩ := hk
  split at hk'
  case h_2 => cases hk'
  rename_i hun
  cases ret_inj hk'
  simp only [Dl.pre, conj, and_true] at hp
  have exe : ∀ {p : Option Addr} {len cap : Nat}, a.eval x = .slice p len cap → hh.toNat ≤ cap → (execOp a.eval o).run P w = .ok (.value (.slice p hh.toNat cap)) w := by
    intro p len cap ev hc
    unfold execOp; rw [ho]
    have hb := run_sliceBounds (P := P) (w := w) len cap none (some (a.eval y)) none 0 hh.toNat cap (.inl ⟨rfl, rfl⟩) (.inr ⟨kh, hh, by rw [dy.1], hp.1, by omega, rfl⟩) (.inl ⟨rfl, rfl⟩)
    simp only [Option.map, Instr.sliceAt, Instr.slice, Sem.run_bind, run_underlying hu, Result.andThen_ok, ev, hb, sizeT_run hsz, Sem.run_pure, Nat.zero_mul, Nat.sub_zero]
    congr 3
    split
    · rfl
    · cases p <;> simp [Addr.add]
  have hdn : ∀ n' ∈ [n], ∃ b, h n' = .live b ∧ b.mut = true := by simp [hl, Blk.mut]
  rcases dx with ⟨hnil, pa, es⟩ | ⟨b, len, E2, cc, hb, hsh, es⟩
  · have hx : xs = [] := by
      have := m.nm n
      rw [hl] at this
      rcases this with ⟨k', l', he', _⟩ | ⟨_, E3, t3, hb⟩
      · rw [hnil] at he'; cases he'
      · rcases hb with hb | hb <;> cases hb; rfl
    subst hx
    have h0 : hh.toNat = 0 := by simp at hp; omega
    have g := take_good (pre := [0 ≤ hh, hh ≤ ([] : List u.D).length]) (v := .slice pa 0 0) (E := E') (t := u) (zs := ([] : List u.D).take hh.toNat) m hun [n] hdn (W := fun _ => False) (ev := .nil) (Chg.refl w _) (fun _ h => h.elim) (by simp)
      (fun k l e => by cases e) (fun _ => .inl ⟨rfl, by simp, pa, rfl⟩)
    exact ⟨_, w, .inl (exe es (by omega)), by rw [h0]; simpa using g⟩
  · obtain ⟨cur, cap, hhp, hcs, hxl, hlc, hcm, hrd⟩ := (m.live_blk hl hb).1
    have hcc : cc = cur.size := by
      unfold World.shape? at hsh; rw [hhp] at hsh
      simp only [Option.some.injEq, Prod.mk.injEq] at hsh; exact hsh.2.symm
    have hcap : cc / sz' = cap := by rw [hcc, hcs, hs2]; exact Nat.mul_div_cancel _ u.size_pos
    rw [hcap] at es
    have hle : hh.toNat ≤ xs.length := by omega
    have g := take_good (pre := [0 ≤ hh, hh ≤ xs.length]) (v := .slice (some ⟨b, 0, none⟩) hh.toNat cap) (E := E') (t := u) (zs := xs.take hh.toNat) m hun [n] hdn (W := fun _ => False) (ev := .blk b hh.toNat) (Chg.refl w _) (fun _ h => h.elim) (by simp)
      (fun k l e => by cases e; exact .inr ⟨n, len, by simp, hb⟩) (fun x => .inr ⟨b, hh.toNat, cc, rfl, ⟨cur, cap, hhp, hcs, by simp; omega, by omega, hcm, fun i hi => ?_⟩, by rw [hsh]; unfold World.shape? at hsh; rw [hhp] at hsh; cases hsh; rfl, by rw [← hs2, hcap]⟩)
    · exact ⟨_, w, .inl (exe es (by omega)), by simpa using g⟩
    · have hi' : i < xs.length := by simp at hi; omega
      rw [List.getElem_take]
      exact hrd i hi'

theorem zeroCells_toList (z : Array Value) (n : Nat) (hz : 0 < z.size) : (Builtin.zeroCells z n).toList = repL z.toList n := by
  apply List.ext_getElem?
  intro i
  by_cases hi : i < n * z.size
  · rw [repL_get _ _ _ (by simpa using hi)]
    unfold Builtin.zeroCells
    have hm : i % z.size < z.size := Nat.mod_lt _ hz
    rw [Array.getElem?_toList, Array.getElem?_map, Array.getElem?_range, if_pos hi]
    simp [hm]
  · rw [List.getElem?_eq_none (by simp [Builtin.zeroCells]; omega), List.getElem?_eq_none (by rw [repL_length]; simp; omega)]

theorem appendN_sound (m : Mod w0 N0 A env h w) (f : FD A env w ρ a) {t tn : TypeId} {nm : Nat} {s x : Operand} (ho : o.op = .call { callee := .builtin .append, args := #[s, x], argTypes := #[t, tn] })
    (e : (sAppendN P t tn nm (opnd ρ s) (opnd ρ x)).run h = some (d, r)) (hp : conj d.pre) : Yields P o a w0 N0 A env h w d := by
  have ds := Den_opnd f s
  have dx := Den_opnd f x
  have exe : ∀ {v : Value} {w' : World}, (Builtin.append_ #[t, tn] o.type #[a.eval s, a.eval x]).run P w = .ok v w' → (execOp a.eval o).run P w = .ok (.value v) w' := by
    intro v w' hr
    unfold execOp; rw [ho]
    simp only [resolve, invoke, builtin, Sem.run_bind, Sem.run_pure, Result.andThen_ok, List.map_toArray, List.map_cons, List.map_nil, hr]
  unfold sAppendN at e
  split at e
  case h_2 => cases e
  rename_i E sz kn n kt he hs hx hut
  obtain ⟨hu, hsz⟩ := elemT_spec he
  rw [hs] at ds; rw [hx] at dx
  simp only [Den] at ds dx
  split at e
  case h_2 => cases e
  rename_i u z i hct hz hi
  split at e
  case h_2 => cases e
  rename_i dd rest hb1 hb2 hb3 hpz
  have hb1 : u.size = sz := Nat.eq_of_beq_eq_true hb1
  have hb2 : z.length = sz := Nat.eq_of_beq_eq_true hb2
  have hb3 : 1 ≤ i.bytes := Nat.le_of_ble_eq_true hb3
  subst hb1
  simp only [Q.run] at e
  split at e
  case h_2 => cases e
  rename_i p q hk
  simp only [Option.some.injEq, Prod.mk.injEq] at e
  obtain ⟨rfl, rfl⟩ := e
  split at hk
  case h_2 => cases hk
  rename_i hun
  cases ret_inj hk
  simp only [Dl.pre, conj, and_true] at hp
  obtain ⟨h0, hby⟩ := hp
  obtain ⟨i', zv, hi', hzv, dz, _⟩ := zeroCells_den (A := A) (env := env) (w := w) hz
  rw [hi] at hi'; cases hi'
  have hzl : zv.cells.size = u.size := by rw [← Array.length_toList, DenL_length dz, hb2]
  have hisz : i.size = u.size := by
    unfold sizeT at hsz; rw [hi] at hsz; simpa using hsz
  obtain ⟨k, rfl⟩ := Int.eq_ofNat_of_zero_le h0
  have hkb : k * i.bytes ≤ 140737488355328 := by
    have : ((k * i.bytes : Nat) : Int) ≤ 140737488355328 := by rw [Int.natCast_mul]; exact hby
    omega
  have hk1 : k ≤ k * i.bytes := Nat.le_mul_of_pos_right k (by omega)
  by_cases hk0 : k = 0
  · subst hk0
    have hr : (Builtin.append_ #[t, tn] o.type #[a.eval s, a.eval x]).run P w = .ok (.slice none 0 0) w := by
      rw [ds, dx.1]
      have hw : IntKind.i64.wrap ((0 : Nat) : Int) = 0 := by decide
      have hut' : P.underlying tn = some (.int kt) := hut
      have hai : (asIntOf (Value.int kn 0)).run P w = .ok (kn, 0) w := by simp [asIntOf]
      unfold Builtin.append_
      simp [run_underlying hu, run_underlying hut', sizeT_run hsz, typeInfo, hi, asInt, hai, show IntKind.i64.wrap 0 = 0 from by decide]
    refine ⟨_, w, .inl (exe hr), ?_⟩
    have g := take_good (pre := [0 ≤ ((0 : Nat) : Int), ((0 : Nat) : Int) * (i.bytes : Int) ≤ 140737488355328]) (v := .slice none 0 0) (E := E) (t := u) (zs := List.replicate (((0 : Nat) : Int)).toNat dd) m hun [] (by simp) (W := fun _ => False) (ev := .nil) (Chg.refl w _) (fun _ h => h.elim) (by simp)
      (fun k l e => by cases e) (fun _ => .inl ⟨rfl, by simp, none, rfl⟩)
    simpa using g
  · have hr := Go.Lib.run_append_nil_zeros (P := P) w t tn o.type E i zv kn kt hu hut hi hzv k (by omega) (by rw [hisz]; exact u.size_pos) (by omega) (by omega)
    rw [← ds, ← dx.1] at hr
    refine ⟨_, _, .inl (exe hr), ?_⟩
    have hge := grownCap_ge w k 0 E
    have hcm := grownCap_le_maxLen w k 0 E (by simp only [maxLen]; omega)
    generalize grownCap w k 0 E = cap at *
    have hproj := projC_sound m u z zv.cells.toList dd rest [] [] (by rw [hpz]; rfl) dz (A' := A) (fun _ hb => hb) (fun k ⟨n, b, l, hh, _⟩ => by simp at hh)
    have hall : (Builtin.zeroCells zv.cells k ++ Builtin.zeroCells zv.cells (cap - k)).toList = repL zv.cells.toList cap := by
      rw [Array.toList_append, zeroCells_toList _ _ (by rw [hzl]; exact u.size_pos), zeroCells_toList _ _ (by rw [hzl]; exact u.size_pos)]
      have radd : ∀ (l : List Value) (a b : Nat), repL l a ++ repL l b = repL l (a + b) := by
        intro l a b
        induction a with
        | zero => simp [repL]
        | succ a ih => rw [Nat.succ_add]; simp only [repL, List.append_assoc, ih]
      rw [radd]; congr 1; omega
    have hsize : (Builtin.zeroCells zv.cells k ++ Builtin.zeroCells zv.cells (cap - k)).size = cap * u.size := by
      rw [← Array.length_toList, hall, repL_length, Array.length_toList, hzl]
    have cg : Chg w (w.drew.alloc (.cells (Builtin.zeroCells zv.cells k ++ Builtin.zeroCells zv.cells (cap - k)) E)) fun _ => False := (Chg.drew w _).trans (Chg.alloc w.drew _ _)
    have g := take_good (pre := [0 ≤ ((k : Nat) : Int), ((k : Nat) : Int) * (i.bytes : Int) ≤ 140737488355328]) (v := .slice (some ⟨w.heap.size, 0, none⟩) k cap) (E := E) (t := u) (zs := List.replicate ((k : Nat) : Int).toNat dd) m hun [] (by simp) (W := fun _ => False) (ev := .blk w.heap.size k) cg (fun _ h => h.elim) (by simp)
      (fun k l e => by cases e; exact .inl (Nat.le_refl _)) (fun x => .inr ⟨w.heap.size, k, cap * u.size, rfl, ⟨_, cap, heap_alloc_new w.drew _, hsize, by simp, hge, hcm, fun j hj => ?_⟩, ?_, ?_⟩)
    · simpa using g
    · simp only [List.length_replicate, Int.toNat_natCast] at hj
      rw [List.getElem_replicate]
      have sh := Rd_shift hproj.2.2.2.1 (j * u.size)
      rw [Nat.zero_add] at sh
      refine Rd_mono (fun _ h => h) x.keep u _ _ _ _ (fun q hq => ?_) sh
      have hlt : j * u.size + q < cap * u.size := by
        have : (j + 1) * u.size ≤ cap * u.size := Nat.mul_le_mul_right _ (by omega)
        rw [Nat.add_mul, Nat.one_mul] at this; omega
      rw [← Array.getElem?_toList, hall, repL_get _ _ _ (by simpa [hzl] using hlt)]
      congr 1
      simp only [Array.length_toList, hzl]
      rw [Nat.add_comm, Nat.add_mul_mod_self_right, Nat.mod_eq_of_lt hq]
      omega
    · unfold World.shape?
      have hh := heap_alloc_new w.drew (.cells (Builtin.zeroCells zv.cells k ++ Builtin.zeroCells zv.cells (cap - k)) E)
      simp only [World.size_drew] at hh
      rw [hh]; simp only [hsize]
    · rw [Nat.mul_div_cancel _ u.size_pos]

/-! ### Strings -/
theorem rdsl_bytes {xs : List Int} {v : Value} (h : RdSl A w (.int .u8) v xs) {src e : TypeId} (hs : P.underlying src = some (.slice e)) (he : P.underlying e = some (.int .u8)) {dst : TypeId} (hd : P.underlying dst = some .string) :
    (convert src dst v).run P w = .ok (.string (strOfNums xs)) w := by
  obtain ⟨hl, ⟨⟨a, rfl⟩, hx⟩ | ⟨b, off, cap, rfl, h1, h2, h3, h4⟩⟩ := h
  · have hx : xs = [] := hx
    subst hx
    rw [run_convert_bytes_string w src dst e _ 0 0 hs he hd]
    cases a <;> simp [Conv.bytesToString, loadCells]
    all_goals rfl
  · refine run_convert_bytes_arg (P := P) w src e hs he b off xs.length cap xs rfl (fun i hi => ?_) dst hd
    have := (h4 i hi).1
    simp only [CT.size, Nat.mul_one] at this
    rw [this, List.getD_eq_getElem?_getD, List.getElem?_eq_getElem hi, Option.getD_some]
theorem row_bytes {xs : List Int} {k len c : Nat} {E : TypeId} (h : RowDen A w k len E (.int .u8) xs) {src e : TypeId} (hs : P.underlying src = some (.slice e)) (he : P.underlying e = some (.int .u8)) {dst : TypeId} (hd : P.underlying dst = some .string) :
    (convert src dst (.slice (some ⟨k, 0, none⟩) len c)).run P w = .ok (.string (strOfNums xs)) w := by
  obtain ⟨vs, cap, h0, h1, h2, h3, h4, h5⟩ := h
  refine run_convert_bytes_arg (P := P) w src e hs he k 0 len c xs h2 (fun i hi => ?_) dst hd
  have hi' : i < xs.length := by omega
  have := (h5 i hi').1
  simp only [CT.size, Nat.mul_one] at this
  rw [cell_of_row w k _ vs E (0, 0) h0, Nat.zero_add, this, List.getD_eq_getElem?_getD, List.getElem?_eq_getElem hi', Option.getD_some]

/-- Bytes as a string. -/
def sConvS (P : Program) (src : TypeId) (x : SV) : Q Dl := match P.underlying src with
  | some (.slice e) => match P.underlying e with
    | some (.int .u8) => match x with
      | .dsl t xs => match castL t (.int .u8) xs with
        | some ys => det0 (.str (strOfNums ys))
        | none => .fail
      | .dsx t xs => match castL t (.int .u8) xs with
        | some ys => det0 (.str (strOfNums ys))
        | none => .fail
      | .nilsl => det0 (.str (strOfNums []))
      | .own n sz => .ask n fun
        | .live (.row _ t xs) => match castL t (.int .u8) xs with
          | some ys => det0 (.str (strOfNums ys))
          | none => .fail
        | .live (.frz _ t xs) => match castL t (.int .u8) xs with
          | some ys => det0 (.str (strOfNums ys))
          | none => .fail
        | _ => .fail
      | _ => .fail
    | _ => .fail
  | _ => .fail
theorem strOfNums_den {xs : List Int} {v : Value} (hl : xs.length ≤ maxLen) : Den A env w (.str (strOfNums xs)) (.string (strOfNums xs)) := by
  simp only [Den]; exact ⟨trivial, by rw [strOfNums_size]; exact hl⟩
theorem convS_sound (m : Mod w0 N0 A env h w) (f : FD A env w ρ a) {s t : TypeId} {x : Operand} (ho : o.op = .convert s t x) (ht : P.underlying t = some .string)
    (e : (sConvS P s (opnd ρ x)).run h = some (d, r)) : Yields P o a w0 N0 A env h w d := by
  have dx := Den_opnd f x
  have go : ∀ {v : Value}, (convert s t (a.eval x)).run P w = .ok v w → (execOp a.eval o).run P w = .ok (.value v) w := by
    intro v hr
    unfold execOp; rw [ho]
    simp only [Sem.run_bind, hr, Result.andThen_ok, Sem.run_pure]
  unfold sConvS at e
  split at e
  · rename_i el hs
    split at e
    · rename_i he
      split at e
      · rename_i u xs hx
        rw [hx] at dx; simp only [Den] at dx
        split at e
        · rename_i ys hc
          obtain ⟨et, ez⟩ := castL_eq hc
          subst et; simp only at ez; subst ez
          unfold det0 at e
          cases ret_inj e
          exact Yields.pure m (go (rdsl_bytes dx hs he ht)) (strOfNums_den (v := a.eval x) dx.1)
        · cases e
      · rename_i u xs hx
        rw [hx] at dx; simp only [Den] at dx
        split at e
        · rename_i ys hc
          obtain ⟨et, ez⟩ := castL_eq hc
          subst et; simp only at ez; subst ez
          unfold det0 at e
          cases ret_inj e
          exact Yields.pure m (go (rdsl_bytes dx.1 hs he ht)) (strOfNums_den (v := a.eval x) dx.1.1)
        · cases e
      · rename_i hx
        rw [hx] at dx; simp only [Den] at dx
        unfold det0 at e
        cases ret_inj e
        refine Yields.pure m (go ?_) (strOfNums_den (v := a.eval x) (by simp))
        rw [dx]
        exact rdsl_bytes (A := A) (xs := []) ⟨by simp, .inl ⟨⟨_, rfl⟩, rfl⟩⟩ hs he ht
      · rename_i n sz hx
        rw [hx] at dx; simp only [Den] at dx
        simp only [Q.run] at e
        split at e
        · rename_i p q hk
          simp only [Option.some.injEq, Prod.mk.injEq] at e
          obtain ⟨rfl, rfl⟩ := e
          have fin : ∀ {E : TypeId} {ys : List Int} {fz : Bool}, h n = .live (match fz with | true => .frz E (.int .u8) ys | false => .row E (.int .u8) ys) → Yields P o a w0 N0 A env h w (.det [] (.str (strOfNums ys)) []) := by
            intro E ys fz hl
            have hm := m.nm n
            rw [hl] at hm
            rcases dx with ⟨hen, a0, ev⟩ | ⟨b, len, E', c, hen, _, ev⟩
            · rcases hm with ⟨k, len, hek, _⟩ | ⟨_, E2, t2, hb⟩
              · rw [hen] at hek; cases hek
              · have : ys = [] := by cases fz <;> (rcases hb with hb | hb <;> cases hb) <;> rfl
                subst this
                refine Yields.pure m (go ?_) (strOfNums_den (v := a.eval x) (by simp))
                rw [ev]
                exact rdsl_bytes (A := A) (xs := []) ⟨by simp, .inl ⟨⟨_, rfl⟩, rfl⟩⟩ hs he ht
            · rcases hm with ⟨k, len', hek, hb, _⟩ | ⟨hek, _⟩
              · rw [hen] at hek; cases hek
                have hr : RowDen A w b len E (.int .u8) ys := by
                  cases fz with
                  | true => exact hb.2
                  | false => exact hb
                refine Yields.pure m (go ?_) (strOfNums_den (v := a.eval x) ?_)
                · rw [ev]; exact row_bytes hr hs he ht
                · obtain ⟨vs, cap, _, _, h2, h3, h4, _⟩ := hr
                  omega
              · rw [hen] at hek; cases hek
          split at hk
          · rename_i E u xs hl
            split at hk
            · rename_i ys hc
              obtain ⟨et, ez⟩ := castL_eq hc
              subst et; simp only at ez; subst ez
              unfold det0 at hk
              cases ret_inj hk
              exact fin (fz := false) hl
            · cases hk
          · rename_i E u xs hl
            split at hk
            · rename_i ys hc
              obtain ⟨et, ez⟩ := castL_eq hc
              subst et; simp only at ez; subst ez
              unfold det0 at hk
              cases ret_inj hk
              exact fin (fz := true) hl
            · cases hk
          · cases hk
        · cases e
      · cases e
    · cases e
  · cases e

def strOf : SV → Option ByteArray
  | .str s => some s
  | .cv (.string s) => some s
  | _ => none
/-- Strings compared. -/
def sBinS (op : BinOp) (x y : SV) : Q Dl := match strOf x, strOf y, op with
  | some a, some b, .eql => det0 (.bool (decide (a = b)))
  | some a, some b, .neq => det0 (.bool (!decide (a = b)))
  | _, _, _ => .fail
theorem strOf_den {x : SV} {v : Value} {s : ByteArray} (e : strOf x = some s) (hd : Den A env w x v) : v = .string s := by
  unfold strOf at e
  split at e
  · cases e; simp only [Den] at hd; exact hd.1
  · cases e; simp only [Den] at hd; exact hd
  · cases e
theorem binS_sound (m : Mod w0 N0 A env h w) (f : FD A env w ρ a) {op : BinOp} {t yt : TypeId} {x y : Operand} (ho : o.op = .binOp op t x y yt) (ht : P.underlying t = some .string)
    (e : (sBinS op (opnd ρ x) (opnd ρ y)).run h = some (d, r)) : Yields P o a w0 N0 A env h w d := by
  have dx := Den_opnd f x
  have dy := Den_opnd f y
  have go : ∀ (v : Value), ((do eqGuard op t x y (a.eval x) (a.eval y); binOp op t (a.eval x) (a.eval y) : Sem Value).run P w) = .ok v w →
      (execOp a.eval o).run P w = .ok (.value v) w := by
    intro v hv
    unfold execOp
    rw [ho]
    simp only [Sem.run_bind, Sem.run_pure] at hv ⊢
    rw [hv]
    rfl
  have eqb : ∀ u v : ByteArray, (u.toList == v.toList) = decide (u = v) := fun u v => by
    rw [Bool.eq_iff_iff]; simp only [ByteArray.toList_eq, beq_iff_eq, decide_eq_true_eq]
    exact ⟨fun h => by cases u; cases v; simp_all, fun h => by rw [h]⟩
  unfold sBinS at e
  split at e
  · rename_i u v hx hy
    have ex := strOf_den hx dx
    have ey := strOf_den hy dy
    rw [ex, ey] at go
    unfold det0 at e
    cases ret_inj e
    refine Yields.pure m (go _ ?_) (s := .bool (decide (u = v))) (v := .bool (decide (u = v))) (by simp only [Den])
    rw [eqGuard_at_string]
    simp [binOp, Op.stringOp, eqb]
  · rename_i u v hx hy
    have ex := strOf_den hx dx
    have ey := strOf_den hy dy
    rw [ex, ey] at go
    unfold det0 at e
    cases ret_inj e
    refine Yields.pure m (go _ ?_) (s := .bool (!decide (u = v))) (v := .bool (!decide (u = v))) (by simp only [Den])
    rw [eqGuard_at_string]
    simp [binOp, Op.stringOp, eqb]
  · cases e

/-! ### A place in a variable that is an array -/
def sIndexArr (P : Program) (t : TypeId) (x i : SV) : Q Dl := match i, P.underlying t with
  | .int _ i, some (.array len e) => match sizeT P e, decide (0 ≤ i) && decide (i < len) && decide (2 ≤ len) with
    | some (n + 1), true => match x with
      | .ptr m o => det0 (.ptr m (o + i.toNat * (n + 1)))
      | .eptr m s j o => det0 (.eptr m s j (o + i.toNat * (n + 1)))
      | .dptr u d o => det0 (.dptr u d (o + i.toNat * (n + 1)))
      | _ => .fail
    | _, _ => .fail
  | _, _ => .fail
theorem indexArr_sound (m : Mod w0 N0 A env h w) (f : FD A env w ρ a) {t : TypeId} {x i : Operand} (φ : Operand → SV) (dx : Den A env w (φ x) (a.eval x)) (ho : o.op = .indexAddr t x i)
    (e : (sIndexArr P t (φ x) (opnd ρ i)).run h = some (d, r)) : Yields P o a w0 N0 A env h w d := by
  have di := Den_opnd f i
  unfold sIndexArr at e
  split at e
  · rename_i k iv len E hi hu
    rw [hi] at di; simp only [Den] at di
    split at e
    · rename_i n hn hb
      simp only [Bool.and_eq_true, decide_eq_true_eq] at hb
      obtain ⟨⟨h0, h1⟩, h2⟩ := hb
      have go : ∀ {b off : Nat}, a.eval x = .pointer (some ⟨b, off, none⟩) → (execOp a.eval o).run P w = .ok (.value (.pointer (some ⟨b, off + iv.toNat * (n + 1), none⟩))) w := by
        intro b off ev
        unfold execOp; rw [ho]
        simp [Instr.indexAt, Instr.sureAddr, ev, di.1, asIntOf, run_underlying hu, sizeT_run hn, h0, h1, Addr.add_lit]
      split at e
      · rename_i q o' hx
        rw [hx] at dx; simp only [Den] at dx
        obtain ⟨b, l, he, ev⟩ := dx
        unfold det0 at e
        cases ret_inj e
        exact Yields.pure m (go ev) (by simp only [Den]; exact ⟨b, l, he, rfl⟩)
      · rename_i q sz j o' hx
        rw [hx] at dx; simp only [Den] at dx
        obtain ⟨b, l, he, hj, ev⟩ := dx
        unfold det0 at e
        cases ret_inj e
        exact Yields.pure m (go ev) (by simp only [Den]; exact ⟨b, l, he, hj, by rw [Nat.add_assoc]⟩)
      · rename_i u dd o' hx
        rw [hx] at dx; simp only [Den] at dx
        obtain ⟨b, off, ev, hA, hr⟩ := dx
        unfold det0 at e
        cases ret_inj e
        exact Yields.pure m (go ev) (by simp only [Den]; exact ⟨b, off, by rw [Nat.add_assoc], hA, hr⟩)
      · cases e
    · cases e
  · cases e
end
end Go.SX
