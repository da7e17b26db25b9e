/- Drawn: what holds of drawn networks: their nodes, links, routes and changes. -/
import Derived.Test.YtchnhaeknbgieaaTopod
import Derived.Test.YtchnhaeknbgieaaNetdraw
import Derived.Test.YtchnhaeknbgieaaTruth1
import Derived.Test.YtchnhaeknbgieaaTruth5
namespace Go.RS
open Go.SX Go.Proofs
set_option maxRecDepth 100000
set_option linter.unusedVariables false

/-- A drawn node, but for ports and routes. -/
structure NP (i : Int) (x : Node) : Prop where
  own : nOwner x = 1 + i / 3
  loop : nLoop x = 0 ∨ nLoop x = 167903232 + i
  src : (nSource x = 1 ∨ nSource x = 2) ∨ (nSource x = 3 ∧ nLoop x = 167903232 + i) ∨ (nSource x = 4 ∧ 167837696 ≤ nFixed x)
  fix : nFixed x = 0 ∨ (167837696 ≤ nFixed x ∧ nFixed x < 167837736)
  id : (0 ≤ nID x ∧ nID x ≤ 5) ∧ (0 ≤ nBase x ∧ nBase x ≤ 65535) ∧ 0 ≤ nSpeed x ∧ nSpeed x ≤ 1000000
  lim : nLimit x = (0, 0) ∨ (1 ≤ (nLimit x).1 ∧ (nLimit x).1 ≤ 3 ∧ 1 ≤ (nLimit x).2 ∧ (nLimit x).2 ≤ 200)
  first : nFirst x = 64 ∨ nFirst x = 255 ∨ nFirst x = 128
  seed : 0 ≤ nSeed x ∧ nSeed x ≤ 255
theorem NP.new {i : Int} {host : Bool} {f sd : Int} (hf : f = 64 ∨ f = 255 ∨ f = 128) (h0 : 0 ≤ sd) (h1 : sd ≤ 255) : NP i (newNode i host f sd) :=
  ⟨rfl, .inl rfl, .inl (.inl rfl), .inl rfl, ⟨⟨by show (0 : Int) ≤ 0; decide, by show (0 : Int) ≤ 5; decide⟩, ⟨by show (0 : Int) ≤ 0; decide, by show (0 : Int) ≤ 65535; decide⟩, by show (0 : Int) ≤ 0; decide, by show (0 : Int) ≤ 1000000; decide⟩, .inl rfl, hf, h0, h1⟩
theorem NP.same {i : Int} {x y : Node} (h : NP i x) (e : x.2 = y.2) : NP i y := by
  obtain ⟨p, x⟩ := x
  obtain ⟨q, y⟩ := y
  cases e
  exact ⟨h.own, h.loop, h.src, h.fix, h.id, h.lim, h.first, h.seed⟩
theorem NP.routes {i : Int} {x y : Node} (h : NP i x) (e : setRoutes x [] = setRoutes y []) : NP i y := by
  have k : NP i (setRoutes x []) := ⟨h.own, h.loop, h.src, h.fix, h.id, h.lim, h.first, h.seed⟩
  rw [e] at k
  exact ⟨k.own, k.loop, k.src, k.fix, k.id, k.lim, k.first, k.seed⟩
theorem NP.way {i : Int} {x : Node} (h : NP i x) {c : Codes} (hc : okB c) : NP i (odWay x i c).1 := by
  have a := nextV_lt hc (n := 10) (by omega)
  have ca := (nextV_ok hc 10).1
  have b := nextV_lt ca (n := 3) (by omega)
  have cb := (nextV_ok ca 3).1
  have e := nextV_lt cb (n := 200) (by omega)
  have f := nextV_lt ca (n := 40) (by omega)
  unfold odWay
  dsimp only
  split
  · exact ⟨h.own, h.loop, h.src, h.fix, h.id, h.lim, h.first, h.seed⟩
  split
  · refine ⟨h.own, h.loop, h.src, h.fix, h.id, .inr ?_, h.first, h.seed⟩
    show 1 ≤ 1 + _ ∧ 1 + _ ≤ (3 : Int) ∧ 1 ≤ 1 + _ ∧ 1 + _ ≤ (200 : Int)
    omega
  split
  · exact ⟨h.own, h.loop, h.src, h.fix, h.id, h.lim, h.first, h.seed⟩
  split
  · exact ⟨h.own, h.loop, .inl (.inr rfl), h.fix, h.id, h.lim, h.first, h.seed⟩
  split
  · exact ⟨h.own, .inr rfl, .inr (.inl ⟨rfl, rfl⟩), h.fix, h.id, h.lim, h.first, h.seed⟩
  split
  · refine ⟨h.own, h.loop, .inr (.inr ⟨rfl, ?_⟩), .inr ⟨?_, ?_⟩, h.id, h.lim, h.first, h.seed⟩
    · show 167837696 ≤ 167837696 + _
      omega
    · show 167837696 ≤ 167837696 + _
      omega
    · show 167837696 + _ < 167837736
      omega
  · exact h
theorem NP.od {i : Int} {x : Node} (h : NP i x) {c : Codes} (hc : okB c) : NP i (odNode x i c).1 := by
  have k := h.way hc
  have kc := odWay_ok (x := x) (i := i) hc
  have a := nextV_lt kc (n := 6) (by omega)
  have ca := (nextV_ok kc 6).1
  have b := nextV_lt ca (n := 65536) (by omega)
  have cb := (nextV_ok ca 65536).1
  have e := nextV_lt cb (n := 1000) (by omega)
  refine ⟨k.own, k.loop, k.src, k.fix, ?_, k.lim, k.first, k.seed⟩
  show (0 ≤ (nextV (odWay x i c).2 6).1 ∧ (nextV (odWay x i c).2 6).1 ≤ 5) ∧ (0 ≤ (nextV (nextV (odWay x i c).2 6).2 65536).1 ∧ (nextV (nextV (odWay x i c).2 6).2 65536).1 ≤ 65535) ∧ 0 ≤ (nextV (nextV (nextV (odWay x i c).2 6).2 65536).2 1000).1 ∧ (nextV (nextV (nextV (odWay x i c).2 6).2 65536).2 1000).1 ≤ 1000000
  omega
theorem NP.opq {i : Int} {x : Node} (h : NP i x) (b : Bool) : NP i (odOpaque x b) := ⟨h.own, h.loop, h.src, h.fix, h.id, h.lim, h.first, h.seed⟩
def allNP (ns : List Node) : Prop := ∀ i : Nat, i < ns.length → NP i (ns.getD i default)
theorem allNP.set {ns : List Node} (h : allNP ns) {i : Nat} {x : Node} (hx : i < ns.length → NP i x) : allNP (ns.set i x) := fun j hj => by
  rw [List.length_set] at hj
  by_cases e : i = j
  · subst e; rw [getD_set hj]; exact hx hj
  · rw [getD_setne e]; exact h j hj
/-- A drawn link. -/
structure LK (l0 l : Link) : Prop where
  a : lA l = lA l0
  b : lB l = lB l0
  d : lDelay l = lDelay l0
  s : lSeed l = lSeed l0
  j : 0 ≤ lJitter l ∧ lJitter l ≤ 9
  o : 0 ≤ lLoss l ∧ lLoss l ≤ 65536
theorem LK.od {l0 l : Link} (h : LK l0 l) {c : Codes} (hc : okB c) : LK l0 (odLink l c).1 := by
  have a := nextV_lt hc (n := 6) (by omega)
  have ca := (nextV_ok hc 6).1
  have b := nextV_lt ca (n := 10) (by omega)
  have e := nextV_lt ca (n := 3) (by omega)
  unfold odLink
  dsimp only
  split
  · refine ⟨h.a, h.b, h.d, h.s, ?_, h.o⟩
    show 0 ≤ (nextV (nextV c 6).2 10).1 ∧ (nextV (nextV c 6).2 10).1 ≤ 9
    omega
  split
  · refine ⟨h.a, h.b, h.d, h.s, h.j, ?_⟩
    show 0 ≤ ([65536, 20000, 3] : List Int).getD (nextV (nextV c 6).2 3).1.toNat default ∧ ([65536, 20000, 3] : List Int).getD (nextV (nextV c 6).2 3).1.toNat default ≤ 65536
    rcases (show (nextV (nextV c 6).2 3).1 = 0 ∨ (nextV (nextV c 6).2 3).1 = 1 ∨ (nextV (nextV c 6).2 3).1 = 2 by omega) with e | e | e <;> rw [e] <;> decide
  · exact h
structure allLK (ls0 ls : List Link) : Prop where
  n : ls.length = ls0.length
  k : ∀ i : Nat, i < ls0.length → LK (ls0.getD i default) (ls.getD i default)
theorem allLK.set {ls0 ls : List Link} (h : allLK ls0 ls) {i : Nat} {x : Link} (hx : i < ls0.length → LK (ls0.getD i default) x) : allLK ls0 (ls.set i x) := by
  refine ⟨by rw [List.length_set]; exact h.n, fun j hj => ?_⟩
  by_cases e : i = j
  · subst e; rw [getD_set (by rw [h.n]; exact hj)]; exact hx hj
  · rw [getD_setne e]; exact h.k j hj
theorem allLK.mem {ls0 ls : List Link} (h : allLK ls0 ls) {l : Link} (hl : l ∈ ls) : ∃ l0 ∈ ls0, LK l0 l := by
  obtain ⟨i, hi, e⟩ := List.mem_iff_getElem.1 hl
  have := h.k i (by rw [← h.n]; exact hi)
  rw [List.getD_eq_getElem?_getD (l := ls), List.getElem?_eq_getElem hi, e] at this
  exact ⟨_, getD_memN (by rw [← h.n]; exact hi), this⟩
theorem allLK.lnk {ls0 ls : List Link} (h : allLK ls0 ls) {i k : Int} (hk : lnk ls0 i k) : lnk ls i k := by
  obtain ⟨k0, k1, k2⟩ := hk
  have e := h.k k.toNat (by omega)
  exact ⟨k0, by rw [h.n]; exact k1, by rw [e.a, e.b]; exact k2⟩
theorem portsF_congr (i : Int) : ∀ (k : Nat) (ls ls' : List Link), ls'.length = ls.length → (∀ j : Nat, j < ls.length → lA (ls'.getD j default) = lA (ls.getD j default) ∧ lB (ls'.getD j default) = lB (ls.getD j default)) → portsF i k ls' = portsF i k ls
  | k, [], [], _, _ => rfl
  | k, x :: r, [], h, _ => by cases h
  | k, [], x :: r, h, _ => by cases h
  | k, x :: r, y :: t, h, e => by
    have e0 := e 0 (by simp)
    rw [List.getD_cons_zero, List.getD_cons_zero] at e0
    rw [portsF, portsF, port1, port1, e0.1, e0.2, portsF_congr i (k + 1) r t (by simpa using h) fun j hj => by
      have := e (j + 1) (by simp; omega)
      rw [List.getD_cons_succ, List.getD_cons_succ] at this; exact this]
theorem allLK.portsF {ls0 ls : List Link} (h : allLK ls0 ls) (i : Int) (k : Nat) : portsF i k ls = Go.RS.portsF i k ls0 :=
  portsF_congr i k ls0 ls h.n fun j hj => ⟨(h.k j hj).a, (h.k j hj).b⟩
theorem tabOK.lk {ls0 ls : List Link} (h : allLK ls0 ls) {aa : List Int} {i : Int} {t : List Rt} (k : tabOK ls0 aa i t) : tabOK ls aa i t :=
  ⟨k.1, fun r hr => by
    have q := k.2 r hr
    exact ⟨q.len, q.mem, q.ne, q.pw, fun x hx => h.lnk (q.ln x hx), q.w0, q.w1⟩⟩
/-- A drawn change. -/
structure CH (ns : List Node) (c : Change) : Prop where
  at' : 0 ≤ hAt c ∧ hAt c ≤ 180
  w : 0 ≤ hWho c ∧ hWho c < ns.length
  r : hRem c = false
  p : ∃ r ∈ nRoutes (ns.getD (hWho c).toNat default), (hRoute c).1 = r.1 ∧ (hRoute c).2.2 = r.2.2
  x : (hRoute c).2.1 = [] ∨ ∃ q ∈ nPorts (ns.getD (hWho c).toNat default), (hRoute c).2.1 = [q.2]
/-- The addresses of ports. -/
def aaF : List Int := (List.range 10).flatMap fun (k : Nat) => [baseA k + 1, baseA k + 2]
theorem mem_aaF {a : Int} {k : Nat} (hk : k < 10) (h : a = baseA k + 1 ∨ a = baseA k + 2) : a ∈ aaF := by
  refine List.mem_flatMap.2 ⟨k, List.mem_range.2 hk, ?_⟩
  rcases h with h | h <;> rw [h] <;> simp
theorem tabOK.sub {ls : List Link} {aa bb : List Int} {i : Int} {t : List Rt} (h : tabOK ls aa i t) (hs : ∀ a ∈ aa, a ∈ bb) : tabOK ls bb i t :=
  ⟨h.1, fun r hr => by
    have q := h.2 r hr
    exact ⟨q.len, hs _ q.mem, q.ne, q.pw, q.ln, q.w0, q.w1⟩⟩
/-- A drawn network. -/
structure DN (n : Net) : Prop where
  n3 : 3 ≤ n.1.length
  n7 : n.1.length ≤ 7
  l2 : 2 ≤ n.2.1.length
  l10 : n.2.1.length ≤ 10
  h3 : n.2.2.length ≤ 3
  g : ∀ x ∈ n.2.1, (0 ≤ lA x ∧ lA x < n.1.length) ∧ (0 ≤ lB x ∧ lB x < n.1.length) ∧ lA x ≠ lB x ∧ (1 ≤ lDelay x ∧ lDelay x ≤ 20) ∧ (0 ≤ lJitter x ∧ lJitter x ≤ 9) ∧ (0 ≤ lLoss x ∧ lLoss x ≤ 65536) ∧ 0 ≤ lSeed x ∧ lSeed x ≤ 255
  p : ∀ i : Nat, i < n.1.length → nPorts (n.1.getD i default) = portsF i 0 n.2.1
  d : allNP n.1
  t : ∀ i : Nat, i < n.1.length → tabOK n.2.1 aaF i (nRoutes (n.1.getD i default))
  o : ∀ x ∈ n.2.1, deafL n.1 x = false
  c : ∀ x ∈ n.2.2, CH n.1 x
  s : n.2.2.Pairwise fun a b => hAt a ≤ hAt b
theorem oN_np {s : Scene} (h : allNP s.1.1) (hc : okB s.2) : ∀ {i : Nat}, i ≤ s.1.1.length → allNP (oN s i).1
  | 0, _ => h
  | i + 1, hi => by
    have k := oN_np h hc (i := i) (by omega)
    have b := (oN_ok s hc (i := i) (by omega)).2
    rw [show ((i + 1 : Nat) : Int) = (i : Int) + 1 by omega, oN_next s (by omega)]
    unfold odNodes
    refine k.set fun hl => ?_
    have e : ((i : Int).toNat : Nat) = i := by omega
    rw [e] at hl ⊢
    exact (k i hl).od b
theorem clear_np {ns : List Node} (h : allNP ns) {l : Link} (hl : 0 ≤ lB l) : allNP (odClear ns l) := by
  unfold odClear
  split
  · exact h.set fun hi => (h _ hi).opq _
  · exact h
/-- No two opaque ends. -/
theorem clear_deaf {ns : List Node} {l : Link} (hb : 0 ≤ lB l ∧ lB l < ns.length) : deafL (odClear ns l) l = false := by
  unfold odClear
  split
  · unfold deafL
    rw [getD_set (by omega)]
    exact Bool.and_false _
  · rename_i h
    unfold deafL
    cases h1 : nOpaque (ns.getD (lA l).toNat default) <;> cases h2 : nOpaque (ns.getD (lB l).toNat default) <;> simp_all
theorem clear_keep {ns : List Node} {l m : Link} (h : deafL ns m = false) : deafL (odClear ns l) m = false := by
  unfold odClear
  split
  · have set_op : ∀ (i j : Nat), nOpaque (ns.getD j default) = false → nOpaque ((ns.set i (odOpaque (ns.getD i default) false)).getD j default) = false := fun i j hj => by
      by_cases e : i = j
      · subst e
        by_cases hl : i < ns.length
        · rw [getD_set hl]; rfl
        · rw [List.set_eq_of_length_le (by omega)]; exact hj
      · rw [getD_setne e]; exact hj
    unfold deafL at h ⊢
    rw [Bool.and_eq_false_iff] at h ⊢
    exact h.imp (set_op _ _) (set_op _ _)
  · exact h
theorem deafL_lk {ns : List Node} {l m : Link} (ha : lA l = lA m) (hb : lB l = lB m) : deafL ns l = deafL ns m := by unfold deafL; rw [ha, hb]
structure OLI (s : Scene) (i : Nat) : Prop where
  np : allNP (oL s i).1.1
  lk : allLK s.1.2.1 (oL s i).1.2
  df : ∀ k : Nat, k < i → deafL (oL s i).1.1 (s.1.2.1.getD k default) = false
theorem oL_inv {s : Scene} (h : allNP s.1.1) (hc : okB s.2) (hg : goodEnds s.1.1.length s.1.2.1) (hl : allLK s.1.2.1 s.1.2.1) : ∀ {i : Nat}, i ≤ s.1.2.1.length → OLI s i
  | 0, _ => ⟨oN_np h hc (Nat.le_refl _), hl, fun k hk => by omega⟩
  | i + 1, hi => by
    have k := oL_inv h hc hg hl (i := i) (by omega)
    obtain ⟨ag, cb, ge, ll⟩ := oL_ok s hc hg (i := i) (by omega)
    have hb := hg.at' (k := i) (by omega)
    have e : ((i : Int).toNat : Nat) = i := by omega
    have lk1 := (k.lk.k i (by omega)).od cb
    have hn := ag.n
    have step : oL s ((i + 1 : Nat) : Int) = odLinks (oL s i) i := by
      rw [show ((i + 1 : Nat) : Int) = (i : Int) + 1 by omega, oL_next s (by omega), e]
    have fin : OLI s (i + 1) := by
      refine ⟨?_, ?_, fun j hj => ?_⟩
      · rw [step]; unfold odLinks; dsimp only
        refine clear_np k.np ?_
        rw [lk1.b]; exact hb.2.1
      · rw [step]; unfold odLinks; dsimp only
        exact k.lk.set fun _ => lk1
      · rw [step]; unfold odLinks; dsimp only
        by_cases q : j = i
        · subst q
          rw [← deafL_lk (l := (odLink ((oL s j).1.2.getD j default) (oL s j).2).1) lk1.a lk1.b]
          refine clear_deaf ?_
          rw [lk1.b, hn]; exact hb.2
        · exact clear_keep (k.df j (by omega))
    exact fin
structure OCI (ns : List Node) (m : Nat) (x : List Change × Int × Codes) : Prop where
  c : okB x.2.2
  a : 0 ≤ x.2.1 ∧ x.2.1 ≤ 60 * m
  n : x.1.length ≤ m
  h : ∀ y ∈ x.1, CH ns y ∧ hAt y ≤ x.2.1
  s : x.1.Pairwise fun a b => hAt a ≤ hAt b
theorem OCI.next {ns : List Node} {m : Nat} {x : List Change × Int × Codes} (h : OCI ns m x) (hm : m < 3) (h0 : 0 < ns.length) (hp : ∀ x ∈ ns, nRoutes x ≠ [] → 0 < (nPorts x).length) : OCI ns (m + 1) (odChange ns x) := by
  have a := nextV_lt h.c (n := 60) (by omega)
  have k1 := (nextV_ok h.c 60).1
  have w := nextV_lt k1 (n := (ns.length : Int)) (by omega)
  have k2 := (nextV_ok k1 (ns.length : Int)).1
  have ha := h.a
  have hn := h.n
  unfold odChange
  dsimp only
  have hX := getD_mem (xs := ns) w.1 w.2
  generalize eX : ns.getD (nextV (nextV x.2.2 60).2 (ns.length : Int)).1.toNat default = X at hX ⊢
  split
  · refine ⟨k2, ?_, ?_, fun y hy => ⟨(h.h y hy).1, ?_⟩, h.s⟩
    · show 0 ≤ x.2.1 + _ ∧ x.2.1 + _ ≤ 60 * ((m + 1 : Nat) : Int)
      omega
    · show x.1.length ≤ m + 1
      omega
    · have := (h.h y hy).2
      show hAt y ≤ x.2.1 + _
      omega
  · rename_i hr
    have hr' : nRoutes X ≠ [] := fun e => hr (by rw [e]; rfl)
    have q3 := nextV_lt k2 (n := ((nRoutes X).length : Int)) (by omega)
    have b3 := (nextV_ok k2 ((nRoutes X).length : Int)).1
    have hpp := hp X hX hr'
    have q4 := nextV_lt b3 (n := ((nPorts X).length : Int)) (by omega)
    have b4 := (nextV_ok b3 ((nPorts X).length : Int)).1
    have b5 := (nextV_ok b4 4).1
    refine ⟨b5, ?_, ?_, fun y hy => ?_, ?_⟩
    · show 0 ≤ x.2.1 + _ ∧ x.2.1 + _ ≤ 60 * ((m + 1 : Nat) : Int)
      omega
    · show (x.1 ++ [_]).length ≤ m + 1
      rw [List.length_append, List.length_singleton]; omega
    · rcases List.mem_append.1 hy with hy | hy
      · refine ⟨(h.h y hy).1, ?_⟩
        have := (h.h y hy).2
        show hAt y ≤ x.2.1 + _
        omega
      · rw [List.mem_singleton.1 hy]
        refine ⟨⟨?_, w, rfl, ?_, ?_⟩, Int.le_refl _⟩
        · show 0 ≤ x.2.1 + _ ∧ x.2.1 + _ ≤ 180
          omega
        · refine ⟨(nRoutes X).getD (nextV (nextV (nextV x.2.2 60).2 (ns.length : Int)).2 ((nRoutes X).length : Int)).1.toNat default, ?_, rfl, rfl⟩
          show _ ∈ nRoutes (ns.getD (nextV (nextV x.2.2 60).2 (ns.length : Int)).1.toNat default)
          rw [eX]
          exact getD_mem q3.1 q3.2
        · by_cases hz : (nextV (nextV (nextV (nextV (nextV x.2.2 60).2 (ns.length : Int)).2 ((nRoutes X).length : Int)).2 ((nPorts X).length : Int)).2 4).1 = 3
          · exact .inl (if_pos hz)
          · refine .inr ⟨(nPorts X).getD (nextV (nextV (nextV (nextV x.2.2 60).2 (ns.length : Int)).2 ((nRoutes X).length : Int)).2 ((nPorts X).length : Int)).1.toNat default, ?_, if_neg hz⟩
            show _ ∈ nPorts (ns.getD (nextV (nextV x.2.2 60).2 (ns.length : Int)).1.toNat default)
            rw [eX]
            exact getD_mem q4.1 q4.2
    · refine List.pairwise_append.2 ⟨h.s, List.pairwise_singleton _ _, fun y hy z hz => ?_⟩
      have := (h.h y hy).2
      rw [List.mem_singleton.1 hz]
      show hAt y ≤ x.2.1 + _
      omega
theorem getD_of_mem {α : Type} [Inhabited α] {l : List α} {x : α} (h : x ∈ l) : ∃ i : Nat, i < l.length ∧ l.getD i default = x := by
  obtain ⟨i, hi, e⟩ := List.mem_iff_getElem.1 h
  exact ⟨i, hi, by rw [List.getD_eq_getElem?_getD, List.getElem?_eq_getElem hi, e]; rfl⟩
theorem RS.np {s r : Scene} {nn nl : Nat} (h : RS s nn nl r) : allNP r.1.1 := fun i hi => by
  have hi' : i < nn := by have := h.i.n; have := h.g.n; omega
  obtain ⟨host, f, sd, hd, hf, h0, h1⟩ := h.g.d i hi'
  have e := h.i.e i (by rw [h.g.n]; exact hi')
  exact NP.routes (NP.same (NP.new (host := host) hf h0 h1) hd.symm) e.symm
theorem RS.opq {s r : Scene} {nn nl : Nat} (h : RS s nn nl r) {i : Nat} (hi : i < nn) : nOpaque (r.1.1.getD i default) = false := by
  obtain ⟨host, f, sd, hd, -⟩ := h.g.d i hi
  have e := congrArg nOpaque (h.i.e i (by rw [h.g.n]; exact hi))
  have e2 : nOpaque (s.1.1.getD i default) = nOpaque (newNode i host f sd) := congrArg (fun z => nOpaque (([] : List (Int × Int)), z)) hd
  exact e.trans e2
theorem RS.adr {s r : Scene} {nn nl : Nat} (h : RS s nn nl r) (hl : nl ≤ 10) : ∀ a ∈ allA s.1.1, a ∈ aaF := fun a ha => by
  unfold allA at ha
  obtain ⟨x, hx, ha⟩ := List.mem_flatMap.1 ha
  obtain ⟨q, hq, rfl⟩ := List.mem_map.1 ha
  obtain ⟨i, hi, rfl⟩ := getD_of_mem hx
  rw [h.g.p i (by rw [← h.g.n]; exact hi)] at hq
  obtain ⟨j, hj, e⟩ := mem_portsF.1 hq
  rw [h.g.l] at hj
  rw [Nat.zero_add] at e
  rcases e with ⟨-, rfl⟩ | ⟨-, rfl⟩
  · exact mem_aaF (k := j) (by omega) (.inl rfl)
  · exact mem_aaF (k := j) (by omega) (.inr rfl)
theorem RS.links {s r : Scene} {nn nl : Nat} (h : RS s nn nl r) : r.1.2.1 = s.1.2.1 := congrArg Prod.fst h.l
theorem RS.lk {s r : Scene} {nn nl : Nat} (h : RS s nn nl r) : allLK r.1.2.1 r.1.2.1 := ⟨rfl, fun i hi => by
  rw [h.links] at hi ⊢
  have := h.g.g _ (getD_memN hi)
  exact ⟨rfl, rfl, rfl, rfl, by omega, by omega⟩⟩
theorem RS.dn {s r : Scene} {nn nl : Nat} (h : RS s nn nl r) (n3 : 3 ≤ nn) (n7 : nn ≤ 7) (l2 : 2 ≤ nl) (l10 : nl ≤ 10) : DN r.1 := by
  have rn : r.1.1.length = nn := h.i.n.trans h.g.n
  have rl := h.links
  have rh : r.1.2.2 = [] := (congrArg Prod.snd h.l).trans h.g.h
  refine ⟨by omega, by omega, by rw [rl, h.g.l]; exact l2, by rw [rl, h.g.l]; exact l10, by rw [rh]; exact Nat.zero_le _, fun x hx => ?_, fun i hi => ?_, h.np, fun i hi => ?_, fun x hx => ?_, fun x hx => ?_, ?_⟩
  · rw [rl] at hx
    have := h.g.g x hx
    rw [rn]; omega
  · rw [rl]; exact h.ports (by omega)
  · rw [rl]; exact (h.tab (by omega)).sub (h.adr l10)
  · rw [rl] at hx
    have g := h.g.g x hx
    unfold deafL
    rw [h.opq (i := (lA x).toNat) (by omega)]; rfl
  · rw [rh] at hx; cases hx
  · rw [rh]; exact List.Pairwise.nil
theorem oC_inv {s : Scene} (h : okB s.2) (hg : goodEnds s.1.1.length s.1.2.1) (h0 : 0 < s.1.1.length) (hp : ∀ x ∈ (oL s s.1.2.1.length).1.1, nRoutes x ≠ [] → 0 < (nPorts x).length) : ∀ i : Nat, i ≤ 3 → OCI (oL s s.1.2.1.length).1.1 i (oC s i)
  | 0, _ => ⟨(nextV_ok (oL_ok s h hg (Int.le_refl _)).2.1 4).1, ⟨Int.le_refl _, Int.le_refl _⟩, Nat.le_refl _, fun y hy => (by cases hy), List.Pairwise.nil⟩
  | i + 1, hi => by
    rw [oC_next]
    exact (oC_inv h hg h0 hp i (by omega)).next (by omega) (by rw [(oL_ok s h hg (Int.le_refl _)).1.n]; exact h0) hp
theorem RS.odd {s r : Scene} {nn nl : Nat} (h : RS s nn nl r) (n3 : 3 ≤ nn) (n7 : nn ≤ 7) (l2 : 2 ≤ nl) (l10 : nl ≤ 10) : DN (oddS r).1 := by
  have rn : r.1.1.length = nn := h.i.n.trans h.g.n
  have rl := h.links
  have pre := h.preO (by omega) (by omega) (by omega)
  have ok := oL_ok r h.c pre.g (i := r.1.2.1.length) (Int.le_refl _)
  have inv := oL_inv h.np h.c pre.g h.lk (i := r.1.2.1.length) (Nat.le_refl _)
  have ag := ok.1
  have e : (oddS r).1 = ((oL r r.1.2.1.length).1.1, (oL r r.1.2.1.length).1.2, (oC r (oK r).toNat).1) := by
    unfold oddS oC oK oL oN
    rfl
  have kk := nextV_lt ok.2.1 (n := 4) (by omega)
  have hp : ∀ x ∈ (oL r r.1.2.1.length).1.1, nRoutes x ≠ [] → 0 < (nPorts x).length := fun x hx hr => by
    obtain ⟨i, hi, rfl⟩ := getD_of_mem hx
    have q := ag.e i (by rw [← ag.n]; exact hi)
    rw [q.1]
    rw [q.2] at hr
    exact (pre.p _ (getD_memN (by rw [← ag.n]; exact hi)) hr).1
  have oc := oC_inv h.c pre.g pre.n0 hp (oK r).toNat (by unfold oK; omega)
  rw [e]
  have ln : (oL r r.1.2.1.length).1.1.length = nn := ag.n.trans rn
  have ll : (oL r r.1.2.1.length).1.2.length = nl := by rw [inv.lk.n, rl, h.g.l]
  refine ⟨by rw [ln]; exact n3, by rw [ln]; exact n7, by rw [ll]; exact l2, by rw [ll]; exact l10, ?_, fun x hx => ?_, fun i hi => ?_, inv.np, fun i hi => ?_, fun x hx => ?_, fun x hx => (oc.h x hx).1, oc.s⟩
  · have := oc.n
    have : (oK r).toNat ≤ 3 := by unfold oK; omega
    dsimp only
    omega
  · obtain ⟨l0, hl0, k⟩ := inv.lk.mem hx
    rw [rl] at hl0
    have g := h.g.g l0 hl0
    have ka := k.a; have kb := k.b; have kd := k.d; have ks := k.s; have kj := k.j; have ko := k.o
    rw [ln, ka, kb, kd, ks]
    omega
  · dsimp only at hi ⊢
    rw [(ag.e i (by omega)).1, h.ports (by omega), inv.lk.portsF, rl]
  · dsimp only at hi ⊢
    rw [(ag.e i (by omega)).2]
    refine tabOK.sub (tabOK.lk inv.lk ?_) (h.adr l10)
    rw [rl]
    exact h.tab (by omega)
  · dsimp only at hx ⊢
    obtain ⟨i, hi, rfl⟩ := getD_of_mem hx
    have hi' : i < r.1.2.1.length := by rw [← inv.lk.n]; exact hi
    have k := inv.lk.k i hi'
    rw [deafL_lk k.a k.b]
    exact inv.df i hi'
theorem net_dn {c : Codes} (h : okB c) (plain : Bool) : DN (netV plain c) := by
  have hn := lineN_ok h
  obtain ⟨m, m2, m10, G⟩ := net_ok h plain
  have R := G.rs plain
  unfold netV netS
  cases plain with
  | true => exact R.dn (by omega) (by omega) m2 m10
  | false => exact R.odd (by omega) (by omega) m2 m10
end Go.RS


/- Drawn2: drawn networks have no error; who has an address; routes. -/
namespace Go.RS
open Go.SX Go.Proofs
set_option maxRecDepth 100000
set_option linter.unusedVariables false

theorem okB_new {l : List Int} {m : Int} (h : ∀ x ∈ l, 0 ≤ x ∧ x ≤ 255) : okB (if (l.length : Int) ≤ m then l else l.take m.toNat, 0) := by
  refine ⟨⟨Int.le_refl _, by dsimp only; omega⟩, fun x hx => ?_⟩
  dsimp only at hx
  split at hx
  · exact h x hx
  · exact h x (List.mem_of_mem_take hx)
theorem DN.port {n : Net} (h : DN n) {i : Nat} (hi : i < n.1.length) {q : Port} : q ∈ nPorts (n.1.getD i default) ↔ ∃ j : Nat, j < n.2.1.length ∧ ((lA (n.2.1.getD j default) = i ∧ q = (baseA j + 1, (j : Int))) ∨ (lB (n.2.1.getD j default) = i ∧ q = (baseA j + 2, (j : Int)))) := by
  rw [h.p i hi, mem_portsF]; simp only [Nat.zero_add]
theorem DN.links {n : Net} (h : DN n) {i : Nat} (hi : i < n.1.length) {k : Int} : k ∈ pLinks (n.1.getD i default) ↔ lnk n.2.1 i k := by
  unfold pLinks lnk
  rw [List.mem_map]
  constructor
  · rintro ⟨q, hq, rfl⟩
    obtain ⟨j, hj, e⟩ := (h.port hi).1 hq
    rcases e with ⟨e, rfl⟩ | ⟨e, rfl⟩
    · exact ⟨by dsimp only; omega, by dsimp only; omega, .inl (by simpa using e)⟩
    · exact ⟨by dsimp only; omega, by dsimp only; omega, .inr (by simpa using e)⟩
  · rintro ⟨k0, k1, e⟩
    have ek : ((k.toNat : Nat) : Int) = k := by omega
    rcases e with e | e
    · exact ⟨_, (h.port hi).2 ⟨k.toNat, by omega, .inl ⟨e, rfl⟩⟩, ek⟩
    · exact ⟨_, (h.port hi).2 ⟨k.toNat, by omega, .inr ⟨e, rfl⟩⟩, ek⟩
theorem DN.uniq {n : Net} (h : DN n) {i j : Nat} (hi : i < n.1.length) (hj : j < n.1.length) {q p : Port} (hq : q ∈ nPorts (n.1.getD i default)) (hp : p ∈ nPorts (n.1.getD j default)) (e : q.1 = p.1) : i = j ∧ q.2 = p.2 := by
  obtain ⟨a, ha, ea⟩ := (h.port hi).1 hq
  obtain ⟨b, hb, eb⟩ := (h.port hj).1 hp
  unfold baseA at ea eb
  rcases ea with ⟨ea, rfl⟩ | ⟨ea, rfl⟩ <;> rcases eb with ⟨eb, rfl⟩ | ⟨eb, rfl⟩ <;> dsimp only at e ⊢
  · have : a = b := by omega
    subst this; omega
  · omega
  · omega
  · have : a = b := by omega
    subst this; omega
theorem DN.padr {n : Net} (h : DN n) {i : Nat} (hi : i < n.1.length) {a : Int} (ha : a ∈ pAddrs (n.1.getD i default)) : 167837697 ≤ a ∧ a ≤ 167837734 := by
  obtain ⟨q, hq, rfl⟩ := List.mem_map.1 ha
  obtain ⟨b, hb, eb⟩ := (h.port hi).1 hq
  have := h.l10
  unfold baseA at eb
  rcases eb with ⟨eb, rfl⟩ | ⟨eb, rfl⟩ <;> dsimp only <;> omega
theorem DN.loop {n : Net} (h : DN n) {i : Nat} (hi : i < n.1.length) : nLoop (n.1.getD i default) = 0 ∨ nLoop (n.1.getD i default) = 167903232 + i := (h.d i hi).loop
theorem mem_adrs {x : Node} {a : Int} : a ∈ adrs x ↔ a ∈ pAddrs x ∨ (nLoop x ≠ 0 ∧ a = nLoop x) := by
  unfold adrs
  rw [List.mem_append]
  by_cases e : nLoop x = 0
  · rw [if_pos e]; simp [e]
  · rw [if_neg e]; simp [e]
theorem DN.apart {n : Net} (h : DN n) {i j : Nat} (hi : i < n.1.length) (hj : j < n.1.length) {a : Int} (ha : a ∈ adrs (n.1.getD i default)) (hb : a ∈ adrs (n.1.getD j default)) : i = j := by
  rw [mem_adrs] at ha hb
  have li := h.loop hi
  have lj := h.loop hj
  rcases ha with ha | ha <;> rcases hb with hb | hb
  · obtain ⟨q, hq, e⟩ := List.mem_map.1 ha
    obtain ⟨p, hp, e2⟩ := List.mem_map.1 hb
    exact (h.uniq hi hj hq hp (e.trans e2.symm)).1
  · have := h.padr hi ha; omega
  · have := h.padr hj hb; omega
  · omega
theorem tab20 {ls : List Link} {i : Int} {t : List Rt} (h : tabOK ls aaF i t) : t.length ≤ 20 := tabOK_len h
theorem DN.okNet {n : Net} (h : DN n) : okNet n := by
  refine ⟨fun x hx => ?_, by have := h.h3; omega, fun c hc => ?_⟩
  · obtain ⟨i, hi, rfl⟩ := getD_of_mem hx
    have t := h.t i hi
    have := tab20 t
    refine ⟨t.1, by omega, fun r hr => ?_⟩
    have := rtOK_len (t.2 r hr)
    have := h.l10
    omega
  · rcases (h.c c hc).x with e | ⟨q, -, e⟩ <;> rw [e] <;> simp
theorem other_a {ls : List Link} {k : Int} (k0 : 0 ≤ k) (k1 : k < ls.length) : otherV ls k (lA (ls.getD k.toNat default)) = lB (ls.getD k.toNat default) := by
  unfold otherV; rw [if_neg (by omega), if_pos rfl]
theorem other_b {ls : List Link} {k : Int} (k0 : 0 ≤ k) (k1 : k < ls.length) (hn : lA (ls.getD k.toNat default) ≠ lB (ls.getD k.toNat default)) : otherV ls k (lB (ls.getD k.toNat default)) = lA (ls.getD k.toNat default) := by
  unfold otherV; rw [if_neg (by omega), if_neg (fun e => hn e.symm), if_pos rfl]
/-- No change between, no other routes. -/
theorem routes_steady {n : Net} {who s t : Int} (hst : s ≤ t) (h : n.2.2.any (between s t) = false) : routesV n who s = routesV n who t := by
  have hc : ∀ c ∈ n.2.2, (hAt c ≤ s ↔ hAt c ≤ t) := fun c hc => by
    have := List.any_eq_false.1 h c hc
    unfold between at this
    have := of_decide_eq_false (Bool.eq_false_iff.2 this)
    omega
  unfold routesV routesK
  have e : ∀ (l : List Change) (r : List Rt), (∀ c ∈ l, (hAt c ≤ s ↔ hAt c ≤ t)) → l.foldl (stepC who s) r = l.foldl (stepC who t) r := by
    intro l
    induction l with
    | nil => intro r _; rfl
    | cons c l ih =>
      intro r hl
      have q := hl c List.mem_cons_self
      have e : stepC who s r c = stepC who t r c := by
        unfold stepC
        by_cases k : hWho c = who ∧ hAt c ≤ s
        · rw [if_pos k, if_pos ⟨k.1, q.1 k.2⟩]
        · rw [if_neg k, if_neg fun z => k ⟨z.1, q.2 z.2⟩]
      rw [List.foldl_cons, List.foldl_cons, e]
      exact ih _ fun x hx => hl x (List.mem_cons_of_mem _ hx)
  split
  · rfl
  · exact e _ _ fun c hc' => hc c (List.mem_of_mem_take hc')
theorem mem_chV {l : List Rt} {c : Change} {r : Rt} (h : r ∈ chV l c) : r = hRoute c ∨ r ∈ l := by
  unfold chV at h
  split at h
  · exact .inr (List.mem_filter.1 h).1
  · rcases putL_mem.1 h with h | h
    · exact .inl h
    · exact .inr h.1
/-- What holds of routes at the start and of the changes holds at any time. -/
theorem routes_all {n : Net} {who at' : Int} (w0 : 0 ≤ who) (w1 : who < n.1.length) {P : Rt → Prop} (h0 : ∀ r ∈ nRoutes (n.1.getD who.toNat default), P r) (hc : ∀ c ∈ n.2.2, hWho c = who → P (hRoute c)) : ∀ r ∈ routesV n who at', P r := by
  unfold routesV routesK
  rw [if_neg (by omega)]
  have e : ∀ (l : List Change) (t : List Rt), (∀ c ∈ l, hWho c = who → P (hRoute c)) → (∀ r ∈ t, P r) → ∀ r ∈ l.foldl (stepC who at') t, P r := by
    intro l
    induction l with
    | nil => intro t _ h; exact h
    | cons c l ih =>
      intro t hl ht
      rw [List.foldl_cons]
      refine ih _ (fun x hx => hl x (List.mem_cons_of_mem _ hx)) fun r hr => ?_
      unfold stepC at hr
      split at hr
      · rename_i q
        rcases mem_chV hr with rfl | hr
        · exact hl c List.mem_cons_self q.1
        · exact ht r hr
      · exact ht r hr
  exact e _ _ (fun c hc' => hc c (List.mem_of_mem_take hc')) h0
theorem DN.next {n : Net} (h : DN n) {who at' : Int} (w0 : 0 ≤ who) (w1 : who < n.1.length) : ∀ r ∈ routesV n who at', ∀ k ∈ r.2.1, lnk n.2.1 who k := by
  have ew : ((who.toNat : Nat) : Int) = who := by omega
  refine routes_all w0 w1 (fun r hr k hk => ?_) (fun c hc hw k hk => ?_)
  · have := ((h.t who.toNat (by omega)).2 r hr).ln k hk
    rw [ew] at this; exact this
  · have q := (h.c c hc).x
    rw [hw] at q
    rcases q with e | ⟨q, hq, e⟩
    · rw [e] at hk; cases hk
    · rw [e] at hk
      rw [List.mem_singleton.1 hk]
      have := (h.links (i := who.toNat) (by omega)).1 (List.mem_map.2 ⟨q, hq, rfl⟩)
      rw [ew] at this; exact this
theorem DN.other {n : Net} (h : DN n) {who k : Int} (hk : lnk n.2.1 who k) : 0 ≤ otherV n.2.1 k who ∧ otherV n.2.1 k who < n.1.length := by
  obtain ⟨k0, k1, e⟩ := hk
  have g := h.g _ (getD_mem k0 k1)
  rcases e with e | e
  · rw [← e, other_a k0 k1]; exact g.2.1
  · rw [← e, other_b k0 k1 g.2.2.1]; exact g.1
end Go.RS


/- Drawsome: an address of a network, drawn. -/
namespace Go.RS
open Go.SX Go.Proofs
set_option maxRecDepth 100000
set_option linter.unusedVariables false

end Go.RS


/- Law16: the laws of what is so in networks: parts. -/
namespace Go.RS
open Go.SX Go.Proofs
set_option maxRecDepth 100000
set_option linter.unusedVariables false

theorem DN.wn {n : Net} (h : DN n) : WN n := ⟨h.okNet, fun who at' w0 w1 r hr k hk => h.other (h.next w0 w1 r hr k hk)⟩
def adr0 (ns : List Node) (i : Int) : Int := ((nPorts (ns.getD i.toNat default)).getD 0 default).1
def endI (ns : List Node) : Nat → Int
  | 0 => 0
  | i + 1 => if nHost (ns.getD (i + 1) default) = true ∧ 0 < (nPorts (ns.getD (i + 1) default)).length then ((i + 1 : Nat) : Int) else endI ns i
def homeV (n : Net) : Int × Int := if n.1.length = 0 ∨ (nPorts (n.1.getD 0 default)).length = 0 then (0, 0) else (adr0 n.1 0, adr0 n.1 (endI n.1 (n.1.length - 1)))
def ct_draw_Home : Ct := ⟨[.agg cNet], [.val cU32, .val cU32], fun _ => [], fun d => (((homeV d.1).1, (homeV d.1).2, ()), ())⟩
def an_draw_Home : PDs ct_draw_Home.ps → Anns := (fun d => { loops := (fun n => match n with | 4 => some (fun S => { ι := Int, μ := fun i => i.toNat, inv := fun i => 0 ≤ i ∧ i + 1 ≤ d.1.1.length ∧ endI d.1.1 (d.1.1.length - 1) = endI d.1.1 i.toNat, keep := [1], slots := fun i => [(4, .int .i64 i)], keepN := [32], names := fun i => [] }) | _ => none) })
theorem vc_draw_Home :
    ∀ (x : List (List (Int × Int) × Int × Int × Bool × List ((Int × Int) × List Int × Int) × Int × Int × Int × Int × Int × (Int × Int) × Bool × Bool × Int × Int)) (x_1 : List (Int × Int × Int × Int × Int
     × Int)) (x_2 : List (Int × Int × Bool × (Int × Int) × List Int × Int)), ((List.length x ≤ maxLen ∧ ∀ (x_3 : List (Int × Int) × Int × Int × Bool × List ((Int × Int) × List Int × Int) × Int × Int × Int
     × Int × Int × (Int × Int) × Bool × Bool × Int × Int), x_3 ∈ x → (List.length x_3.1 ≤ maxLen ∧ ∀ (x : Int × Int), x ∈ x_3.1 → ((0 : Int) ≤ x.1 ∧ x.1 ≤ (4294967295 : Int)) ∧ (-9223372036854775808 : Int)
     ≤ x.2 ∧ x.2 ≤ (9223372036854775807 : Int)) ∧ ((0 : Int) ≤ x_3.2.1 ∧ x_3.2.1 ≤ (4294967295 : Int)) ∧ ((-9223372036854775808 : Int) ≤ x_3.2.2.1 ∧ x_3.2.2.1 ≤ (9223372036854775807 : Int)) ∧ True ∧
     (List.length x_3.2.2.2.2.1 ≤ maxLen ∧ ∀ (x : (Int × Int) × List Int × Int), x ∈ x_3.2.2.2.2.1 → (((0 : Int) ≤ x.1.1 ∧ x.1.1 ≤ (4294967295 : Int)) ∧ (-9223372036854775808 : Int) ≤ x.1.2 ∧ x.1.2 ≤
     (9223372036854775807 : Int)) ∧ (List.length x.2.1 ≤ maxLen ∧ ∀ (x_4 : Int), x_4 ∈ x.2.1 → (-9223372036854775808 : Int) ≤ x_4 ∧ x_4 ≤ (9223372036854775807 : Int)) ∧ (-9223372036854775808 : Int) ≤ x.2.2
     ∧ x.2.2 ≤ (9223372036854775807 : Int)) ∧ ((-9223372036854775808 : Int) ≤ x_3.2.2.2.2.2.1 ∧ x_3.2.2.2.2.2.1 ≤ (9223372036854775807 : Int)) ∧ ((0 : Int) ≤ x_3.2.2.2.2.2.2.1 ∧ x_3.2.2.2.2.2.2.1 ≤
     (4294967295 : Int)) ∧ ((-9223372036854775808 : Int) ≤ x_3.2.2.2.2.2.2.2.1 ∧ x_3.2.2.2.2.2.2.2.1 ≤ (9223372036854775807 : Int)) ∧ ((-9223372036854775808 : Int) ≤ x_3.2.2.2.2.2.2.2.2.1 ∧
     x_3.2.2.2.2.2.2.2.2.1 ≤ (9223372036854775807 : Int)) ∧ ((-9223372036854775808 : Int) ≤ x_3.2.2.2.2.2.2.2.2.2.1 ∧ x_3.2.2.2.2.2.2.2.2.2.1 ≤ (9223372036854775807 : Int)) ∧ (((-9223372036854775808 : Int)
     ≤ x_3.2.2.2.2.2.2.2.2.2.2.1.1 ∧ x_3.2.2.2.2.2.2.2.2.2.2.1.1 ≤ (9223372036854775807 : Int)) ∧ (-9223372036854775808 : Int) ≤ x_3.2.2.2.2.2.2.2.2.2.2.1.2 ∧ x_3.2.2.2.2.2.2.2.2.2.2.1.2 ≤
     (9223372036854775807 : Int)) ∧ True ∧ True ∧ ((-9223372036854775808 : Int) ≤ x_3.2.2.2.2.2.2.2.2.2.2.2.2.2.1 ∧ x_3.2.2.2.2.2.2.2.2.2.2.2.2.2.1 ≤ (9223372036854775807 : Int)) ∧ (-9223372036854775808 :
     Int) ≤ x_3.2.2.2.2.2.2.2.2.2.2.2.2.2.2 ∧ x_3.2.2.2.2.2.2.2.2.2.2.2.2.2.2 ≤ (9223372036854775807 : Int)) ∧ (List.length x_1 ≤ maxLen ∧ ∀ (x : Int × Int × Int × Int × Int × Int), x ∈ x_1 →
     ((-9223372036854775808 : Int) ≤ x.1 ∧ x.1 ≤ (9223372036854775807 : Int)) ∧ ((-9223372036854775808 : Int) ≤ x.2.1 ∧ x.2.1 ≤ (9223372036854775807 : Int)) ∧ ((-9223372036854775808 : Int) ≤ x.2.2.1 ∧
     x.2.2.1 ≤ (9223372036854775807 : Int)) ∧ ((-9223372036854775808 : Int) ≤ x.2.2.2.1 ∧ x.2.2.2.1 ≤ (9223372036854775807 : Int)) ∧ ((-9223372036854775808 : Int) ≤ x.2.2.2.2.1 ∧ x.2.2.2.2.1 ≤
     (9223372036854775807 : Int)) ∧ (-9223372036854775808 : Int) ≤ x.2.2.2.2.2 ∧ x.2.2.2.2.2 ≤ (9223372036854775807 : Int)) ∧ List.length x_2 ≤ maxLen ∧ ∀ (x : Int × Int × Bool × (Int × Int) × List Int ×
     Int), x ∈ x_2 → ((-9223372036854775808 : Int) ≤ x.1 ∧ x.1 ≤ (9223372036854775807 : Int)) ∧ ((-9223372036854775808 : Int) ≤ x.2.1 ∧ x.2.1 ≤ (9223372036854775807 : Int)) ∧ True ∧ (((0 : Int) ≤
     x.2.2.2.1.1 ∧ x.2.2.2.1.1 ≤ (4294967295 : Int)) ∧ (-9223372036854775808 : Int) ≤ x.2.2.2.1.2 ∧ x.2.2.2.1.2 ≤ (9223372036854775807 : Int)) ∧ (List.length x.2.2.2.2.1 ≤ maxLen ∧ ∀ (x_3 : Int), x_3 ∈
     x.2.2.2.2.1 → (-9223372036854775808 : Int) ≤ x_3 ∧ x_3 ≤ (9223372036854775807 : Int)) ∧ (-9223372036854775808 : Int) ≤ x.2.2.2.2.2 ∧ x.2.2.2.2.2 ≤ (9223372036854775807 : Int)) ∧ True → True → ∀ (b :
     Bool), b = decide ((↑(List.length x) : Int) = (0 : Int)) → ((!b) = true → ((!b) = true → (!b) = true) ∧ True) ∧ ((!b) = true → ((!b) = true → (!b) = true) ∧ (0 : Int) ≤ (0 : Int) ∧ (0 : Int) <
     (↑(List.length x) : Int) ∧ True) ∧ ((!b) = true → ((!b) = true → (!b) = true) ∧ True) ∧ ((!b) = true → ((!b) = true → (!b) = true) ∧ True) ∧ ((!b) = true → ((!b) = true → (!b) = true) ∧ True) ∧ ((!b)
     = true → ((!b) = true → (!b) = true) ∧ True) ∧ (b = false → (!b) = true) ∧ ifP (bif b then true else decide ((↑(List.length (List.getD x (Int.toNat (0 : Int)) default).1) : Int) = (0 : Int))) ((0 :
     Int) = (homeV (x, x_1, x_2)).1 ∧ (0 : Int) = (homeV (x, x_1, x_2)).2) ((∃ (x_3 : Int), ((0 : Int) ≤ x_3 ∧ x_3 + (1 : Int) ≤ (↑(List.length x) : Int) ∧ endI x (List.length x - (1 : Nat)) = endI x
     (Int.toNat x_3)) ∧ IntKind.wrap IntKind.i64 ((↑(List.length x) : Int) - (1 : Int)) = x_3 ∧ x = x ∧ x_1 = x_1 ∧ x_2 = x_2 ∧ True) ∧ ∀ (x_3 : Int), (0 : Int) ≤ x_3 ∧ x_3 + (1 : Int) ≤ (↑(List.length x)
     : Int) ∧ endI x (List.length x - (1 : Nat)) = endI x (Int.toNat x_3) → ifP (decide ((0 : Int) < x_3)) ((0 : Int) ≤ x_3 ∧ x_3 < (↑(List.length x) : Int) ∧ ∀ (b : Bool), b = (List.getD x (Int.toNat x_3)
     default).2.2.2.1 → (b = true → (b = true → b = true) ∧ True) ∧ (b = true → (b = true → b = true) ∧ (b = true → b = true) ∧ (0 : Int) ≤ x_3 ∧ x_3 < (↑(List.length x) : Int) ∧ True) ∧ (b = true → (b =
     true → b = true) ∧ True) ∧ (b = true → (b = true → b = true) ∧ True) ∧ (b = true → (b = true → b = true) ∧ True) ∧ (b = true → (b = true → b = true) ∧ True) ∧ (b = true → b = true) ∧ ifP (bif b then
     decide ((0 : Int) < (↑(List.length (List.getD x (Int.toNat x_3) default).1) : Int)) else false) ((0 : Int) ≤ (0 : Int) ∧ (0 : Int) < (↑(List.length x) : Int) ∧ (0 : Int) ≤ (0 : Int) ∧ (0 : Int) <
     (↑(List.length (List.getD x (Int.toNat (0 : Int)) default).1) : Int) ∧ (0 : Int) ≤ x_3 ∧ x_3 < (↑(List.length x) : Int) ∧ (0 : Int) ≤ (0 : Int) ∧ (0 : Int) < (↑(List.length (List.getD x (Int.toNat
     x_3) default).1) : Int) ∧ (List.getD (List.getD x (Int.toNat (0 : Int)) default).1 (Int.toNat (0 : Int)) default).1 = (homeV (x, x_1, x_2)).1 ∧ (List.getD (List.getD x (Int.toNat x_3) default).1
     (Int.toNat (0 : Int)) default).1 = (homeV (x, x_1, x_2)).2) (∃ (x_4 : Int), ((0 : Int) ≤ x_4 ∧ x_4 + (1 : Int) ≤ (↑(List.length x) : Int) ∧ endI x (List.length x - (1 : Nat)) = endI x (Int.toNat x_4))
     ∧ Int.toNat x_4 < Int.toNat x_3 ∧ IntKind.wrap IntKind.i64 (x_3 - (1 : Int)) = x_4 ∧ x = x ∧ x_1 = x_1 ∧ x_2 = x_2 ∧ True)) ((0 : Int) ≤ (0 : Int) ∧ (0 : Int) < (↑(List.length x) : Int) ∧ (0 : Int) ≤
     (0 : Int) ∧ (0 : Int) < (↑(List.length (List.getD x (Int.toNat (0 : Int)) default).1) : Int) ∧ (0 : Int) ≤ (0 : Int) ∧ (0 : Int) < (↑(List.length x) : Int) ∧ (0 : Int) ≤ (0 : Int) ∧ (0 : Int) <
     (↑(List.length (List.getD x (Int.toNat (0 : Int)) default).1) : Int) ∧ (List.getD (List.getD x (Int.toNat (0 : Int)) default).1 (Int.toNat (0 : Int)) default).1 = (homeV (x, x_1, x_2)).1 ∧ (List.getD
     (List.getD x (Int.toNat (0 : Int)) default).1 (Int.toNat (0 : Int)) default).1 = (homeV (x, x_1, x_2)).2)) := by
  rintro ns ls hs ⟨⟨⟨hnl, -⟩, -⟩, -⟩ -
  simp only [maxLen] at hnl
  intro b hb
  (repeat refine ⟨fun h_ => (by first | exact ⟨fun _ => h_, by omega, by rw [hb] at h_; have := nd_t h_; omega, trivial⟩ | (simp; done) | (simp [h_]; done) | (simp_all; done)), ?_⟩)
  rw [hb, bor_d, show Int.toNat (0 : Int) = 0 from rfl]
  rw [show (ns.getD 0 default).1 = nPorts (ns.getD 0 default) from rfl]
  refine ifP_split (fun h => ?_) (fun h => ?_)
  · have h := of_decide_eq_true h
    unfold homeV
    rw [if_pos (by dsimp only; omega)]; exact ⟨rfl, rfl⟩
  have h := of_decide_eq_false h
  have eH : homeV (ns, ls, hs) = (adr0 ns 0, adr0 ns (endI ns (ns.length - 1))) := by
    unfold homeV; rw [if_neg (by dsimp only; omega)]
  rw [eH, w64 (n := (ns.length : Int) - 1) (by omega) (by omega)]
  refine ⟨⟨(ns.length : Int) - 1, ⟨by omega, by omega, by rw [show ((ns.length : Int) - 1).toNat = ns.length - 1 by omega]⟩, (by repeat' first | exact trivial | refine ⟨trivial, ?_⟩ | refine ⟨(by with_reducible rfl), ?_⟩ | refine ⟨w64 (by omega) (by omega), ?_⟩ | refine ⟨rfl, ?_⟩)⟩, ?_⟩
  rintro i ⟨i0, i1, hI⟩
  refine ifP_split (fun hi => ?_) (fun hi => ?_)
  · have hi := of_decide_eq_true hi
    have ei : i.toNat = (i.toNat - 1) + 1 := by omega
    have e2 : (((i.toNat - 1 + 1 : Nat)) : Int) = i := by omega
    refine ⟨i0, by omega, ?_⟩
    intro b2 hb2
    (repeat refine ⟨fun h_ => (by first | exact ⟨fun _ => h_, fun _ => h_, i0, by omega, trivial⟩ | (simp; done) | (simp [h_]; done) | (simp_all; done)), ?_⟩)
    have hI2 := hI
    rw [ei, endI, ← ei] at hI2
    rw [show (ns.getD i.toNat default).1 = nPorts (ns.getD i.toNat default) from rfl]
    refine ifP_and (fun h1 h2 => ?_) (fun h1 => ?_)
    · have h1 : nHost (ns.getD i.toNat default) = true := hb2.symm.trans h1
      have h2 := of_decide_eq_true h2
      rw [if_pos ⟨h1, by omega⟩, show ((i.toNat : Nat) : Int) = i by omega] at hI2
      rw [hI2]
      exact ⟨by omega, by omega, by omega, by omega, i0, by omega, by omega, h2, rfl, rfl⟩
    · rw [if_neg] at hI2
      · exact ⟨i - 1, ⟨by omega, by omega, by rw [hI2, show (i - 1).toNat = i.toNat - 1 by omega]⟩, by omega, (by repeat' first | exact trivial | refine ⟨trivial, ?_⟩ | refine ⟨(by with_reducible rfl), ?_⟩ | refine ⟨w64 (by omega) (by omega), ?_⟩ | refine ⟨rfl, ?_⟩)⟩
      · rintro ⟨k1, k2⟩
        rcases h1 with h1 | h1
        · rw [hb2, show (ns.getD i.toNat default).2.2.2.1 = nHost (ns.getD i.toNat default) from rfl, k1] at h1; cases h1
        · have := of_decide_eq_false h1; omega
  · have hi := of_decide_eq_false hi
    rw [show i.toNat = 0 by omega, endI] at hI
    rw [hI]
    exact ⟨by omega, by omega, by omega, by omega, by omega, by omega, by omega, by omega, rfl, rfl⟩
theorem ok_draw_Home : SpecOK Try.prog GL 41 ct_draw_Home.spec := Ct.okH _ Try.func41 (by kernel_rfl) noSpecs_ok hmix an_draw_Home (hideMp (by kernel_rfl) vc_draw_Home)
theorem awake_trace : (traceV (netV true ([], 0)) 0 0 ((homeV (netV true ([], 0))).1, (homeV (netV true ([], 0))).2, 0, 0, 0)).2.2 = 1 ∧ (traceV (netV true ([], 0)) 0 0 ((homeV (netV true ([], 0))).1, (homeV (netV true ([], 0))).2, 0, 0, 0)).1.length = 3 := by decide +kernel
theorem awake_same : sameV (netV true ([], 0)) (homeV (netV true ([], 0))).1 (homeV (netV true ([], 0))).1 = true ∧ sameV (netV true ([], 0)) (homeV (netV true ([], 0))).1 (homeV (netV true ([], 0))).2 = false := by decide +kernel
def ct_law16_awake : Ct := ⟨[], [.val .bool], fun _ => [], fun _ => ((true, ()), ())⟩
def an_law16_awake : PDs ct_law16_awake.ps → Anns := (fun _ => {})
theorem vc_law16_awake :
    True → True → (0 : Int) ≤ (0 : Int) ∧ ∀ (x : List Int) (x_1 : Int), (x, x_1) = (if (↑(0 : Nat) : Int) ≤ (0 : Int) then ([] : List Int) else List.take (Int.toNat (0 : Int)) ([] : List Int), (0 : Int))
     → okC (x, x_1) ∧ ∀ (x_2 : List (List (Int × Int) × Int × Int × Bool × List ((Int × Int) × List Int × Int) × Int × Int × Int × Int × Int × (Int × Int) × Bool × Bool × Int × Int)) (x_3 : List (Int × Int
     × Int × Int × Int × Int)) (x_4 : List (Int × Int × Bool × (Int × Int) × List Int × Int)) (x_5 : List Int) (x_6 : Int), (x_2, x_3, x_4) = netV true (x, x_1) ∧ (x_5, x_6) = netC true (x, x_1) → ∀ (x x_7
     : Int), x = (homeV (x_2, x_3, x_4)).1 ∧ x_7 = (homeV (x_2, x_3, x_4)).2 → WN (x_2, x_3, x_4) ∧ (0 : Int) ≤ (0 : Int) ∧ (0 : Int) < (↑(List.length x_2) : Int) ∧ ∀ (x_8 x_9 : List Int) (x_10 : Int),
     (x_8, x_9, x_10) = traceV (x_2, x_3, x_4) (0 : Int) (0 : Int) (x, x_7, (0 : Int), (0 : Int), (0 : Int)) → ∀ (b : Bool), b = decide (x_10 = (1 : Int)) → (b = true → (b = true → b = true) ∧ True) ∧ (b =
     true → (b = true → b = true) ∧ True) ∧ (b = true → (b = true → b = true) ∧ True) ∧ (b = true → b = true) ∧ ∀ (b_1 : Bool), (b_1 = bif b then decide ((↑(List.length x_8) : Int) = (3 : Int)) else false)
     → (b_1 = true → (b_1 = true → b_1 = true) ∧ (b_1 = true → b_1 = true) ∧ (b_1 = true → b_1 = true) ∧ True) ∧ (b_1 = true → b_1 = true) ∧ ∀ (b : Bool), (b = bif b_1 then sameV (x_2, x_3, x_4) x x else
     false) → (b = true → (b = true → b = true) ∧ (b = true → b = true) ∧ (b = true → b = true) ∧ True) ∧ (b = true → (b = true → b = true) ∧ True) ∧ (b = true → b = true) ∧ (bif b then !sameV (x_2, x_3,
     x_4) x x_7 else false) = true := by
  rintro - -
  refine ⟨by omega, ?_⟩
  rintro l p hc
  have hc : (l, p) = (([], 0) : Codes) := hc
  have hB : okB (l, p) := by rw [hc]; exact ⟨⟨by decide, by decide⟩, fun x hx => by cases hx⟩
  refine ⟨hB.at', ?_⟩
  rintro ns ls hs l2 p2 ⟨hn, -⟩
  have D := net_dn hB true
  rw [← hn] at D
  rw [hc] at hn
  have h3 : 3 ≤ ns.length := D.n3
  rintro x y ⟨hx, hy⟩
  refine ⟨D.wn, by omega, by show 0 < (ns.length : Int); omega, ?_⟩
  rintro u v e ht
  rw [hx, hy, hn] at ht
  rw [hx, hy, hn]
  clear hx hy x y D
  have t1 := awake_trace
  rw [← ht] at t1
  intro b hb
  have hb : b = true := by rw [hb, decide_eq_true t1.1]
  subst hb
  (repeat refine ⟨fun h_ => (by first | (simp; done) | (simp [h_]; done) | (simp_all; done)), ?_⟩)
  intro b hb
  have hb : b = true := by rw [hb, cond_true]; exact decide_eq_true (by have t2 : u.length = 3 := t1.2; omega)
  subst hb
  (repeat refine ⟨fun h_ => (by first | (simp; done) | (simp [h_]; done) | (simp_all; done)), ?_⟩)
  intro b hb
  have hb : b = true := by rw [hb, cond_true]; exact awake_same.1
  subst hb
  (repeat refine ⟨fun h_ => (by first | (simp; done) | (simp [h_]; done) | (simp_all; done)), ?_⟩)
  rw [cond_true, awake_same.2]; rfl
theorem ok_law16_awake : SpecOK Try.prog GL 10 ct_law16_awake.spec := Ct.okH _ Try.func10 (by kernel_rfl) (withSpec_ok (withSpec_ok (withSpec_ok (withSpec_ok (withSpec_ok noSpecs_ok (Ct.named ok_draw_New)) (Ct.named ok_draw_Codes_Net)) (Ct.named ok_draw_Home)) (Ct.named ok_truth_Trace)) ok_truth_Same) hmix an_law16_awake (hideMp (by kernel_rfl) vc_law16_awake)
end Go.RS


/- Law16b: the law of assumptions. -/
namespace Go.RS
open Go.SX Go.Proofs
set_option maxRecDepth 100000
set_option linter.unusedVariables false

abbrev cU16 : CT := .int .u16
def lp16H : LPs := [(false, .sl cU8), (false, cU16), (false, cU16), (false, cU8), (false, cU8), (false, cU8)]
/-! ### Bits -/
theorem i64_and1 (n : Int) : bits .and .i64 n 1 = n % 2 := by
  have h127 : (BitVec.ofInt 64 1).toNat = 2 ^ 1 - 1 := by decide
  have key : (BitVec.ofInt 64 n &&& BitVec.ofInt 64 1).toNat = (n % ((2 ^ 64 : Nat) : Int)).toNat % 2 ^ 1 := by
    rw [BitVec.toNat_and, BitVec.toNat_ofInt, h127, Nat.and_two_pow_sub_one_eq_mod]
  show IntKind.i64.wrap ((BitVec.ofInt 64 n &&& BitVec.ofInt 64 1).toNat : Nat) = n % 2
  rw [key, IntKind.wrap_i64]
  omega
theorem i64_or {x y : Int} (x0 : 0 ≤ x) (x1 : x < 512) (y0 : 0 ≤ y) (y1 : y < 512) : bits .or .i64 x y = ((x.toNat ||| y.toNat : Nat) : Int) := by
  show IntKind.i64.wrap ((BitVec.ofInt 64 x ||| BitVec.ofInt 64 y).toNat : Nat) = _
  rw [BitVec.toNat_or, BitVec.toNat_ofInt, BitVec.toNat_ofInt, show (x % ((2 ^ 64 : Nat) : Int)).toNat = x.toNat by omega, show (y % ((2 ^ 64 : Nat) : Int)).toNat = y.toNat by omega]
  have h : (x.toNat ||| y.toNat) < 2 ^ 9 := Nat.or_lt_two_pow (by omega) (by omega)
  exact w64 (by omega) (by omega)
theorem bitOn_nat (m k : Nat) (hk : k ≤ 63) : bitOn (m : Int) (k : Int) = m.testBit k := by
  have e : shrI .i64 (m : Int) (k : Int) = ((m / 2 ^ k : Nat) : Int) := by
    unfold shrI
    have h1 : min (k : Int).toNat IntKind.i64.bits = k := by
      rw [Int.toNat_natCast]
      exact Nat.min_eq_left (show k ≤ 64 by omega)
    rw [h1, Int.fdiv_eq_ediv_of_nonneg _ (Int.le_of_lt (Int.pow_pos (by decide))), Int.natCast_ediv, Int.natCast_pow]; rfl
  unfold bitOn
  rw [e, i64_and1, Nat.testBit_eq_decide_div_mod_eq]
  apply decide_eq_decide.2
  omega
theorem bitOn_or {x y : Int} (x0 : 0 ≤ x) (x1 : x < 512) (y0 : 0 ≤ y) (y1 : y < 512) (k : Nat) (hk : k ≤ 63) : bitOn (bits .or .i64 x y) k = (bitOn x k || bitOn y k) := by
  rw [i64_or x0 x1 y0 y1, bitOn_nat _ _ hk, Nat.testBit_or]
  have ex : x = ((x.toNat : Nat) : Int) := by omega
  have ey : y = ((y.toNat : Nat) : Int) := by omega
  rw [ex, ey, bitOn_nat _ _ hk, bitOn_nat _ _ hk, Int.toNat_natCast, Int.toNat_natCast]
theorem bitsOK_or {x y : Int} (x0 : 0 ≤ x) (x1 : x < 512) (y0 : 0 ≤ y) (y1 : y < 512) : ∀ (l : List Bool) (k : Nat), k + l.length ≤ 64 → bitsOK (bits .or .i64 x y) k l = (bitsOK x k l && bitsOK y k l)
  | [], _, _ => rfl
  | b :: r, k, h => by
    rw [List.length_cons] at h
    have ih := bitsOK_or x0 x1 y0 y1 r (k + 1) (by omega)
    rw [show ((k + 1 : Nat) : Int) = (k : Int) + 1 by omega] at ih
    rw [bitsOK, bitsOK, bitsOK, bitOn_or x0 x1 y0 y1 k (by omega), ih]
    cases bitOn x k <;> cases bitOn y k <;> cases b <;> cases bitsOK x (k + 1) r <;> cases bitsOK y (k + 1) r <;> rfl
inductive AllLe : List Bool → List Bool → Prop where
  | nil : AllLe [] []
  | cons {b c : Bool} {l m : List Bool} (h : b = true → c = true) (t : AllLe l m) : AllLe (b :: l) (c :: m)
theorem bitsOK_mono {a : Int} : ∀ {l m : List Bool} {k : Int}, AllLe l m → bitsOK a k l = true → bitsOK a k m = true
  | _, _, _, .nil, _ => rfl
  | _, _, k, .cons (b := b) (c := c) h t, e => by
    rw [bitsOK, Bool.and_eq_true_iff] at e ⊢
    refine ⟨?_, bitsOK_mono t e.2⟩
    have e1 := e.1
    revert e1 h
    cases bitOn a k <;> cases b <;> cases c <;> simp
/-! ### Times -/
structure TMI (s t : Int) (dn : List Change) (l : List Int) : Prop where
  ne : 0 < l.length
  el : ∀ x ∈ l, s ≤ x ∧ x ≤ t ∧ (x = s ∨ ∃ c ∈ dn, x = hAt c)
  cov : ∀ τ, s ≤ τ → τ ≤ t → ∃ x ∈ l, x ≤ τ ∧ ∀ c ∈ dn, ¬ (x < hAt c ∧ hAt c ≤ τ)
theorem TMI.next {s t : Int} {dn : List Change} {l : List Int} (h : TMI s t dn l) {c : Change} (hs : ∀ d ∈ dn, hAt d ≤ hAt c) : TMI s t (dn ++ [c]) (stepTm s t l c) := by
  have hl := lastI_mem h.ne
  have el := h.el _ hl
  refine ⟨tm_pos h.ne, fun x hx => ?_, fun τ t0 t1 => ?_⟩
  · unfold stepTm at hx
    split at hx
    · rename_i k
      rcases List.mem_append.1 hx with hx | hx
      · obtain ⟨a, b, e⟩ := h.el x hx
        exact ⟨a, b, e.imp id fun ⟨d, hd, e⟩ => ⟨d, List.mem_append_left _ hd, e⟩⟩
      · rw [List.mem_singleton.1 hx]
        exact ⟨by omega, k.2.1, .inr ⟨c, by simp, rfl⟩⟩
    · obtain ⟨a, b, e⟩ := h.el x hx
      exact ⟨a, b, e.imp id fun ⟨d, hd, e⟩ => ⟨d, List.mem_append_left _ hd, e⟩⟩
  · obtain ⟨x, hx, x1, hc⟩ := h.cov τ t0 t1
    unfold stepTm
    by_cases hτ : hAt c ≤ τ
    · split
      · refine ⟨hAt c, by simp, hτ, fun d hd => ?_⟩
        rcases List.mem_append.1 hd with hd | hd
        · have := hs d hd; omega
        · rw [List.mem_singleton.1 hd]; omega
      · rename_i k
        by_cases hcs : hAt c ≤ s
        · refine ⟨x, hx, x1, fun d hd => ?_⟩
          rcases List.mem_append.1 hd with hd | hd
          · exact hc d hd
          · rw [List.mem_singleton.1 hd]
            have := (h.el x hx).1
            omega
        · have e : hAt c = lastI l := by
            rcases el.2.2 with e | ⟨d, hd, e⟩
            · omega
            · have := hs d hd; omega
          refine ⟨lastI l, hl, by omega, fun d hd => ?_⟩
          rcases List.mem_append.1 hd with hd | hd
          · have := hs d hd; omega
          · rw [List.mem_singleton.1 hd]; omega
    · have hx' : ∀ d ∈ dn ++ [c], ¬ (x < hAt d ∧ hAt d ≤ τ) := fun d hd => by
        rcases List.mem_append.1 hd with hd | hd
        · exact hc d hd
        · rw [List.mem_singleton.1 hd]; omega
      split
      · exact ⟨x, List.mem_append_left _ hx, x1, hx'⟩
      · exact ⟨x, hx, x1, hx'⟩
theorem TMI.all {s t : Int} : ∀ (rest dn : List Change) (l : List Int), (dn ++ rest).Pairwise (fun a b => hAt a ≤ hAt b) → TMI s t dn l → TMI s t (dn ++ rest) (rest.foldl (stepTm s t) l)
  | [], dn, l, _, h => by simpa using h
  | c :: r, dn, l, hp, h => by
    rw [List.foldl_cons, show dn ++ c :: r = (dn ++ [c]) ++ r by simp]
    refine TMI.all r (dn ++ [c]) _ (by simpa using hp) (h.next fun d hd => ?_)
    exact (List.pairwise_append.1 hp).2.2 d hd c List.mem_cons_self
theorem times_inv {hs : List Change} (hp : hs.Pairwise fun a b => hAt a ≤ hAt b) {s t : Int} (hst : s ≤ t) : TMI s t hs (timesV hs s t) := by
  have := TMI.all (s := s) (t := t) hs [] [s] (by simpa using hp) ⟨by simp, fun x hx => by rw [List.mem_singleton.1 hx]; exact ⟨Int.le_refl _, hst, .inl rfl⟩, fun τ t0 t1 => ⟨s, by simp, t0, fun c hc => by cases hc⟩⟩
  simpa [timesV] using this
/-- What stays as it is while nothing changes. -/
def steadyQ (hs : List Change) (q : Int → Bool) : Prop := ∀ a b, a ≤ b → hs.any (between a b) = false → q a = q b
theorem times_all {hs : List Change} (hp : hs.Pairwise fun a b => hAt a ≤ hAt b) {q : Int → Bool} (hq : steadyQ hs q) {s t : Int} (hst : s ≤ t) : (timesV hs s t).all q = true ↔ ∀ τ, s ≤ τ → τ ≤ t → q τ = true := by
  have T := times_inv hp hst
  rw [List.all_eq_true]
  constructor
  · intro h τ t0 t1
    obtain ⟨x, hx, x1, hc⟩ := T.cov τ t0 t1
    rw [← hq x τ x1 (List.any_eq_false.2 fun c hc' => by
      have := hc c hc'
      unfold between
      exact fun k => this (of_decide_eq_true k))]
    exact h x hx
  · intro h x hx
    have := T.el x hx
    exact h x this.1 this.2.1
theorem flow_steady (n : Net) : steadyQ n.2.2 (flowV n) := fun a b hab h => by
  unfold flowV
  rw [show (fun i : Nat => (routesV n i a).all fun r => !perPkt r) = fun i : Nat => (routesV n i b).all fun r => !perPkt r from funext fun i => by rw [routes_steady hab h]]
theorem step_steady {n : Net} {a b : Int} (hab : a ≤ b) (h : n.2.2.any (between a b) = false) (k : Key) (w : Way) : stepW n a k w = stepW n b k w := by
  unfold stepW
  rw [routes_steady hab h]
theorem run_steady {n : Net} {a b : Int} (hab : a ≤ b) (h : n.2.2.any (between a b) = false) (k : Key) : ∀ (f : Nat) (w : Way), runW n a k f w = runW n b k f w
  | 0, w => rfl
  | f + 1, w => by rw [runW, runW, step_steady hab h, run_steady hab h k f]
theorem trace_steady {n : Net} {a b : Int} (hab : a ≤ b) (h : n.2.2.any (between a b) = false) (who : Int) (k : Key) : traceV n a who k = traceV n b who k := run_steady hab h k 257 _
theorem single_steady {n : Net} {a b : Int} (hab : a ≤ b) (h : n.2.2.any (between a b) = false) (w : Way) (dst : Int) : singleV n w a dst = singleV n w b dst := by
  unfold singleV
  rw [show oneAt n w a dst = oneAt n w b dst from funext fun i => by unfold oneAt; rw [routes_steady hab h]]
theorem back_steady {n : Net} {a b : Int} (hab : a ≤ b) (h : n.2.2.any (between a b) = false) (who home x : Int) : backV n a who home x = backV n b who home x := by
  unfold backV backAll
  rw [trace_steady hab h, single_steady hab h]
  rw [show (fun i => backAt n a home x (traceV n b who (kTo home x)) (i + 1)) = fun i => backAt n b home x (traceV n b who (kTo home x)) (i + 1) from funext fun i => by
    unfold backAt
    rw [trace_steady hab h, single_steady hab h]]
theorem sym_steady (n : Net) (who : Int) : steadyQ n.2.2 (symAt n who) := fun a b hab h => by
  unfold symAt
  rw [show symU n a who = symU n b who from funext fun u => by
    unfold symU
    rw [show backV n a who (homeA n who) = backV n b who (homeA n who) from funext fun x => back_steady hab h who _ x]]
theorem span_le {n : Net} (hp : n.2.2.Pairwise fun a b => hAt a ≤ hAt b) (who : Int) {s t s' t' : Int} (h1 : s ≤ s') (h2 : s' ≤ t') (h3 : t' ≤ t) : AllLe (spanV n who s t) (spanV n who s' t') := by
  unfold spanV
  refine .cons (fun h => ?_) (.cons id (.cons id (.cons id (.cons (fun h => ?_) (.cons (fun h => ?_) (.cons id (.cons id (.cons id .nil))))))))
  · rw [Bool.not_eq_true', List.any_eq_false] at h ⊢
    intro c hc k
    refine h c hc ?_
    unfold between at k ⊢
    have k := of_decide_eq_true k
    exact decide_eq_true (by omega)
  · rw [times_all hp (flow_steady n) (by omega)] at h
    rw [times_all hp (flow_steady n) h2]
    exact fun τ a b => h τ (by omega) (by omega)
  · unfold symV at h ⊢
    rw [Bool.and_eq_true_iff] at h ⊢
    refine ⟨h.1, ?_⟩
    have h := h.2
    rw [times_all hp (sym_steady n who) (by omega)] at h
    rw [times_all hp (sym_steady n who) h2]
    exact fun τ a b => h τ (by omega) (by omega)
theorem holds_eq {n : Net} {a who s t : Int} (a0 : 0 ≤ a) (a1 : a < 512) (hst : s ≤ t) : holdsV n a who s t = bitsOK a 0 (spanV n who s t) := by
  unfold holdsV
  rw [decide_eq_false (show ¬ a < 0 by omega), decide_eq_false (show ¬ 512 ≤ a by omega), decide_eq_false (show ¬ t < s by omega)]; rfl
theorem or_range {x y : Int} (x0 : 0 ≤ x) (x1 : x < 512) (y0 : 0 ≤ y) (y1 : y < 512) : 0 ≤ bits .or .i64 x y ∧ bits .or .i64 x y < 512 := by
  rw [i64_or x0 x1 y0 y1]
  have h : (x.toNat ||| y.toNat) < 2 ^ 9 := Nat.or_lt_two_pow (by omega) (by omega)
  omega
theorem holds_or {n : Net} {x y who s t : Int} (x0 : 0 ≤ x) (x1 : x < 512) (y0 : 0 ≤ y) (y1 : y < 512) (hst : s ≤ t) : holdsV n (bits .or .i64 x y) who s t = (holdsV n x who s t && holdsV n y who s t) := by
  have r := or_range x0 x1 y0 y1
  rw [holds_eq r.1 r.2 hst, holds_eq x0 x1 hst, holds_eq y0 y1 hst]
  exact bitsOK_or x0 x1 y0 y1 (spanV n who s t) 0 (by show 0 + 9 ≤ 64; decide)
theorem holds_sub {n : Net} (hp : n.2.2.Pairwise fun a b => hAt a ≤ hAt b) {a who s t s' t' : Int} (a0 : 0 ≤ a) (a1 : a < 512) (h1 : s ≤ s') (h2 : s' ≤ t') (h3 : t' ≤ t) (h : holdsV n a who s t = true) : holdsV n a who s' t' = true := by
  rw [holds_eq a0 a1 (by omega)] at h
  rw [holds_eq a0 a1 h2]
  exact bitsOK_mono (span_le hp who h1 h2 h3) h
theorem bits_zero : ∀ (l : List Bool) (k : Nat), k + l.length ≤ 64 → bitsOK 0 k l = true
  | [], _, _ => rfl
  | b :: r, k, h => by
    rw [List.length_cons] at h
    have ih := bits_zero r (k + 1) (by omega)
    rw [show ((k + 1 : Nat) : Int) = (k : Int) + 1 by omega] at ih
    have e := bitOn_nat 0 k (by omega)
    rw [Nat.zero_testBit] at e
    rw [bitsOK, ih, show bitOn 0 k = false from e]; rfl
theorem holds_zero {n : Net} {who s t : Int} (hst : s ≤ t) : holdsV n 0 who s t = true := by
  rw [holds_eq (by decide) (by decide) hst]
  exact bits_zero (spanV n who s t) 0 (by show 0 + 9 ≤ 64; decide)
def ct_law16_TruthHolds : Ct := lawCt lp16H
def an_law16_TruthHolds : PDs ct_law16_TruthHolds.ps → Anns := (fun _ => {})
theorem vc_law16_TruthHolds :
    ∀ (x : List Int) (x_1 x_2 x_3 x_4 x_5 : Int), (List.length x ≤ maxLen ∧ ∀ (x_6 : Int), x_6 ∈ x → (0 : Int) ≤ x_6 ∧ x_6 ≤ (255 : Int)) ∧ ((0 : Int) ≤ x_1 ∧ x_1 ≤ (65535 : Int)) ∧ ((0 : Int) ≤ x_2 ∧ x_2
     ≤ (65535 : Int)) ∧ ((0 : Int) ≤ x_3 ∧ x_3 ≤ (255 : Int)) ∧ ((0 : Int) ≤ x_4 ∧ x_4 ≤ (255 : Int)) ∧ ((0 : Int) ≤ x_5 ∧ x_5 ≤ (255 : Int)) ∧ True → True → (0 : Int) ≤ (400 : Int) ∧ ∀ (x_6 : List Int)
     (x_7 : Int), (x_6, x_7) = (if (↑(List.length x) : Int) ≤ (400 : Int) then x else List.take (Int.toNat (400 : Int)) x, (0 : Int)) → okC (x_6, x_7) ∧ ∀ (x : Int) (x_8 : List Int) (x_9 : Int), x = (nextV
     (x_6, x_7) (2 : Int)).1 ∧ (x_8, x_9) = (nextV (x_6, x_7) (2 : Int)).2 → okC (x_8, x_9) ∧ ∀ (x_10 : List (List (Int × Int) × Int × Int × Bool × List ((Int × Int) × List Int × Int) × Int × Int × Int ×
     Int × Int × (Int × Int) × Bool × Bool × Int × Int)) (x_11 : List (Int × Int × Int × Int × Int × Int)) (x_12 : List (Int × Int × Bool × (Int × Int) × List Int × Int)) (x_13 : List Int) (x_14 : Int),
     (x_10, x_11, x_12) = netV (decide (x = (0 : Int))) (x_8, x_9) ∧ (x_13, x_14) = netC (decide (x = (0 : Int))) (x_8, x_9) → (512 : Int) ≠ (0 : Int) ∧ (512 : Int) ≠ (0 : Int) ∧ WN (x_10, x_11, x_12) ∧ (∀
     (x : List (Int × Int) × Int × Int × Bool × List ((Int × Int) × List Int × Int) × Int × Int × Int × Int × Int × (Int × Int) × Bool × Bool × Int × Int), x ∈ x_10 → List.length (nPorts x) ≤ (100000 :
     Nat)) ∧ WN (x_10, x_11, x_12) ∧ (∀ (x : List (Int × Int) × Int × Int × Bool × List ((Int × Int) × List Int × Int) × Int × Int × Int × Int × Int × (Int × Int) × Bool × Bool × Int × Int), x ∈ x_10 →
     List.length (nPorts x) ≤ (100000 : Nat)) ∧ ∀ (b : Bool), b = holdsV (x_10, x_11, x_12) (Int.tmod (IntKind.wrap IntKind.i64 x_1) (512 : Int)) (0 : Int) (IntKind.wrap IntKind.i64 x_3) (IntKind.wrap
     IntKind.i64 (IntKind.wrap IntKind.i64 (IntKind.wrap IntKind.i64 x_3 + IntKind.wrap IntKind.i64 x_4) + IntKind.wrap IntKind.i64 x_5)) → (b = true → (b = true → b = true) ∧ (b = true → b = true) ∧ (b =
     true → b = true) ∧ (b = true → b = true) ∧ WN (x_10, x_11, x_12) ∧ (∀ (x : List (Int × Int) × Int × Int × Bool × List ((Int × Int) × List Int × Int) × Int × Int × Int × Int × Int × (Int × Int) × Bool
     × Bool × Int × Int), x ∈ x_10 → List.length (nPorts x) ≤ (100000 : Nat)) ∧ True) ∧ (b = true → b = true) ∧ ifP (!holdsV (x_10, x_11, x_12) (bits BinOp.or IntKind.i64 (Int.tmod (IntKind.wrap
     IntKind.i64 x_1) (512 : Int)) (Int.tmod (IntKind.wrap IntKind.i64 x_2) (512 : Int))) (0 : Int) (IntKind.wrap IntKind.i64 x_3) (IntKind.wrap IntKind.i64 (IntKind.wrap IntKind.i64 (IntKind.wrap
     IntKind.i64 x_3 + IntKind.wrap IntKind.i64 x_4) + IntKind.wrap IntKind.i64 x_5)) == bif b then holdsV (x_10, x_11, x_12) (Int.tmod (IntKind.wrap IntKind.i64 x_2) (512 : Int)) (0 : Int) (IntKind.wrap
     IntKind.i64 x_3) (IntKind.wrap IntKind.i64 (IntKind.wrap IntKind.i64 (IntKind.wrap IntKind.i64 x_3 + IntKind.wrap IntKind.i64 x_4) + IntKind.wrap IntKind.i64 x_5)) else false) (false = true) (∀ (b :
     Bool), b = !holdsV (x_10, x_11, x_12) (bits BinOp.or IntKind.i64 (Int.tmod (IntKind.wrap IntKind.i64 x_1) (512 : Int)) (Int.tmod (IntKind.wrap IntKind.i64 x_2) (512 : Int))) (0 : Int) (IntKind.wrap
     IntKind.i64 x_3) (IntKind.wrap IntKind.i64 (IntKind.wrap IntKind.i64 (IntKind.wrap IntKind.i64 x_3 + IntKind.wrap IntKind.i64 x_4) + IntKind.wrap IntKind.i64 x_5)) → ((!b) = true → ((!b) = true → (!b)
     = true) ∧ ((!b) = true → (!b) = true) ∧ ((!b) = true → (!b) = true) ∧ ((!b) = true → (!b) = true) ∧ WN (x_10, x_11, x_12) ∧ (∀ (x : List (Int × Int) × Int × Int × Bool × List ((Int × Int) × List Int ×
     Int) × Int × Int × Int × Int × Int × (Int × Int) × Bool × Bool × Int × Int), x ∈ x_10 → List.length (nPorts x) ≤ (100000 : Nat)) ∧ True) ∧ ((!b) = true → ((!b) = true → (!b) = true) ∧ True) ∧ ∀ (b_1 :
     Bool), b_1 = holdsV (x_10, x_11, x_12) (Int.tmod (IntKind.wrap IntKind.i64 x_1) (512 : Int)) (0 : Int) (IntKind.wrap IntKind.i64 x_3) (IntKind.wrap IntKind.i64 (IntKind.wrap IntKind.i64 x_3 +
     IntKind.wrap IntKind.i64 x_4)) → ((!b && b_1) = true → ((!b && b_1) = true → (!b && b_1) = true) ∧ ((!b && b_1) = true → (!b && b_1) = true) ∧ ((!b && b_1) = true → (!b && b_1) = true) ∧ ((!b && b_1)
     = true → (!b && b_1) = true) ∧ WN (x_10, x_11, x_12) ∧ (∀ (x : List (Int × Int) × Int × Int × Bool × List ((Int × Int) × List Int × Int) × Int × Int × Int × Int × Int × (Int × Int) × Bool × Bool × Int
     × Int), x ∈ x_10 → List.length (nPorts x) ≤ (100000 : Nat)) ∧ True) ∧ ((!b) = true → ((!b) = true → (!b) = true) ∧ (b_1 = true → (!b && b_1) = true) ∧ True) ∧ ((!b) = true → ((!b) = true → (!b) =
     true) ∧ True) ∧ ∀ (b_2 : Bool), (b_2 = bif b_1 then holdsV (x_10, x_11, x_12) (Int.tmod (IntKind.wrap IntKind.i64 x_2) (512 : Int)) (0 : Int) (IntKind.wrap IntKind.i64 (IntKind.wrap IntKind.i64 x_3 +
     IntKind.wrap IntKind.i64 x_4)) (IntKind.wrap IntKind.i64 (IntKind.wrap IntKind.i64 (IntKind.wrap IntKind.i64 x_3 + IntKind.wrap IntKind.i64 x_4) + IntKind.wrap IntKind.i64 x_5)) else false) → ((!b &&
     b_2) = true → ((!b && b_2) = true → (!b && b_2) = true) ∧ ((!b && b_2) = true → (!b && b_2) = true) ∧ ((!b && b_2) = true → (!b && b_2) = true) ∧ WN (x_10, x_11, x_12) ∧ (∀ (x : List (Int × Int) × Int
     × Int × Bool × List ((Int × Int) × List Int × Int) × Int × Int × Int × Int × Int × (Int × Int) × Bool × Bool × Int × Int), x ∈ x_10 → List.length (nPorts x) ≤ (100000 : Nat)) ∧ True) ∧ ((!b) = true →
     ((!b) = true → (!b) = true) ∧ (b_2 = true → (!b && b_2) = true) ∧ True) ∧ (b = false → (!b) = true) ∧ (bif b then true else bif b_2 then holdsV (x_10, x_11, x_12) (0 : Int) (0 : Int) (IntKind.wrap
     IntKind.i64 x_3) (IntKind.wrap IntKind.i64 (IntKind.wrap IntKind.i64 (IntKind.wrap IntKind.i64 x_3 + IntKind.wrap IntKind.i64 x_4) + IntKind.wrap IntKind.i64 x_5)) else false) = true) := by
  rintro cl a b f y m ⟨⟨hcl, hcw⟩, ⟨a0, a1⟩, ⟨b0, b1⟩, ⟨f0, f1⟩, ⟨y0, y1⟩, ⟨m0, m1⟩, -⟩ -
  rw [w64 (n := a) (by omega) (by omega), w64 (n := b) (by omega) (by omega), w64 (n := f) (by omega) (by omega), w64 (n := y) (by omega) (by omega), w64 (n := m) (by omega) (by omega), w64 (n := f + y) (by omega) (by omega), w64 (n := f + y + m) (by omega) (by omega)]
  refine ⟨by omega, ?_⟩
  rintro l p hc
  have hB : okB (l, p) := by rw [hc]; exact okB_new hcw
  refine ⟨hB.at', ?_⟩
  rintro z l1 p1 ⟨-, hz⟩
  have hB1 : okB (l1, p1) := by rw [hz]; exact (nextV_ok hB 2).1
  refine ⟨hB1.at', ?_⟩
  rintro ns ls hs l2 p2 ⟨hn, -⟩
  have D := net_dn hB1 (decide (z = 0))
  rw [← hn] at D
  have W := D.wn
  have hp : ∀ x ∈ ns, (nPorts x).length ≤ 100000 := fun x hx => by
    obtain ⟨i, hi, rfl⟩ := getD_of_mem hx
    have e := D.p i hi
    dsimp only at e
    rw [e]
    have := portsF_len i 0 ls
    have h10 := D.l10
    dsimp only at h10
    omega
  have hs' := D.s
  clear D hn
  have xa := tmod_lo (b := 512) a0
  have xb := tmod_hi (b := 512) a0 (by omega)
  have ya := tmod_lo (b := 512) b0
  have yb := tmod_hi (b := 512) b0 (by omega)
  generalize a.tmod 512 = x at xa xb ⊢
  generalize b.tmod 512 = y2 at ya yb ⊢
  have eo := holds_or (n := (ns, ls, hs)) (who := 0) xa xb ya yb (show f ≤ f + y + m by omega)
  refine ⟨by omega, by omega, W, hp, W, hp, ?_⟩
  intro c hc2
  (repeat refine ⟨fun h_ => (by first | ((repeat refine ⟨fun _ => h_, ?_⟩); exact ⟨W, hp, trivial⟩) | (simp; done) | (simp [h_]; done) | (simp_all; done)), ?_⟩)
  rw [hc2, eo]
  have e1 : (!((holdsV (ns, ls, hs) x 0 f (f + y + m) && holdsV (ns, ls, hs) y2 0 f (f + y + m)) == bif holdsV (ns, ls, hs) x 0 f (f + y + m) then holdsV (ns, ls, hs) y2 0 f (f + y + m) else false)) = false := by
    cases holdsV (ns, ls, hs) x 0 f (f + y + m) <;> cases holdsV (ns, ls, hs) y2 0 f (f + y + m) <;> rfl
  rw [e1]
  refine ifP_f.2 ?_
  intro b3 hb3
  (repeat refine ⟨fun h_ => (by first | ((repeat refine ⟨fun _ => h_, ?_⟩); exact ⟨W, hp, trivial⟩) | (simp; done) | (simp [h_]; done) | (simp_all; done)), ?_⟩)
  intro b4 hb4
  (repeat refine ⟨fun h_ => (by first | ((repeat refine ⟨fun _ => h_, ?_⟩); exact ⟨W, hp, trivial⟩) | (simp; done) | (simp [h_]; done) | (simp_all; done)), ?_⟩)
  intro b5 hb5
  (repeat refine ⟨fun h_ => (by first | ((repeat refine ⟨fun _ => h_, ?_⟩); exact ⟨W, hp, trivial⟩) | (simp; done) | (simp [h_]; done) | (simp_all; done)), ?_⟩)
  rw [hb5, hb4, hb3]
  cases h1 : holdsV (ns, ls, hs) x 0 f (f + y + m) with
  | false => rfl
  | true => cases h2 : holdsV (ns, ls, hs) y2 0 f (f + y + m) with
    | false => rfl
    | true =>
      rw [holds_sub hs' xa xb (Int.le_refl _) (by omega) (by omega) h1, holds_sub hs' ya yb (by omega) (by omega) (Int.le_refl _) h2, holds_zero (by omega)]; rfl
theorem ok_law16_TruthHolds : SpecOK Try.prog GL 6 ct_law16_TruthHolds.spec := Ct.okH _ Try.func6 (by kernel_rfl) (withSpec_ok (withSpec_ok (withSpec_ok (withSpec_ok (withSpec_ok noSpecs_ok ok_law16_awake) (Ct.named ok_draw_New)) (Ct.named ok_Nextx)) (Ct.named ok_draw_Codes_Net)) ok_truth_Holds) hmix an_law16_TruthHolds (hideMp (by kernel_rfl) vc_law16_TruthHolds)
end Go.RS

