/- Drawn: what holds of drawn networks: their nodes, links, routes and changes. -/
import Derived.Test.YtchnhaeknbgieaaGreatTopod
import Derived.Test.YtchnhaeknbgieaaGreatNetdraw
import Derived.Test.YtchnhaeknbgieaaGreatTruth3
import Derived.Test.YtchnhaeknbgieaaGreatNetg
namespace Go.RS
open Go.SX Go.Proofs
set_option maxRecDepth 100000
set_option linter.unusedVariables false

structure NP (i : Int) (x : Node) : Prop where
  own : nOwner x = 1 + i / 3
  loop : nLoop x = 0 ∨ nLoop x = 167903232 + i
  src : (nSource x = 1 ∨ nSource x = 2) ∨ (nSource x = 3 ∧ nLoop x = 167903232 + i) ∨ (nSource x = 4 ∧ 167837696 ≤ nFixed x)
  fix : nFixed x = 0 ∨ (167837696 ≤ nFixed x ∧ nFixed x < 167837736)
  id : (0 ≤ nID x ∧ nID x ≤ 5) ∧ (0 ≤ nBase x ∧ nBase x ≤ 65535) ∧ 0 ≤ nSpeed x ∧ nSpeed x ≤ 1000000
  lim : nLimit x = (0, 0) ∨ (1 ≤ (nLimit x).1 ∧ (nLimit x).1 ≤ 3 ∧ 1 ≤ (nLimit x).2 ∧ (nLimit x).2 ≤ 200)
  first : nFirst x = 64 ∨ nFirst x = 255 ∨ nFirst x = 128
  seed : 0 ≤ nSeed x ∧ nSeed x ≤ 255
theorem NP.new {i : Int} {host : Bool} {f sd : Int} (hf : f = 64 ∨ f = 255 ∨ f = 128) (h0 : 0 ≤ sd) (h1 : sd ≤ 255) : NP i (newNode i host f sd) :=
  ⟨rfl, .inl rfl, .inl (.inl rfl), .inl rfl, ⟨⟨by show (0 : Int) ≤ 0; decide, by show (0 : Int) ≤ 5; decide⟩, ⟨by show (0 : Int) ≤ 0; decide, by show (0 : Int) ≤ 65535; decide⟩, by show (0 : Int) ≤ 0; decide, by show (0 : Int) ≤ 1000000; decide⟩, .inl rfl, hf, h0, h1⟩
theorem NP.same {i : Int} {x y : Node} (h : NP i x) (e : x.2 = y.2) : NP i y := by
  obtain ⟨p, x⟩ := x
  obtain ⟨q, y⟩ := y
  cases e
  exact ⟨h.own, h.loop, h.src, h.fix, h.id, h.lim, h.first, h.seed⟩
theorem NP.routes {i : Int} {x y : Node} (h : NP i x) (e : setRoutes x [] = setRoutes y []) : NP i y := by
  have k : NP i (setRoutes x []) := ⟨h.own, h.loop, h.src, h.fix, h.id, h.lim, h.first, h.seed⟩
  rw [e] at k
  exact ⟨k.own, k.loop, k.src, k.fix, k.id, k.lim, k.first, k.seed⟩
theorem NP.way {i : Int} {x : Node} (h : NP i x) {c : Codes} (hc : okB c) : NP i (odWay x i c).1 := by
  have a := nextV_lt hc (n := 10) (by omega)
  have ca := (nextV_ok hc 10).1
  have b := nextV_lt ca (n := 3) (by omega)
  have cb := (nextV_ok ca 3).1
  have e := nextV_lt cb (n := 200) (by omega)
  have f := nextV_lt ca (n := 40) (by omega)
  unfold odWay
  dsimp only
  split
  · exact ⟨h.own, h.loop, h.src, h.fix, h.id, h.lim, h.first, h.seed⟩
  split
  · refine ⟨h.own, h.loop, h.src, h.fix, h.id, .inr ?_, h.first, h.seed⟩
    show 1 ≤ 1 + _ ∧ 1 + _ ≤ (3 : Int) ∧ 1 ≤ 1 + _ ∧ 1 + _ ≤ (200 : Int)
    omega
  split
  · exact ⟨h.own, h.loop, h.src, h.fix, h.id, h.lim, h.first, h.seed⟩
  split
  · exact ⟨h.own, h.loop, .inl (.inr rfl), h.fix, h.id, h.lim, h.first, h.seed⟩
  split
  · exact ⟨h.own, .inr rfl, .inr (.inl ⟨rfl, rfl⟩), h.fix, h.id, h.lim, h.first, h.seed⟩
  split
  · refine ⟨h.own, h.loop, .inr (.inr ⟨rfl, ?_⟩), .inr ⟨?_, ?_⟩, h.id, h.lim, h.first, h.seed⟩
    · show 167837696 ≤ 167837696 + _
      omega
    · show 167837696 ≤ 167837696 + _
      omega
    · show 167837696 + _ < 167837736
      omega
  · exact h
theorem NP.od {i : Int} {x : Node} (h : NP i x) {c : Codes} (hc : okB c) : NP i (odNode x i c).1 := by
  have k := h.way hc
  have kc := odWay_ok (x := x) (i := i) hc
  have a := nextV_lt kc (n := 6) (by omega)
  have ca := (nextV_ok kc 6).1
  have b := nextV_lt ca (n := 65536) (by omega)
  have cb := (nextV_ok ca 65536).1
  have e := nextV_lt cb (n := 1000) (by omega)
  refine ⟨k.own, k.loop, k.src, k.fix, ?_, k.lim, k.first, k.seed⟩
  show (0 ≤ (nextV (odWay x i c).2 6).1 ∧ (nextV (odWay x i c).2 6).1 ≤ 5) ∧ (0 ≤ (nextV (nextV (odWay x i c).2 6).2 65536).1 ∧ (nextV (nextV (odWay x i c).2 6).2 65536).1 ≤ 65535) ∧ 0 ≤ (nextV (nextV (nextV (odWay x i c).2 6).2 65536).2 1000).1 ∧ (nextV (nextV (nextV (odWay x i c).2 6).2 65536).2 1000).1 ≤ 1000000
  omega
theorem NP.opq {i : Int} {x : Node} (h : NP i x) (b : Bool) : NP i (odOpaque x b) := ⟨h.own, h.loop, h.src, h.fix, h.id, h.lim, h.first, h.seed⟩
def allNP (ns : List Node) : Prop := ∀ i : Nat, i < ns.length → NP i (ns.getD i default)
theorem allNP.set {ns : List Node} (h : allNP ns) {i : Nat} {x : Node} (hx : i < ns.length → NP i x) : allNP (ns.set i x) := fun j hj => by
  rw [List.length_set] at hj
  by_cases e : i = j
  · subst e; rw [getD_set hj]; exact hx hj
  · rw [getD_setne e]; exact h j hj
structure LK (l0 l : Link) : Prop where
  a : lA l = lA l0
  b : lB l = lB l0
  d : lDelay l = lDelay l0
  s : lSeed l = lSeed l0
  j : 0 ≤ lJitter l ∧ lJitter l ≤ 9
  o : 0 ≤ lLoss l ∧ lLoss l ≤ 65536
theorem LK.od {l0 l : Link} (h : LK l0 l) {c : Codes} (hc : okB c) : LK l0 (odLink l c).1 := by
  have a := nextV_lt hc (n := 6) (by omega)
  have ca := (nextV_ok hc 6).1
  have b := nextV_lt ca (n := 10) (by omega)
  have e := nextV_lt ca (n := 3) (by omega)
  unfold odLink
  dsimp only
  split
  · refine ⟨h.a, h.b, h.d, h.s, ?_, h.o⟩
    show 0 ≤ (nextV (nextV c 6).2 10).1 ∧ (nextV (nextV c 6).2 10).1 ≤ 9
    omega
  split
  · refine ⟨h.a, h.b, h.d, h.s, h.j, ?_⟩
    show 0 ≤ ([65536, 20000, 3] : List Int).getD (nextV (nextV c 6).2 3).1.toNat default ∧ ([65536, 20000, 3] : List Int).getD (nextV (nextV c 6).2 3).1.toNat default ≤ 65536
    rcases (show (nextV (nextV c 6).2 3).1 = 0 ∨ (nextV (nextV c 6).2 3).1 = 1 ∨ (nextV (nextV c 6).2 3).1 = 2 by omega) with e | e | e <;> rw [e] <;> decide
  · exact h
structure allLK (ls0 ls : List Link) : Prop where
  n : ls.length = ls0.length
  k : ∀ i : Nat, i < ls0.length → LK (ls0.getD i default) (ls.getD i default)
theorem allLK.set {ls0 ls : List Link} (h : allLK ls0 ls) {i : Nat} {x : Link} (hx : i < ls0.length → LK (ls0.getD i default) x) : allLK ls0 (ls.set i x) := by
  refine ⟨by rw [List.length_set]; exact h.n, fun j hj => ?_⟩
  by_cases e : i = j
  · subst e; rw [getD_set (by rw [h.n]; exact hj)]; exact hx hj
  · rw [getD_setne e]; exact h.k j hj
theorem allLK.mem {ls0 ls : List Link} (h : allLK ls0 ls) {l : Link} (hl : l ∈ ls) : ∃ l0 ∈ ls0, LK l0 l := by
  obtain ⟨i, hi, e⟩ := List.mem_iff_getElem.1 hl
  have := h.k i (by rw [← h.n]; exact hi)
  rw [List.getD_eq_getElem?_getD (l := ls), List.getElem?_eq_getElem hi, e] at this
  exact ⟨_, getD_memN (by rw [← h.n]; exact hi), this⟩
theorem allLK.lnk {ls0 ls : List Link} (h : allLK ls0 ls) {i k : Int} (hk : lnk ls0 i k) : lnk ls i k := by
  obtain ⟨k0, k1, k2⟩ := hk
  have e := h.k k.toNat (by omega)
  exact ⟨k0, by rw [h.n]; exact k1, by rw [e.a, e.b]; exact k2⟩
theorem portsF_congr (i : Int) : ∀ (k : Nat) (ls ls' : List Link), ls'.length = ls.length → (∀ j : Nat, j < ls.length → lA (ls'.getD j default) = lA (ls.getD j default) ∧ lB (ls'.getD j default) = lB (ls.getD j default)) → portsF i k ls' = portsF i k ls
  | k, [], [], _, _ => rfl
  | k, x :: r, [], h, _ => by cases h
  | k, [], x :: r, h, _ => by cases h
  | k, x :: r, y :: t, h, e => by
    have e0 := e 0 (by simp)
    rw [List.getD_cons_zero, List.getD_cons_zero] at e0
    rw [portsF, portsF, port1, port1, e0.1, e0.2, portsF_congr i (k + 1) r t (by simpa using h) fun j hj => by
      have := e (j + 1) (by simp; omega)
      rw [List.getD_cons_succ, List.getD_cons_succ] at this; exact this]
theorem allLK.portsF {ls0 ls : List Link} (h : allLK ls0 ls) (i : Int) (k : Nat) : portsF i k ls = Go.RS.portsF i k ls0 :=
  portsF_congr i k ls0 ls h.n fun j hj => ⟨(h.k j hj).a, (h.k j hj).b⟩
theorem tabOK.lk {ls0 ls : List Link} (h : allLK ls0 ls) {aa : List Int} {i : Int} {t : List Rt} (k : tabOK ls0 aa i t) : tabOK ls aa i t :=
  ⟨k.1, fun r hr => by
    have q := k.2 r hr
    exact ⟨q.len, q.mem, q.ne, q.pw, fun x hx => h.lnk (q.ln x hx), q.w0, q.w1⟩⟩
structure CH (ns : List Node) (c : Change) : Prop where
  at' : 0 ≤ hAt c ∧ hAt c ≤ 180
  w : 0 ≤ hWho c ∧ hWho c < ns.length
  r : hRem c = false
  p : ∃ r ∈ nRoutes (ns.getD (hWho c).toNat default), (hRoute c).1 = r.1 ∧ (hRoute c).2.2 = r.2.2
  x : (hRoute c).2.1 = [] ∨ ∃ q ∈ nPorts (ns.getD (hWho c).toNat default), (hRoute c).2.1 = [q.2]
def aaF : List Int := (List.range 10).flatMap fun (k : Nat) => [baseA k + 1, baseA k + 2]
theorem mem_aaF {a : Int} {k : Nat} (hk : k < 10) (h : a = baseA k + 1 ∨ a = baseA k + 2) : a ∈ aaF := by
  refine List.mem_flatMap.2 ⟨k, List.mem_range.2 hk, ?_⟩
  rcases h with h | h <;> rw [h] <;> simp
theorem tabOK.sub {ls : List Link} {aa bb : List Int} {i : Int} {t : List Rt} (h : tabOK ls aa i t) (hs : ∀ a ∈ aa, a ∈ bb) : tabOK ls bb i t :=
  ⟨h.1, fun r hr => by
    have q := h.2 r hr
    exact ⟨q.len, hs _ q.mem, q.ne, q.pw, q.ln, q.w0, q.w1⟩⟩
structure DN (n : Net) : Prop where
  n3 : 3 ≤ n.1.length
  n7 : n.1.length ≤ 7
  l2 : 2 ≤ n.2.1.length
  l10 : n.2.1.length ≤ 10
  h3 : n.2.2.length ≤ 3
  g : ∀ x ∈ n.2.1, (0 ≤ lA x ∧ lA x < n.1.length) ∧ (0 ≤ lB x ∧ lB x < n.1.length) ∧ lA x ≠ lB x ∧ (1 ≤ lDelay x ∧ lDelay x ≤ 20) ∧ (0 ≤ lJitter x ∧ lJitter x ≤ 9) ∧ (0 ≤ lLoss x ∧ lLoss x ≤ 65536) ∧ 0 ≤ lSeed x ∧ lSeed x ≤ 255
  p : ∀ i : Nat, i < n.1.length → nPorts (n.1.getD i default) = portsF i 0 n.2.1
  d : allNP n.1
  t : ∀ i : Nat, i < n.1.length → tabOK n.2.1 aaF i (nRoutes (n.1.getD i default))
  o : ∀ x ∈ n.2.1, deafL n.1 x = false
  c : ∀ x ∈ n.2.2, CH n.1 x
  s : n.2.2.Pairwise fun a b => hAt a ≤ hAt b
theorem oN_np {s : Scene} (h : allNP s.1.1) (hc : okB s.2) : ∀ {i : Nat}, i ≤ s.1.1.length → allNP (oN s i).1
  | 0, _ => h
  | i + 1, hi => by
    have k := oN_np h hc (i := i) (by omega)
    have b := (oN_ok s hc (i := i) (by omega)).2
    rw [show ((i + 1 : Nat) : Int) = (i : Int) + 1 by omega, oN_next s (by omega)]
    unfold odNodes
    refine k.set fun hl => ?_
    have e : ((i : Int).toNat : Nat) = i := by omega
    rw [e] at hl ⊢
    exact (k i hl).od b
theorem clear_np {ns : List Node} (h : allNP ns) {l : Link} (hl : 0 ≤ lB l) : allNP (odClear ns l) := by
  unfold odClear
  split
  · exact h.set fun hi => (h _ hi).opq _
  · exact h
theorem clear_deaf {ns : List Node} {l : Link} (hb : 0 ≤ lB l ∧ lB l < ns.length) : deafL (odClear ns l) l = false := by
  unfold odClear
  split
  · unfold deafL
    rw [getD_set (by omega)]
    exact Bool.and_false _
  · rename_i h
    unfold deafL
    cases h1 : nOpaque (ns.getD (lA l).toNat default) <;> cases h2 : nOpaque (ns.getD (lB l).toNat default) <;> simp_all
theorem clear_keep {ns : List Node} {l m : Link} (h : deafL ns m = false) : deafL (odClear ns l) m = false := by
  unfold odClear
  split
  · have set_op : ∀ (i j : Nat), nOpaque (ns.getD j default) = false → nOpaque ((ns.set i (odOpaque (ns.getD i default) false)).getD j default) = false := fun i j hj => by
      by_cases e : i = j
      · subst e
        by_cases hl : i < ns.length
        · rw [getD_set hl]; rfl
        · rw [List.set_eq_of_length_le (by omega)]; exact hj
      · rw [getD_setne e]; exact hj
    unfold deafL at h ⊢
    rw [Bool.and_eq_false_iff] at h ⊢
    exact h.imp (set_op _ _) (set_op _ _)
  · exact h
theorem deafL_lk {ns : List Node} {l m : Link} (ha : lA l = lA m) (hb : lB l = lB m) : deafL ns l = deafL ns m := by unfold deafL; rw [ha, hb]
structure OLI (s : Scene) (i : Nat) : Prop where
  np : allNP (oL s i).1.1
  lk : allLK s.1.2.1 (oL s i).1.2
  df : ∀ k : Nat, k < i → deafL (oL s i).1.1 (s.1.2.1.getD k default) = false
theorem oL_inv {s : Scene} (h : allNP s.1.1) (hc : okB s.2) (hg : goodEnds s.1.1.length s.1.2.1) (hl : allLK s.1.2.1 s.1.2.1) : ∀ {i : Nat}, i ≤ s.1.2.1.length → OLI s i
  | 0, _ => ⟨oN_np h hc (Nat.le_refl _), hl, fun k hk => by omega⟩
  | i + 1, hi => by
    have k := oL_inv h hc hg hl (i := i) (by omega)
    obtain ⟨ag, cb, ge, ll⟩ := oL_ok s hc hg (i := i) (by omega)
    have hb := hg.at' (k := i) (by omega)
    have e : ((i : Int).toNat : Nat) = i := by omega
    have lk1 := (k.lk.k i (by omega)).od cb
    have hn := ag.n
    have step : oL s ((i + 1 : Nat) : Int) = odLinks (oL s i) i := by
      rw [show ((i + 1 : Nat) : Int) = (i : Int) + 1 by omega, oL_next s (by omega), e]
    have fin : OLI s (i + 1) := by
      refine ⟨?_, ?_, fun j hj => ?_⟩
      · rw [step]; unfold odLinks; dsimp only
        refine clear_np k.np ?_
        rw [lk1.b]; exact hb.2.1
      · rw [step]; unfold odLinks; dsimp only
        exact k.lk.set fun _ => lk1
      · rw [step]; unfold odLinks; dsimp only
        by_cases q : j = i
        · subst q
          rw [← deafL_lk (l := (odLink ((oL s j).1.2.getD j default) (oL s j).2).1) lk1.a lk1.b]
          refine clear_deaf ?_
          rw [lk1.b, hn]; exact hb.2
        · exact clear_keep (k.df j (by omega))
    exact fin
structure OCI (ns : List Node) (m : Nat) (x : List Change × Int × Codes) : Prop where
  c : okB x.2.2
  a : 0 ≤ x.2.1 ∧ x.2.1 ≤ 60 * m
  n : x.1.length ≤ m
  h : ∀ y ∈ x.1, CH ns y ∧ hAt y ≤ x.2.1
  s : x.1.Pairwise fun a b => hAt a ≤ hAt b
theorem OCI.next {ns : List Node} {m : Nat} {x : List Change × Int × Codes} (h : OCI ns m x) (hm : m < 3) (h0 : 0 < ns.length) (hp : ∀ x ∈ ns, nRoutes x ≠ [] → 0 < (nPorts x).length) : OCI ns (m + 1) (odChange ns x) := by
  have a := nextV_lt h.c (n := 60) (by omega)
  have k1 := (nextV_ok h.c 60).1
  have w := nextV_lt k1 (n := (ns.length : Int)) (by omega)
  have k2 := (nextV_ok k1 (ns.length : Int)).1
  have ha := h.a
  have hn := h.n
  unfold odChange
  dsimp only
  have hX := getD_mem (xs := ns) w.1 w.2
  generalize eX : ns.getD (nextV (nextV x.2.2 60).2 (ns.length : Int)).1.toNat default = X at hX ⊢
  split
  · refine ⟨k2, ?_, ?_, fun y hy => ⟨(h.h y hy).1, ?_⟩, h.s⟩
    · show 0 ≤ x.2.1 + _ ∧ x.2.1 + _ ≤ 60 * ((m + 1 : Nat) : Int)
      omega
    · show x.1.length ≤ m + 1
      omega
    · have := (h.h y hy).2
      show hAt y ≤ x.2.1 + _
      omega
  · rename_i hr
    have hr' : nRoutes X ≠ [] := fun e => hr (by rw [e]; rfl)
    have q3 := nextV_lt k2 (n := ((nRoutes X).length : Int)) (by omega)
    have b3 := (nextV_ok k2 ((nRoutes X).length : Int)).1
    have hpp := hp X hX hr'
    have q4 := nextV_lt b3 (n := ((nPorts X).length : Int)) (by omega)
    have b4 := (nextV_ok b3 ((nPorts X).length : Int)).1
    have b5 := (nextV_ok b4 4).1
    refine ⟨b5, ?_, ?_, fun y hy => ?_, ?_⟩
    · show 0 ≤ x.2.1 + _ ∧ x.2.1 + _ ≤ 60 * ((m + 1 : Nat) : Int)
      omega
    · show (x.1 ++ [_]).length ≤ m + 1
      rw [List.length_append, List.length_singleton]; omega
    · rcases List.mem_append.1 hy with hy | hy
      · refine ⟨(h.h y hy).1, ?_⟩
        have := (h.h y hy).2
        show hAt y ≤ x.2.1 + _
        omega
      · rw [List.mem_singleton.1 hy]
        refine ⟨⟨?_, w, rfl, ?_, ?_⟩, Int.le_refl _⟩
        · show 0 ≤ x.2.1 + _ ∧ x.2.1 + _ ≤ 180
          omega
        · refine ⟨(nRoutes X).getD (nextV (nextV (nextV x.2.2 60).2 (ns.length : Int)).2 ((nRoutes X).length : Int)).1.toNat default, ?_, rfl, rfl⟩
          show _ ∈ nRoutes (ns.getD (nextV (nextV x.2.2 60).2 (ns.length : Int)).1.toNat default)
          rw [eX]
          exact getD_mem q3.1 q3.2
        · by_cases hz : (nextV (nextV (nextV (nextV (nextV x.2.2 60).2 (ns.length : Int)).2 ((nRoutes X).length : Int)).2 ((nPorts X).length : Int)).2 4).1 = 3
          · exact .inl (if_pos hz)
          · refine .inr ⟨(nPorts X).getD (nextV (nextV (nextV (nextV x.2.2 60).2 (ns.length : Int)).2 ((nRoutes X).length : Int)).2 ((nPorts X).length : Int)).1.toNat default, ?_, if_neg hz⟩
            show _ ∈ nPorts (ns.getD (nextV (nextV x.2.2 60).2 (ns.length : Int)).1.toNat default)
            rw [eX]
            exact getD_mem q4.1 q4.2
    · refine List.pairwise_append.2 ⟨h.s, List.pairwise_singleton _ _, fun y hy z hz => ?_⟩
      have := (h.h y hy).2
      rw [List.mem_singleton.1 hz]
      show hAt y ≤ x.2.1 + _
      omega
theorem getD_of_mem {α : Type} [Inhabited α] {l : List α} {x : α} (h : x ∈ l) : ∃ i : Nat, i < l.length ∧ l.getD i default = x := by
  obtain ⟨i, hi, e⟩ := List.mem_iff_getElem.1 h
  exact ⟨i, hi, by rw [List.getD_eq_getElem?_getD, List.getElem?_eq_getElem hi, e]; rfl⟩
theorem RS.np {s r : Scene} {nn nl : Nat} (h : RS s nn nl r) : allNP r.1.1 := fun i hi => by
  have hi' : i < nn := by have := h.i.n; have := h.g.n; omega
  obtain ⟨host, f, sd, hd, hf, h0, h1⟩ := h.g.d i hi'
  have e := h.i.e i (by rw [h.g.n]; exact hi')
  exact NP.routes (NP.same (NP.new (host := host) hf h0 h1) hd.symm) e.symm
theorem RS.opq {s r : Scene} {nn nl : Nat} (h : RS s nn nl r) {i : Nat} (hi : i < nn) : nOpaque (r.1.1.getD i default) = false := by
  obtain ⟨host, f, sd, hd, -⟩ := h.g.d i hi
  have e := congrArg nOpaque (h.i.e i (by rw [h.g.n]; exact hi))
  have e2 : nOpaque (s.1.1.getD i default) = nOpaque (newNode i host f sd) := congrArg (fun z => nOpaque (([] : List (Int × Int)), z)) hd
  exact e.trans e2
theorem RS.adr {s r : Scene} {nn nl : Nat} (h : RS s nn nl r) (hl : nl ≤ 10) : ∀ a ∈ allA s.1.1, a ∈ aaF := fun a ha => by
  unfold allA at ha
  obtain ⟨x, hx, ha⟩ := List.mem_flatMap.1 ha
  obtain ⟨q, hq, rfl⟩ := List.mem_map.1 ha
  obtain ⟨i, hi, rfl⟩ := getD_of_mem hx
  rw [h.g.p i (by rw [← h.g.n]; exact hi)] at hq
  obtain ⟨j, hj, e⟩ := mem_portsF.1 hq
  rw [h.g.l] at hj
  rw [Nat.zero_add] at e
  rcases e with ⟨-, rfl⟩ | ⟨-, rfl⟩
  · exact mem_aaF (k := j) (by omega) (.inl rfl)
  · exact mem_aaF (k := j) (by omega) (.inr rfl)
theorem RS.links {s r : Scene} {nn nl : Nat} (h : RS s nn nl r) : r.1.2.1 = s.1.2.1 := congrArg Prod.fst h.l
theorem RS.lk {s r : Scene} {nn nl : Nat} (h : RS s nn nl r) : allLK r.1.2.1 r.1.2.1 := ⟨rfl, fun i hi => by
  rw [h.links] at hi ⊢
  have := h.g.g _ (getD_memN hi)
  exact ⟨rfl, rfl, rfl, rfl, by omega, by omega⟩⟩
theorem RS.dn {s r : Scene} {nn nl : Nat} (h : RS s nn nl r) (n3 : 3 ≤ nn) (n7 : nn ≤ 7) (l2 : 2 ≤ nl) (l10 : nl ≤ 10) : DN r.1 := by
  have rn : r.1.1.length = nn := h.i.n.trans h.g.n
  have rl := h.links
  have rh : r.1.2.2 = [] := (congrArg Prod.snd h.l).trans h.g.h
  refine ⟨by omega, by omega, by rw [rl, h.g.l]; exact l2, by rw [rl, h.g.l]; exact l10, by rw [rh]; exact Nat.zero_le _, fun x hx => ?_, fun i hi => ?_, h.np, fun i hi => ?_, fun x hx => ?_, fun x hx => ?_, ?_⟩
  · rw [rl] at hx
    have := h.g.g x hx
    rw [rn]; omega
  · rw [rl]; exact h.ports (by omega)
  · rw [rl]; exact (h.tab (by omega)).sub (h.adr l10)
  · rw [rl] at hx
    have g := h.g.g x hx
    unfold deafL
    rw [h.opq (i := (lA x).toNat) (by omega)]; rfl
  · rw [rh] at hx; cases hx
  · rw [rh]; exact List.Pairwise.nil
theorem oC_inv {s : Scene} (h : okB s.2) (hg : goodEnds s.1.1.length s.1.2.1) (h0 : 0 < s.1.1.length) (hp : ∀ x ∈ (oL s s.1.2.1.length).1.1, nRoutes x ≠ [] → 0 < (nPorts x).length) : ∀ i : Nat, i ≤ 3 → OCI (oL s s.1.2.1.length).1.1 i (oC s i)
  | 0, _ => ⟨(nextV_ok (oL_ok s h hg (Int.le_refl _)).2.1 4).1, ⟨Int.le_refl _, Int.le_refl _⟩, Nat.le_refl _, fun y hy => (by cases hy), List.Pairwise.nil⟩
  | i + 1, hi => by
    rw [oC_next]
    exact (oC_inv h hg h0 hp i (by omega)).next (by omega) (by rw [(oL_ok s h hg (Int.le_refl _)).1.n]; exact h0) hp
theorem RS.odd {s r : Scene} {nn nl : Nat} (h : RS s nn nl r) (n3 : 3 ≤ nn) (n7 : nn ≤ 7) (l2 : 2 ≤ nl) (l10 : nl ≤ 10) : DN (oddS r).1 := by
  have rn : r.1.1.length = nn := h.i.n.trans h.g.n
  have rl := h.links
  have pre := h.preO (by omega) (by omega) (by omega)
  have ok := oL_ok r h.c pre.g (i := r.1.2.1.length) (Int.le_refl _)
  have inv := oL_inv h.np h.c pre.g h.lk (i := r.1.2.1.length) (Nat.le_refl _)
  have ag := ok.1
  have e : (oddS r).1 = ((oL r r.1.2.1.length).1.1, (oL r r.1.2.1.length).1.2, (oC r (oK r).toNat).1) := by
    unfold oddS oC oK oL oN
    rfl
  have kk := nextV_lt ok.2.1 (n := 4) (by omega)
  have hp : ∀ x ∈ (oL r r.1.2.1.length).1.1, nRoutes x ≠ [] → 0 < (nPorts x).length := fun x hx hr => by
    obtain ⟨i, hi, rfl⟩ := getD_of_mem hx
    have q := ag.e i (by rw [← ag.n]; exact hi)
    rw [q.1]
    rw [q.2] at hr
    exact (pre.p _ (getD_memN (by rw [← ag.n]; exact hi)) hr).1
  have oc := oC_inv h.c pre.g pre.n0 hp (oK r).toNat (by unfold oK; omega)
  rw [e]
  have ln : (oL r r.1.2.1.length).1.1.length = nn := ag.n.trans rn
  have ll : (oL r r.1.2.1.length).1.2.length = nl := by rw [inv.lk.n, rl, h.g.l]
  refine ⟨by rw [ln]; exact n3, by rw [ln]; exact n7, by rw [ll]; exact l2, by rw [ll]; exact l10, ?_, fun x hx => ?_, fun i hi => ?_, inv.np, fun i hi => ?_, fun x hx => ?_, fun x hx => (oc.h x hx).1, oc.s⟩
  · have := oc.n
    have : (oK r).toNat ≤ 3 := by unfold oK; omega
    dsimp only
    omega
  · obtain ⟨l0, hl0, k⟩ := inv.lk.mem hx
    rw [rl] at hl0
    have g := h.g.g l0 hl0
    have ka := k.a; have kb := k.b; have kd := k.d; have ks := k.s; have kj := k.j; have ko := k.o
    rw [ln, ka, kb, kd, ks]
    omega
  · dsimp only at hi ⊢
    rw [(ag.e i (by omega)).1, h.ports (by omega), inv.lk.portsF, rl]
  · dsimp only at hi ⊢
    rw [(ag.e i (by omega)).2]
    refine tabOK.sub (tabOK.lk inv.lk ?_) (h.adr l10)
    rw [rl]
    exact h.tab (by omega)
  · dsimp only at hx ⊢
    obtain ⟨i, hi, rfl⟩ := getD_of_mem hx
    have hi' : i < r.1.2.1.length := by rw [← inv.lk.n]; exact hi
    have k := inv.lk.k i hi'
    rw [deafL_lk k.a k.b]
    exact inv.df i hi'
theorem net_dn {c : Codes} (h : okB c) (plain : Bool) : DN (netV plain c) := by
  have hn := lineN_ok h
  obtain ⟨m, m2, m10, G⟩ := net_ok h plain
  have R := G.rs plain
  unfold netV netS
  cases plain with
  | true => exact R.dn (by omega) (by omega) m2 m10
  | false => exact R.odd (by omega) (by omega) m2 m10
theorem net_codes {c : Codes} (h : okB c) (plain : Bool) : okB (netC plain c) := by
  obtain ⟨m, m2, m10, G⟩ := net_ok h plain
  have R := G.rs plain
  unfold netC netS
  cases plain with
  | true => exact R.c
  | false =>
    have hn := lineN_ok h
    have pre := R.preO (by omega) (by omega) (by omega)
    exact (oC_ok _ R.c pre.g _).1
end Go.RS


/- Drawn2: drawn networks have no error; who has an address; routes. -/
namespace Go.RS
open Go.SX Go.Proofs
set_option maxRecDepth 100000
set_option linter.unusedVariables false

theorem okB_new {l : List Int} {m : Int} (h : ∀ x ∈ l, 0 ≤ x ∧ x ≤ 255) : okB (if (l.length : Int) ≤ m then l else l.take m.toNat, 0) := by
  refine ⟨⟨Int.le_refl _, by dsimp only; omega⟩, fun x hx => ?_⟩
  dsimp only at hx
  split at hx
  · exact h x hx
  · exact h x (List.mem_of_mem_take hx)
theorem DN.port {n : Net} (h : DN n) {i : Nat} (hi : i < n.1.length) {q : Port} : q ∈ nPorts (n.1.getD i default) ↔ ∃ j : Nat, j < n.2.1.length ∧ ((lA (n.2.1.getD j default) = i ∧ q = (baseA j + 1, (j : Int))) ∨ (lB (n.2.1.getD j default) = i ∧ q = (baseA j + 2, (j : Int)))) := by
  rw [h.p i hi, mem_portsF]; simp only [Nat.zero_add]
theorem DN.links {n : Net} (h : DN n) {i : Nat} (hi : i < n.1.length) {k : Int} : k ∈ pLinks (n.1.getD i default) ↔ lnk n.2.1 i k := by
  unfold pLinks lnk
  rw [List.mem_map]
  constructor
  · rintro ⟨q, hq, rfl⟩
    obtain ⟨j, hj, e⟩ := (h.port hi).1 hq
    rcases e with ⟨e, rfl⟩ | ⟨e, rfl⟩
    · exact ⟨by dsimp only; omega, by dsimp only; omega, .inl (by simpa using e)⟩
    · exact ⟨by dsimp only; omega, by dsimp only; omega, .inr (by simpa using e)⟩
  · rintro ⟨k0, k1, e⟩
    have ek : ((k.toNat : Nat) : Int) = k := by omega
    rcases e with e | e
    · exact ⟨_, (h.port hi).2 ⟨k.toNat, by omega, .inl ⟨e, rfl⟩⟩, ek⟩
    · exact ⟨_, (h.port hi).2 ⟨k.toNat, by omega, .inr ⟨e, rfl⟩⟩, ek⟩
theorem DN.uniq {n : Net} (h : DN n) {i j : Nat} (hi : i < n.1.length) (hj : j < n.1.length) {q p : Port} (hq : q ∈ nPorts (n.1.getD i default)) (hp : p ∈ nPorts (n.1.getD j default)) (e : q.1 = p.1) : i = j ∧ q.2 = p.2 := by
  obtain ⟨a, ha, ea⟩ := (h.port hi).1 hq
  obtain ⟨b, hb, eb⟩ := (h.port hj).1 hp
  unfold baseA at ea eb
  rcases ea with ⟨ea, rfl⟩ | ⟨ea, rfl⟩ <;> rcases eb with ⟨eb, rfl⟩ | ⟨eb, rfl⟩ <;> dsimp only at e ⊢
  · have : a = b := by omega
    subst this; omega
  · omega
  · omega
  · have : a = b := by omega
    subst this; omega
theorem DN.padr {n : Net} (h : DN n) {i : Nat} (hi : i < n.1.length) {a : Int} (ha : a ∈ pAddrs (n.1.getD i default)) : 167837697 ≤ a ∧ a ≤ 167837734 := by
  obtain ⟨q, hq, rfl⟩ := List.mem_map.1 ha
  obtain ⟨b, hb, eb⟩ := (h.port hi).1 hq
  have := h.l10
  unfold baseA at eb
  rcases eb with ⟨eb, rfl⟩ | ⟨eb, rfl⟩ <;> dsimp only <;> omega
theorem DN.loop {n : Net} (h : DN n) {i : Nat} (hi : i < n.1.length) : nLoop (n.1.getD i default) = 0 ∨ nLoop (n.1.getD i default) = 167903232 + i := (h.d i hi).loop
theorem mem_adrs {x : Node} {a : Int} : a ∈ adrs x ↔ a ∈ pAddrs x ∨ (nLoop x ≠ 0 ∧ a = nLoop x) := by
  unfold adrs
  rw [List.mem_append]
  by_cases e : nLoop x = 0
  · rw [if_pos e]; simp [e]
  · rw [if_neg e]; simp [e]
theorem DN.apart {n : Net} (h : DN n) {i j : Nat} (hi : i < n.1.length) (hj : j < n.1.length) {a : Int} (ha : a ∈ adrs (n.1.getD i default)) (hb : a ∈ adrs (n.1.getD j default)) : i = j := by
  rw [mem_adrs] at ha hb
  have li := h.loop hi
  have lj := h.loop hj
  rcases ha with ha | ha <;> rcases hb with hb | hb
  · obtain ⟨q, hq, e⟩ := List.mem_map.1 ha
    obtain ⟨p, hp, e2⟩ := List.mem_map.1 hb
    exact (h.uniq hi hj hq hp (e.trans e2.symm)).1
  · have := h.padr hi ha; omega
  · have := h.padr hj hb; omega
  · omega
theorem tab20 {ls : List Link} {i : Int} {t : List Rt} (h : tabOK ls aaF i t) : t.length ≤ 20 := tabOK_len h
theorem DN.okNet {n : Net} (h : DN n) : okNet n := by
  refine ⟨fun x hx => ?_, by have := h.h3; omega, fun c hc => ?_⟩
  · obtain ⟨i, hi, rfl⟩ := getD_of_mem hx
    have t := h.t i hi
    have := tab20 t
    refine ⟨t.1, by omega, fun r hr => ?_⟩
    have := rtOK_len (t.2 r hr)
    have := h.l10
    omega
  · rcases (h.c c hc).x with e | ⟨q, -, e⟩ <;> rw [e] <;> simp
theorem other_a {ls : List Link} {k : Int} (k0 : 0 ≤ k) (k1 : k < ls.length) : otherV ls k (lA (ls.getD k.toNat default)) = lB (ls.getD k.toNat default) := by
  unfold otherV; rw [if_neg (by omega), if_pos rfl]
theorem other_b {ls : List Link} {k : Int} (k0 : 0 ≤ k) (k1 : k < ls.length) (hn : lA (ls.getD k.toNat default) ≠ lB (ls.getD k.toNat default)) : otherV ls k (lB (ls.getD k.toNat default)) = lA (ls.getD k.toNat default) := by
  unfold otherV; rw [if_neg (by omega), if_neg (fun e => hn e.symm), if_pos rfl]
theorem routes_steady {n : Net} {who s t : Int} (hst : s ≤ t) (h : n.2.2.any (between s t) = false) : routesV n who s = routesV n who t := by
  have hc : ∀ c ∈ n.2.2, (hAt c ≤ s ↔ hAt c ≤ t) := fun c hc => by
    have := List.any_eq_false.1 h c hc
    unfold between at this
    have := of_decide_eq_false (Bool.eq_false_iff.2 this)
    omega
  unfold routesV routesK
  have e : ∀ (l : List Change) (r : List Rt), (∀ c ∈ l, (hAt c ≤ s ↔ hAt c ≤ t)) → l.foldl (stepC who s) r = l.foldl (stepC who t) r := by
    intro l
    induction l with
    | nil => intro r _; rfl
    | cons c l ih =>
      intro r hl
      have q := hl c List.mem_cons_self
      have e : stepC who s r c = stepC who t r c := by
        unfold stepC
        by_cases k : hWho c = who ∧ hAt c ≤ s
        · rw [if_pos k, if_pos ⟨k.1, q.1 k.2⟩]
        · rw [if_neg k, if_neg fun z => k ⟨z.1, q.2 z.2⟩]
      rw [List.foldl_cons, List.foldl_cons, e]
      exact ih _ fun x hx => hl x (List.mem_cons_of_mem _ hx)
  split
  · rfl
  · exact e _ _ fun c hc' => hc c (List.mem_of_mem_take hc')
theorem mem_chV {l : List Rt} {c : Change} {r : Rt} (h : r ∈ chV l c) : r = hRoute c ∨ r ∈ l := by
  unfold chV at h
  split at h
  · exact .inr (List.mem_filter.1 h).1
  · rcases putL_mem.1 h with h | h
    · exact .inl h
    · exact .inr h.1
theorem routes_all {n : Net} {who at' : Int} (w0 : 0 ≤ who) (w1 : who < n.1.length) {P : Rt → Prop} (h0 : ∀ r ∈ nRoutes (n.1.getD who.toNat default), P r) (hc : ∀ c ∈ n.2.2, hWho c = who → P (hRoute c)) : ∀ r ∈ routesV n who at', P r := by
  unfold routesV routesK
  rw [if_neg (by omega)]
  have e : ∀ (l : List Change) (t : List Rt), (∀ c ∈ l, hWho c = who → P (hRoute c)) → (∀ r ∈ t, P r) → ∀ r ∈ l.foldl (stepC who at') t, P r := by
    intro l
    induction l with
    | nil => intro t _ h; exact h
    | cons c l ih =>
      intro t hl ht
      rw [List.foldl_cons]
      refine ih _ (fun x hx => hl x (List.mem_cons_of_mem _ hx)) fun r hr => ?_
      unfold stepC at hr
      split at hr
      · rename_i q
        rcases mem_chV hr with rfl | hr
        · exact hl c List.mem_cons_self q.1
        · exact ht r hr
      · exact ht r hr
  exact e _ _ (fun c hc' => hc c (List.mem_of_mem_take hc')) h0
theorem DN.next {n : Net} (h : DN n) {who at' : Int} (w0 : 0 ≤ who) (w1 : who < n.1.length) : ∀ r ∈ routesV n who at', ∀ k ∈ r.2.1, lnk n.2.1 who k := by
  have ew : ((who.toNat : Nat) : Int) = who := by omega
  refine routes_all w0 w1 (fun r hr k hk => ?_) (fun c hc hw k hk => ?_)
  · have := ((h.t who.toNat (by omega)).2 r hr).ln k hk
    rw [ew] at this; exact this
  · have q := (h.c c hc).x
    rw [hw] at q
    rcases q with e | ⟨q, hq, e⟩
    · rw [e] at hk; cases hk
    · rw [e] at hk
      rw [List.mem_singleton.1 hk]
      have := (h.links (i := who.toNat) (by omega)).1 (List.mem_map.2 ⟨q, hq, rfl⟩)
      rw [ew] at this; exact this
theorem DN.other {n : Net} (h : DN n) {who k : Int} (hk : lnk n.2.1 who k) : 0 ≤ otherV n.2.1 k who ∧ otherV n.2.1 k who < n.1.length := by
  obtain ⟨k0, k1, e⟩ := hk
  have g := h.g _ (getD_mem k0 k1)
  rcases e with e | e
  · rw [← e, other_a k0 k1]; exact g.2.1
  · rw [← e, other_b k0 k1 g.2.2.1]; exact g.1
end Go.RS


/- Drawsome: an address of a network, drawn. -/
namespace Go.RS
open Go.SX Go.Proofs
set_option maxRecDepth 100000
set_option linter.unusedVariables false

def ct_draw_Codes_Some : Cn := ⟨[.box 62 cCodes, .agg cNet], [.val cU32], fun d => [okC d.1], fun d y => okC y.2.1 ∧ 0 ≤ y.1.1 ∧ y.1.1 ≤ 4294967295, fun d h => ⟨((0, ()), (d.1, ())), h.1, by simp, by simp⟩⟩
def an_draw_Codes_Some : PDs ct_draw_Codes_Some.ps → Anns := (fun _ => {})
theorem vc_draw_Codes_Some : ∀ (x : List Int) (x1 : Int) (x2 : List Node) (x3 : List Link) (x4 : List Change), ((x.length <= maxLen /\ ∀ (x5 : Int), x5 ∈ x -> 0 <= x5 /\ x5 <= 255) /\ R64 x1) /\ ((x2.length <= maxLen /\ ∀ (x : Node), x ∈ x2 -> CT.wf cNode x) /\ (x3.length <= maxLen /\ ∀ (x : Link), x ∈ x3 -> CT.wf cLink x) /\ x4.length <= maxLen /\ ∀ (x : Change), x ∈ x4 -> CT.wf cChange x) /\ True -> 0 <= x1 /\ x1 <= (x.length : Int) -> ifP (decide ((x2.length : Int) = 0)) (okC (x, x1) /\ ∀ (x : Int) (x5 : List Int) (x6 : Int), okC (x5, x6) /\ 0 <= x /\ x <= 4294967295 -> okC (x5, x6) /\ 0 <= x /\ x <= 4294967295) (okC (x, x1) /\ ∀ (x : Int) (x5 : List Int) (x6 : Int), 0 <= x /\ (x < (x2.length : Int) ∨ x = 0) /\ okC (x5, x6) -> 0 <= x /\ x < (x2.length : Int) /\ ∀ (b : Bool), b = decide (((List.length (x2.getD x.toNat default).1) : Int) = 0) -> ifP (!b) (((!b) -> (!b)) /\ okC (x5, x6)
 /\ ∀ (x7 : Int) (x8 : List Int) (x9 : Int), 0 <= x7 /\ (x7 < 12 ∨ x7 = 0) /\ okC (x8, x9) -> (b = false -> (!b)) /\ ifP (bif b then true else decide (x7 = 11)) (okC (x8, x9) /\ ∀ (x : Int) (x10 : List Int) (x11 : Int), okC (x10, x11) /\ 0 <= x /\ x <= 4294967295 -> okC (x10, x11) /\ 0 <= x /\ x <= 4294967295) (okC (x8, x9) /\ ∀ (x10 : Int) (x11 : List Int) (x12 : Int), 0 <= x10 /\ (x10 < ((List.length (x2.getD x.toNat default).1) : Int) ∨ x10 = 0) /\ okC (x11, x12) -> 0 <= x10 /\ x10 < ((List.length (x2.getD x.toNat default).1) : Int) /\ okC (x11, x12) /\ 0 <= (List.getD (x2.getD x.toNat default).1 x10.toNat default).1 /\ (List.getD (x2.getD x.toNat default).1 x10.toNat default).1 <= 4294967295)) ((!b) = false /\ (b = false -> false = true) /\ ifP (bif b then true else false) (okC (x5, x6) /\ ∀ (x : Int) (x7 : List Int) (x8 : Int), okC (x7, x8) /\ 0 <= x /\ x <= 4294967295 -> okC (x7,
 x8) /\ 0 <= x /\ x <= 4294967295) (okC (x5, x6) /\ ∀ (x7 : Int) (x8 : List Int) (x9 : Int), 0 <= x7 /\ (x7 < ((List.length (x2.getD x.toNat default).1) : Int) ∨ x7 = 0) /\ okC (x8, x9) -> 0 <= x7 /\ x7 < ((List.length (x2.getD x.toNat default).1) : Int) /\ okC (x8, x9) /\ 0 <= (List.getD (x2.getD x.toNat default).1 x7.toNat default).1 /\ (List.getD (x2.getD x.toNat default).1 x7.toNat default).1 <= 4294967295))) := by
  rintro l p ns ls hs ⟨-, ⟨⟨hnl, hnw⟩, -⟩, -⟩ hc
  refine ifP_split (fun h => ?_) (fun h => ?_)
  · exact ⟨hc, fun x l2 p2 h => h⟩
  have h := of_decide_eq_false h
  refine ⟨hc, ?_⟩
  rintro x l2 p2 ⟨x0, x1, hc2⟩
  have x1 : x < (ns.length : Int) := by omega
  have hX := hnw _ (getD_mem x0 x1)
  generalize ns.getD x.toNat default = X at hX ⊢
  have hp := hX.1.2
  refine ⟨x0, x1, ?_⟩
  intro b hb
  refine ifP_split (fun q => ?_) (fun q => ?_)
  · have hb0 : b = false := by simpa using q
    subst hb0
    have hne := of_decide_eq_false hb.symm
    refine ⟨by simp, hc2, ?_⟩
    rintro y l3 p3 ⟨y0, y1, hc3⟩
    rw [cond_false]
    (repeat refine ⟨by simp, ?_⟩)
    refine ifP_split (fun q => ?_) (fun q => ?_)
    · exact ⟨hc3, fun x l2 p2 h => h⟩
    · refine ⟨hc3, ?_⟩
      rintro z l4 p4 ⟨z0, z1, hc4⟩
      have z1 : z < (X.1.length : Int) := by omega
      have := hp _ (getD_mem z0 z1)
      exact ⟨z0, z1, hc4, this.1⟩
  · have hb0 : b = true := by simpa using q
    subst hb0
    refine ⟨rfl, by simp, ?_⟩
    rw [cond_true]
    exact ⟨hc2, fun x l2 p2 h => h⟩
theorem ok_draw_Codes_Some : SpecOK Tryz.prog GL 18 ct_draw_Codes_Some.spec := Cn.okH _ Tryz.func18 (by kernel_rfl) (withSpec_ok (withSpec_ok noSpecs_ok ok_Next) ok_draw_Codes_Address) hmix an_draw_Codes_Some (hideMp (by kernel_rfl) vc_draw_Codes_Some)
end Go.RS


/- Law16: the laws of what is so in networks: parts. -/
namespace Go.RS
open Go.SX Go.Proofs
set_option maxRecDepth 100000
set_option linter.unusedVariables false

theorem DN.wn {n : Net} (h : DN n) : WN n := ⟨h.okNet, fun who at' w0 w1 r hr k hk => h.other (h.next w0 w1 r hr k hk)⟩
def adr0 (ns : List Node) (i : Int) : Int := ((nPorts (ns.getD i.toNat default)).getD 0 default).1
def endI (ns : List Node) : Nat → Int
  | 0 => 0
  | i + 1 => if nHost (ns.getD (i + 1) default) = true ∧ 0 < (nPorts (ns.getD (i + 1) default)).length then ((i + 1 : Nat) : Int) else endI ns i
def homeV (n : Net) : Int × Int := if n.1.length = 0 ∨ (nPorts (n.1.getD 0 default)).length = 0 then (0, 0) else (adr0 n.1 0, adr0 n.1 (endI n.1 (n.1.length - 1)))
def ct_draw_Home : Ct := ⟨[.agg cNet], [.val cU32, .val cU32], fun _ => [], fun d => (((homeV d.1).1, (homeV d.1).2, ()), ())⟩
def an_draw_Home : PDs ct_draw_Home.ps → Anns := (fun d => { loops := (fun n => match n with | 4 => some (fun S => { ι := Int, μ := fun i => i.toNat, inv := fun i => 0 ≤ i ∧ i + 1 ≤ d.1.1.length ∧ endI d.1.1 (d.1.1.length - 1) = endI d.1.1 i.toNat, keep := [1], slots := fun i => [(4, .int .i64 i)], keepN := [32], names := fun i => [] }) | _ => none) })
theorem vc_draw_Home : ∀ (x : List Node) (x1 : List Link) (x2 : List Change), ((x.length <= maxLen /\ ∀ (x3 : Node), x3 ∈ x -> CT.wf cNode x3) /\ (x1.length <= maxLen /\ ∀ (x : Link), x ∈ x1 -> CT.wf cLink x) /\ x2.length <= maxLen /\ ∀ (x : Change), x ∈ x2 -> CT.wf cChange x) /\ True -> True -> ∀ (b : Bool), b = decide ((x.length : Int) = 0) -> ((!b) -> ((!b) -> (!b)) /\ True) /\ ((!b) -> ((!b) -> (!b)) /\ (0 : Int) <= 0 /\ 0 < (x.length : Int) /\ True) /\ ((!b) -> ((!b) -> (!b)) /\ True) /\ ((!b) -> ((!b) -> (!b)) /\ True) /\ ((!b) -> ((!b) -> (!b)) /\ True) /\ ((!b) -> ((!b) -> (!b)) /\ True) /\ (b = false -> (!b)) /\ ifP (bif b then true else decide (((List.length (x.getD (Int.toNat (0 : Int)) default).1) : Int) = 0)) ((0 : Int) = (homeV (x, x1, x2)).1 /\ (0 : Int) = (homeV (x, x1, x2)).2) ((∃ (x3 : Int), (0 <= x3 /\ x3 + 1 <= (x.length : Int) /\ endI x (x.length - (1 : Nat)) = endI x
 x3.toNat) /\ IntKind.wrap .i64 ((x.length : Int) - (1 : Int)) = x3 /\ x = x /\ x1 = x1 /\ x2 = x2 /\ True) /\ ∀ (x3 : Int), 0 <= x3 /\ x3 + 1 <= (x.length : Int) /\ endI x (x.length - (1 : Nat)) = endI x x3.toNat -> ifP (decide (0 < x3)) (0 <= x3 /\ x3 < (x.length : Int) /\ ∀ (b : Bool), b = (x.getD x3.toNat default).2.2.2.1 -> (b -> (b -> b) /\ True) /\ (b -> (b -> b) /\ (b -> b) /\ 0 <= x3 /\ x3 < (x.length : Int) /\ True) /\ (b -> (b -> b) /\ True) /\ (b -> (b -> b) /\ True) /\ (b -> (b -> b) /\ True) /\ (b -> (b -> b) /\ True) /\ (b -> b) /\ ifP (bif b then decide (0 < ((List.length (x.getD x3.toNat default).1) : Int)) else false) ((0 : Int) <= 0 /\ 0 < (x.length : Int) /\ (0 : Int) <= 0 /\ 0 < ((List.length (x.getD (Int.toNat (0 : Int)) default).1) : Int) /\ 0 <= x3 /\ x3 < (x.length : Int) /\ (0 : Int) <= 0 /\ 0 < ((List.length (x.getD x3.toNat default).1) : Int) /\ (List.getD
 (x.getD (Int.toNat (0 : Int)) default).1 (Int.toNat (0 : Int)) default).1 = (homeV (x, x1, x2)).1 /\ (List.getD (x.getD x3.toNat default).1 (Int.toNat (0 : Int)) default).1 = (homeV (x, x1, x2)).2) (∃ (x4 : Int), (0 <= x4 /\ x4 + 1 <= (x.length : Int) /\ endI x (x.length - (1 : Nat)) = endI x x4.toNat) /\ x4.toNat < x3.toNat /\ IntKind.wrap .i64 (x3 - (1 : Int)) = x4 /\ x = x /\ x1 = x1 /\ x2 = x2 /\ True)) ((0 : Int) <= 0 /\ 0 < (x.length : Int) /\ (0 : Int) <= 0 /\ 0 < ((List.length (x.getD (Int.toNat (0 : Int)) default).1) : Int) /\ (0 : Int) <= 0 /\ 0 < (x.length : Int) /\ (0 : Int) <= 0 /\ 0 < ((List.length (x.getD (Int.toNat (0 : Int)) default).1) : Int) /\ (List.getD (x.getD (Int.toNat (0 : Int)) default).1 (Int.toNat (0 : Int)) default).1 = (homeV (x, x1, x2)).1 /\ (List.getD (x.getD (Int.toNat (0 : Int)) default).1 (Int.toNat (0 : Int)) default).1 = (homeV (x, x1, x2)).2)) := by
  rintro ns ls hs ⟨⟨⟨hnl, -⟩, -⟩, -⟩ -
  simp only [maxLen] at hnl
  intro b hb
  (repeat refine ⟨fun h_ => (by first | exact ⟨fun _ => h_, by omega, by rw [hb] at h_; have := nd_t h_; omega, trivial⟩ | (simp; done) | (simp [h_]; done) | (simp_all; done)), ?_⟩)
  rw [hb, bor_d, show Int.toNat (0 : Int) = 0 from rfl]
  rw [show (ns.getD 0 default).1 = nPorts (ns.getD 0 default) from rfl]
  refine ifP_split (fun h => ?_) (fun h => ?_)
  · have h := of_decide_eq_true h
    unfold homeV
    rw [if_pos (by dsimp only; omega)]; exact ⟨rfl, rfl⟩
  have h := of_decide_eq_false h
  have eH : homeV (ns, ls, hs) = (adr0 ns 0, adr0 ns (endI ns (ns.length - 1))) := by
    unfold homeV; rw [if_neg (by dsimp only; omega)]
  rw [eH, w64 (n := (ns.length : Int) - 1) (by omega) (by omega)]
  refine ⟨⟨(ns.length : Int) - 1, ⟨by omega, by omega, by rw [show ((ns.length : Int) - 1).toNat = ns.length - 1 by omega]⟩, (by repeat' first | exact trivial | refine ⟨trivial, ?_⟩ | refine ⟨(by with_reducible rfl), ?_⟩ | refine ⟨w64 (by omega) (by omega), ?_⟩ | refine ⟨rfl, ?_⟩)⟩, ?_⟩
  rintro i ⟨i0, i1, hI⟩
  refine ifP_split (fun hi => ?_) (fun hi => ?_)
  · have hi := of_decide_eq_true hi
    have ei : i.toNat = (i.toNat - 1) + 1 := by omega
    have e2 : (((i.toNat - 1 + 1 : Nat)) : Int) = i := by omega
    refine ⟨i0, by omega, ?_⟩
    intro b2 hb2
    (repeat refine ⟨fun h_ => (by first | exact ⟨fun _ => h_, fun _ => h_, i0, by omega, trivial⟩ | (simp; done) | (simp [h_]; done) | (simp_all; done)), ?_⟩)
    have hI2 := hI
    rw [ei, endI, ← ei] at hI2
    rw [show (ns.getD i.toNat default).1 = nPorts (ns.getD i.toNat default) from rfl]
    refine ifP_and (fun h1 h2 => ?_) (fun h1 => ?_)
    · have h1 : nHost (ns.getD i.toNat default) = true := hb2.symm.trans h1
      have h2 := of_decide_eq_true h2
      rw [if_pos ⟨h1, by omega⟩, show ((i.toNat : Nat) : Int) = i by omega] at hI2
      rw [hI2]
      exact ⟨by omega, by omega, by omega, by omega, i0, by omega, by omega, h2, rfl, rfl⟩
    · rw [if_neg] at hI2
      · exact ⟨i - 1, ⟨by omega, by omega, by rw [hI2, show (i - 1).toNat = i.toNat - 1 by omega]⟩, by omega, (by repeat' first | exact trivial | refine ⟨trivial, ?_⟩ | refine ⟨(by with_reducible rfl), ?_⟩ | refine ⟨w64 (by omega) (by omega), ?_⟩ | refine ⟨rfl, ?_⟩)⟩
      · rintro ⟨k1, k2⟩
        rcases h1 with h1 | h1
        · rw [hb2, show (ns.getD i.toNat default).2.2.2.1 = nHost (ns.getD i.toNat default) from rfl, k1] at h1; cases h1
        · have := of_decide_eq_false h1; omega
  · have hi := of_decide_eq_false hi
    rw [show i.toNat = 0 by omega, endI] at hI
    rw [hI]
    exact ⟨by omega, by omega, by omega, by omega, by omega, by omega, by omega, by omega, rfl, rfl⟩
theorem ok_draw_Home : SpecOK Tryz.prog GL 28 ct_draw_Home.spec := Ct.okH _ Tryz.func28 (by kernel_rfl) noSpecs_ok hmix an_draw_Home (hideMp (by kernel_rfl) vc_draw_Home)
theorem awake_trace : (traceV (netV true ([], 0)) 0 0 ((homeV (netV true ([], 0))).1, (homeV (netV true ([], 0))).2, 0, 0, 0)).2.2 = 1 ∧ (traceV (netV true ([], 0)) 0 0 ((homeV (netV true ([], 0))).1, (homeV (netV true ([], 0))).2, 0, 0, 0)).1.length = 3 := by decide +kernel
theorem awake_same : sameV (netV true ([], 0)) (homeV (netV true ([], 0))).1 (homeV (netV true ([], 0))).1 = true ∧ sameV (netV true ([], 0)) (homeV (netV true ([], 0))).1 (homeV (netV true ([], 0))).2 = false := by decide +kernel
def ct_law16_awake : Ct := ⟨[], [.val .bool], fun _ => [], fun _ => ((true, ()), ())⟩
def an_law16_awake : PDs ct_law16_awake.ps → Anns := (fun _ => {})
theorem vc_law16_awake : True -> True -> (0 : Int) <= 0 /\ ∀ (x : List Int) (x1 : Int), (x, x1) = (if (↑(0 : Nat) : Int) <= 0 then ([] : List Int) else List.take (Int.toNat (0 : Int)) ([] : List Int), (0 : Int)) -> okC (x, x1) /\ ∀ (x2 : List Node) (x3 : List Link) (x4 : List Change) (x5 : List Int) (x6 : Int), (x2, x3, x4) = netV true (x, x1) /\ (x5, x6) = netC true (x, x1) -> ∀ (x x7 : Int), x = (homeV (x2, x3, x4)).1 /\ x7 = (homeV (x2, x3, x4)).2 -> WN (x2, x3, x4) /\ (0 : Int) <= 0 /\ 0 < (x2.length : Int) /\ ∀ (x8 x9 : List Int) (x10 : Int), (x8, x9, x10) = traceV (x2, x3, x4) (0 : Int) (0 : Int) (x, x7, (0 : Int), (0 : Int), (0 : Int)) -> ∀ (b : Bool), b = decide (x10 = 1) -> (b -> (b -> b) /\ True) /\ (b -> (b -> b) /\ True) /\ (b -> (b -> b) /\ True) /\ (b -> b) /\ ∀ (b1 : Bool), (b1 = bif b then decide ((x8.length : Int) = 3) else false) -> (b1 -> (b1 -> b1) /\ (b1 -> b1) /\ (b1
 -> b1) /\ True) /\ (b1 -> b1) /\ ∀ (b : Bool), (b = bif b1 then sameV (x2, x3, x4) x x else false) -> (b -> (b -> b) /\ (b -> b) /\ (b -> b) /\ True) /\ (b -> (b -> b) /\ True) /\ (b -> b) /\ (bif b then !sameV (x2, x3, x4) x x7 else false) = true := by
  rintro - -
  refine ⟨by omega, ?_⟩
  rintro l p hc
  have hc : (l, p) = (([], 0) : Codes) := hc
  have hB : okB (l, p) := by rw [hc]; exact ⟨⟨by decide, by decide⟩, fun x hx => by cases hx⟩
  refine ⟨hB.at', ?_⟩
  rintro ns ls hs l2 p2 ⟨hn, -⟩
  have D := net_dn hB true
  rw [← hn] at D
  rw [hc] at hn
  have h3 : 3 ≤ ns.length := D.n3
  rintro x y ⟨hx, hy⟩
  refine ⟨D.wn, by omega, by show 0 < (ns.length : Int); omega, ?_⟩
  rintro u v e ht
  rw [hx, hy, hn] at ht
  rw [hx, hy, hn]
  clear hx hy x y D
  have t1 := awake_trace
  rw [← ht] at t1
  intro b hb
  have hb : b = true := by rw [hb, decide_eq_true t1.1]
  subst hb
  (repeat refine ⟨fun h_ => (by first | (simp; done) | (simp [h_]; done) | (simp_all; done)), ?_⟩)
  intro b hb
  have hb : b = true := by rw [hb, cond_true]; exact decide_eq_true (by have t2 : u.length = 3 := t1.2; omega)
  subst hb
  (repeat refine ⟨fun h_ => (by first | (simp; done) | (simp [h_]; done) | (simp_all; done)), ?_⟩)
  intro b hb
  have hb : b = true := by rw [hb, cond_true]; exact awake_same.1
  subst hb
  (repeat refine ⟨fun h_ => (by first | (simp; done) | (simp [h_]; done) | (simp_all; done)), ?_⟩)
  rw [cond_true, awake_same.2]; rfl
theorem ok_law16_awake : SpecOK Tryz.prog GL 4 ct_law16_awake.spec := Ct.okH _ Tryz.func4 (by kernel_rfl) (withSpec_ok (withSpec_ok (withSpec_ok (withSpec_ok (withSpec_ok noSpecs_ok (Ct.named ok_draw_New)) (Ct.named ok_draw_Codes_Net)) (Ct.named ok_draw_Home)) (Ct.named ok_truth_Trace)) ok_truth_Same) hmix an_law16_awake (hideMp (by kernel_rfl) vc_law16_awake)
end Go.RS


/- Law16b: the law of assumptions. -/
namespace Go.RS
open Go.SX Go.Proofs
set_option maxRecDepth 100000
set_option linter.unusedVariables false

abbrev cU16 : CT := .int .u16
theorem i64_and1 (n : Int) : bits .and .i64 n 1 = n % 2 := by
  have h127 : (BitVec.ofInt 64 1).toNat = 2 ^ 1 - 1 := by decide
  have key : (BitVec.ofInt 64 n &&& BitVec.ofInt 64 1).toNat = (n % ((2 ^ 64 : Nat) : Int)).toNat % 2 ^ 1 := by
    rw [BitVec.toNat_and, BitVec.toNat_ofInt, h127, Nat.and_two_pow_sub_one_eq_mod]
  show IntKind.i64.wrap ((BitVec.ofInt 64 n &&& BitVec.ofInt 64 1).toNat : Nat) = n % 2
  rw [key, IntKind.wrap_i64]
  omega
theorem bitOn_nat (m k : Nat) (hk : k ≤ 63) : bitOn (m : Int) (k : Int) = m.testBit k := by
  have e : shrI .i64 (m : Int) (k : Int) = ((m / 2 ^ k : Nat) : Int) := by
    unfold shrI
    have h1 : min (k : Int).toNat IntKind.i64.bits = k := by
      rw [Int.toNat_natCast]
      exact Nat.min_eq_left (show k ≤ 64 by omega)
    rw [h1, Int.fdiv_eq_ediv_of_nonneg _ (Int.le_of_lt (Int.pow_pos (by decide))), Int.natCast_ediv, Int.natCast_pow]; rfl
  unfold bitOn
  rw [e, i64_and1, Nat.testBit_eq_decide_div_mod_eq]
  apply decide_eq_decide.2
  omega
structure TMI (s t : Int) (dn : List Change) (l : List Int) : Prop where
  ne : 0 < l.length
  el : ∀ x ∈ l, s ≤ x ∧ x ≤ t ∧ (x = s ∨ ∃ c ∈ dn, x = hAt c)
  cov : ∀ τ, s ≤ τ → τ ≤ t → ∃ x ∈ l, x ≤ τ ∧ ∀ c ∈ dn, ¬ (x < hAt c ∧ hAt c ≤ τ)
theorem TMI.next {s t : Int} {dn : List Change} {l : List Int} (h : TMI s t dn l) {c : Change} (hs : ∀ d ∈ dn, hAt d ≤ hAt c) : TMI s t (dn ++ [c]) (stepTm s t l c) := by
  have hl := lastI_mem h.ne
  have el := h.el _ hl
  refine ⟨tm_pos h.ne, fun x hx => ?_, fun τ t0 t1 => ?_⟩
  · unfold stepTm at hx
    split at hx
    · rename_i k
      rcases List.mem_append.1 hx with hx | hx
      · obtain ⟨a, b, e⟩ := h.el x hx
        exact ⟨a, b, e.imp id fun ⟨d, hd, e⟩ => ⟨d, List.mem_append_left _ hd, e⟩⟩
      · rw [List.mem_singleton.1 hx]
        exact ⟨by omega, k.2.1, .inr ⟨c, by simp, rfl⟩⟩
    · obtain ⟨a, b, e⟩ := h.el x hx
      exact ⟨a, b, e.imp id fun ⟨d, hd, e⟩ => ⟨d, List.mem_append_left _ hd, e⟩⟩
  · obtain ⟨x, hx, x1, hc⟩ := h.cov τ t0 t1
    unfold stepTm
    by_cases hτ : hAt c ≤ τ
    · split
      · refine ⟨hAt c, by simp, hτ, fun d hd => ?_⟩
        rcases List.mem_append.1 hd with hd | hd
        · have := hs d hd; omega
        · rw [List.mem_singleton.1 hd]; omega
      · rename_i k
        by_cases hcs : hAt c ≤ s
        · refine ⟨x, hx, x1, fun d hd => ?_⟩
          rcases List.mem_append.1 hd with hd | hd
          · exact hc d hd
          · rw [List.mem_singleton.1 hd]
            have := (h.el x hx).1
            omega
        · have e : hAt c = lastI l := by
            rcases el.2.2 with e | ⟨d, hd, e⟩
            · omega
            · have := hs d hd; omega
          refine ⟨lastI l, hl, by omega, fun d hd => ?_⟩
          rcases List.mem_append.1 hd with hd | hd
          · have := hs d hd; omega
          · rw [List.mem_singleton.1 hd]; omega
    · have hx' : ∀ d ∈ dn ++ [c], ¬ (x < hAt d ∧ hAt d ≤ τ) := fun d hd => by
        rcases List.mem_append.1 hd with hd | hd
        · exact hc d hd
        · rw [List.mem_singleton.1 hd]; omega
      split
      · exact ⟨x, List.mem_append_left _ hx, x1, hx'⟩
      · exact ⟨x, hx, x1, hx'⟩
theorem TMI.all {s t : Int} : ∀ (rest dn : List Change) (l : List Int), (dn ++ rest).Pairwise (fun a b => hAt a ≤ hAt b) → TMI s t dn l → TMI s t (dn ++ rest) (rest.foldl (stepTm s t) l)
  | [], dn, l, _, h => by simpa using h
  | c :: r, dn, l, hp, h => by
    rw [List.foldl_cons, show dn ++ c :: r = (dn ++ [c]) ++ r by simp]
    refine TMI.all r (dn ++ [c]) _ (by simpa using hp) (h.next fun d hd => ?_)
    exact (List.pairwise_append.1 hp).2.2 d hd c List.mem_cons_self
theorem times_inv {hs : List Change} (hp : hs.Pairwise fun a b => hAt a ≤ hAt b) {s t : Int} (hst : s ≤ t) : TMI s t hs (timesV hs s t) := by
  have := TMI.all (s := s) (t := t) hs [] [s] (by simpa using hp) ⟨by simp, fun x hx => by rw [List.mem_singleton.1 hx]; exact ⟨Int.le_refl _, hst, .inl rfl⟩, fun τ t0 t1 => ⟨s, by simp, t0, fun c hc => by cases hc⟩⟩
  simpa [timesV] using this
def steadyQ (hs : List Change) (q : Int → Bool) : Prop := ∀ a b, a ≤ b → hs.any (between a b) = false → q a = q b
theorem times_all {hs : List Change} (hp : hs.Pairwise fun a b => hAt a ≤ hAt b) {q : Int → Bool} (hq : steadyQ hs q) {s t : Int} (hst : s ≤ t) : (timesV hs s t).all q = true ↔ ∀ τ, s ≤ τ → τ ≤ t → q τ = true := by
  have T := times_inv hp hst
  rw [List.all_eq_true]
  constructor
  · intro h τ t0 t1
    obtain ⟨x, hx, x1, hc⟩ := T.cov τ t0 t1
    rw [← hq x τ x1 (List.any_eq_false.2 fun c hc' => by
      have := hc c hc'
      unfold between
      exact fun k => this (of_decide_eq_true k))]
    exact h x hx
  · intro h x hx
    have := T.el x hx
    exact h x this.1 this.2.1
theorem flow_steady (n : Net) : steadyQ n.2.2 (flowV n) := fun a b hab h => by
  unfold flowV
  rw [show (fun i : Nat => (routesV n i a).all fun r => !perPkt r) = fun i : Nat => (routesV n i b).all fun r => !perPkt r from funext fun i => by rw [routes_steady hab h]]
theorem step_steady {n : Net} {a b : Int} (hab : a ≤ b) (h : n.2.2.any (between a b) = false) (k : Key) (w : Way) : stepW n a k w = stepW n b k w := by
  unfold stepW
  rw [routes_steady hab h]
theorem run_steady {n : Net} {a b : Int} (hab : a ≤ b) (h : n.2.2.any (between a b) = false) (k : Key) : ∀ (f : Nat) (w : Way), runW n a k f w = runW n b k f w
  | 0, w => rfl
  | f + 1, w => by rw [runW, runW, step_steady hab h, run_steady hab h k f]
theorem trace_steady {n : Net} {a b : Int} (hab : a ≤ b) (h : n.2.2.any (between a b) = false) (who : Int) (k : Key) : traceV n a who k = traceV n b who k := run_steady hab h k 257 _
theorem single_steady {n : Net} {a b : Int} (hab : a ≤ b) (h : n.2.2.any (between a b) = false) (w : Way) (dst : Int) : singleV n w a dst = singleV n w b dst := by
  unfold singleV
  rw [show oneAt n w a dst = oneAt n w b dst from funext fun i => by unfold oneAt; rw [routes_steady hab h]]
theorem back_steady {n : Net} {a b : Int} (hab : a ≤ b) (h : n.2.2.any (between a b) = false) (who home x : Int) : backV n a who home x = backV n b who home x := by
  unfold backV backAll
  rw [trace_steady hab h, single_steady hab h]
  rw [show (fun i => backAt n a home x (traceV n b who (kTo home x)) (i + 1)) = fun i => backAt n b home x (traceV n b who (kTo home x)) (i + 1) from funext fun i => by
    unfold backAt
    rw [trace_steady hab h, single_steady hab h]]
theorem sym_steady (n : Net) (who : Int) : steadyQ n.2.2 (symAt n who) := fun a b hab h => by
  unfold symAt
  rw [show symU n a who = symU n b who from funext fun u => by
    unfold symU
    rw [show backV n a who (homeA n who) = backV n b who (homeA n who) from funext fun x => back_steady hab h who _ x]]
end Go.RS


/- Ref14: the reference's networks. -/
namespace Go.RS
open Go.SX Go.Proofs
set_option maxRecDepth 100000
set_option linter.unusedVariables false

def ct_ref09_Copy : Ct := ⟨[.val (.sl cRt)], [.own 79 cRt], fun d => [okL d.1], fun d => ((d.1, ()), ())⟩
def an_ref09_Copy : PDs ct_ref09_Copy.ps → Anns := (fun d => { loops := (fun n => match n with | 3 => some (fun S => { ι := Int × (List Rt), qn := ⟨fun k_ => ∀ (j : Int) (l : (List Rt)), k_ (j, l), fun k_ h_ i => h_ i.1 i.2, fun k_ => ∃ (j : Int) (l : (List Rt)), k_ (j, l), fun k_ ⟨j, l, h_⟩ => ⟨_, h_⟩⟩, μ := fun i => (d.1.length - i.1).toNat, inv := fun i => 0 ≤ i.1 ∧ i.1 ≤ d.1.length ∧ i.2 = d.1.take i.1.toNat, keep := [0], slots := fun i => [(3, .own 524288 4), (4, .int .i64 i.1)], names := fun i => [(524288, .live (.row 79 cRt i.2))] }) | _ => none) })
theorem vc_ref09_Copy : ∀ (x : List ((Int × Int) × List Int × Int)), (x.length <= maxLen /\ ∀ (x1 : (Int × Int) × List Int × Int), x1 ∈ x -> ((0 <= x1.1.1 /\ x1.1.1 <= 4294967295) /\ R64 x1.1.2) /\ (x1.2.1.length <= maxLen /\ ∀ (x : Int), x ∈ x1.2.1 -> R64 x) /\ R64 x1.2.2) /\ True -> ((x.length : Int) <= 134217728 /\ ∀ (y : Rt), y ∈ x -> (y.2.1.length : Int) <= 1099511627776) -> (∃ (j : Int) (l : List Rt), (0 <= j /\ j <= (x.length : Int) /\ l = List.take j.toNat x) /\ x = x /\ (0 : Int) = j /\ l = ([] : List ((Int × Int) × List Int × Int)) /\ True) /\ ∀ (j : Int) (l : List Rt), 0 <= j /\ j <= (x.length : Int) /\ l = List.take j.toNat x -> ifP (decide (j < (x.length : Int))) (0 <= j /\ j < (x.length : Int) /\ ((List.length (x.getD j.toNat default).2.1) : Int) <= 1099511627776 /\ (l.length + List.length [x.getD j.toNat default]) * (48 : Nat) <= (140737488355328 : Nat) /\ ∃ (j_1 : Int)
 (l_1 : List Rt), (0 <= j_1 /\ j_1 <= (x.length : Int) /\ l_1 = List.take j_1.toNat x) /\ Int.toNat ((x.length : Int) - j_1) < Int.toNat ((x.length : Int) - j) /\ x = x /\ IntKind.wrap .i64 (j + (1 : Int)) = j_1 /\ l ++ [x.getD j.toNat default] = l_1 /\ True) (l = x) := by
  rintro l ⟨⟨hl, -⟩, -⟩ ⟨h1, h2⟩
  simp only [maxLen] at hl
  refine ⟨⟨0, [], ⟨by omega, by omega, rfl⟩, (by repeat' first | exact trivial | refine ⟨trivial, ?_⟩ | refine ⟨(by with_reducible rfl), ?_⟩ | refine ⟨w64 (by omega) (by omega), ?_⟩ | refine ⟨rfl, ?_⟩)⟩, ?_⟩
  rintro j m ⟨j0, j1, rfl⟩
  refine ifP_split (fun hj => ?_) (fun hj => ?_)
  · have hj := of_decide_eq_true hj
    refine ⟨j0, hj, h2 _ (getD_mem j0 hj), by simp only [List.length_take, List.length_cons, List.length_nil]; omega, j + 1, _, ⟨by omega, by omega, rfl⟩, by omega, ?_⟩
    (repeat first | refine ⟨trivial, ?_⟩ | refine ⟨(by with_reducible rfl), ?_⟩ | refine ⟨w64 (by omega) (by omega), ?_⟩)
    exact ⟨(take_step j0 hj).symm, trivial⟩
  · have hj := of_decide_eq_false hj
    rw [List.take_of_length_le (by omega)]
theorem ok_ref09_Copy : SpecOK Tryz.prog GL 86 ct_ref09_Copy.spec := Ct.okH _ Tryz.func86 (by kernel_rfl) (withSpec_ok noSpecs_ok ok_ref09_copied) hmix an_ref09_Copy (hideMp (by kernel_rfl) vc_ref09_Copy)

def ct_ref14_addresses : Ct := ⟨[.agg cNode], [.own 24 cU32], fun d => [(nPorts d.1).length ≤ 100000], fun d => ((adrs d.1, ()), ())⟩
def an_ref14_addresses : PDs ct_ref14_addresses.ps → Anns := (fun d => { loops := (fun n => match n with | 3 => some (fun S => { ι := Int × (List Int), qn := ⟨fun k_ => ∀ (j : Int) (l : (List Int)), k_ (j, l), fun k_ h_ i => h_ i.1 i.2, fun k_ => ∃ (j : Int) (l : (List Int)), k_ (j, l), fun k_ ⟨j, l, h_⟩ => ⟨_, h_⟩⟩, μ := fun i => ((nPorts d.1).length - i.1).toNat, inv := fun i => 0 ≤ i.1 ∧ i.1 ≤ (nPorts d.1).length ∧ i.2 = (pAddrs d.1).take i.1.toNat, keep := [1], slots := fun i => [(3, .own 524288 1), (4, .int .i64 i.1)], keepN := [32], names := fun i => [(524288, .live (.row 24 cU32 i.2))] }) | _ => none) })
theorem vc_ref14_addresses : ∀ (d : List (Int × Int) × Int × Int × Bool × List ((Int × Int) × List Int × Int) × Int × Int × Int × Int × Int × (Int × Int) × Bool × Bool × Int × Int), CT.wf cNode d /\ True -> List.length (nPorts d) <= (100000 : Nat) -> (∃ (j : Int) (l : List Int), (0 <= j /\ j <= ((List.length (nPorts d)) : Int) /\ l = List.take j.toNat (pAddrs d)) /\ (0 : Int) = j /\ d.1 = d.1 /\ d.2.1 = d.2.1 /\ d.2.2.1 = d.2.2.1 /\ d.2.2.2.1 = d.2.2.2.1 /\ d.2.2.2.2.1 = d.2.2.2.2.1 /\ d.2.2.2.2.2.1 = d.2.2.2.2.2.1 /\ d.2.2.2.2.2.2.1 = d.2.2.2.2.2.2.1 /\ d.2.2.2.2.2.2.2.1 = d.2.2.2.2.2.2.2.1 /\ d.2.2.2.2.2.2.2.2.1 = d.2.2.2.2.2.2.2.2.1 /\ d.2.2.2.2.2.2.2.2.2.1 = d.2.2.2.2.2.2.2.2.2.1 /\ d.2.2.2.2.2.2.2.2.2.2.1.1 = d.2.2.2.2.2.2.2.2.2.2.1.1 /\ d.2.2.2.2.2.2.2.2.2.2.1.2 = d.2.2.2.2.2.2.2.2.2.2.1.2 /\ d.2.2.2.2.2.2.2.2.2.2.2.1 = d.2.2.2.2.2.2.2.2.2.2.2.1 /\ d.2.2.2.2.2.2.2.2.2.2.2.2.1 =
 d.2.2.2.2.2.2.2.2.2.2.2.2.1 /\ d.2.2.2.2.2.2.2.2.2.2.2.2.2.1 = d.2.2.2.2.2.2.2.2.2.2.2.2.2.1 /\ d.2.2.2.2.2.2.2.2.2.2.2.2.2.2 = d.2.2.2.2.2.2.2.2.2.2.2.2.2.2 /\ l = ([] : List Int) /\ True) /\ ∀ (j : Int) (l : List Int), 0 <= j /\ j <= ((List.length (nPorts d)) : Int) /\ l = List.take j.toNat (pAddrs d) -> ifP (decide (j < (d.1.length : Int))) (0 <= j /\ j < (d.1.length : Int) /\ (l.length + List.length [(List.getD d.1 j.toNat default).1]) * (4 : Nat) <= (140737488355328 : Nat) /\ ∃ (j_1 : Int) (l_1 : List Int), (0 <= j_1 /\ j_1 <= ((List.length (nPorts d)) : Int) /\ l_1 = List.take j_1.toNat (pAddrs d)) /\ Int.toNat (((List.length (nPorts d)) : Int) - j_1) < Int.toNat (((List.length (nPorts d)) : Int) - j) /\ IntKind.wrap .i64 (j + (1 : Int)) = j_1 /\ d.1 = d.1 /\ d.2.1 = d.2.1 /\ d.2.2.1 = d.2.2.1 /\ d.2.2.2.1 = d.2.2.2.1 /\ d.2.2.2.2.1 = d.2.2.2.2.1 /\ d.2.2.2.2.2.1 = d.2.2.2.2.2.1 /\
 d.2.2.2.2.2.2.1 = d.2.2.2.2.2.2.1 /\ d.2.2.2.2.2.2.2.1 = d.2.2.2.2.2.2.2.1 /\ d.2.2.2.2.2.2.2.2.1 = d.2.2.2.2.2.2.2.2.1 /\ d.2.2.2.2.2.2.2.2.2.1 = d.2.2.2.2.2.2.2.2.2.1 /\ d.2.2.2.2.2.2.2.2.2.2.1.1 = d.2.2.2.2.2.2.2.2.2.2.1.1 /\ d.2.2.2.2.2.2.2.2.2.2.1.2 = d.2.2.2.2.2.2.2.2.2.2.1.2 /\ d.2.2.2.2.2.2.2.2.2.2.2.1 = d.2.2.2.2.2.2.2.2.2.2.2.1 /\ d.2.2.2.2.2.2.2.2.2.2.2.2.1 = d.2.2.2.2.2.2.2.2.2.2.2.2.1 /\ d.2.2.2.2.2.2.2.2.2.2.2.2.2.1 = d.2.2.2.2.2.2.2.2.2.2.2.2.2.1 /\ d.2.2.2.2.2.2.2.2.2.2.2.2.2.2 = d.2.2.2.2.2.2.2.2.2.2.2.2.2.2 /\ l ++ [(List.getD d.1 j.toNat default).1] = l_1 /\ True) (ifP (!decide (d.2.1 = 0)) ((l.length + List.length [d.2.1]) * (4 : Nat) <= (140737488355328 : Nat) /\ l ++ [d.2.1] = adrs d) (l = adrs d)) := by
  rintro d - hl
  have hlen : (pAddrs d).length = (nPorts d).length := by simp [pAddrs]
  have hd : d.1 = nPorts d := rfl
  have hz : d.2.1 = nLoop d := rfl
  rw [hd, hz]
  refine ⟨⟨0, [], ⟨by omega, by omega, rfl⟩, (by repeat' first | exact trivial | refine ⟨trivial, ?_⟩ | refine ⟨(by with_reducible rfl), ?_⟩ | refine ⟨w64 (by omega) (by omega), ?_⟩ | refine ⟨rfl, ?_⟩)⟩, ?_⟩
  rintro j l ⟨j0, j1, rfl⟩
  refine ifP_split (fun hk => ?_) (fun hk => ?_)
  · have hk := of_decide_eq_true hk
    refine ⟨j0, hk, by simp only [List.length_take, List.length_cons, List.length_nil]; omega, j + 1, _, ⟨by omega, by omega, rfl⟩, by omega, ?_⟩
    (repeat first | refine ⟨trivial, ?_⟩ | refine ⟨(by with_reducible rfl), ?_⟩ | refine ⟨w64 (by omega) (by omega), ?_⟩)
    refine ⟨?_, trivial⟩
    rw [take_step j0 (by rw [hlen]; exact hk)]
    unfold pAddrs
    rw [List.getD_eq_getElem?_getD, List.getD_eq_getElem?_getD, List.getElem?_map, List.getElem?_eq_getElem (by omega)]
    rfl
  · have hk := of_decide_eq_false hk
    rw [List.take_of_length_le (by omega)]
    unfold adrs
    refine ifP_split (fun h => ?_) (fun h => ?_)
    · rw [if_neg (nd_t h)]
      exact ⟨by simp only [List.length_cons, List.length_nil]; omega, rfl⟩
    · rw [if_pos (nd_f h), List.append_nil]
theorem ok_ref14_addresses : SpecOK Tryz.prog GL 126 ct_ref14_addresses.spec := Ct.okH _ Tryz.func126 (by kernel_rfl) noSpecs_ok hmix an_ref14_addresses (hideMp (by kernel_rfl) vc_ref14_addresses)

def ct_ref14_Make : Ct := ⟨[.val (.sl cRt), .agg cChange], [.own 79 cRt], fun d => [sortedR d.1, okL d.1, ((hRoute d.2.1).2.1.length : Int) ≤ 1099511627776], fun d => ((chV d.1 d.2.1, ()), ())⟩
def an_ref14_Make : PDs ct_ref14_Make.ps → Anns := (fun _ => {})
theorem vc_ref14_Make : ∀ (x : List ((Int × Int) × List Int × Int)) (d : Int × Int × Bool × (Int × Int) × List Int × Int), (x.length <= maxLen /\ ∀ (x1 : (Int × Int) × List Int × Int), x1 ∈ x -> ((0 <= x1.1.1 /\ x1.1.1 <= 4294967295) /\ R64 x1.1.2) /\ (x1.2.1.length <= maxLen /\ ∀ (x : Int), x ∈ x1.2.1 -> R64 x) /\ R64 x1.2.2) /\ CT.wf cChange d /\ True -> sortedR x /\ okL x /\ ((List.length (hRoute d).2.1) : Int) <= 1099511627776 -> ifP d.2.2.1 (okL x /\ removeL x d.2.2.2.1 = chV x d) (sortedR x /\ okL x /\ (d.2.2.2.2.1.length : Int) <= 1099511627776 /\ putL x d.2.2.2 = chV x d) := by
  rintro l c - ⟨hs, hl, hx⟩
  unfold chV
  rw [show c.2.2.1 = hRem c from rfl]
  refine ifP_split (fun h => ⟨hl, ?_⟩) (fun h => ⟨hs, hl, hx, ?_⟩)
  · rw [if_pos h]; rfl
  · rw [if_neg (by rw [h]; decide)]; rfl
theorem ok_ref14_Make : SpecOK Tryz.prog GL 87 ct_ref14_Make.spec := Ct.okH _ Tryz.func87 (by kernel_rfl) (withSpec_ok (withSpec_ok noSpecs_ok ok_ref09_Put) ok_ref09_Remove) hmix an_ref14_Make (hideMp (by kernel_rfl) vc_ref14_Make)
def ct_ref14_Find : Ct := ⟨[.agg cNet, .val cU32], [.val cI, .val .bool], fun d => [], fun d => ((findV d.1 d.2.1, findB d.1 d.2.1, ()), ())⟩
def an_ref14_Find : PDs ct_ref14_Find.ps → Anns := (fun d => { loops := (fun n => match n with | 2 => some (fun S => { ι := Int, μ := fun i => (d.1.1.length - i).toNat, inv := fun i => 0 ≤ i ∧ i ≤ d.1.1.length ∧ ∀ x ∈ d.1.1.take i.toNat, ownsA x d.2.1 = false, keep := [1, 2], slots := fun i => [(6, .int .i64 i)], keepN := [48], names := fun i => [] }) | _ => none) })
theorem vc_ref14_Find : ∀ (x : List Node) (x1 : List Link) (x2 : List Change) (x3 : Int), ((x.length <= maxLen /\ ∀ (x4 : Node), x4 ∈ x -> CT.wf cNode x4) /\ (x1.length <= maxLen /\ ∀ (x : Link), x ∈ x1 -> CT.wf cLink x) /\ x2.length <= maxLen /\ ∀ (x : Change), x ∈ x2 -> CT.wf cChange x) /\ (0 <= x3 /\ x3 <= 4294967295) /\ True -> True -> (∃ (x4 : Int), (0 <= x4 /\ x4 <= (x.length : Int) /\ ∀ (x5 : List (Int × Int) × Int × Int × Bool × List ((Int × Int) × List Int × Int) × Int × Int × Int × Int × Int × (Int × Int) × Bool × Bool × Int × Int), x5 ∈ List.take x4.toNat x -> ownsA x5 x3 = false) /\ x3 = x3 /\ (0 : Int) = x4 /\ x = x /\ x1 = x1 /\ x2 = x2 /\ True) /\ ∀ (x4 : Int), (0 <= x4 /\ x4 <= (x.length : Int) /\ ∀ (x5 : List (Int × Int) × Int × Int × Bool × List ((Int × Int) × List Int × Int) × Int × Int × Int × Int × Int × (Int × Int) × Bool × Bool × Int × Int), x5 ∈ List.take x4.toNat
 x -> ownsA x5 x3 = false) -> ifP (decide (x4 < (x.length : Int))) (0 <= x4 /\ x4 < (x.length : Int) /\ ifP (ownsA (x.getD x4.toNat default) x3) (x4 = findV (x, x1, x2) x3 /\ true = findB (x, x1, x2) x3) (∃ (x5 : Int), (0 <= x5 /\ x5 <= (x.length : Int) /\ ∀ (x6 : List (Int × Int) × Int × Int × Bool × List ((Int × Int) × List Int × Int) × Int × Int × Int × Int × Int × (Int × Int) × Bool × Bool × Int × Int), x6 ∈ List.take x5.toNat x -> ownsA x6 x3 = false) /\ Int.toNat ((x.length : Int) - x5) < Int.toNat ((x.length : Int) - x4) /\ x3 = x3 /\ IntKind.wrap .i64 (x4 + (1 : Int)) = x5 /\ x = x /\ x1 = x1 /\ x2 = x2 /\ True)) ((0 : Int) = findV (x, x1, x2) x3 /\ false = findB (x, x1, x2) x3) := by
  rintro ns ls hs a ⟨⟨⟨hnl, -⟩, -⟩, -⟩ -
  simp only [maxLen] at hnl
  refine ⟨⟨0, ⟨by omega, by omega, by simp⟩, (by repeat' first | exact trivial | refine ⟨trivial, ?_⟩ | refine ⟨(by with_reducible rfl), ?_⟩ | refine ⟨w64 (by omega) (by omega), ?_⟩ | refine ⟨rfl, ?_⟩)⟩, ?_⟩
  rintro i ⟨i0, i1, hI⟩
  refine ifP_split (fun hi => ?_) (fun hi => ?_)
  · have hi := of_decide_eq_true hi
    refine ⟨i0, hi, ifP_split (fun hm => ?_) (fun hm => ?_)⟩
    · have e := findI_at (q := fun x => ownsA x a) i0 hi hI hm
      unfold findV findB findI
      by_cases k : ns.findIdx (fun x => ownsA x a) < ns.length
      · rw [if_pos k] at e
        dsimp only
        rw [if_pos k, decide_eq_true k]
        exact ⟨e, rfl⟩
      · rw [if_neg k] at e; omega
    · exact ⟨i + 1, ⟨by omega, by omega, all_next i0 hi hI hm⟩, by omega, (by repeat' first | exact trivial | refine ⟨trivial, ?_⟩ | refine ⟨(by with_reducible rfl), ?_⟩ | refine ⟨w64 (by omega) (by omega), ?_⟩ | refine ⟨rfl, ?_⟩)⟩
  · have e := findI_none (q := fun x => ownsA x a) (of_decide_eq_false hi) hI
    unfold findV findB findI
    by_cases k : ns.findIdx (fun x => ownsA x a) < ns.length
    · rw [if_pos k] at e; omega
    · dsimp only
      rw [if_neg k, decide_eq_false k]
      exact ⟨rfl, rfl⟩
theorem ok_ref14_Find : SpecOK Tryz.prog GL 49 ct_ref14_Find.spec := Ct.okH _ Tryz.func49 (by kernel_rfl) (withSpec_ok noSpecs_ok ok_ref13_Owns) hmix an_ref14_Find (hideMp (by kernel_rfl) vc_ref14_Find)

def ct_ref14_Other : Ct := ⟨[.agg cNet, .val cI, .val cI], [.val cI], fun _ => [], fun d => ((otherV d.1.2.1 d.2.1 d.2.2.1, ()), ())⟩
def an_ref14_Other : PDs ct_ref14_Other.ps → Anns := (fun _ => {})
theorem vc_ref14_Other : ∀ (x : List Node) (x1 : List Link) (x2 : List Change) (x3 x4 : Int), ((x.length <= maxLen /\ ∀ (x5 : Node), x5 ∈ x -> CT.wf cNode x5) /\ (x1.length <= maxLen /\ ∀ (x : Link), x ∈ x1 -> CT.wf cLink x) /\ x2.length <= maxLen /\ ∀ (x : Change), x ∈ x2 -> CT.wf cChange x) /\ R64 x3 /\ R64 x4 /\ True -> True -> ∀ (b : Bool), b = decide (x3 < 0) -> ((!b) -> ((!b) -> (!b)) /\ True) /\ ((!b) -> ((!b) -> (!b)) /\ True) /\ ((!b) -> ((!b) -> (!b)) /\ ((!b) -> (!b)) /\ True) /\ (b = false -> (!b)) /\ ifP (bif b then true else decide ((x1.length : Int) <= x3)) ((-1 : Int) = otherV x1 x3 x4) (0 <= x3 /\ x3 < (x1.length : Int) /\ ifP (decide (x4 = (x1.getD x3.toNat default).1)) (0 <= x3 /\ x3 < (x1.length : Int) /\ (x1.getD x3.toNat default).2.1 = otherV x1 x3 x4) (0 <= x3 /\ x3 < (x1.length : Int) /\ ifP (decide (x4 = (x1.getD x3.toNat default).2.1)) (0 <= x3 /\ x3 < (x1.length
 : Int) /\ (x1.getD x3.toNat default).1 = otherV x1 x3 x4) ((-1 : Int) = otherV x1 x3 x4))) := by
  rintro ns ls hs k x ⟨⟨-, ⟨hl, -⟩, -⟩, -⟩ -
  simp only [maxLen] at hl
  (repeat (intro (b_ : Bool) (hb_ : b_ = _); (repeat refine ⟨(by first | (simp; done) | (rw [hb_]; simp; done) | (rw [hb_]; simp; omega) | (rw [hb_]; simp; intros; omega) | (rw [hb_]; simp +contextual; done)), ?_⟩); subst hb_))
  rw [bor_d]
  unfold otherV lA lB
  refine ifP_split (fun h => ?_) (fun h => ?_)
  · rw [if_pos (of_decide_eq_true h)]
  have h := of_decide_eq_false h
  rw [if_neg h]
  have k0 : 0 ≤ k := by omega
  have k1 : k < (ls.length : Int) := by omega
  refine ⟨k0, k1, ifP_split (fun h1 => ?_) (fun h1 => ?_)⟩
  · rw [if_pos (of_decide_eq_true h1)]; exact ⟨k0, k1, rfl⟩
  rw [if_neg (of_decide_eq_false h1)]
  refine ⟨k0, k1, ifP_split (fun h2 => ?_) (fun h2 => ?_)⟩
  · rw [if_pos (of_decide_eq_true h2)]; exact ⟨k0, k1, rfl⟩
  · rw [if_neg (of_decide_eq_false h2)]
theorem ok_ref14_Other : SpecOK Tryz.prog GL 52 ct_ref14_Other.spec := Ct.okH _ Tryz.func52 (by kernel_rfl) noSpecs_ok hmix an_ref14_Other (hideMp (by kernel_rfl) vc_ref14_Other)

def ct_ref14_Routes : Ct := ⟨[.agg cNet, .val cI, .val cI], [.own 79 cRt], fun d => [okNet d.1], fun d => ((routesV d.1 d.2.1 d.2.2.1, ()), ())⟩
def an_ref14_Routes : PDs ct_ref14_Routes.ps → Anns := (fun d => { loops := (fun n => match n with | 5 => some (fun S => { ι := Int × (List Rt), qn := ⟨fun k_ => ∀ (j : Int) (t : (List Rt)), k_ (j, t), fun k_ h_ i => h_ i.1 i.2, fun k_ => ∃ (j : Int) (t : (List Rt)), k_ (j, t), fun k_ ⟨j, t, h_⟩ => ⟨_, h_⟩⟩, μ := fun i => (d.1.2.2.length - i.1).toNat, inv := fun i => 0 ≤ i.1 ∧ i.1 ≤ d.1.2.2.length ∧ i.2 = routesK d.1 d.2.1 d.2.2.1 i.1, keep := [1, 2, 3], slots := fun i => [(7, .own 524288 4), (8, .int .i64 i.1)], keepN := [64], names := fun i => [(524288, .live (.row 79 cRt i.2))] }) | _ => none) })
theorem vc_ref14_Routes : ∀ (x : List Node) (x1 : List Link) (x2 : List Change) (x3 x4 : Int), ((x.length <= maxLen /\ ∀ (x5 : Node), x5 ∈ x -> CT.wf cNode x5) /\ (x1.length <= maxLen /\ ∀ (x : Link), x ∈ x1 -> CT.wf cLink x) /\ x2.length <= maxLen /\ ∀ (x : Change), x ∈ x2 -> CT.wf cChange x) /\ R64 x3 /\ R64 x4 /\ True -> okNet (x, x1, x2) -> ∀ (b : Bool), b = decide (x3 < 0) -> ((!b) -> ((!b) -> (!b)) /\ True) /\ ((!b) -> ((!b) -> (!b)) /\ True) /\ ((!b) -> ((!b) -> (!b)) /\ ((!b) -> (!b)) /\ True) /\ (b = false -> (!b)) /\ ifP (bif b then true else decide ((x.length : Int) <= x3)) (([] : List ((Int × Int) × List Int × Int)) = routesV (x, x1, x2) x3 x4) (0 <= x3 /\ x3 < (x.length : Int) /\ okL (x.getD x3.toNat default).2.2.2.2.1 /\ (∃ (j : Int) (t : List Rt), (0 <= j /\ j <= (x2.length : Int) /\ t = routesK (x, x1, x2) x3 x4 j) /\ x3 = x3 /\ x4 = x4 /\ (0 : Int) = j /\ x = x /\ x1 = x1
 /\ x2 = x2 /\ (x.getD x3.toNat default).2.2.2.2.1 = t /\ True) /\ ∀ (j : Int) (t : List Rt), 0 <= j /\ j <= (x2.length : Int) /\ t = routesK (x, x1, x2) x3 x4 j -> ifP (decide (j < (x2.length : Int))) (0 <= j /\ j < (x2.length : Int) /\ ∀ (b : Bool), b = decide ((x2.getD j.toNat default).2.1 = x3) -> (b -> (b -> b) /\ True) /\ (b -> (b -> b) /\ (b -> b) /\ 0 <= j /\ j < (x2.length : Int) /\ True) /\ (b -> (b -> b) /\ True) /\ (b -> (b -> b) /\ True) /\ (b -> (b -> b) /\ (b -> b) /\ True) /\ (b -> b) /\ ifP (bif b then decide ((x2.getD j.toNat default).1 <= x4) else false) (0 <= j /\ j < (x2.length : Int) /\ sortedR t /\ okL t /\ ((List.length (x2.getD j.toNat default).2.2.2.2.1) : Int) <= 1099511627776 /\ ∃ (j_1 : Int) (t_1 : List Rt), (0 <= j_1 /\ j_1 <= (x2.length : Int) /\ t_1 = routesK (x, x1, x2) x3 x4 j_1) /\ Int.toNat ((x2.length : Int) - j_1) < Int.toNat ((x2.length : Int) - j)
 /\ x3 = x3 /\ x4 = x4 /\ IntKind.wrap .i64 (j + (1 : Int)) = j_1 /\ x = x /\ x1 = x1 /\ x2 = x2 /\ chV t (x2.getD j.toNat default) = t_1 /\ True) (∃ (j_1 : Int) (t_1 : List Rt), (0 <= j_1 /\ j_1 <= (x2.length : Int) /\ t_1 = routesK (x, x1, x2) x3 x4 j_1) /\ Int.toNat ((x2.length : Int) - j_1) < Int.toNat ((x2.length : Int) - j) /\ x3 = x3 /\ x4 = x4 /\ IntKind.wrap .i64 (j + (1 : Int)) = j_1 /\ x = x /\ x1 = x1 /\ x2 = x2 /\ t = t_1 /\ True)) (t = routesV (x, x1, x2) x3 x4)) := by
  rintro ns ls hs who at' ⟨⟨⟨hnl, -⟩, -, ⟨hhl, -⟩⟩, -⟩ ok
  simp only [maxLen] at hnl hhl
  (repeat (intro (b_ : Bool) (hb_ : b_ = _); (repeat refine ⟨(by first | (simp; done) | (rw [hb_]; simp; done) | (rw [hb_]; simp; omega) | (rw [hb_]; simp; intros; omega) | (rw [hb_]; simp +contextual; done)), ?_⟩); subst hb_))
  rw [bor_d]
  refine ifP_split (fun h => ?_) (fun h => ?_)
  · have h := of_decide_eq_true h
    unfold routesV
    rw [if_pos h]
  have h := of_decide_eq_false h
  have w0 : 0 ≤ who := by omega
  have w1 : who < (ns.length : Int) := by omega
  have hr := ok.t _ (getD_mem (xs := ns) w0 w1)
  have r1 := hr.2.1
  refine ⟨w0, w1, ⟨?_, hr.2.2⟩, ⟨0, _, ⟨by omega, by omega, rfl⟩, (by repeat' first | exact trivial | refine ⟨trivial, ?_⟩ | refine ⟨(by with_reducible rfl), ?_⟩ | refine ⟨w64 (by omega) (by omega), ?_⟩ | refine ⟨rfl, ?_⟩)⟩, ?_⟩
  · show ((nRoutes (ns.getD who.toNat default)).length : Int) ≤ 134217728
    omega
  rintro j t ⟨j0, j1, rfl⟩
  have hok := routesK_ok ok (at' := at') w0 w1 j.toNat (by show j.toNat ≤ hs.length; omega)
  rw [show ((j.toNat : Nat) : Int) = j by omega] at hok
  have hc := ok.c
  refine ifP_split (fun hj => ?_) (fun hj => ?_)
  · have hj := of_decide_eq_true hj
    have st := routesK_next (n := (ns, ls, hs)) (who := who) (at' := at') j0 hj
    refine ⟨j0, hj, ?_⟩
    intro b hb
    (repeat refine ⟨(by first | (simp; done) | exact fun h => ⟨fun _ => h, fun _ => h, j0, hj, trivial⟩), ?_⟩)
    rw [hb, band_d]
    refine ifP_split (fun q => ?_) (fun q => ?_)
    · have q := of_decide_eq_true q
      refine ⟨j0, hj, hok.s, hok.okL (by dsimp only at hc; omega), ok.s _ (getD_mem j0 hj), j + 1, _, ⟨by omega, by omega, rfl⟩, by omega, ?_⟩
      (repeat first | refine ⟨trivial, ?_⟩ | refine ⟨(by with_reducible rfl), ?_⟩ | refine ⟨w64 (by omega) (by omega), ?_⟩)
      refine ⟨?_, trivial⟩
      rw [st]; exact (if_pos q).symm
    · have q := of_decide_eq_false q
      refine ⟨j + 1, _, ⟨by omega, by omega, rfl⟩, by omega, ?_⟩
      (repeat first | refine ⟨trivial, ?_⟩ | refine ⟨(by with_reducible rfl), ?_⟩ | refine ⟨w64 (by omega) (by omega), ?_⟩)
      refine ⟨?_, trivial⟩
      rw [st]; exact (if_neg q).symm
  · have hj := of_decide_eq_false hj
    unfold routesV
    rw [if_neg h, show j = (hs.length : Int) by omega]
theorem ok_ref14_Routes : SpecOK Tryz.prog GL 45 ct_ref14_Routes.spec := Ct.okH _ Tryz.func45 (by kernel_rfl) (withSpec_ok (withSpec_ok noSpecs_ok ok_ref09_Copy) ok_ref14_Make) hmix an_ref14_Routes (hideMp (by kernel_rfl) vc_ref14_Routes)

def ct_ref14_Changed : Ct := ⟨[.agg cNet, .val cI, .val cI], [.val .bool], fun _ => [], fun d => ((d.1.2.2.any (between d.2.1 d.2.2.1), ()), ())⟩
def an_ref14_Changed : PDs ct_ref14_Changed.ps → Anns := (fun d => { loops := (fun n => match n with | 2 => some (fun S => { ι := Int, μ := fun i => (d.1.2.2.length - i).toNat, inv := fun i => 0 ≤ i ∧ i ≤ d.1.2.2.length ∧ ∀ x ∈ d.1.2.2.take i.toNat, between d.2.1 d.2.2.1 x = false, keep := [1, 2, 3], slots := fun i => [(7, .int .i64 i)], keepN := [64], names := fun i => [] }) | _ => none) })
theorem vc_ref14_Changed : ∀ (x : List Node) (x1 : List Link) (x2 : List Change) (x3 x4 : Int), ((x.length <= maxLen /\ ∀ (x5 : Node), x5 ∈ x -> CT.wf cNode x5) /\ (x1.length <= maxLen /\ ∀ (x : Link), x ∈ x1 -> CT.wf cLink x) /\ x2.length <= maxLen /\ ∀ (x : Change), x ∈ x2 -> CT.wf cChange x) /\ R64 x3 /\ R64 x4 /\ True -> True -> (∃ (x5 : Int), (0 <= x5 /\ x5 <= (x2.length : Int) /\ ∀ (x : Int × Int × Bool × (Int × Int) × List Int × Int), x ∈ List.take x5.toNat x2 -> between x3 x4 x = false) /\ x3 = x3 /\ x4 = x4 /\ (0 : Int) = x5 /\ x = x /\ x1 = x1 /\ x2 = x2 /\ True) /\ ∀ (x5 : Int), (0 <= x5 /\ x5 <= (x2.length : Int) /\ ∀ (x : Int × Int × Bool × (Int × Int) × List Int × Int), x ∈ List.take x5.toNat x2 -> between x3 x4 x = false) -> ifP (decide (x5 < (x2.length : Int))) (0 <= x5 /\ x5 < (x2.length : Int) /\ ∀ (b : Bool), b = decide (x3 < (x2.getD x5.toNat default).1) -> (b -> (b ->
 b) /\ True) /\ (b -> (b -> b) /\ (b -> b) /\ 0 <= x5 /\ x5 < (x2.length : Int) /\ True) /\ (b -> (b -> b) /\ True) /\ (b -> (b -> b) /\ True) /\ (b -> (b -> b) /\ (b -> b) /\ True) /\ (b -> b) /\ ifP (bif b then decide ((x2.getD x5.toNat default).1 <= x4) else false) (true = List.any x2 (between x3 x4)) (∃ (x6 : Int), (0 <= x6 /\ x6 <= (x2.length : Int) /\ ∀ (x : Int × Int × Bool × (Int × Int) × List Int × Int), x ∈ List.take x6.toNat x2 -> between x3 x4 x = false) /\ Int.toNat ((x2.length : Int) - x6) < Int.toNat ((x2.length : Int) - x5) /\ x3 = x3 /\ x4 = x4 /\ IntKind.wrap .i64 (x5 + (1 : Int)) = x6 /\ x = x /\ x1 = x1 /\ x2 = x2 /\ True)) (false = List.any x2 (between x3 x4)) := by
  rintro ns ls hs s t ⟨⟨-, -, ⟨hhl, -⟩⟩, -⟩ -
  simp only [maxLen] at hhl
  refine ⟨⟨0, ⟨by omega, by omega, by simp⟩, (by repeat' first | exact trivial | refine ⟨trivial, ?_⟩ | refine ⟨(by with_reducible rfl), ?_⟩ | refine ⟨w64 (by omega) (by omega), ?_⟩ | refine ⟨rfl, ?_⟩)⟩, ?_⟩
  rintro j ⟨j0, j1, hJ⟩
  refine ifP_split (fun hj => ?_) (fun hj => ?_)
  · have hj := of_decide_eq_true hj
    refine ⟨j0, hj, ?_⟩
    intro b hb
    (repeat refine ⟨(by first | (simp; done) | exact fun h => ⟨fun _ => h, fun _ => h, j0, hj, trivial⟩), ?_⟩)
    rw [hb, band_d]
    refine ifP_split (fun q => ?_) (fun q => ?_)
    · exact (List.any_eq_true.2 ⟨_, getD_mem j0 hj, q⟩).symm
    · exact ⟨j + 1, ⟨by omega, by omega, all_next j0 hj hJ q⟩, by omega, (by repeat' first | exact trivial | refine ⟨trivial, ?_⟩ | refine ⟨(by with_reducible rfl), ?_⟩ | refine ⟨w64 (by omega) (by omega), ?_⟩ | refine ⟨rfl, ?_⟩)⟩
  · have hj := of_decide_eq_false hj
    rw [List.take_of_length_le (by omega)] at hJ
    symm
    rw [List.any_eq_false]
    exact fun x hx => by rw [hJ x hx]; decide
theorem ok_ref14_Changed : SpecOK Tryz.prog GL 27 ct_ref14_Changed.spec := Ct.okH _ Tryz.func27 (by kernel_rfl) noSpecs_ok hmix an_ref14_Changed (hideMp (by kernel_rfl) vc_ref14_Changed)
end Go.RS

