/- Netr: routes of drawn networks: what holds of them at any time. -/
import Derived.Test.YtchnhaeknbgieaaTopod
namespace Go.RS
open Go.SX Go.Proofs
set_option maxRecDepth 100000
set_option linter.unusedVariables false

theorem nodup_len {α : Type} [DecidableEq α] : ∀ {l m : List α}, l.Nodup → (∀ x ∈ l, x ∈ m) → l.length ≤ m.length
  | [], m, _, _ => by simp
  | x :: l, m, h, hs => by
    have hx := hs x List.mem_cons_self
    have hn := List.nodup_cons.1 h
    have := nodup_len (l := l) (m := m.erase x) hn.2 fun y hy => (List.mem_erase_of_ne (fun e : y = x => hn.1 (e ▸ hy))).2 (hs y (List.mem_cons_of_mem _ hy))
    rw [List.length_erase_of_mem hx] at this
    have hp := List.length_pos_of_mem hx
    rw [List.length_cons]; omega
theorem foldl_inv {α β : Type} (I : β → Prop) (f : β → α → β) : ∀ {l : List α} {b : β}, I b → (∀ x ∈ l, ∀ b, I b → I (f b x)) → I (l.foldl f b)
  | [], b, h, _ => h
  | x :: l, b, h, hf => foldl_inv I f (l := l) (hf x List.mem_cons_self b h) fun y hy => hf y (List.mem_cons_of_mem _ hy)
theorem mem_insN {k x : Int} : ∀ {l : List Int}, x ∈ insN k l → x = k ∨ x ∈ l
  | [], h => by simp [insN] at h; exact .inl h
  | y :: r, h => by
    rw [insN] at h
    split at h
    · rcases List.mem_cons.1 h with e | h
      · exact .inl e
      · exact .inr h
    · rcases List.mem_cons.1 h with e | h
      · exact .inr (e ▸ List.mem_cons_self)
      · rcases mem_insN h with e | h
        · exact .inl e
        · exact .inr (List.mem_cons_of_mem _ h)
theorem insN_pw {k : Int} : ∀ {l : List Int}, l.Pairwise (· < ·) → k ∉ l → (insN k l).Pairwise (· < ·)
  | [], _, _ => by rw [insN]; exact List.pairwise_singleton _ _
  | y :: r, h, hk => by
    have h := List.pairwise_cons.1 h
    rw [insN]
    split
    · rename_i hy
      refine List.pairwise_cons.2 ⟨fun z hz => ?_, List.pairwise_cons.2 h⟩
      rcases List.mem_cons.1 hz with rfl | hz
      · exact hy
      · exact Int.lt_trans hy (h.1 z hz)
    · rename_i hy
      have : k ≠ y := fun e => hk (e ▸ List.mem_cons_self)
      refine List.pairwise_cons.2 ⟨fun z hz => ?_, insN_pw h.2 fun e => hk (List.mem_cons_of_mem _ e)⟩
      rcases mem_insN hz with rfl | hz
      · omega
      · exact h.1 z hz
theorem insN_ne (k : Int) (l : List Int) : insN k l ≠ [] := by
  intro e
  have := insN_len k l
  rw [e] at this; simp at this
theorem mem_putL {l : List Rt} {r x : Rt} (h : x ∈ putL l r) : x = r ∨ x ∈ l := by
  unfold putL at h
  rcases List.mem_append.1 h with h | h
  · exact .inr (List.mem_filter.1 h).1
  · rcases List.mem_cons.1 h with e | h
    · exact .inl e
    · exact .inr (List.mem_filter.1 h).1

/-- A link's number that is one of a node. -/
def lnk (ls : List Link) (i k : Int) : Prop := 0 ≤ k ∧ k < ls.length ∧ (lA (ls.getD k.toNat default) = i ∨ lB (ls.getD k.toNat default) = i)
structure rtOK (ls : List Link) (aa : List Int) (i : Int) (r : Rt) : Prop where
  len : r.1.2 = 32
  mem : r.1.1 ∈ aa
  ne : r.2.1 ≠ []
  pw : r.2.1.Pairwise (· < ·)
  ln : ∀ k ∈ r.2.1, lnk ls i k
  w0 : 1 ≤ r.2.2
  w1 : r.2.2 ≤ 3
def tabOK (ls : List Link) (aa : List Int) (i : Int) (t : List Rt) : Prop := sortedR t ∧ ∀ r ∈ t, rtOK ls aa i r
theorem tabOK_len {ls : List Link} {aa : List Int} {i : Int} {t : List Rt} (h : tabOK ls aa i t) : t.length ≤ aa.length := by
  have hn : (t.map fun r => r.1.1).Nodup := by
    refine List.Pairwise.map (R := fun a b : Rt => a.1.1 ≠ b.1.1) _ (fun a b h => h) (h.1.imp_of_mem fun {a b} ha hb k => ?_)
    have e1 := (h.2 a ha).len
    have e2 := (h.2 b hb).len
    unfold plt at k
    omega
  have := nodup_len hn (m := aa) fun x hx => by
    obtain ⟨r, hr, rfl⟩ := List.mem_map.1 hx
    exact (h.2 r hr).mem
  simpa using this
theorem rtOK_len {ls : List Link} {aa : List Int} {i : Int} {r : Rt} (h : rtOK ls aa i r) : r.2.1.length ≤ ls.length := by
  have hn : r.2.1.Nodup := h.pw.imp fun k => by omega
  have := nodup_len hn (m := (List.range ls.length).map fun (n : Nat) => (n : Int)) fun x hx => by
    obtain ⟨k0, k1, _⟩ := h.ln x hx
    exact List.mem_map.2 ⟨x.toNat, List.mem_range.2 (by omega), by omega⟩
  simpa using this
theorem tabOK_route {ls : List Link} {aa : List Int} {i : Int} {t : List Rt} (h : tabOK ls aa i t) {p : Pfx} {k way : Int} (hp : p.2 = 32) (ha : p.1 ∈ aa) (hk : lnk ls i k) (h0 : 1 ≤ way) (h1 : way ≤ 3) :
    tabOK ls aa i (routeL t p k way) := by
  have put : ∀ r : Rt, rtOK ls aa i r → tabOK ls aa i (putL t r) := fun r hr =>
    ⟨putL_sorted h.1, fun x hx => by
      rcases mem_putL hx with rfl | hx
      · exact hr
      · exact h.2 x hx⟩
  unfold routeL
  split
  · rename_i hf
    have hx : t.getD (rFind t p) default ∈ t := by
      have := getD_mem (xs := t) (i := (rFind t p : Nat)) (by omega) (by omega)
      simpa using this
    have hx := h.2 _ hx
    split
    · exact h
    · rename_i hn
      exact put _ ⟨hp, ha, insN_ne _ _, insN_pw hx.pw hn, fun y hy => by
        rcases mem_insN hy with rfl | hy
        · exact hk
        · exact hx.ln y hy, hx.w0, hx.w1⟩
  · exact put _ ⟨hp, ha, by simp, List.pairwise_singleton _ _, fun y hy => by rw [List.mem_singleton.1 hy]; exact hk, h0, h1⟩

/-- Nodes that agree with others but for their routes, which are right. -/
structure RI (ls : List Link) (aa : List Int) (ns0 ns : List Node) : Prop where
  n : ns.length = ns0.length
  e : ∀ i : Nat, i < ns0.length → setRoutes (ns.getD i default) [] = setRoutes (ns0.getD i default) []
  t : ∀ i : Nat, i < ns0.length → tabOK ls aa i (nRoutes (ns.getD i default))
theorem RI.ports {ls aa ns0 ns} (h : RI ls aa ns0 ns) {i : Nat} (hi : i < ns0.length) : nPorts (ns.getD i default) = nPorts (ns0.getD i default) := by
  have := congrArg nPorts (h.e i hi); exact this
theorem RI.host {ls aa ns0 ns} (h : RI ls aa ns0 ns) {i : Nat} (hi : i < ns0.length) : nHost (ns.getD i default) = nHost (ns0.getD i default) := by
  have := congrArg nHost (h.e i hi); exact this
theorem RI.route {ls aa ns0 ns} (h : RI ls aa ns0 ns) {a : Int} {p : Pfx} {k way : Int} (a0 : 0 ≤ a) (a1 : a < ns0.length) (hp : p.2 = 32) (ha : p.1 ∈ aa) (hk : lnk ls a k) (h0 : 1 ≤ way) (h1 : way ≤ 3) :
    RI ls aa ns0 (routeN ns a p k way) := by
  have hl : a.toNat < ns.length := by have := h.n; omega
  unfold routeN
  refine ⟨by rw [List.length_set]; exact h.n, fun i hi => ?_, fun i hi => ?_⟩
  · by_cases e : a.toNat = i
    · subst e
      rw [getD_set hl]; exact h.e _ hi
    · rw [getD_setne e]; exact h.e _ hi
  · by_cases e : a.toNat = i
    · subst e
      rw [getD_set hl]
      have := tabOK_route (h.t _ hi) (p := p) (k := k) (way := way) hp ha (by rwa [show ((a.toNat : Nat) : Int) = a by omega]) h0 h1
      exact this
    · rw [getD_setne e]; exact h.t _ hi
theorem RI.step {ls aa ns0 ns} (h : RI ls aa ns0 ns) {d : List Int} {to : Int} {p : Pfx} {plain : Bool} {k way a b : Int} (a0 : 0 ≤ a) (a1 : a < ns0.length) (hp : p.2 = 32) (ha : p.1 ∈ aa) (hk : lnk ls a k) (h0 : 1 ≤ way) (h1 : way ≤ 3) :
    RI ls aa ns0 (stepE d to p plain k way ns a b) := by
  unfold stepE
  split
  · exact h
  · split
    · exact h
    · exact h.route a0 a1 hp ha hk h0 h1
def goodEnds (n : Nat) (ls : List Link) : Prop := ∀ l ∈ ls, 0 ≤ l.1 ∧ l.1 < n ∧ 0 ≤ l.2.1 ∧ l.2.1 < n
theorem goodEnds.at' {n : Nat} {ls : List Link} (hg : goodEnds n ls) {k : Nat} (hk : k < ls.length) : (0 ≤ lA (ls.getD k default) ∧ lA (ls.getD k default) < n) ∧ 0 ≤ lB (ls.getD k default) ∧ lB (ls.getD k default) < n := by
  have hx : ls.getD k default ∈ ls := by
    have := getD_mem (xs := ls) (i := (k : Nat)) (by omega) (by omega)
    simpa using this
  obtain ⟨q1, q2, q3, q4⟩ := hg _ hx
  exact ⟨⟨q1, q2⟩, q3, q4⟩
theorem lnkA {ls : List Link} {k : Nat} (hk : k < ls.length) : lnk ls (lA (ls.getD k default)) k := ⟨by omega, by omega, .inl (by simp)⟩
theorem lnkB {ls : List Link} {k : Nat} (hk : k < ls.length) : lnk ls (lB (ls.getD k default)) k := ⟨by omega, by omega, .inr (by simp)⟩
theorem RI.stepK {ls aa ns0 ns} (h : RI ls aa ns0 ns) (hg : goodEnds ns0.length ls) {d : List Int} {to : Int} {p : Pfx} {plain : Bool} {way : Int} {k : Nat} (hk : k < ls.length) (hp : p.2 = 32) (ha : p.1 ∈ aa) (h0 : 1 ≤ way) (h1 : way ≤ 3) :
    RI ls aa ns0 (stepK ls d to p plain way ns k) := by
  have hh := hg.at' hk
  unfold Go.RS.stepK
  exact (h.step hh.1.1 hh.1.2 hp ha (lnkA hk) h0 h1).step hh.2.1 hh.2.2 hp ha (lnkB hk) h0 h1
theorem RI.stepKs {ls aa ns0 ns} (h : RI ls aa ns0 ns) (hg : goodEnds ns0.length ls) {d : List Int} {to : Int} {p : Pfx} {plain : Bool} {way : Int} (hp : p.2 = 32) (ha : p.1 ∈ aa) (h0 : 1 ≤ way) (h1 : way ≤ 3) {n : Nat} (hn : n ≤ ls.length) :
    RI ls aa ns0 ((List.range n).foldl (Go.RS.stepK ls d to p plain way) ns) :=
  foldl_inv _ _ h fun k hk b hb => hb.stepK hg (by have := List.mem_range.1 hk; omega) hp ha h0 h1
theorem RI.stepP {ls aa ns0 ns} (h : RI ls aa ns0 ns) (hg : goodEnds ns0.length ls) {d : List Int} {to : Int} {plain : Bool} {way : Int} {q : Port} (ha : q.1 ∈ aa) (h0 : 1 ≤ way) (h1 : way ≤ 3) :
    RI ls aa ns0 (stepP ls d to plain way ns q) :=
  h.stepKs (p := (q.1, 32)) hg rfl ha h0 h1 (Nat.le_refl _)
def allA (ns : List Node) : List Int := ns.flatMap fun x => (nPorts x).map (·.1)
theorem mem_allA {ns : List Node} {i : Nat} (hi : i < ns.length) {q : Port} (hq : q ∈ nPorts (ns.getD i default)) : q.1 ∈ allA ns := by
  have hx : ns.getD i default ∈ ns := by
    have := getD_mem (xs := ns) (i := (i : Nat)) (by omega) (by omega)
    simpa using this
  exact List.mem_flatMap.2 ⟨_, hx, List.mem_map.2 ⟨q, hq, rfl⟩⟩
theorem RI.stepPs {ls ns0 ns} (h : RI ls (allA ns0) ns0 ns) (hg : goodEnds ns0.length ls) {d : List Int} {to : Int} {plain : Bool} {way : Int} (h0 : 1 ≤ way) (h1 : way ≤ 3) {l : List Port} (hl : ∀ q ∈ l, q.1 ∈ allA ns0) :
    RI ls (allA ns0) ns0 (l.foldl (Go.RS.stepP ls d to plain way) ns) :=
  foldl_inv _ _ h fun q hq b hb => hb.stepP hg (hl q hq) h0 h1
theorem wayC_ok {c : Codes} (h : okB c) : okB (wayC c).2 ∧ 1 ≤ (wayC c).1 ∧ (wayC c).1 ≤ 3 := by
  have k := nextV_ok h 3
  have k2 := nextV_ok k.1 3
  have := nextV_lt h (n := 3) (by omega)
  unfold wayC
  split
  · refine ⟨k2.1, ?_⟩
    dsimp only
    split <;> omega
  · exact ⟨k.1, by dsimp only; omega, by dsimp only; omega⟩
theorem RI.stepT {ls ns0} {s : List Node × Codes} (h : RI ls (allA ns0) ns0 s.1 ∧ okB s.2) (hg : goodEnds ns0.length ls) {plain : Bool} {to : Nat} (ht : to < ns0.length) :
    RI ls (allA ns0) ns0 (stepT ls plain s to).1 ∧ okB (stepT ls plain s to).2 := by
  have w := wayC_ok h.2
  unfold Go.RS.stepT
  refine ⟨h.1.stepPs hg w.2.1 w.2.2 fun q hq => ?_, w.1⟩
  rw [h.1.ports ht] at hq
  exact mem_allA ht hq
theorem RI.stepTs {ls ns0} {s : List Node × Codes} (h : RI ls (allA ns0) ns0 s.1 ∧ okB s.2) (hg : goodEnds ns0.length ls) {plain : Bool} {n : Nat} (hn : n ≤ ns0.length) :
    RI ls (allA ns0) ns0 ((List.range n).foldl (Go.RS.stepT ls plain) s).1 ∧ okB ((List.range n).foldl (Go.RS.stepT ls plain) s).2 :=
  foldl_inv (fun s : List Node × Codes => RI ls (allA ns0) ns0 s.1 ∧ okB s.2) _ h fun k hk b hb => RI.stepT hb hg (by have := List.mem_range.1 hk; omega)
theorem RI.start {ls : List Link} {ns0 : List Node} (h : ∀ x ∈ ns0, nRoutes x = []) : RI ls (allA ns0) ns0 ns0 := by
  refine ⟨rfl, fun _ _ => rfl, fun i hi => ?_⟩
  have hx : ns0.getD i default ∈ ns0 := by
    have := getD_mem (xs := ns0) (i := (i : Nat)) (by omega) (by omega)
    simpa using this
  rw [h _ hx]
  exact ⟨List.Pairwise.nil, fun r hr => by cases hr⟩
end Go.RS


/- Netg: how drawn networks grow: what holds of their nodes and links. -/
namespace Go.RS
open Go.SX Go.Proofs
set_option maxRecDepth 100000
set_option linter.unusedVariables false

def port1 (i : Int) (k : Nat) (l : Link) : List Port := (if lA l = i then [(baseA k + 1, (k : Int))] else []) ++ (if lB l = i then [(baseA k + 2, (k : Int))] else [])
/-- The ports of node 'i' for links that are numbered from 'k' on. -/
def portsF (i : Int) : Nat → List Link → List Port
  | _, [] => []
  | k, l :: r => port1 i k l ++ portsF i (k + 1) r
theorem portsF_snoc (i : Int) (l : Link) : ∀ (k : Nat) (ls : List Link), portsF i k (ls ++ [l]) = portsF i k ls ++ port1 i (k + ls.length) l
  | k, [] => by simp [portsF]
  | k, x :: r => by
    rw [List.cons_append, portsF, portsF_snoc i l (k + 1) r, portsF, List.append_assoc, List.length_cons, show k + 1 + r.length = k + (r.length + 1) by omega]
theorem port1_len (i : Int) (k : Nat) (l : Link) : (port1 i k l).length ≤ 2 := by
  unfold port1
  split <;> split <;> simp
theorem portsF_len (i : Int) : ∀ (k : Nat) (ls : List Link), (portsF i k ls).length ≤ 2 * ls.length
  | k, [] => by simp [portsF]
  | k, x :: r => by
    have := portsF_len i (k + 1) r
    have := port1_len i k x
    rw [portsF, List.length_append, List.length_cons]; omega
theorem portsF_none {i : Int} : ∀ {k : Nat} {ls : List Link}, (∀ x ∈ ls, lA x ≠ i ∧ lB x ≠ i) → portsF i k ls = []
  | k, [], _ => rfl
  | k, x :: r, h => by
    have hx := h x List.mem_cons_self
    rw [portsF, portsF_none fun y hy => h y (List.mem_cons_of_mem _ hy), port1, if_neg hx.1, if_neg hx.2]; rfl
theorem mem_portsF {i : Int} {q : Port} : ∀ {k : Nat} {ls : List Link}, q ∈ portsF i k ls ↔ ∃ j, j < ls.length ∧ ((lA (ls.getD j default) = i ∧ q = (baseA (k + j : Nat) + 1, ((k + j : Nat) : Int))) ∨ (lB (ls.getD j default) = i ∧ q = (baseA (k + j : Nat) + 2, ((k + j : Nat) : Int))))
  | k, [] => by simp [portsF]
  | k, x :: r => by
    rw [portsF, List.mem_append, mem_portsF (k := k + 1) (ls := r)]
    constructor
    · rintro (h | ⟨j, hj, h⟩)
      · refine ⟨0, by simp, ?_⟩
        unfold port1 at h
        rcases List.mem_append.1 h with h | h
        · split at h
          · rename_i e
            exact .inl ⟨e, by simpa using h⟩
          · cases h
        · split at h
          · rename_i e
            exact .inr ⟨e, by simpa using h⟩
          · cases h
      · refine ⟨j + 1, by rw [List.length_cons]; omega, ?_⟩
        rw [List.getD_cons_succ, show k + (j + 1) = k + 1 + j by omega]; exact h
    · rintro ⟨j, hj, h⟩
      cases j with
      | zero =>
        refine .inl ?_
        rw [List.getD_cons_zero] at h
        unfold port1
        rcases h with ⟨e, h⟩ | ⟨e, h⟩
        · rw [if_pos e]; exact List.mem_append.2 (.inl (by simpa using h))
        · rw [if_pos e]; exact List.mem_append.2 (.inr (by simpa using h))
      | succ j =>
        refine .inr ⟨j, by rw [List.length_cons] at hj; omega, ?_⟩
        rw [List.getD_cons_succ, show k + (j + 1) = k + 1 + j by omega] at h; exact h

theorem getD_app_lt {α : Type} [Inhabited α] {l m : List α} {i : Nat} (h : i < l.length) : (l ++ m).getD i default = l.getD i default := by
  rw [List.getD_eq_getElem?_getD, List.getElem?_append_left h, List.getD_eq_getElem?_getD]
theorem getD_app_eq {α : Type} [Inhabited α] {l : List α} {x : α} : (l ++ [x]).getD l.length default = x := by
  rw [List.getD_eq_getElem?_getD]; simp
theorem addPort_get {ns : List Node} {x : Int} {p : Port} (x0 : 0 ≤ x) {i : Nat} (hi : i < ns.length) :
    (addPort ns x p).getD i default = ((ns.getD i default).1 ++ (if x = i then [p] else []), (ns.getD i default).2) := by
  unfold addPort
  by_cases e : x = i
  · have : x.toNat = i := by omega
    rw [this, getD_set hi, if_pos e]
  · have : x.toNat ≠ i := by omega
    rw [getD_setne this, if_neg e, List.append_nil]
theorem addPort_len (ns : List Node) (x : Int) (p : Port) : (addPort ns x p).length = ns.length := by unfold addPort; exact List.length_set

structure GI (s : Scene) (nn nl : Nat) : Prop where
  n : s.1.1.length = nn
  l : s.1.2.1.length = nl
  h : s.1.2.2 = []
  c : okB s.2
  g : ∀ x ∈ s.1.2.1, (0 ≤ lA x ∧ lA x < nn) ∧ (0 ≤ lB x ∧ lB x < nn) ∧ lA x ≠ lB x ∧ (1 ≤ lDelay x ∧ lDelay x ≤ 20) ∧ lJitter x = 0 ∧ lLoss x = 0 ∧ 0 ≤ lSeed x ∧ lSeed x ≤ 255
  p : ∀ i : Nat, i < nn → nPorts (s.1.1.getD i default) = portsF i 0 s.1.2.1
  d : ∀ i : Nat, i < nn → ∃ host f sd, (s.1.1.getD i default).2 = (newNode i host f sd).2 ∧ (f = 64 ∨ f = 255 ∨ f = 128) ∧ 0 ≤ sd ∧ sd ≤ 255
theorem GI.node {s : Scene} {nn nl : Nat} (h : GI s nn nl) (host : Bool) : GI (nodeS s host) (nn + 1) nl := by
  have k3 := nextV_lt h.c (n := 3) (by omega)
  have c3 := (nextV_ok h.c 3).1
  have k4 := nextV_lt c3 (n := 256) (by omega)
  have c4 := (nextV_ok c3 256).1
  refine ⟨by simp only [nodeS, List.length_append, List.length_cons, List.length_nil, h.n], h.l, h.h, c4, fun x hx => ?_, fun i hi => ?_, fun i hi => ?_⟩
  · have := h.g x hx
    omega
  · by_cases e : i < nn
    · rw [show (nodeS s host).1.1.getD i default = s.1.1.getD i default from getD_app_lt (by rw [h.n]; exact e)]
      exact h.p i e
    · have e : i = s.1.1.length := by rw [h.n]; omega
      subst e
      rw [show (nodeS s host).1.1.getD s.1.1.length default = newNode s.1.1.length host _ _ from getD_app_eq]
      refine (portsF_none fun x hx => ?_).symm
      have := h.g x hx
      have := h.n
      omega
  · by_cases e : i < nn
    · rw [show (nodeS s host).1.1.getD i default = s.1.1.getD i default from getD_app_lt (by rw [h.n]; exact e)]
      exact h.d i e
    · have e : i = s.1.1.length := by rw [h.n]; omega
      subst e
      rw [show (nodeS s host).1.1.getD s.1.1.length default = newNode s.1.1.length host _ _ from getD_app_eq]
      refine ⟨host, _, _, rfl, ?_, k4.1, by omega⟩
      rcases (show (nextV s.2 3).1 = 0 ∨ (nextV s.2 3).1 = 1 ∨ (nextV s.2 3).1 = 2 by omega) with e | e | e <;> rw [e] <;> simp
theorem GI.link {s : Scene} {nn nl : Nat} (h : GI s nn nl) {a b : Int} (a0 : 0 ≤ a) (a1 : a < nn) (b0 : 0 ≤ b) (b1 : b < nn) (ne : a ≠ b) : GI (linkS s a b) nn (nl + 1) := by
  have k3 := nextV_lt h.c (n := 20) (by omega)
  have c3 := (nextV_ok h.c 20).1
  have k4 := nextV_lt c3 (n := 256) (by omega)
  have c4 := (nextV_ok c3 256).1
  refine ⟨by simp only [linkS, addPort_len, h.n], by simp only [linkS, List.length_append, List.length_cons, List.length_nil, h.l], h.h, c4, fun x hx => ?_, fun i hi => ?_, fun i hi => ?_⟩
  · rcases List.mem_append.1 hx with hx | hx
    · exact h.g x hx
    · rw [List.mem_singleton.1 hx]
      refine ⟨⟨a0, a1⟩, ⟨b0, b1⟩, ne, ?_, rfl, rfl, k4.1, ?_⟩
      · show 1 ≤ 1 + (nextV s.2 20).1 ∧ 1 + (nextV s.2 20).1 ≤ 20
        omega
      · show (nextV (nextV s.2 20).2 256).1 ≤ 255
        omega
  · have hp := h.p i hi
    unfold linkS
    dsimp only
    rw [addPort_get b0 (by rw [addPort_len, h.n]; exact hi), addPort_get a0 (by rw [h.n]; exact hi), portsF_snoc, ← hp, Nat.zero_add]
    simp only [nPorts, port1, lA, lB, List.append_assoc]
    rfl
  · unfold linkS
    dsimp only
    rw [addPort_get b0 (by rw [addPort_len, h.n]; exact hi), addPort_get a0 (by rw [h.n]; exact hi)]
    exact h.d i hi
theorem GI.codes {s : Scene} {nn nl : Nat} (h : GI s nn nl) {c : Codes} (hc : okB c) : GI (s.1, c) nn nl := ⟨h.n, h.l, h.h, hc, h.g, h.p, h.d⟩
theorem GI.start {c : Codes} (hc : okB c) : GI (([], [], []), c) 0 0 :=
  ⟨rfl, rfl, rfl, hc, fun x hx => (by cases hx), fun i hi => (by omega), fun i hi => (by omega)⟩
theorem GI.routes {s : Scene} {nn nl : Nat} (h : GI s nn nl) : ∀ x ∈ s.1.1, nRoutes x = [] := fun x hx => by
  obtain ⟨i, hi, e⟩ := List.mem_iff_getElem.1 hx
  obtain ⟨host, f, sd, hd, -⟩ := h.d i (by rw [← h.n]; exact hi)
  have : s.1.1.getD i default = x := by rw [List.getD_eq_getElem?_getD, List.getElem?_eq_getElem hi, e]; rfl
  rw [this] at hd
  show x.2.2.2.2.1 = []
  rw [hd]; rfl
theorem GI.plen {s : Scene} {nn nl : Nat} (h : GI s nn nl) : ∀ x ∈ s.1.1, x.1.length ≤ 2 * nl := fun x hx => by
  obtain ⟨i, hi, e⟩ := List.mem_iff_getElem.1 hx
  have hp := h.p i (by rw [← h.n]; exact hi)
  have : s.1.1.getD i default = x := by rw [List.getD_eq_getElem?_getD, List.getElem?_eq_getElem hi, e]; rfl
  rw [this] at hp
  have := portsF_len i 0 s.1.2.1
  rw [← hp, h.l] at this; exact this
theorem allA_len : ∀ {ns : List Node} {m : Nat}, (∀ x ∈ ns, x.1.length ≤ m) → (allA ns).length ≤ ns.length * m
  | [], m, _ => by simp [allA]
  | x :: r, m, h => by
    have k := allA_len (ns := r) (m := m) fun y hy => h y (List.mem_cons_of_mem _ hy)
    have hx := h x List.mem_cons_self
    unfold allA at k ⊢
    rw [List.flatMap_cons, List.length_append, List.length_map, List.length_cons, Nat.succ_mul]
    show (nPorts x).length + _ ≤ _
    have : (nPorts x).length ≤ m := hx
    omega
theorem GI.ends {s : Scene} {nn nl : Nat} (h : GI s nn nl) : goodEnds s.1.1.length s.1.2.1 := fun x hx => by
  have := h.g x hx
  rw [h.n]
  exact ⟨this.1.1, this.1.2, this.2.1.1, this.2.1.2⟩
/-- The chain. -/
theorem GI.chain {s : Scene} (h : GI s 1 0) : ∀ k : Nat, GI ((List.range k).foldl chainS s) (k + 1) k
  | 0 => h
  | k + 1 => by
    rw [List.range_succ, List.foldl_append]
    exact ((GI.chain h k).node false).link (by omega) (by omega) (by omega) (by omega) (by omega)
def lineN (c : Codes) : Int := 1 + (nextV (nodeS (([], [], []), c) true).2 5).1
def line0 (c : Codes) : Scene := ((nodeS (([], [], []), c) true).1, (nextV (nodeS (([], [], []), c) true).2 5).2)
theorem line0_ok {c : Codes} (h : okB c) : GI (line0 c) 1 0 := ((GI.start h).node true).codes (nextV_ok ((GI.start h).node true).c 5).1
theorem lineN_ok {c : Codes} (h : okB c) : 1 ≤ lineN c ∧ lineN c ≤ 5 := by
  have := nextV_lt ((GI.start h).node true).c (n := 5) (by omega)
  unfold lineN; omega
theorem lineS_eq (c : Codes) : lineS c = (lineN c, linkS (nodeS ((List.range (lineN c).toNat).foldl chainS (line0 c)) true) (lineN c) (lineN c + 1)) := rfl
theorem line_ok {c : Codes} (h : okB c) : GI (lineS c).2 ((lineN c).toNat + 2) ((lineN c).toNat + 1) := by
  have := lineN_ok h
  rw [lineS_eq]
  exact (((line0_ok h).chain _).node true).link (by omega) (by omega) (by omega) (by omega) (by omega)
theorem GI.short {s : Scene} {nn nl : Nat} (h : GI s nn nl) {n : Int} (n1 : 1 ≤ n) (hn : n + 2 ≤ nn) : ∃ m, nl ≤ m ∧ m ≤ nl + 1 ∧ GI (shortS n s) nn m := by
  have ka := nextV_lt h.c (n := n) (by omega)
  have ca := (nextV_ok h.c n).1
  have kb := nextV_lt ca (n := n) (by omega)
  have cb := (nextV_ok ca n).1
  unfold shortS
  dsimp only
  split
  · exact ⟨nl, by omega, by omega, h.codes cb⟩
  · rename_i e
    exact ⟨nl + 1, by omega, by omega, (h.codes cb).link (by omega) (by omega) (by omega) (by omega) (by omega)⟩
theorem GI.shorts {s : Scene} {nn nl : Nat} (h : GI s nn nl) {n : Int} (n1 : 1 ≤ n) (hn : n + 2 ≤ nn) : ∀ k : Nat, ∃ m, nl ≤ m ∧ m ≤ nl + k ∧ GI ((List.range k).foldl (fun s _ => shortS n s) s) nn m
  | 0 => ⟨nl, by omega, by omega, h⟩
  | k + 1 => by
    obtain ⟨m, m0, m1, hm⟩ := GI.shorts h n1 hn k
    obtain ⟨m', q0, q1, hq⟩ := hm.short n1 hn
    refine ⟨m', by omega, by omega, ?_⟩
    rw [List.range_succ, List.foldl_append]; exact hq
/-- After the shortcuts. -/
def more1 (plain : Bool) (n : Int) (s : Scene) (k : Nat) : Scene := if 1 < n ∧ plain = false then (List.range k).foldl (fun s _ => shortS n s) (s.1, (nextV s.2 4).2) else (s.1, (nextV s.2 4).2)
theorem more1_ok {s : Scene} {nn nl : Nat} (h : GI s nn nl) {plain : Bool} {n : Int} (n1 : 1 ≤ n) (hn : n + 2 ≤ nn) (k : Nat) : ∃ m, nl ≤ m ∧ m ≤ nl + k ∧ GI (more1 plain n s k) nn m := by
  have hc := h.codes (nextV_ok h.c 4).1
  unfold more1
  split
  · exact hc.shorts n1 hn k
  · exact ⟨nl, by omega, by omega, hc⟩
theorem moreS_eq (plain : Bool) (n : Int) (s : Scene) : moreS plain n s = (let s1 := more1 plain n s (nextV s.2 4).1.toNat
    if plain = true ∧ 2 < n then
      if (nextV s1.2 2).1 = 1 then linkS (s1.1, (nextV (nextV s1.2 2).2 (n - 1)).2) (1 + (nextV (nextV s1.2 2).2 (n - 1)).1) n else (s1.1, (nextV s1.2 2).2)
    else s1) := rfl
theorem moreS_ok {s : Scene} {nn nl : Nat} (h : GI s nn nl) {plain : Bool} {n : Int} (n1 : 1 ≤ n) (hn : n + 2 ≤ nn) : ∃ m, nl ≤ m ∧ m ≤ nl + 4 ∧ GI (moreS plain n s) nn m := by
  have k4 := nextV_lt h.c (n := 4) (by omega)
  obtain ⟨m, m0, m1, hm⟩ := more1_ok h (plain := plain) n1 hn (nextV s.2 4).1.toNat
  rw [moreS_eq]
  dsimp only
  generalize more1 plain n s (nextV s.2 4).1.toNat = t at hm ⊢
  have c2 := (nextV_ok hm.c 2).1
  have c3 := (nextV_ok c2 (n - 1)).1
  split
  · rename_i e
    split
    · have k5 := nextV_lt c2 (n := n - 1) (by omega)
      exact ⟨m + 1, by omega, by omega, (hm.codes c3).link (by omega) (by omega) (by omega) (by omega) (by omega)⟩
    · exact ⟨m, by omega, by omega, hm.codes c2⟩
  · exact ⟨m, by omega, by omega, hm⟩
theorem net_ok {c : Codes} (h : okB c) (plain : Bool) : ∃ m, 2 ≤ m ∧ m ≤ 10 ∧ GI (moreS plain (lineS c).1 (lineS c).2) ((lineN c).toNat + 2) m := by
  have hn := lineN_ok h
  obtain ⟨m, m0, m1, hm⟩ := moreS_ok (line_ok h) (plain := plain) (n := lineN c) hn.1 (by omega)
  exact ⟨m, by omega, by omega, hm⟩
end Go.RS

