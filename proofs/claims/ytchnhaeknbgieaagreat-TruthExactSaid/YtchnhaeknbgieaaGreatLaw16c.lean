/- Law16c: the law of exact answers. -/
import Derived.Test.YtchnhaeknbgieaaGreatNetg
import Derived.Test.YtchnhaeknbgieaaGreatRef14
import Derived.Test.YtchnhaeknbgieaaGreatDrawn3
namespace Go.RS
open Go.SX Go.Proofs
set_option maxRecDepth 100000
set_option linter.unusedVariables false

theorem port_pos {x : Node} {k : Int} (h : k ∈ pLinks x) : 0 ≤ portL x k := by
  unfold portL findP
  have : (nPorts x).findIdx (isL k) < (nPorts x).length := by
    obtain ⟨q, hq, e⟩ := List.mem_map.1 h
    exact List.findIdx_lt_length_of_exists ⟨q, hq, by unfold isL; exact decide_eq_true e⟩
  rw [if_pos this]; omega
theorem DN.portp {n : Net} (h : DN n) {i k : Int} (i0 : 0 ≤ i) (i1 : i < n.1.length) (hk : lnk n.2.1 i k) : 0 ≤ portL (n.1.getD i.toNat default) k :=
  port_pos ((h.links (i := i.toNat) (by omega)).2 (by rw [show ((i.toNat : Nat) : Int) = i by omega]; exact hk))
theorem lnk_other {ls : List Link} {i k : Int} (h : lnk ls i k) (hne : lA (ls.getD k.toNat default) ≠ lB (ls.getD k.toNat default)) : lnk ls (otherV ls k i) k := by
  obtain ⟨k0, k1, e⟩ := h
  refine ⟨k0, k1, ?_⟩
  rcases e with e | e
  · subst e; rw [other_a k0 k1]; exact .inr rfl
  · subst e; rw [other_b k0 k1 hne]; exact .inl rfl
structure WL (n : Net) (w : Way) : Prop where
  i : WI n w
  k : ∀ i : Nat, i < w.2.1.length → lnk n.2.1 (w.1.getD (i + 1) default) (w.2.1.getD i default)
theorem WL.step {n : Net} (D : DN n) {at' : Int} {k : Key} {w : Way} (h : WL n w) : WL n (stepW n at' k w) := by
  refine ⟨h.i.step D.wn, ?_⟩
  have hl := h.i.l
  have hr := h.i.r _ (lastI_mem (ns := w.1) (by omega))
  have lm := look_mem (l := routesV n (lastI w.1) at') (a := k.2.1)
  have nx := D.next (at' := at') hr.1 hr.2
  unfold stepW stepR1
  split
  · exact h.k
  split
  · exact h.k
  split
  · exact h.k
  rename_i h2
  split
  · exact h.k
  split
  · exact h.k
  have hok : lookB (routesV n (lastI w.1) at') k.2.1 = true := by
    cases hh : lookB (routesV n (lastI w.1) at') k.2.1
    · exact absurd (.inl hh) h2
    · rfl
  have pr := pick_range (r := lookR (routesV n (lastI w.1) at') k.2.1) (seed := nSeed (n.1.getD (lastI w.1).toNat default)) (k := k) (by
    have : ¬ (lookR (routesV n (lastI w.1) at') k.2.1).2.1.length = 0 := fun e => h2 (.inr e)
    omega)
  have ho := nx _ (lm hok) _ (getD_mem pr.1 pr.2)
  have hg := D.g _ (getD_mem ho.1 ho.2.1)
  have ho2 := lnk_other ho hg.2.2.1
  intro i hi
  dsimp only at hi ⊢
  rw [List.length_append, List.length_singleton] at hi
  by_cases e : i < w.2.1.length
  · rw [getD_app_lt (by omega), getD_app_lt (by omega)]
    exact h.k i e
  · have e : i = w.2.1.length := by omega
    subst e
    rw [getD_app_eq, ← hl, getD_app_eq]
    exact ho2
theorem WL.run {n : Net} (D : DN n) {at' : Int} {k : Key} : ∀ (f : Nat) {w : Way}, WL n w → WL n (runW n at' k f w)
  | 0, w, h => h
  | f + 1, w, h => by
    rw [runW]
    split
    · exact WL.run D f (h.step D)
    · exact h
theorem trace_wl {n : Net} (D : DN n) {at' who : Int} {k : Key} (w0 : 0 ≤ who) (w1 : who < n.1.length) : WL n (traceV n at' who k) :=
  WL.run D 257 ⟨⟨rfl, Nat.zero_le _, fun x hx => by rw [List.mem_singleton.1 hx]; exact ⟨w0, w1⟩⟩, fun i hi => absurd hi (Nat.not_lt_zero _)⟩
theorem WL.sg {n : Net} (D : DN n) {w : Way} (h : WL n w) (at' i to : Int) : SG n at' w i to where
  l := h.i.l
  s := fun i1 i2 => by
    have hr := h.i.r _ (getD_mem (xs := w.1) (i := i) (by omega) i2)
    have := (D.d (w.1.getD i.toNat default).toNat (by omega)).src
    omega
  p := fun i1 i2 => by
    have hr := h.i.r _ (getD_mem (xs := w.1) (i := i) (by omega) i2)
    have hl := h.i.l
    have hk := h.k (i - 1).toNat (by omega)
    rw [show (i - 1).toNat + 1 = i.toNat by omega] at hk
    exact D.portp hr.1 hr.2 hk
  r := fun i1 i2 hb hne => by
    have hr := h.i.r _ (getD_mem (xs := w.1) (i := i) (by omega) i2)
    have := D.next hr.1 hr.2 _ (look_mem hb) _ (getD_memN (i := 0) (Nat.pos_of_ne_zero hne))
    exact D.portp hr.1 hr.2 this
theorem WL.d2 {n : Net} (D : DN n) {w : Way} (h : WL n w) : okD2 n w.2.1 where
  len := by have := h.i.m; omega
  k := fun k hk => by
    obtain ⟨i, hi, rfl⟩ := getD_of_mem hk
    have := h.k i hi
    exact ⟨this.1, this.2.1⟩
  d := fun x hx => by
    have := D.g x hx
    omega
theorem hasV_nat (m k : Nat) (hm : m < 512) (hk : k < 9) : hasV (m : Int) ((2 ^ k : Nat) : Int) = bitOn (m : Int) (k : Int) := by
  rw [bitOn_nat m k (by omega)]
  have hp : 2 ^ k < 2 ^ 9 := Nat.pow_lt_pow_right (by decide) hk
  have hq : 0 < 2 ^ k := Nat.two_pow_pos k
  have e : m &&& 2 ^ k = if m.testBit k = true then 2 ^ k else 0 := by
    refine Nat.eq_of_testBit_eq fun i => ?_
    rw [Nat.testBit_and, Nat.testBit_two_pow]
    by_cases q : k = i
    · subst q
      rw [decide_eq_true rfl, Bool.and_true]
      cases h : m.testBit k with
      | false => rw [if_neg (by decide), Nat.zero_testBit]
      | true => rw [if_pos rfl, Nat.testBit_two_pow_self]
    · rw [decide_eq_false q, Bool.and_false]
      split
      · rw [Nat.testBit_two_pow, decide_eq_false q]
      · rw [Nat.zero_testBit]
  unfold hasV
  have e2 : bits .and .i64 (m : Int) ((2 ^ k : Nat) : Int) = ((m &&& 2 ^ k : Nat) : Int) := by
    generalize 2 ^ k = q at hp
    show IntKind.i64.wrap ((BitVec.ofInt 64 (m : Int) &&& BitVec.ofInt 64 (q : Int)).toNat : Nat) = _
    rw [BitVec.toNat_and, BitVec.toNat_ofInt, BitVec.toNat_ofInt, show ((m : Int) % ((2 ^ 64 : Nat) : Int)).toNat = m by omega, show ((q : Int) % ((2 ^ 64 : Nat) : Int)).toNat = q by omega]
    have : m &&& q ≤ m := Nat.and_le_left
    exact w64 (by omega) (by omega)
  rw [e2, e]
  cases m.testBit k with
  | false => rw [if_neg (by decide)]; rfl
  | true => rw [if_pos rfl, decide_eq_false (by omega)]; rfl
theorem hasV_at {a : Int} (a0 : 0 ≤ a) (a1 : a < 512) {k : Nat} (hk : k < 9) : hasV a ((2 ^ k : Nat) : Int) = bitOn a (k : Int) := by
  have := hasV_nat a.toNat k (by omega) hk
  rwa [show ((a.toNat : Nat) : Int) = a by omega] at this
theorem all_imp {α : Type} {A : Bool} {f g : α → Bool} : ∀ l : List α, l.all (fun x => (!A || f x) && g x) = ((!A || l.all f) && l.all g)
  | [] => by cases A <;> rfl
  | x :: r => by
    rw [List.all_cons, List.all_cons, List.all_cons, all_imp r]
    cases A <;> cases f x <;> cases g x <;> cases r.all f <;> cases r.all g <;> rfl
theorem all_tt {α : Type} : ∀ l : List α, l.all (fun _ => true) = true
  | [] => rfl
  | _ :: r => by rw [List.all_cons, all_tt r]; rfl
theorem nodes_eq (n : Net) (a : Int) : nodesV n a = (((!hasV a 2 || n.1.all pVis) && ((!hasV a 4 || n.1.all pUns) && ((!hasV a 8 || n.1.all pInc) && (!hasV a 256 || n.1.all pTal)))) && ((!hasV a 64 || n.2.1.all pSte) && (!hasV a 128 || n.2.1.all pLos))) := by
  unfold nodesV
  have e1 : (fun x => !nodeHas a x) = fun x => (!hasV a 2 || pVis x) && ((!hasV a 4 || pUns x) && ((!hasV a 8 || pInc x) && ((!hasV a 256 || pTal x) && true))) := by
    funext x
    unfold nodeHas pVis pUns pInc pTal
    rw [show decide ((nLimit x).1 ≤ 0) = !decide (0 < (nLimit x).1) by
      by_cases h : 0 < (nLimit x).1
      · rw [decide_eq_true h, decide_eq_false (by omega)]; rfl
      · rw [decide_eq_false h, decide_eq_true (by omega)]; rfl]
    cases hasV a 2 <;> cases nOpaque x <;> cases hasV a 4 <;> cases decide (nSource x = 4) <;> cases hasV a 8 <;> cases decide (nSource x = 1) <;> cases hasV a 256 <;> cases nSilent x <;> cases decide (0 < (nLimit x).1) <;> rfl
  have e2 : (fun x => !linkHas a x) = fun x => (!hasV a 64 || pSte x) && ((!hasV a 128 || pLos x) && true) := by
    funext x
    unfold linkHas pSte pLos
    cases hasV a 64 <;> cases decide (lJitter x = 0) <;> cases hasV a 128 <;> cases decide (lLoss x = 0) <;> rfl
  rw [e1, e2, all_imp, all_imp, all_imp, all_imp, all_tt, all_imp, all_imp, all_tt, Bool.and_true, Bool.and_true]
theorem rtimes_all {hs : List Change} (hp : hs.Pairwise fun a b => hAt a ≤ hAt b) {q : Int → Bool} (hq : steadyQ hs q) {s t : Int} (hst : s ≤ t) : (rtimesV hs s t).all q = (timesV hs s t).all q := by
  rw [Bool.eq_iff_iff]
  constructor
  · intro h
    rw [List.all_eq_true] at h ⊢
    intro x hx
    obtain ⟨x0, x1, e⟩ := (times_inv hp hst).el x hx
    refine h x ?_
    unfold rtimesV
    by_cases k : x = s
    · rw [k]; exact List.mem_cons_self
    rcases e with e | ⟨c, hc, e⟩
    · exact absurd e k
    · exact List.mem_cons_of_mem _ (List.mem_map.2 ⟨c, List.mem_filter.2 ⟨hc, by unfold between; exact decide_eq_true (by omega)⟩, e.symm⟩)
  · intro h
    rw [times_all hp hq hst] at h
    rw [List.all_eq_true]
    intro x hx
    unfold rtimesV at hx
    rcases List.mem_cons.1 hx with rfl | hx
    · exact h _ (Int.le_refl _) hst
    · obtain ⟨c, hc, rfl⟩ := List.mem_map.1 hx
      have := of_decide_eq_true (List.mem_filter.1 hc).2
      exact h _ (by omega) (by omega)
theorem bits_open (a : Int) (b0 b1 b2 b3 b4 b5 b6 b7 b8 : Bool) : bitsOK a 0 [b0, b1, b2, b3, b4, b5, b6, b7, b8] = ((!bitOn a 0 || b0) && ((!bitOn a 1 || b1) && ((!bitOn a 2 || b2) && ((!bitOn a 3 || b3) && ((!bitOn a 4 || b4) && ((!bitOn a 5 || b5) && ((!bitOn a 6 || b6) && ((!bitOn a 7 || b7) && ((!bitOn a 8 || b8) && true))))))))) := rfl
theorem rholds_eq {n : Net} (hp : n.2.2.Pairwise fun a b => hAt a ≤ hAt b) {a who s t : Int} (w0 : 0 ≤ who) (w1 : who < n.1.length) (wp : 0 < (nPorts (n.1.getD who.toNat default)).length) : rholdsV n a who s t = holdsV n a who s t := by
  unfold rholdsV holdsV
  by_cases h : a < 0 ∨ 512 ≤ a ∨ t < s
  · rw [show (decide (t < s) || decide (a < 0) || decide (512 ≤ a)) = true by simpa using (by omega : (t < s ∨ a < 0) ∨ 512 ≤ a), show (decide (a < 0) || decide (512 ≤ a) || decide (t < s)) = true by simpa using (by omega : (a < 0 ∨ 512 ≤ a) ∨ t < s)]; rfl
  have a0 : 0 ≤ a := by omega
  have a1 : a < 512 := by omega
  have hst : s ≤ t := by omega
  rw [decide_eq_false (show ¬ t < s by omega), decide_eq_false (show ¬ a < 0 by omega), decide_eq_false (show ¬ 512 ≤ a by omega)]
  have et : (rtimesV n.2.2 s t).all (fun x => (!hasV a 16 || flowV n x) && (!hasV a 32 || symAt n who x)) = ((!hasV a 16 || (timesV n.2.2 s t).all (flowV n)) && (!hasV a 32 || (timesV n.2.2 s t).all (symAt n who))) := by
    rw [show (fun x => (!hasV a 16 || flowV n x) && (!hasV a 32 || symAt n who x)) = fun x => (!hasV a 16 || flowV n x) && ((!hasV a 32 || symAt n who x) && true) from funext fun x => by rw [Bool.and_true], all_imp, all_imp, all_tt, Bool.and_true, rtimes_all hp (flow_steady n) hst, rtimes_all hp (sym_steady n who) hst]
  have es : symV n who s t = (timesV n.2.2 s t).all (symAt n who) := by
    unfold symV
    rw [decide_eq_true ⟨w0, w1, wp⟩, Bool.true_and]
  rw [et, nodes_eq]
  unfold spanV
  rw [bits_open, es]
  have h0 := hasV_at a0 a1 (k := 0) (by decide)
  have h1 := hasV_at a0 a1 (k := 1) (by decide)
  have h2 := hasV_at a0 a1 (k := 2) (by decide)
  have h3 := hasV_at a0 a1 (k := 3) (by decide)
  have h4 := hasV_at a0 a1 (k := 4) (by decide)
  have h5 := hasV_at a0 a1 (k := 5) (by decide)
  have h6 := hasV_at a0 a1 (k := 6) (by decide)
  have h7 := hasV_at a0 a1 (k := 7) (by decide)
  have h8 := hasV_at a0 a1 (k := 8) (by decide)
  have h0 : hasV a 1 = bitOn a 0 := h0
  have h1 : hasV a 2 = bitOn a 1 := h1
  have h2 : hasV a 4 = bitOn a 2 := h2
  have h3 : hasV a 8 = bitOn a 3 := h3
  have h4 : hasV a 16 = bitOn a 4 := h4
  have h5 : hasV a 32 = bitOn a 5 := h5
  have h6 : hasV a 64 = bitOn a 6 := h6
  have h7 : hasV a 128 = bitOn a 7 := h7
  have h8 : hasV a 256 = bitOn a 8 := h8
  rw [h0, h1, h2, h3, h4, h5, h6, h7, h8]
  have eb : (!(bitOn a 0 && n.2.2.any (between s t))) = (!bitOn a 0 || !n.2.2.any (between s t)) := by cases bitOn a 0 <;> rfl
  rw [eb]
  generalize (!bitOn a 0 || !n.2.2.any (between s t)) = c0
  generalize (!bitOn a 1 || n.1.all pVis) = c1
  generalize (!bitOn a 2 || n.1.all pUns) = c2
  generalize (!bitOn a 3 || n.1.all pInc) = c3
  generalize (!bitOn a 4 || (timesV n.2.2 s t).all (flowV n)) = c4
  generalize (!bitOn a 5 || (timesV n.2.2 s t).all (symAt n who)) = c5
  generalize (!bitOn a 6 || n.2.1.all pSte) = c6
  generalize (!bitOn a 7 || n.2.1.all pLos) = c7
  generalize (!bitOn a 8 || n.1.all pTal) = c8
  cases c0 <;> cases c1 <;> cases c2 <;> cases c3 <;> cases c4 <;> cases c5 <;> cases c6 <;> cases c7 <;> cases c8 <;> rfl
theorem any_sub {hs : List Change} {s t u : Int} (h : hs.any (between s t) = false) (hu : u ≤ t) : hs.any (between s u) = false := by
  rw [List.any_eq_false] at h ⊢
  intro c hc k
  refine h c hc ?_
  unfold between at k ⊢
  have k := of_decide_eq_true k
  exact decide_eq_true (by omega)
theorem times_calm {hs : List Change} (hp : hs.Pairwise fun a b => hAt a ≤ hAt b) {q : Int → Bool} (hq : steadyQ hs q) {t d : Int} (d0 : 0 ≤ d) (h : hs.any (between t (t + d)) = false) : (timesV hs t (t + d)).all q = q t := by
  rw [Bool.eq_iff_iff, times_all hp hq (by omega)]
  constructor
  · exact fun k => k t (Int.le_refl _) (by omega)
  · exact fun k τ a b => by rw [← hq t τ a (any_sub h b)]; exact k
theorem holds_calm {n : Net} (hp : n.2.2.Pairwise fun a b => hAt a ≤ hAt b) {a who t d : Int} (d0 : 0 ≤ d) (h : n.2.2.any (between t (t + d)) = false) : holdsV n a who t (t + d) = holdsV n a who t (t + 0) := by
  have h0 := any_sub (u := t + 0) h (by omega)
  unfold holdsV spanV symV
  rw [h, h0, times_calm hp (flow_steady n) d0 h, times_calm hp (flow_steady n) (Int.le_refl 0) h0, times_calm hp (sym_steady n who) d0 h, times_calm hp (sym_steady n who) (Int.le_refl 0) h0, decide_eq_false (show ¬ t + d < t by omega), decide_eq_false (show ¬ t + 0 < t by omega)]
theorem okB_nil : okB ([], 0) := ⟨⟨by decide, by decide⟩, fun x hx => by cases hx⟩
def ct_NextW : Cn := ⟨[.box 62 cCodes, .val cI], [.val cI], fun d => [okC d.1], fun d y => 0 ≤ y.1.1 ∧ (y.1.1 < d.2.1 ∨ y.1.1 = 0) ∧ okB y.2.1, fun d h => ⟨((0, ()), (([], 0), ())), by simp, by simp, okB_nil⟩⟩
def an_NextW : PDs ct_NextW.ps → Anns := (fun _ => {})
theorem vc_NextW : ∀ (x : List Int) (x_1 x_2 : Int), ((x.length <= maxLen /\ ∀ (x_3 : Int), x_3 ∈ x -> 0 <= x_3 /\ x_3 <= 255) /\ R64 x_1) /\ R64 x_2 /\ True -> 0 <= x_1 /\ x_1 <= (x.length : Int) -> ∀ (b : Bool), b = decide ((x.length : Int) <= x_1) -> ((!b) -> ((!b) -> (!b)) /\ True) /\ (b = false -> (!b)) /\ ifP (bif b then true else decide (x_2 < 1)) ((0 : Int) <= 0 /\ (0 < x_2 ∨ (0 : Int) = 0) /\ okB (x, x_1)) (0 <= x_1 /\ x_1 < (x.length : Int) /\ ifP (decide (256 < x_2)) (okC (x, IntKind.wrap .i64 (x_1 + (1 : Int))) /\ (256 : Int) <= 256 /\ x_2 ≠ (0 : Int) /\ 0 <= Int.tmod (IntKind.wrap .i64 (IntKind.wrap .i64 ((256 : Int) * IntKind.wrap .i64 (x.getD x_1.toNat default)) + (next1 (x, IntKind.wrap .i64 (x_1 + (1 : Int))) (256 : Int)).1)) x_2 /\ (Int.tmod (IntKind.wrap .i64 (IntKind.wrap .i64 ((256 : Int) * IntKind.wrap .i64 (x.getD x_1.toNat default)) + (next1 (x, IntKind.wrap .i64
 (x_1 + (1 : Int))) (256 : Int)).1)) x_2 < x_2 ∨ Int.tmod (IntKind.wrap .i64 (IntKind.wrap .i64 ((256 : Int) * IntKind.wrap .i64 (x.getD x_1.toNat default)) + (next1 (x, IntKind.wrap .i64 (x_1 + (1 : Int))) (256 : Int)).1)) x_2 = 0) /\ okB (next1 (x, IntKind.wrap .i64 (x_1 + (1 : Int))) (256 : Int)).2) (x_2 ≠ (0 : Int) /\ 0 <= Int.tmod (IntKind.wrap .i64 (x.getD x_1.toNat default)) x_2 /\ (Int.tmod (IntKind.wrap .i64 (x.getD x_1.toNat default)) x_2 < x_2 ∨ Int.tmod (IntKind.wrap .i64 (x.getD x_1.toNat default)) x_2 = 0) /\ okB (x, IntKind.wrap .i64 (x_1 + (1 : Int))))) := by
  rintro l p n ⟨⟨⟨hl, hw⟩, h0, h1⟩, ⟨h2, h3⟩, -⟩ ⟨hc1, hc2⟩
  simp only [maxLen] at hl hc1 hc2
  (repeat (intro (b_ : Bool) (hb_ : b_ = _); (repeat refine ⟨(by first | (simp; done) | (rw [hb_]; simp; done) | (rw [hb_]; simp; omega) | (rw [hb_]; simp; intros; omega) | (rw [hb_]; simp +contextual; done)), ?_⟩); subst hb_))
  refine ifP_or (fun hb => ?_) (fun hb1 hb2 => ?_)
  · exact ⟨by omega, by simp, ⟨hc1, hc2⟩, hw⟩
  · have hb1 := of_decide_eq_false hb1
    have hb2 := of_decide_eq_false hb2
    obtain ⟨hm0, hm1⟩ := hw _ (getD_mem hc1 (show p < l.length by omega))
    have hok : okB (l, p + 1) := ⟨⟨by show 0 ≤ p + 1; omega, by show p + 1 ≤ l.length; omega⟩, hw⟩
    rw [w64 (n := p + 1) (by omega) (by omega), w64 (n := l.getD p.toNat default) (by omega) (by omega)]
    refine ⟨hc1, by omega, ifP_split (fun k => ?_) (fun k => ⟨by omega, ?_⟩)⟩
    · have k := of_decide_eq_true k
      have hr := next1_ok hok 256
      refine ⟨hok.at', by omega, by omega, ?_⟩
      rw [w64 (n := 256 * _) (by omega) (by omega), w64 (by omega) (by omega)]
      exact ⟨tmod_lo (by omega), .inl (tmod_hi (by omega) (by omega)), hr.1⟩
    · exact ⟨tmod_lo hm0, .inl (tmod_hi hm0 (by omega)), hok⟩
theorem ok_NextW : SpecOK Tryz.prog GL 7 ct_NextW.spec := Cn.okH _ Tryz.func7 (by kernel_rfl) (withSpec_ok noSpecs_ok ok_Next1x) hmix an_NextW (hideMp (by kernel_rfl) vc_NextW)

def ct_law16_key : Cn := ⟨[.box 62 cCodes, .agg cNet], [.agg cKey], fun d => [okC d.1], fun d y => okC y.2.1, fun d h => ⟨(((0, 0, 0, 0, 0), ()), (d.1, ())), h.1⟩⟩
def an_law16_key : PDs ct_law16_key.ps → Anns := (fun _ => {})
theorem vc_law16_key : ∀ (x : List Int) (x1 : Int) (x2 : List Node) (x3 : List Link) (x4 : List Change), ((x.length <= maxLen /\ ∀ (x5 : Int), x5 ∈ x -> 0 <= x5 /\ x5 <= 255) /\ R64 x1) /\ ((x2.length <= maxLen /\ ∀ (x : Node), x ∈ x2 -> CT.wf cNode x) /\ (x3.length <= maxLen /\ ∀ (x : Link), x ∈ x3 -> CT.wf cLink x) /\ x4.length <= maxLen /\ ∀ (x : Change), x ∈ x4 -> CT.wf cChange x) /\ True -> 0 <= x1 /\ x1 <= (x.length : Int) -> okC (x, x1) /\ ∀ (x : Int) (x5 : List Int) (x6 : Int), okC (x5, x6) /\ 0 <= x /\ x <= 4294967295 -> okC (x5, x6) /\ ∀ (x : Int) (x7 : List Int) (x8 : Int), okC (x7, x8) /\ 0 <= x /\ x <= 4294967295 -> okC (x7, x8) /\ ∀ (x : Int) (x9 : List Int) (x10 : Int), okC (x9, x10) /\ (x = 17 ∨ x = 1 ∨ x = 6) -> okC (x9, x10) /\ ∀ (x : Int) (x11 : List Int) (x12 : Int), 0 <= x /\ (x < 8 ∨ x = 0) /\ okB (x11, x12) -> 0 <= x12 /\ x12 <= (x11.length : Int) := by
  rintro l p ns ls hs - hc
  refine ⟨hc, ?_⟩
  rintro _ _ _ ⟨h, -⟩
  refine ⟨h, ?_⟩
  rintro _ _ _ ⟨h, -⟩
  refine ⟨h, ?_⟩
  rintro _ _ _ ⟨h, -⟩
  refine ⟨h, ?_⟩
  rintro _ _ _ ⟨-, -, h⟩
  exact h.at'
theorem ok_law16_key : SpecOK Tryz.prog GL 8 ct_law16_key.spec := Cn.okH _ Tryz.func8 (by kernel_rfl) (withSpec_ok (withSpec_ok (withSpec_ok noSpecs_ok ok_draw_Codes_Some) ok_draw_Codes_Proto) ok_NextW) hmix an_law16_key (hideMp (by kernel_rfl) vc_law16_key)
abbrev lp16E : LPs := [(false, .sl cU8), (false, cU32), (false, cU32), (false, cU16), (false, cI), (false, cI)]
def ct_law16_TruthExact : Ct := lawCt lp16E
def an_law16_TruthExact : PDs ct_law16_TruthExact.ps → Anns := (fun d => { loops := (fun n => match n with | 7 => some (fun S => { ι := Int × (List Int × Int), qn := ⟨fun k_ => ∀ (i : Int) (cs : (List Int × Int)), k_ (i, cs), fun k_ h_ i => h_ i.1 i.2, fun k_ => ∃ (i : Int) (cs : (List Int × Int)), k_ (i, cs), fun k_ ⟨i, cs, h_⟩ => ⟨_, h_⟩⟩, μ := fun i => ((S.c cNet 240).1.length - i.1).toNat, inv := fun i => okC i.2 ∧ 0 ≤ i.1 ∧ i.1 ≤ (S.c cNet 240).1.length, keep := [1, 2, 4, 5, 13, 14, 15], slots := fun i => [(16, .int .i64 i.1)], keepN := [240], names := fun i => [(768, .live (.cells 62 (flat cCodes i.2)))] }) | 14 => some (fun S => { ι := Int, μ := fun i => (9 - i).toNat, inv := fun i => 0 ≤ i ∧ i ≤ 9, keep := [1, 2, 4, 5, 13, 14, 15, 16, 17, 18, 19], slots := fun i => [(20, .int .i64 i)], keepN := [240, 288, 304, 320, 768], names := fun i => [] }) | 27 => some (fun S => { ι := Int × (List Int × Int), qn := ⟨fun k_ => ∀ (j : Int) (cs : (List Int × Int)), k_ (j, cs), fun k_ h_ i => h_ i.1 i.2, fun k_ => ∃ (j : Int) (cs : (List Int × Int)), k_ (j, cs), fun k_ ⟨j, cs, h_⟩ => ⟨_, h_⟩⟩, μ := fun i => (3 - i.1).toNat, inv := fun i => okC i.2 ∧ 0 ≤ i.1 ∧ i.1 ≤ 3, keep := [1, 2, 4, 5, 13, 14, 15, 165, 166], slots := fun i => [(167, .int .i64 i.1)], keepN := [240, 2656], names := fun i => [(768, .live (.cells 62 (flat cCodes i.2)))] }) | 30 => some (fun S => { ι := Int, μ := fun i => (2 - i).toNat, inv := fun i => 0 ≤ i ∧ i ≤ 2, keep := [1, 2, 4, 5, 13, 14, 15, 34, 165, 166, 167, 175, 176], slots := fun i => [(177, .int .i64 i)], keepN := [240, 768, 2656, 2816], names := fun i => [] }) | 42 => some (fun S => { ι := Int × (List Int × Int), qn := ⟨fun k_ => ∀ (j : Int) (cs : (List Int × Int)), k_ (j, cs), fun k_ h_ i => h_ i.1 i.2, fun k_ => ∃ (j : Int) (cs : (List Int × Int)), k_ (j, cs), fun k_ ⟨j, cs, h_⟩ => ⟨_, h_⟩⟩, μ := fun i => (5 - i.1).toNat, inv := fun i => okC i.2 ∧ 0 ≤ i.1 ∧ i.1 ≤ 5, keep := [4, 13, 14, 15, 41, 234, 235], slots := fun i => [(236, .int .i64 i.1)], keepN := [240, 3760], names := fun i => [(768, .live (.cells 62 (flat cCodes i.2)))] }) | _ => none) })
theorem vc_law16_TruthExact : ∀ (x : List Int) (x1 x2 x3 x4 x5 : Int), (x.length <= maxLen /\ ∀ (x6 : Int), x6 ∈ x -> 0 <= x6 /\ x6 <= 255) /\ (0 <= x1 /\ x1 <= 4294967295) /\ (0 <= x2 /\ x2 <= 4294967295) /\ (0 <= x3 /\ x3 <= 65535) /\ R64 x4 /\ R64 x5 /\ True -> True -> (0 : Int) <= 500 /\ ∀ (x6 : List Int) (x7 : Int), (x6, x7) = (if (x.length : Int) <= 500 then x else List.take (Int.toNat (500 : Int)) x, (0 : Int)) -> okC (x6, x7) /\ ∀ (x : Int) (x8 : List Int) (x9 : Int), 0 <= x /\ (x < 4 ∨ x = 0) /\ okB (x8, x9) -> okC (x8, x9) /\ ∀ (x10 : List Node) (x11 : List Link) (x12 : List Change) (x13 : List Int) (x14 : Int), (x10, x11, x12) = netV (decide (x = 0)) (x8, x9) /\ (x13, x14) = netC (decide (x = 0)) (x8, x9) -> (200 : Int) ≠ (0 : Int) /\ (∃ (i : Int) (cs : List Int × Int), (okC cs /\ 0 <= i /\ i <= (x10.length : Int)) /\ x1 = x1 /\ x2 = x2 /\ x4 = x4 /\ x5 = x5 /\ Int.tmod
 (IntKind.wrap .i64 x3) (200 : Int) = Int.tmod (IntKind.wrap .i64 x3) (200 : Int) /\ (0 : Int) = i /\ x10 = x10 /\ x11 = x11 /\ x12 = x12 /\ x13 = cs.1 /\ x14 = cs.2 /\ True) /\ ∀ (i : Int) (cs : List Int × Int), okC cs /\ 0 <= i /\ i <= (x10.length : Int) -> ifP (decide (i < (x10.length : Int))) (okC cs /\ ∀ (x x15 x16 x17 x18 : Int) (x19 : List Int) (x20 : Int), okC (x19, x20) -> WN (x10, x11, x12) /\ 0 <= i /\ i < (x10.length : Int) /\ ∀ (x21 x22 : List Int) (x23 : Int), (x21, x22, x23) = traceV (x10, x11, x12) (Int.tmod (IntKind.wrap .i64 x3) (200 : Int)) i (x, x15, x16, x17, x18) -> WN (x10, x11, x12) /\ 0 <= i /\ i < (x10.length : Int) /\ ∀ (x24 x25 : List Int) (x26 : Int), (x24, x25, x26) = traceV (x10, x11, x12) (Int.tmod (IntKind.wrap .i64 x3) (200 : Int)) i (x, x15, x16, x17, x18) -> ifP (!decide ((x21, x22, x23) = (x24, x25, x26))) (false = true) ((∃ (x27 : Int), (0 <= x27 /\
 x27 <= 9) /\ x1 = x1 /\ x2 = x2 /\ x4 = x4 /\ x5 = x5 /\ Int.tmod (IntKind.wrap .i64 x3) (200 : Int) = Int.tmod (IntKind.wrap .i64 x3) (200 : Int) /\ i = i /\ (0 : Int) = x27 /\ x10 = x10 /\ x11 = x11 /\ x12 = x12 /\ x = x /\ x15 = x15 /\ x16 = x16 /\ x17 = x17 /\ x18 = x18 /\ x21 = x21 /\ x22 = x22 /\ x23 = x23 /\ x24 = x24 /\ x25 = x25 /\ x26 = x26 /\ x19 = x19 /\ x20 = x20 /\ True) /\ ∀ (x27 : Int), 0 <= x27 /\ x27 <= 9 -> ifP (decide (x27 < 9)) (wayIn (x10, x11, x12) (x24, x25, x26) /\ ∀ (x28 : Int) (x29 : Bool), x28 = expV (x10, x11, x12) (x24, x25, x26) x27 /\ x29 = expB (x10, x11, x12) (x24, x25, x26) x27 -> wayIn (x10, x11, x12) (x24, x25, x26) /\ ∀ (x30 : Int) (x31 : Bool), x30 = expV (x10, x11, x12) (x24, x25, x26) x27 /\ x31 = expB (x10, x11, x12) (x24, x25, x26) x27 -> okNet (x10, x11, x12) /\ wayIn (x10, x11, x12) (x24, x25, x26) /\ ∀ (x32 : Int) (x33 : Bool), x32 = srcV
 (x10, x11, x12) (Int.tmod (IntKind.wrap .i64 x3) (200 : Int)) (x24, x25, x26) x27 x /\ x33 = srcOK (x10, x11, x12) (Int.tmod (IntKind.wrap .i64 x3) (200 : Int)) (x24, x25, x26) x27 x -> okNet (x10, x11, x12) /\ wayIn (x10, x11, x12) (x24, x25, x26) /\ SG (x10, x11, x12) (Int.tmod (IntKind.wrap .i64 x3) (200 : Int)) (x24, x25, x26) x27 x /\ ∀ (x34 : Int) (x35 : Bool), x34 = srcV (x10, x11, x12) (Int.tmod (IntKind.wrap .i64 x3) (200 : Int)) (x24, x25, x26) x27 x /\ x35 = srcOK (x10, x11, x12) (Int.tmod (IntKind.wrap .i64 x3) (200 : Int)) (x24, x25, x26) x27 x -> ∀ (b : Bool), b = !decide (x28 = x30) -> ((!b) -> ((!b) -> (!b)) /\ ((!b) -> (!b)) /\ True) /\ (b = false -> (!b)) /\ ∀ (b1 : Bool), (b1 = bif b then true else !x29 == x31) -> ((!b1) -> ((!b1) -> (!b1)) /\ ((!b1) -> (!b1)) /\ True) /\ (b1 = false -> (!b1)) /\ ∀ (b : Bool), (b = bif b1 then true else !decide (x32 = x34)) -> ((!b) ->
 ((!b) -> (!b)) /\ ((!b) -> (!b)) /\ True) /\ (b = false -> (!b)) /\ ifP (bif b then true else !x33 == x35) (false = true) (∃ (x36 : Int), (0 <= x36 /\ x36 <= 9) /\ Int.toNat ((9 : Int) - x36) < Int.toNat ((9 : Int) - x27) /\ x1 = x1 /\ x2 = x2 /\ x4 = x4 /\ x5 = x5 /\ Int.tmod (IntKind.wrap .i64 x3) (200 : Int) = Int.tmod (IntKind.wrap .i64 x3) (200 : Int) /\ i = i /\ IntKind.wrap .i64 (x27 + (1 : Int)) = x36 /\ x10 = x10 /\ x11 = x11 /\ x12 = x12 /\ x = x /\ x15 = x15 /\ x16 = x16 /\ x17 = x17 /\ x18 = x18 /\ x21 = x21 /\ x22 = x22 /\ x23 = x23 /\ x24 = x24 /\ x25 = x25 /\ x26 = x26 /\ x19 = x19 /\ x20 = x20 /\ True)) (okD2 (x10, x11, x12) x25 /\ ∀ (x x28 : Int), x = sumD (x10, x11, x12) x25 /\ x28 = sumH (x10, x11, x12) x25 -> okD2 (x10, x11, x12) x25 /\ ∀ (x29 x30 : Int), x29 = sumD (x10, x11, x12) x25 /\ x30 = sumH (x10, x11, x12) x25 -> ∀ (b : Bool), b = !decide (x = x29) -> ((!b)
 -> ((!b) -> (!b)) /\ ((!b) -> (!b)) /\ True) /\ (b = false -> (!b)) /\ ifP (bif b then true else !decide (x28 = x30)) (false = true) (∃ (i_1 : Int) (cs : List Int × Int), (okC cs /\ 0 <= i_1 /\ i_1 <= (x10.length : Int)) /\ Int.toNat ((x10.length : Int) - i_1) < Int.toNat ((x10.length : Int) - i) /\ x1 = x1 /\ x2 = x2 /\ x4 = x4 /\ x5 = x5 /\ Int.tmod (IntKind.wrap .i64 x3) (200 : Int) = Int.tmod (IntKind.wrap .i64 x3) (200 : Int) /\ IntKind.wrap .i64 (i + (1 : Int)) = i_1 /\ x10 = x10 /\ x11 = x11 /\ x12 = x12 /\ x19 = cs.1 /\ x20 = cs.2 /\ True)))) (okC cs /\ ∀ (x : Int) (x15 : List Int) (x16 : Int), okC (x15, x16) /\ 0 <= x /\ x <= 4294967295 -> okC (x15, x16) /\ ∀ (x17 : Int) (x18 : List Int) (x19 : Int), okC (x18, x19) /\ 0 <= x17 /\ x17 <= 4294967295 -> (∃ (j : Int) (cs : List Int × Int), (okC cs /\ 0 <= j /\ j <= 3) /\ x1 = x1 /\ x2 = x2 /\ x4 = x4 /\ x5 = x5 /\ Int.tmod
 (IntKind.wrap .i64 x3) (200 : Int) = Int.tmod (IntKind.wrap .i64 x3) (200 : Int) /\ ((List.length [x1, x, x17]) : Int) = ((List.length [x1, x, x17]) : Int) /\ (0 : Int) = j /\ x10 = x10 /\ x11 = x11 /\ x12 = x12 /\ [x1, x, x17] = [x1, x, x17] /\ x18 = cs.1 /\ x19 = cs.2 /\ True) /\ ∀ (j : Int) (cs : List Int × Int), okC cs /\ 0 <= j /\ j <= 3 -> ifP (decide (j < ((List.length [x1, x, x17]) : Int))) (0 <= j /\ j < ((List.length [x1, x, x17]) : Int) /\ okC cs /\ ∀ (x20 : Int) (x21 : List Int) (x22 : Int), okC (x21, x22) /\ 0 <= x20 /\ x20 <= 4294967295 -> (∃ (x23 : Int), (0 <= x23 /\ x23 <= 2) /\ x1 = x1 /\ x2 = x2 /\ x4 = x4 /\ x5 = x5 /\ Int.tmod (IntKind.wrap .i64 x3) (200 : Int) = Int.tmod (IntKind.wrap .i64 x3) (200 : Int) /\ List.getD [x1, x, x17] j.toNat default = List.getD [x1, x, x17] j.toNat default /\ ((List.length [x1, x, x17]) : Int) = ((List.length [x1, x, x17]) : Int) /\ j =
 j /\ ((List.length [x2, x20]) : Int) = ((List.length [x2, x20]) : Int) /\ (0 : Int) = x23 /\ x10 = x10 /\ x11 = x11 /\ x12 = x12 /\ x21 = x21 /\ x22 = x22 /\ [x1, x, x17] = [x1, x, x17] /\ [x2, x20] = [x2, x20] /\ True) /\ ∀ (x23 : Int), 0 <= x23 /\ x23 <= 2 -> ifP (decide (x23 < ((List.length [x2, x20]) : Int))) (0 <= x23 /\ x23 < ((List.length [x2, x20]) : Int) /\ ∀ (b : Bool), b = !sameV (x10, x11, x12) (List.getD [x1, x, x17] j.toNat default) (List.getD [x2, x20] x23.toNat default) == sameV (x10, x11, x12) (List.getD [x1, x, x17] j.toNat default) (List.getD [x2, x20] x23.toNat default) -> ((!b) -> ((!b) -> (!b)) /\ ((!b) -> (!b)) /\ ((!b) -> (!b)) /\ True) /\ ((!b) -> ((!b) -> (!b)) /\ ((!b) -> (!b)) /\ ((!b) -> (!b)) /\ (∀ (l : Int × Int × Int × Int × Int × Int), l ∈ x11 -> lA l ≠ lB l) /\ True) /\ ((!b) -> ((!b) -> (!b)) /\ ((!b) -> (!b)) /\ True) /\ (b = false -> (!b)) /\ ifP (bif
 b then true else !joinedV (x10, x11, x12) (List.getD [x1, x, x17] j.toNat default) (List.getD [x2, x20] x23.toNat default) == joinedV (x10, x11, x12) (List.getD [x1, x, x17] j.toNat default) (List.getD [x2, x20] x23.toNat default)) (false = true) (∃ (x24 : Int), (0 <= x24 /\ x24 <= 2) /\ Int.toNat ((2 : Int) - x24) < Int.toNat ((2 : Int) - x23) /\ x1 = x1 /\ x2 = x2 /\ x4 = x4 /\ x5 = x5 /\ Int.tmod (IntKind.wrap .i64 x3) (200 : Int) = Int.tmod (IntKind.wrap .i64 x3) (200 : Int) /\ List.getD [x1, x, x17] j.toNat default = List.getD [x1, x, x17] j.toNat default /\ ((List.length [x1, x, x17]) : Int) = ((List.length [x1, x, x17]) : Int) /\ j = j /\ ((List.length [x2, x20]) : Int) = ((List.length [x2, x20]) : Int) /\ IntKind.wrap .i64 (x23 + (1 : Int)) = x24 /\ x10 = x10 /\ x11 = x11 /\ x12 = x12 /\ x21 = x21 /\ x22 = x22 /\ [x1, x, x17] = [x1, x, x17] /\ [x2, x20] = [x2, x20] /\ True)) (∀
 (b : Bool), b = !decide (ownerV (x10, x11, x12) (List.getD [x1, x, x17] j.toNat default) = ownerV (x10, x11, x12) (List.getD [x1, x, x17] j.toNat default)) -> ((!b) -> ((!b) -> (!b)) /\ ((!b) -> (!b)) /\ True) /\ (b = false -> (!b)) /\ ifP (bif b then true else !findB (x10, x11, x12) (List.getD [x1, x, x17] j.toNat default) == findB (x10, x11, x12) (List.getD [x1, x, x17] j.toNat default)) (false = true) (∃ (j_1 : Int) (cs : List Int × Int), (okC cs /\ 0 <= j_1 /\ j_1 <= 3) /\ Int.toNat ((3 : Int) - j_1) < Int.toNat ((3 : Int) - j) /\ x1 = x1 /\ x2 = x2 /\ x4 = x4 /\ x5 = x5 /\ Int.tmod (IntKind.wrap .i64 x3) (200 : Int) = Int.tmod (IntKind.wrap .i64 x3) (200 : Int) /\ ((List.length [x1, x, x17]) : Int) = ((List.length [x1, x, x17]) : Int) /\ IntKind.wrap .i64 (j + (1 : Int)) = j_1 /\ x10 = x10 /\ x11 = x11 /\ x12 = x12 /\ [x1, x, x17] = [x1, x, x17] /\ x21 = cs.1 /\ x22 = cs.2 /\
 True))) (okC cs /\ ∀ (x : Int) (x20 : List Int) (x21 : Int), 0 <= x /\ (x < (x10.length : Int) ∨ x = 0) /\ okB (x20, x21) -> okC (x20, x21) /\ ∀ (x22 : Int) (x23 : List Int) (x24 : Int), 0 <= x22 /\ (x22 < 512 ∨ x22 = 0) /\ okB (x23, x24) -> okC (x23, x24) /\ ∀ (x25 : Int) (x26 : List Int) (x27 : Int), 0 <= x25 /\ (x25 < 10 ∨ x25 = 0) /\ okB (x26, x27) -> 0 <= x25 /\ (∃ (j : Int) (cs : List Int × Int), (okC cs /\ 0 <= j /\ j <= 5) /\ x4 = x4 /\ Int.tmod (IntKind.wrap .i64 x3) (200 : Int) = Int.tmod (IntKind.wrap .i64 x3) (200 : Int) /\ x = x /\ ((List.length [x5, x22, shlI IntKind.i64 (1 : Int) x25, (32 : Int), (17 : Int)]) : Int) = ((List.length [x5, x22, shlI IntKind.i64 (1 : Int) x25, (32 : Int), (17 : Int)]) : Int) /\ (0 : Int) = j /\ x10 = x10 /\ x11 = x11 /\ x12 = x12 /\ [x5, x22, shlI IntKind.i64 (1 : Int) x25, (32 : Int), (17 : Int)] = [x5, x22, shlI IntKind.i64 (1 : Int) x25,
 (32 : Int), (17 : Int)] /\ x26 = cs.1 /\ x27 = cs.2 /\ True) /\ ∀ (j : Int) (cs : List Int × Int), okC cs /\ 0 <= j /\ j <= 5 -> ifP (decide (j < ((List.length [x5, x22, shlI IntKind.i64 (1 : Int) x25, (32 : Int), (17 : Int)]) : Int))) (0 <= j /\ j < ((List.length [x5, x22, shlI IntKind.i64 (1 : Int) x25, (32 : Int), (17 : Int)]) : Int) /\ okC cs /\ ∀ (x28 : Int) (x29 : List Int) (x30 : Int), 0 <= x28 /\ (x28 < 60 ∨ x28 = 0) /\ okB (x29, x30) -> WN (x10, x11, x12) /\ (∀ (x : List (Int × Int) × Int × Int × Bool × List ((Int × Int) × List Int × Int) × Int × Int × Int × Int × Int × (Int × Int) × Bool × Bool × Int × Int), x ∈ x10 -> List.length (nPorts x) <= (100000 : Nat)) /\ WN (x10, x11, x12) /\ 0 <= x /\ x < (x10.length : Int) /\ (0 : Nat) < List.length (nPorts (x10.getD x.toNat default)) /\ (∀ (x : List (Int × Int) × Int × Int × Bool × List ((Int × Int) × List Int × Int) × Int × Int ×
 Int × Int × Int × (Int × Int) × Bool × Bool × Int × Int), x ∈ x10 -> List.length (nPorts x) <= (100000 : Nat)) /\ ∀ (b : Bool), b = !holdsV (x10, x11, x12) (List.getD [x5, x22, shlI IntKind.i64 (1 : Int) x25, (32 : Int), (17 : Int)] j.toNat default) x (Int.tmod (IntKind.wrap .i64 x3) (200 : Int)) (IntKind.wrap .i64 (Int.tmod (IntKind.wrap .i64 x3) (200 : Int) + x28)) == rholdsV (x10, x11, x12) (List.getD [x5, x22, shlI IntKind.i64 (1 : Int) x25, (32 : Int), (17 : Int)] j.toNat default) x (Int.tmod (IntKind.wrap .i64 x3) (200 : Int)) (IntKind.wrap .i64 (Int.tmod (IntKind.wrap .i64 x3) (200 : Int) + (0 : Int))) -> (b -> (b -> b) /\ True) /\ (b -> (b -> b) /\ (b -> b) /\ (b -> b) /\ True) /\ (b -> (b -> b) /\ True) /\ (b -> b) /\ ifP (bif b then !List.any x12 (between (Int.tmod (IntKind.wrap .i64 x3) (200 : Int)) (IntKind.wrap .i64 (Int.tmod (IntKind.wrap .i64 x3) (200 : Int) + (60 :
 Int)))) else false) (false = true) (WN (x10, x11, x12) /\ (∀ (x : List (Int × Int) × Int × Int × Bool × List ((Int × Int) × List Int × Int) × Int × Int × Int × Int × Int × (Int × Int) × Bool × Bool × Int × Int), x ∈ x10 -> List.length (nPorts x) <= (100000 : Nat)) /\ WN (x10, x11, x12) /\ 0 <= x /\ x < (x10.length : Int) /\ (0 : Nat) < List.length (nPorts (x10.getD x.toNat default)) /\ (∀ (x : List (Int × Int) × Int × Int × Bool × List ((Int × Int) × List Int × Int) × Int × Int × Int × Int × Int × (Int × Int) × Bool × Bool × Int × Int), x ∈ x10 -> List.length (nPorts x) <= (100000 : Nat)) /\ ifP (!holdsV (x10, x11, x12) (List.getD [x5, x22, shlI IntKind.i64 (1 : Int) x25, (32 : Int), (17 : Int)] j.toNat default) x (Int.tmod (IntKind.wrap .i64 x3) (200 : Int)) x4 == rholdsV (x10, x11, x12) (List.getD [x5, x22, shlI IntKind.i64 (1 : Int) x25, (32 : Int), (17 : Int)] j.toNat default) x
 (Int.tmod (IntKind.wrap .i64 x3) (200 : Int)) x4) (false = true) (∃ (j_1 : Int) (cs : List Int × Int), (okC cs /\ 0 <= j_1 /\ j_1 <= 5) /\ Int.toNat ((5 : Int) - j_1) < Int.toNat ((5 : Int) - j) /\ x4 = x4 /\ Int.tmod (IntKind.wrap .i64 x3) (200 : Int) = Int.tmod (IntKind.wrap .i64 x3) (200 : Int) /\ x = x /\ ((List.length [x5, x22, shlI IntKind.i64 (1 : Int) x25, (32 : Int), (17 : Int)]) : Int) = ((List.length [x5, x22, shlI IntKind.i64 (1 : Int) x25, (32 : Int), (17 : Int)]) : Int) /\ IntKind.wrap .i64 (j + (1 : Int)) = j_1 /\ x10 = x10 /\ x11 = x11 /\ x12 = x12 /\ [x5, x22, shlI IntKind.i64 (1 : Int) x25, (32 : Int), (17 : Int)] = [x5, x22, shlI IntKind.i64 (1 : Int) x25, (32 : Int), (17 : Int)] /\ x29 = cs.1 /\ x30 = cs.2 /\ True))) (true = true))) := by
  rintro cl a b at0 to set ⟨⟨hcl, hcw⟩, ⟨a0, a1⟩, ⟨b0, b1⟩, ⟨f0, f1⟩, -⟩ -
  rw [w64 (n := at0) (by omega) (by omega)]
  have t0 := tmod_lo (b := 200) f0
  have t1 := tmod_hi (b := 200) f0 (by omega)
  generalize at0.tmod 200 = t at t0 t1 ⊢
  refine ⟨by omega, ?_⟩
  rintro l p hc
  have hB : okB (l, p) := by rw [hc]; exact okB_new hcw
  refine ⟨hB.at', ?_⟩
  rintro z l1 p1 ⟨-, -, hB1⟩
  refine ⟨hB1.at', ?_⟩
  rintro ns ls hs l2 p2 ⟨hn, hk⟩
  have D := net_dn hB1 (decide (z = 0))
  have C := net_codes hB1 (decide (z = 0))
  have NP := fun i => net_ports hB1 (decide (z = 0)) (i := i)
  rw [← hn] at D NP
  rw [← hk] at C
  have W := D.wn
  have hp : ∀ x ∈ ns, (nPorts x).length ≤ 100000 := fun x hx => by
    obtain ⟨i, hi, rfl⟩ := getD_of_mem hx
    have e := D.p i hi
    dsimp only at e
    rw [e]
    have := portsF_len i 0 ls
    have h10 := D.l10
    dsimp only at h10
    omega
  have hs' := D.s
  have n3 := D.n3
  have n7 := D.n7
  dsimp only at n3 n7 hs' NP
  clear hn hk
  refine ⟨by omega, ⟨0, (l2, p2), ⟨C.at', by omega, by omega⟩, (by repeat' first | exact trivial | refine ⟨trivial, ?_⟩ | refine ⟨(by with_reducible rfl), ?_⟩ | refine ⟨w64 (by omega) (by omega), ?_⟩ | refine ⟨rfl, ?_⟩)⟩, ?_⟩
  rintro i cs ⟨hcs, i0, i1⟩
  refine ifP_split (fun hi => ?_) (fun hi => ?_)
  · have hi := of_decide_eq_true hi
    refine ⟨hcs, ?_⟩
    rintro k1 k2 k3 k4 k5 l3 p3 hc3
    refine ⟨W, i0, hi, ?_⟩
    rintro u v e hw
    refine ⟨W, i0, hi, ?_⟩
    rintro u2 v2 e2 hw2
    have L := trace_wl D (at' := t) (who := i) (k := (k1, k2, k3, k4, k5)) i0 hi
    rw [← hw2] at L
    rw [hw, ← hw2, decide_eq_true rfl]
    refine ifP_f.2 ?_
    have wi : wayIn (ns, ls, hs) (u2, v2, e2) := L.i.r
    refine ⟨⟨0, ⟨by omega, by omega⟩, (by repeat' first | exact trivial | refine ⟨trivial, ?_⟩ | refine ⟨(by with_reducible rfl), ?_⟩ | refine ⟨w64 (by omega) (by omega), ?_⟩ | refine ⟨rfl, ?_⟩)⟩, ?_⟩
    rintro ttl ⟨q0, q1⟩
    refine ifP_split (fun hq => ?_) (fun hq => ?_)
    · have hq := of_decide_eq_true hq
      refine ⟨wi, ?_⟩
      rintro x ok ⟨rfl, rfl⟩
      refine ⟨wi, ?_⟩
      rintro x ok ⟨rfl, rfl⟩
      refine ⟨W.o, wi, ?_⟩
      rintro x ok ⟨rfl, rfl⟩
      refine ⟨W.o, wi, L.sg D t ttl k1, ?_⟩
      rintro x ok ⟨rfl, rfl⟩
      intro b1 hb1
      have hb1 : b1 = false := by rw [hb1, decide_eq_true rfl]; rfl
      subst hb1
      (repeat refine ⟨fun h_ => (by first | (simp; done) | (simp [h_]; done) | (simp_all; done)), ?_⟩)
      intro b2 hb2
      have hb2 : b2 = false := by rw [hb2, cond_false, beq_self_eq_true]; rfl
      subst hb2
      (repeat refine ⟨fun h_ => (by first | (simp; done) | (simp [h_]; done) | (simp_all; done)), ?_⟩)
      intro b3 hb3
      have hb3 : b3 = false := by rw [hb3, cond_false, decide_eq_true rfl]; rfl
      subst hb3
      (repeat refine ⟨fun h_ => (by first | (simp; done) | (simp [h_]; done) | (simp_all; done)), ?_⟩)
      rw [cond_false, beq_self_eq_true]
      refine ifP_f.2 ⟨ttl + 1, ⟨by omega, by omega⟩, by omega, (by repeat' first | exact trivial | refine ⟨trivial, ?_⟩ | refine ⟨(by with_reducible rfl), ?_⟩ | refine ⟨w64 (by omega) (by omega), ?_⟩ | refine ⟨rfl, ?_⟩)⟩
    · refine ⟨L.d2 D, ?_⟩
      rintro x y ⟨rfl, rfl⟩
      refine ⟨L.d2 D, ?_⟩
      rintro x y ⟨rfl, rfl⟩
      intro b1 hb1
      have hb1 : b1 = false := by rw [hb1, decide_eq_true rfl]; rfl
      subst hb1
      (repeat refine ⟨fun h_ => (by first | (simp; done) | (simp [h_]; done) | (simp_all; done)), ?_⟩)
      rw [cond_false, decide_eq_true rfl]
      refine ifP_f.2 ⟨i + 1, (l3, p3), ⟨hc3, by omega, by omega⟩, by omega, (by repeat' first | exact trivial | refine ⟨trivial, ?_⟩ | refine ⟨(by with_reducible rfl), ?_⟩ | refine ⟨w64 (by omega) (by omega), ?_⟩ | refine ⟨rfl, ?_⟩)⟩
  refine ⟨hcs, ?_⟩
  rintro x1 l3 p3 ⟨hc3, -⟩
  refine ⟨hc3, ?_⟩
  rintro x2 l4 p4 ⟨hc4, -⟩
  refine ⟨⟨0, (l4, p4), ⟨hc4, by omega, by omega⟩, (by repeat' first | exact trivial | refine ⟨trivial, ?_⟩ | refine ⟨(by with_reducible rfl), ?_⟩ | refine ⟨w64 (by omega) (by omega), ?_⟩ | refine ⟨rfl, ?_⟩)⟩, ?_⟩
  have hj3 : (([a, x1, x2] : List Int).length : Int) = 3 := rfl
  rw [hj3]
  rintro j cs ⟨hcs, j0, j1⟩
  refine ifP_split (fun hj => ?_) (fun hj => ?_)
  · have hj := of_decide_eq_true hj
    refine ⟨j0, hj, hcs, ?_⟩
    rintro y l5 p5 ⟨hc5, -⟩
    refine ⟨⟨0, ⟨by omega, by omega⟩, (by repeat' first | exact trivial | refine ⟨trivial, ?_⟩ | refine ⟨(by with_reducible rfl), ?_⟩ | refine ⟨w64 (by omega) (by omega), ?_⟩ | refine ⟨rfl, ?_⟩)⟩, ?_⟩
    have hj2 : (([b, y] : List Int).length : Int) = 2 := rfl
    rw [hj2]
    rintro q ⟨q0, q1⟩
    have hne : ∀ l ∈ ls, lA l ≠ lB l := fun l hl => (D.g l hl).2.2.1
    refine ifP_split (fun hq => ?_) (fun hq => ?_)
    · have hq := of_decide_eq_true hq
      refine ⟨q0, hq, ?_⟩
      intro b1 hb1
      have hb1 : b1 = false := by rw [hb1, beq_self_eq_true]; rfl
      (repeat refine ⟨fun h_ => (by first | ((repeat refine ⟨fun _ => h_, ?_⟩); exact ⟨hne, trivial⟩) | (simp; done) | (simp [h_]; done) | (simp_all; done)), ?_⟩)
      rw [hb1, cond_false, beq_self_eq_true]
      refine ifP_f.2 ⟨q + 1, ⟨by omega, by omega⟩, by omega, (by repeat' first | exact trivial | refine ⟨trivial, ?_⟩ | refine ⟨(by with_reducible rfl), ?_⟩ | refine ⟨w64 (by omega) (by omega), ?_⟩ | refine ⟨rfl, ?_⟩)⟩
    · intro b1 hb1
      have hb1 : b1 = false := by rw [hb1, decide_eq_true rfl]; rfl
      (repeat refine ⟨fun h_ => (by first | (simp; done) | (simp [h_]; done) | (simp_all; done)), ?_⟩)
      rw [hb1, cond_false, beq_self_eq_true]
      refine ifP_f.2 ⟨j + 1, (l5, p5), ⟨hc5, by omega, by omega⟩, by omega, (by repeat' first | exact trivial | refine ⟨trivial, ?_⟩ | refine ⟨(by with_reducible rfl), ?_⟩ | refine ⟨w64 (by omega) (by omega), ?_⟩ | refine ⟨rfl, ?_⟩)⟩
  refine ⟨hcs, ?_⟩
  rintro who l5 p5 ⟨w0, w1, hc5⟩
  have w1 : who < (ns.length : Int) := by omega
  have wp : 0 < (nPorts (ns.getD who.toNat default)).length := NP who.toNat (by omega)
  have re := fun a s t => rholds_eq (n := (ns, ls, hs)) hs' (a := a) (s := s) (t := t) w0 w1 wp
  refine ⟨hc5.at', ?_⟩
  rintro r1 l6 p6 ⟨-, -, hc6⟩
  refine ⟨hc6.at', ?_⟩
  rintro r2 l7 p7 ⟨r20, -, hc7⟩
  refine ⟨r20, ⟨0, (l7, p7), ⟨hc7.at', by omega, by omega⟩, (by repeat' first | exact trivial | refine ⟨trivial, ?_⟩ | refine ⟨(by with_reducible rfl), ?_⟩ | refine ⟨w64 (by omega) (by omega), ?_⟩ | refine ⟨rfl, ?_⟩)⟩, ?_⟩
  have hj5 : (([set, r1, shlI .i64 1 r2, 32, 17] : List Int).length : Int) = 5 := rfl
  rw [hj5]
  rintro j cs ⟨hcs, j0, j1⟩
  refine ifP_split (fun hj => ?_) (fun hj => rfl)
  have hj := of_decide_eq_true hj
  refine ⟨j0, hj, hcs, ?_⟩
  generalize ([set, r1, shlI .i64 1 r2, 32, 17] : List Int).getD j.toNat default = s at *
  rintro d l8 p8 ⟨d0, d1, hc8⟩
  rw [w64 (n := t + d) (by omega) (by omega), w64 (n := t + 0) (by omega) (by omega), w64 (n := t + 60) (by omega) (by omega), re, re]
  refine ⟨W, hp, W, w0, w1, wp, hp, ?_⟩
  intro b1 hb1
  (repeat refine ⟨fun h_ => (by first | (simp; done) | (simp [h_]; done) | (simp_all; done)), ?_⟩)
  refine ifP_and (fun k1 k2 => ?_) (fun _ => ?_)
  · exfalso
    have k2 : hs.any (between t (t + 60)) = false := by simpa using k2
    rw [hb1, holds_calm hs' d0 (any_sub (u := t + d) k2 (by omega)), beq_self_eq_true] at k1
    cases k1
  · refine ⟨W, hp, W, w0, w1, wp, hp, ?_⟩
    rw [beq_self_eq_true]
    refine ifP_f.2 ⟨j + 1, (l8, p8), ⟨hc8.at', by omega, by omega⟩, by omega, (by repeat' first | exact trivial | refine ⟨trivial, ?_⟩ | refine ⟨(by with_reducible rfl), ?_⟩ | refine ⟨w64 (by omega) (by omega), ?_⟩ | refine ⟨rfl, ?_⟩)⟩
theorem ok_law16_TruthExact : SpecOK Tryz.prog GL 3 ct_law16_TruthExact.spec := Ct.okH _ Tryz.func3 (by kernel_rfl) (withSpec_ok (withSpec_ok (withSpec_ok (withSpec_ok (withSpec_ok (withSpec_ok (withSpec_ok (withSpec_ok (withSpec_ok (withSpec_ok (withSpec_ok (withSpec_ok (withSpec_ok (withSpec_ok (withSpec_ok (withSpec_ok (withSpec_ok (withSpec_ok (withSpec_ok (withSpec_ok (withSpec_ok (withSpec_ok (withSpec_ok (withSpec_ok noSpecs_ok ok_law16_awake) (Ct.named ok_draw_New)) ok_NextW) (Ct.named ok_draw_Codes_Net)) ok_law16_key) (Ct.named ok_truth_Trace)) (Ct.named ok_ref16_Trace)) ok_ref16_SameWay) (Ct.named ok_truth_Expiry)) (Ct.named ok_ref16_Expiry)) (Ct.named ok_truth_Source)) (Ct.named ok_ref16_Source)) (Ct.named ok_truth_Delay)) (Ct.named ok_ref16_Delay)) ok_draw_Codes_Some) ok_truth_Same) ok_truth_Joined) ok_truth_Owner) ok_ref16_Same) ok_ref16_Joined) ok_ref16_Owner) ok_truth_Holds) ok_ref16_Holds) ok_ref14_Changed) hmix an_law16_TruthExact (hideMp (by kernel_rfl) vc_law16_TruthExact)
end Go.RS

