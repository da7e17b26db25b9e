/- Vant: vantage points. -/
import Derived.Test.YtdegakknelbjiaaGreatDoorReply
namespace Go.RS
open Go.SX Go.Proofs
set_option maxRecDepth 100000
set_option linter.unusedVariables false

abbrev cPend : CT := .pair cProbe (.pair cI (.pair cI (.pair .bool (.pair .bool (.pair cI cAns)))))
abbrev cRes : CT := .pair cI (.pair cI (.pair cI (.pair cI (.pair cU32 (.pair cI (.pair cI (.pair cI (.pair .bool (.pair .bool (.pair cI cAns))))))))))
abbrev cVant : CT := .pair cI (.pair cI (.pair cI (.pair cU32 (.pair cI (.pair (.sl cPend) (.sl cRes))))))
/-- Probe, Number, At, Answered, Doubled, Back, Answer. -/
abbrev Pend : Type := Probe × Int × Int × Bool × Bool × Int × Ans
/-- Vantage, Run, Number, At, Dst, Proto, Flow, TTL, Answered, Doubled, Back, Answer. -/
abbrev Res : Type := Int × Int × Int × Int × Int × Int × Int × Int × Bool × Bool × Int × Ans
/-- ID, Run, Next, Address, Timeout, Waiting, Results. -/
abbrev Vant : Type := Int × Int × Int × Int × Int × List Pend × List Res
def vant0 : Vant := (0, 0, 0, 0, 0, [], [])
def vAddr (v : Vant) : Int := v.2.2.2.1
def vT (v : Vant) : Int := v.2.2.2.2.1
def vW (v : Vant) : List Pend := v.2.2.2.2.2.1
def vR (v : Vant) : List Res := v.2.2.2.2.2.2
def pAt (x : Pend) : Int := x.2.2.1
def resOf (v : Vant) (x : Pend) : Res := (v.1, v.2.1, x.2.1, x.2.2.1, x.1.2.1, x.1.2.2.1, x.1.2.2.2.1, x.1.2.2.2.2.2, x.2.2.2.1, x.2.2.2.2.1, if x.2.2.2.1 then x.2.2.2.2.2.1 else IntKind.i64.wrap (x.2.2.1 + v.2.2.2.2.1), x.2.2.2.2.2.2)
def overAt (t at' : Int) (x : Pend) : Bool := decide (IntKind.i64.wrap (x.2.2.1 + t) ≤ at')
def setWR (v : Vant) (w : List Pend) (r : List Res) : Vant := (v.1, v.2.1, v.2.2.1, v.2.2.2.1, v.2.2.2.2.1, w, r)
def finP (v : Vant) (o : Pend → Bool) : Vant := setWR v ((vW v).filter fun x => !o x) (vR v ++ ((vW v).filter o).map (resOf v))
def expireV (v : Vant) (at' : Int) : Vant := finP v (overAt (vT v) at')
def finishV (v : Vant) : Vant := finP v (fun _ => true)
def newOK (id run t : Int) : Prop := (0 ≤ id ∧ id < 16) ∧ (0 ≤ run ∧ run < 64) ∧ 1 ≤ t ∧ t ≤ 1073741824
instance (i r t : Int) : Decidable (newOK i r t) := by unfold newOK; infer_instance
def newE (id run a t : Int) : Int := if ¬ newOK id run t then 1 else if ¬ usable a then 10 else 0
def newV (id run a t : Int) : Vant := if newE id run a t = 0 then (id, run, 0, a, t, [], []) else vant0
def tagV (run n : Int) : Int := IntKind.i64.wrap (IntKind.i64.wrap (run * 1000) + n)
def prP (v : Vant) (dst proto flow ttl tag : Int) : Probe := (vAddr v, dst, proto, flow, tag, ttl)
def prE (v : Vant) (at' dst proto flow ttl : Int) : Int :=
  if probeErr (prP v dst proto flow ttl 0) ≠ 0 then probeErr (prP v dst proto flow ttl 0) else if ¬ usable dst then 10
  else if 1000 ≤ v.2.2.1 ∨ 256 ≤ (vW (expireV v at')).length then 5 else probeErr (prP v dst proto flow ttl (tagV v.2.1 v.2.2.1))
def addP (v : Vant) (x : Pend) : Vant := (v.1, v.2.1, v.2.2.1 + 1, v.2.2.2.1, v.2.2.2.2.1, vW v ++ [x], vR v)
def prV (v : Vant) (at' dst proto flow ttl : Int) : Vant :=
  if prE v at' dst proto flow ttl = 0 then addP (expireV v at') (prP v dst proto flow ttl (tagV v.2.1 v.2.2.1), v.2.2.1, at', false, false, 0, ans0) else v
def prB (v : Vant) (at' dst proto flow ttl : Int) : List Int := if prE v at' dst proto flow ttl = 0 then build (prP v dst proto flow ttl (tagV v.2.1 v.2.2.1)) else []
def matchP (p : Probe) (x : Pend) : Bool := decide (noT x.1 p.2.2.2.2.2 = p)
def updP (at' : Int) (a : Ans) (x : Pend) : Pend :=
  if x.2.2.2.1 = false then (x.1, x.2.1, x.2.2.1, true, x.2.2.2.2.1, at', a) else if x.2.2.2.2.2.2 ≠ a then (x.1, x.2.1, x.2.2.1, x.2.2.2.1, true, x.2.2.2.2.2.1, x.2.2.2.2.2.2) else x
def rcI (w : Vant) (p : Probe) : Nat := (vW w).findIdx (matchP p)
def rcE (v : Vant) (at' : Int) (b : List Int) : Int :=
  if readAE b ≠ 0 ∨ (readA b).1.1 ≠ vAddr v then 17 else if rcI (expireV v at') (readA b).1 < (vW (expireV v at')).length then 0 else 8
def rcV (v : Vant) (at' : Int) (b : List Int) : Vant :=
  if rcE v at' b = 0 then setWR (expireV v at') ((vW (expireV v at')).set (rcI (expireV v at') (readA b).1) (updP at' (readA b).2 ((vW (expireV v at')).getD (rcI (expireV v at') (readA b).1) default))) (vR (expireV v at')) else expireV v at'
def crE (v : Vant) : Int := if 63 ≤ v.2.1 then 5 else 0
def crV (v : Vant) : Vant := if crE v = 0 then (v.1, v.2.1 + 1, 0, v.2.2.2.1, v.2.2.2.2.1, [], []) else vant0

theorem filter_cut {α : Type} (o : α → Bool) : ∀ (l : List α), (∀ i j (hj : j < l.length) (h : i ≤ j), o l[j] = true → o (l[i]'(by omega)) = true) → ∃ k, k ≤ l.length ∧ l.filter o = l.take k ∧ (l.filter fun x => !o x) = l.drop k ∧ (∀ i (hi : i < l.length), k ≤ i → o l[i] = false)
  | [], _ => ⟨0, by simp, rfl, rfl, fun i hi => by simp at hi⟩
  | a :: l, h => by
    cases ha : o a with
    | true =>
      obtain ⟨k, k0, k1, k2, k3⟩ := filter_cut o l (fun i j hj hij hh => by
        have := h (i + 1) (j + 1) (by simpa using hj) (by omega) (by simpa using hh)
        simpa using this)
      refine ⟨k + 1, by simpa using k0, by simp [ha, k1], by simp [ha, k2], fun i hi hki => ?_⟩
      cases i with
      | zero => omega
      | succ i => simpa using k3 i (by simpa using hi) (by omega)
    | false =>
      have all : ∀ i (hi : i < (a :: l).length), o (a :: l)[i] = false := fun i hi => by
        cases hh : o (a :: l)[i] with
        | false => rfl
        | true =>
          have := h 0 i hi (by omega) hh
          simp only [List.getElem_cons_zero] at this
          rw [ha] at this; cases this
      have allm : ∀ x ∈ a :: l, o x = false := fun x hx => by
        obtain ⟨i, hi, rfl⟩ := List.mem_iff_getElem.1 hx; exact all i hi
      refine ⟨0, by omega, ?_, ?_, fun i hi _ => all i hi⟩
      · rw [List.take_zero]; exact List.filter_eq_nil_iff.2 fun x hx => by rw [allm x hx]; simp
      · rw [List.drop_zero]; exact List.filter_eq_self.2 fun x hx => by rw [allm x hx]; rfl
theorem take_next {α : Type} [Inhabited α] {l : List α} {k : Int} (h0 : 0 ≤ k) (h1 : k < l.length) : l.take (k + 1).toNat = l.take k.toNat ++ [l.getD k.toNat default] := by
  have e : (k + 1).toNat = k.toNat + 1 := by omega
  have hk : k.toNat < l.length := by omega
  rw [e, List.take_add_one, List.getElem?_eq_getElem hk, List.getD_eq_getElem?_getD, List.getElem?_eq_getElem hk]
  rfl
theorem filter_next {α : Type} [Inhabited α] {l : List α} {k : Int} (h0 : 0 ≤ k) (h1 : k < l.length) (o : α → Bool) :
    (l.take (k + 1).toNat).filter o = (l.take k.toNat).filter o ++ (if o (l.getD k.toNat default) = true then [l.getD k.toNat default] else []) := by
  rw [take_next h0 h1, List.filter_append]
  congr 1
  by_cases h : o (l.getD k.toNat default) = true <;> simp [List.filter_cons, h, -List.getD_eq_getElem?_getD]
/-- The probes of a run so far, the first ones of them finished. -/
structure VInv (v : Vant) (L : List Pend) (m : Nat) (at' : Int) : Prop where
  w : vW v = L.drop m
  r : vR v = (L.take m).map (resOf v)
  m : m ≤ L.length
  next : v.2.2.1 = L.length
  t : 1 ≤ vT v ∧ vT v ≤ 1073741824
  now : 0 ≤ at' ∧ at' ≤ 1000000000
  at0 : ∀ x ∈ L, 0 ≤ pAt x ∧ pAt x ≤ at'
  srt : ∀ i j (hj : j < L.length) (h : i ≤ j), pAt (L[i]'(by omega)) ≤ pAt L[j]
  num : ∀ i (hi : i < L.length), L[i].2.1 = i
  back : ∀ x ∈ L, (x.2.2.2.1 = true → pAt x ≤ x.2.2.2.2.2.1 ∧ x.2.2.2.2.2.1 < pAt x + vT v)
theorem over_iff {t at' : Int} {x : Pend} (ht : 1 ≤ t ∧ t ≤ 1073741824) (hx : 0 ≤ pAt x ∧ pAt x ≤ 1000000000) : overAt t at' x = decide (pAt x + t ≤ at') := by
  unfold overAt pAt at *
  rw [w64 (by omega) (by omega)]
theorem resOf_same {v v' : Vant} (h1 : v'.1 = v.1) (h2 : v'.2.1 = v.2.1) (h3 : vT v' = vT v) (x : Pend) : resOf v' x = resOf v x := by
  unfold resOf vT at *; rw [h1, h2, h3]
theorem VInv.expire {v : Vant} {L : List Pend} {m : Nat} {at' at2 : Int} (h : VInv v L m at') (h2 : at' ≤ at2) (h3 : at2 ≤ 1000000000) :
    ∃ m', VInv (expireV v at2) L m' at2 ∧ ∀ i (hi : i < L.length), m' ≤ i → at2 < pAt L[i] + vT v := by
  have hm := h.m
  have hat : ∀ x ∈ L, 0 ≤ pAt x ∧ pAt x ≤ 1000000000 := fun x hx => by have := h.at0 x hx; have := h.now; omega
  obtain ⟨k, k0, k1, k2, k3⟩ := filter_cut (overAt (vT v) at2) (L.drop m) (fun i j hj hij hh => by
    simp only [List.length_drop] at hj
    rw [List.getElem_drop] at hh ⊢
    rw [over_iff h.t (hat _ (List.getElem_mem _))] at hh ⊢
    have := h.srt (m + i) (m + j) (by omega) (by omega)
    have := of_decide_eq_true hh
    exact decide_eq_true (by omega))
  simp only [List.length_drop] at k0
  refine ⟨m + k, ⟨?_, ?_, by omega, h.next, h.t, ⟨by have := h.now; omega, h3⟩, fun x hx => by have := h.at0 x hx; omega, h.srt, h.num, h.back⟩, ?_⟩
  · show (vW v).filter _ = _
    rw [h.w, k2, List.drop_drop]
  · show vR v ++ ((vW v).filter _).map (resOf v) = _
    rw [h.r, h.w, k1, ← List.map_append]
    have : L.take (m + k) = L.take m ++ (L.drop m).take k := by rw [List.take_add]
    rw [this]
    exact List.map_congr_left fun x _ => (resOf_same rfl rfl rfl x).symm
  · intro i hi hmi
    have := k3 (i - m) (by simp only [List.length_drop]; omega) (by omega)
    rw [List.getElem_drop, over_iff h.t (hat _ (List.getElem_mem _))] at this
    have := of_decide_eq_false this
    have e : m + (i - m) = i := by omega
    simp only [e] at this
    omega
theorem VInv.finish {v : Vant} {L : List Pend} {m : Nat} {at' : Int} (h : VInv v L m at') : vW (finishV v) = [] ∧ vR (finishV v) = L.map (resOf v) := by
  constructor
  · show (vW v).filter (fun x => !true) = []
    simp
  · show vR v ++ ((vW v).filter fun _ => true).map (resOf v) = _
    rw [h.r, h.w, List.filter_eq_self.2 (fun _ _ => rfl), ← List.map_append, List.take_append_drop]
theorem VInv.later {v : Vant} {L : List Pend} {m : Nat} {at' at2 : Int} (h : VInv v L m at') (h2 : at' ≤ at2) (h3 : at2 ≤ 1000000000) : VInv v L m at2 :=
  ⟨h.w, h.r, h.m, h.next, h.t, ⟨by have := h.now; omega, h3⟩, fun x hx => by have := h.at0 x hx; omega, h.srt, h.num, h.back⟩
/-- What two lists of probes have in common: all but the answers. -/
def sameSent (L L' : List Pend) : Prop := L'.length = L.length ∧ ∀ i (h : i < L.length) (h' : i < L'.length), L'[i].1 = L[i].1 ∧ pAt L'[i] = pAt L[i]
theorem sameSent_refl (L : List Pend) : sameSent L L := ⟨rfl, fun i h h' => ⟨rfl, rfl⟩⟩
theorem upd_same (at' : Int) (a : Ans) (x : Pend) : (updP at' a x).1 = x.1 ∧ pAt (updP at' a x) = pAt x ∧ (updP at' a x).2.1 = x.2.1 := by
  unfold updP pAt; split
  · exact ⟨rfl, rfl, rfl⟩
  · split <;> exact ⟨rfl, rfl, rfl⟩
theorem upd_back {at' : Int} {a : Ans} {x : Pend} {t : Int} (h0 : pAt x ≤ at') (h1 : at' < pAt x + t) (h : x.2.2.2.1 = true → pAt x ≤ x.2.2.2.2.2.1 ∧ x.2.2.2.2.2.1 < pAt x + t) :
    (updP at' a x).2.2.2.1 = true → pAt (updP at' a x) ≤ (updP at' a x).2.2.2.2.2.1 ∧ (updP at' a x).2.2.2.2.2.1 < pAt (updP at' a x) + t := by
  rw [(upd_same at' a x).2.1]
  unfold updP
  split
  · intro _; exact ⟨h0, h1⟩
  · split
    · intro hh; exact h hh
    · exact h
theorem VInv.recv {v : Vant} {L : List Pend} {m : Nat} {at' at2 : Int} {b : List Int} (h : VInv v L m at') (h2 : at' ≤ at2) (h3 : at2 ≤ 1000000000) :
    ∃ L' m', VInv (rcV v at2 b) L' m' at2 ∧ sameSent L L' := by
  obtain ⟨m', hi, hover⟩ := h.expire h2 h3
  unfold rcV
  split
  · rename_i h0
    have hlt : rcI (expireV v at2) (readA b).1 < (vW (expireV v at2)).length := by
      unfold rcE at h0
      split at h0
      · cases h0
      · split at h0
        · assumption
        · cases h0
    have hT : vT (expireV v at2) = vT v := rfl
    generalize rcI (expireV v at2) (readA b).1 = i at hlt ⊢
    generalize expireV v at2 = w at hi hlt hT ⊢
    rw [hi.w] at hlt ⊢
    simp only [List.length_drop] at hlt
    have hx : (L.drop m').getD i default = L[m' + i] := by
      rw [List.getD_eq_getElem?_getD, List.getElem?_drop, List.getElem?_eq_getElem (by omega)]; rfl
    rw [hx]
    have hs := upd_same at2 (readA b).2 L[m' + i]
    have hset : ∀ j (hj : j < L.length), (L.set (m' + i) (updP at2 (readA b).2 L[m' + i]))[j]'(by rw [List.length_set]; exact hj) = if m' + i = j then updP at2 (readA b).2 L[m' + i] else L[j] := fun j hj => List.getElem_set _
    refine ⟨L.set (m' + i) (updP at2 (readA b).2 L[m' + i]), m', ⟨?_, ?_, by rw [List.length_set]; exact hi.m, by rw [List.length_set]; exact hi.next, hi.t, hi.now, ?_, ?_, ?_, ?_⟩, ?_⟩
    · show (L.drop m').set i _ = _
      rw [List.drop_set, if_neg (by omega)]; congr 1; omega
    · show vR w = _
      rw [hi.r, List.take_set_of_le (by omega)]
      exact List.map_congr_left fun x _ => resOf_same rfl rfl rfl x
    · intro x hx
      rcases List.mem_or_eq_of_mem_set hx with hx | rfl
      · exact hi.at0 x hx
      · rw [hs.2.1]; exact hi.at0 _ (List.getElem_mem _)
    · intro j k hk hjk
      rw [List.length_set] at hk
      have e : ∀ n (hn : n < L.length), pAt ((L.set (m' + i) (updP at2 (readA b).2 L[m' + i]))[n]'(by rw [List.length_set]; exact hn)) = pAt L[n] := fun n hn => by
        rw [hset n hn]; split
        · rename_i e; subst e; exact hs.2.1
        · rfl
      rw [e j (by omega), e k hk]
      exact hi.srt j k hk hjk
    · intro j hj
      rw [List.length_set] at hj
      rw [hset j hj]; split
      · rename_i e; subst e; rw [hs.2.2]; exact hi.num _ hj
      · exact hi.num j hj
    · intro x hx
      rcases List.mem_or_eq_of_mem_set hx with hx | rfl
      · exact hi.back x hx
      · have ht : vT (setWR w ((L.drop m').set i (updP at2 (readA b).2 L[m' + i])) (vR w)) = vT w := rfl
        rw [ht]
        have ho := hover (m' + i) (by omega) (by omega)
        have h0 := hi.at0 _ (List.getElem_mem (show m' + i < L.length by omega))
        have hb := hi.back _ (List.getElem_mem (show m' + i < L.length by omega))
        rw [hT] at hb ⊢
        exact upd_back h0.2 ho hb
    · refine ⟨by rw [List.length_set], fun j hj hj' => ?_⟩
      rw [hset j hj]; split
      · rename_i e; subst e; exact ⟨hs.1, hs.2.1⟩
      · exact ⟨rfl, rfl⟩
  · exact ⟨L, m', hi, sameSent_refl L⟩
theorem VInv.add {v : Vant} {L : List Pend} {m : Nat} {at' : Int} (h : VInv v L m at') {p : Probe} :
    VInv (addP v (p, v.2.2.1, at', false, false, 0, ans0)) (L ++ [(p, v.2.2.1, at', false, false, 0, ans0)]) m at' := by
  have hm := h.m
  have hlen : (L ++ [(p, v.2.2.1, at', false, false, 0, ans0)]).length = L.length + 1 := by simp
  refine ⟨?_, ?_, by omega, ?_, h.t, h.now, ?_, ?_, ?_, ?_⟩
  · show vW v ++ _ = _
    rw [h.w, List.drop_append_of_le_length hm]
  · show vR v = _
    rw [h.r, List.take_append_of_le_length hm]
    exact List.map_congr_left fun x _ => resOf_same rfl rfl rfl x
  · rw [hlen]; show v.2.2.1 + 1 = _; rw [h.next]; omega
  · intro x hx
    rcases List.mem_append.1 hx with hx | hx
    · exact h.at0 x hx
    · simp only [List.mem_singleton] at hx; subst hx; exact ⟨h.now.1, Int.le_refl _⟩
  · intro i j hj hij
    rw [hlen] at hj
    by_cases h1 : j < L.length
    · rw [List.getElem_append_left h1, List.getElem_append_left (by omega)]; exact h.srt i j h1 hij
    · have e : j = L.length := by omega
      subst e
      simp only [List.getElem_concat_length]
      by_cases h2 : i < L.length
      · rw [List.getElem_append_left h2]; exact (h.at0 _ (List.getElem_mem _)).2
      · have e : i = L.length := by omega
        subst e
        simp only [List.getElem_concat_length]
        exact Int.le_refl _
  · intro i hi
    have hi2 : i < L.length + 1 := by rw [← hlen]; exact hi
    by_cases h1 : i < L.length
    · rw [List.getElem_append_left h1]; exact h.num i h1
    · have e : i = L.length := by omega
      subst e
      rw [List.getElem_append_right (by omega)]
      simp only [Nat.sub_self, List.getElem_cons_zero]
      exact h.next
  · intro x hx
    rcases List.mem_append.1 hx with hx | hx
    · exact h.back x hx
    · simp only [List.mem_singleton] at hx; subst hx; intro k; cases k
abbrev oVant : OT := .pair cI (.pair cI (.pair cI (.pair cU32 (.pair cI (.pair (.row 67 cPend) (.row 58 cRes))))))
def vSmall (v : Vant) : Prop := ((vW v).length : Int) ≤ 100000 ∧ ((vR v).length : Int) ≤ 100000
def ct_vantage_usable : Ct := ⟨[.val cU32], [.val .bool], fun d => [], fun d => ((decide (usable d.1), ()), ())⟩
def an_vantage_usable : PDs ct_vantage_usable.ps → Anns := (fun _ => {})
theorem vc_vantage_usable :
    ∀ (x : Int), ((0 : Int) ≤ x ∧ x ≤ (4294967295 : Int)) ∧ True → True → ∀ (b : Bool), b = decide (special x = (0 : Int)) → ((!b) = true → ((!b) = true → (!b) = true) ∧ True) ∧ (b = false → (!b) = true)
     ∧ (bif b then true else decide (special x = (3 : Int))) = decide (usable x) := by
  intro x _ _
  (repeat (intro (b_ : Bool) (hb_ : b_ = _); (repeat refine ⟨(by first | (simp; done) | (rw [hb_]; simp; done) | (rw [hb_]; simp; omega) | (rw [hb_]; simp; intros; omega) | (rw [hb_]; simp +contextual; done)), ?_⟩); subst hb_))
  unfold usable
  by_cases h : special x = 0 <;> simp [h]
theorem ok_vantage_usable : SpecOK Tryz.prog GL 34 ct_vantage_usable.spec := Ct.ok' _ Tryz.func34 (by kernel_rfl) (withSpec_ok noSpecs_ok ok_address_Special) hmix an_vantage_usable (Eq.mpr (by kernel_rfl) vc_vantage_usable)

def ct_vantage_New : Ct := ⟨[.val cI, .val cI, .val cU32, .val cI], [.agg cVant, .val cI], fun d => [], fun d => ((newV d.1 d.2.1 d.2.2.1 d.2.2.2.1, newE d.1 d.2.1 d.2.2.1 d.2.2.2.1, ()), ())⟩
def an_vantage_New : PDs ct_vantage_New.ps → Anns := (fun _ => {})
theorem vc_vantage_New :
    ∀ (x x_1 x_2 x_3 : Int), ((-9223372036854775808 : Int) ≤ x ∧ x ≤ (9223372036854775807 : Int)) ∧ ((-9223372036854775808 : Int) ≤ x_1 ∧ x_1 ≤ (9223372036854775807 : Int)) ∧ ((0 : Int) ≤ x_2 ∧ x_2 ≤
     (4294967295 : Int)) ∧ ((-9223372036854775808 : Int) ≤ x_3 ∧ x_3 ≤ (9223372036854775807 : Int)) ∧ True → True → ∀ (b : Bool), b = decide (x < (0 : Int)) → ((!b) = true → ((!b) = true → (!b) = true) ∧
     True) ∧ (b = false → (!b) = true) ∧ ifP (bif b then true else decide ((16 : Int) ≤ x)) (ifP (bif b then true else decide ((16 : Int) ≤ x)) (((0 : Int), (0 : Int), (0 : Int), (0 : Int), (0 : Int), ([]
     : List ((Int × Int × Int × Int × Int × Int) × Int × Int × Bool × Bool × Int × Int × Int × Int × Int × Int × Int)), ([] : List (Int × Int × Int × Int × Int × Int × Int × Int × Bool × Bool × Int × Int ×
     Int × Int × Int × Int × Int))) = newV x x_1 x_2 x_3 ∧ (1 : Int) = newE x x_1 x_2 x_3) (ifP (!decide (usable x_2)) (((0 : Int), (0 : Int), (0 : Int), (0 : Int), (0 : Int), ([] : List ((Int × Int × Int
     × Int × Int × Int) × Int × Int × Bool × Bool × Int × Int × Int × Int × Int × Int × Int)), ([] : List (Int × Int × Int × Int × Int × Int × Int × Int × Bool × Bool × Int × Int × Int × Int × Int × Int ×
     Int))) = newV x x_1 x_2 x_3 ∧ (10 : Int) = newE x x_1 x_2 x_3) ((x, x_1, (0 : Int), x_2, x_3, ([] : List ((Int × Int × Int × Int × Int × Int) × Int × Int × Bool × Bool × Int × Int × Int × Int × Int ×
     Int × Int)), ([] : List (Int × Int × Int × Int × Int × Int × Int × Int × Bool × Bool × Int × Int × Int × Int × Int × Int × Int))) = newV x x_1 x_2 x_3 ∧ (0 : Int) = newE x x_1 x_2 x_3))) (∀ (b :
     Bool), b = decide (x_1 < (0 : Int)) → ((!b) = true → ((!b) = true → (!b) = true) ∧ True) ∧ (b = false → (!b) = true) ∧ ifP (bif b then true else decide ((64 : Int) ≤ x_1)) (ifP (bif b then true else
     decide ((64 : Int) ≤ x_1)) (((0 : Int), (0 : Int), (0 : Int), (0 : Int), (0 : Int), ([] : List ((Int × Int × Int × Int × Int × Int) × Int × Int × Bool × Bool × Int × Int × Int × Int × Int × Int ×
     Int)), ([] : List (Int × Int × Int × Int × Int × Int × Int × Int × Bool × Bool × Int × Int × Int × Int × Int × Int × Int))) = newV x x_1 x_2 x_3 ∧ (1 : Int) = newE x x_1 x_2 x_3) (ifP (!decide (usable
     x_2)) (((0 : Int), (0 : Int), (0 : Int), (0 : Int), (0 : Int), ([] : List ((Int × Int × Int × Int × Int × Int) × Int × Int × Bool × Bool × Int × Int × Int × Int × Int × Int × Int)), ([] : List (Int ×
     Int × Int × Int × Int × Int × Int × Int × Bool × Bool × Int × Int × Int × Int × Int × Int × Int))) = newV x x_1 x_2 x_3 ∧ (10 : Int) = newE x x_1 x_2 x_3) ((x, x_1, (0 : Int), x_2, x_3, ([] : List
     ((Int × Int × Int × Int × Int × Int) × Int × Int × Bool × Bool × Int × Int × Int × Int × Int × Int × Int)), ([] : List (Int × Int × Int × Int × Int × Int × Int × Int × Bool × Bool × Int × Int × Int ×
     Int × Int × Int × Int))) = newV x x_1 x_2 x_3 ∧ (0 : Int) = newE x x_1 x_2 x_3))) (∀ (b : Bool), b = decide (x_3 < (1 : Int)) → ((!b) = true → ((!b) = true → (!b) = true) ∧ True) ∧ (b = false → (!b) =
     true) ∧ ifP (bif b then true else decide ((1073741824 : Int) < x_3)) (((0 : Int), (0 : Int), (0 : Int), (0 : Int), (0 : Int), ([] : List ((Int × Int × Int × Int × Int × Int) × Int × Int × Bool × Bool
     × Int × Int × Int × Int × Int × Int × Int)), ([] : List (Int × Int × Int × Int × Int × Int × Int × Int × Bool × Bool × Int × Int × Int × Int × Int × Int × Int))) = newV x x_1 x_2 x_3 ∧ (1 : Int) =
     newE x x_1 x_2 x_3) (ifP (!decide (usable x_2)) (((0 : Int), (0 : Int), (0 : Int), (0 : Int), (0 : Int), ([] : List ((Int × Int × Int × Int × Int × Int) × Int × Int × Bool × Bool × Int × Int × Int ×
     Int × Int × Int × Int)), ([] : List (Int × Int × Int × Int × Int × Int × Int × Int × Bool × Bool × Int × Int × Int × Int × Int × Int × Int))) = newV x x_1 x_2 x_3 ∧ (10 : Int) = newE x x_1 x_2 x_3)
     ((x, x_1, (0 : Int), x_2, x_3, ([] : List ((Int × Int × Int × Int × Int × Int) × Int × Int × Bool × Bool × Int × Int × Int × Int × Int × Int × Int)), ([] : List (Int × Int × Int × Int × Int × Int ×
     Int × Int × Bool × Bool × Int × Int × Int × Int × Int × Int × Int))) = newV x x_1 x_2 x_3 ∧ (0 : Int) = newE x x_1 x_2 x_3)))) := by
  intro x x_1 x_2 x_3 _ _
  have bad : newE x x_1 x_2 x_3 ≠ 0 → ((0, 0, 0, 0, 0, [], []) : Vant) = newV x x_1 x_2 x_3 := fun h => by rw [newV, if_neg h]; rfl
  have b1 : ¬ newOK x x_1 x_3 → ((0, 0, 0, 0, 0, [], []) : Vant) = newV x x_1 x_2 x_3 ∧ (1 : Int) = newE x x_1 x_2 x_3 := fun h => by
    have e : newE x x_1 x_2 x_3 = 1 := by rw [newE, if_pos h]
    exact ⟨bad (by rw [e]; decide), e.symm⟩
  have b2 : newOK x x_1 x_3 → ¬ usable x_2 → ((0, 0, 0, 0, 0, [], []) : Vant) = newV x x_1 x_2 x_3 ∧ (10 : Int) = newE x x_1 x_2 x_3 := fun h k => by
    have e : newE x x_1 x_2 x_3 = 10 := by rw [newE, if_neg (fun q => q h), if_pos k]
    exact ⟨bad (by rw [e]; decide), e.symm⟩
  have b3 : newOK x x_1 x_3 → usable x_2 → ((x, x_1, 0, x_2, x_3, [], []) : Vant) = newV x x_1 x_2 x_3 ∧ (0 : Int) = newE x x_1 x_2 x_3 := fun h k => by
    have e : newE x x_1 x_2 x_3 = 0 := by rw [newE, if_neg (fun q => q h), if_neg (fun q => q k)]
    exact ⟨by rw [newV, if_pos e], e.symm⟩
  have bor : ∀ {a b : Bool} {y n : Prop}, ((a = true ∨ b = true) → y) → (a = false → b = false → n) → ifP (bif a then true else b) y n := fun {a b y n} hy hn => by
    cases a <;> cases b <;> simp_all [ifP]
  (repeat (intro (b_ : Bool) (hb_ : b_ = _); (repeat refine ⟨(by first | (simp; done) | (rw [hb_]; simp; done) | (rw [hb_]; simp; omega) | (rw [hb_]; simp; intros; omega) | (rw [hb_]; simp +contextual; done)), ?_⟩); subst hb_))
  refine bor (fun h1 => ?_) (fun h1 h2 => ?_)
  · refine bor (fun _ => b1 (fun q => ?_)) (fun k1 k2 => ?_)
    · obtain ⟨q1, q2, q3⟩ := q; simp at h1; omega
    · rw [k1, k2] at h1; simp at h1
  (repeat (intro (b_ : Bool) (hb_ : b_ = _); (repeat refine ⟨(by first | (simp; done) | (rw [hb_]; simp; done) | (rw [hb_]; simp; omega) | (rw [hb_]; simp; intros; omega) | (rw [hb_]; simp +contextual; done)), ?_⟩); subst hb_))
  refine bor (fun h3 => ?_) (fun h3 h4 => ?_)
  · refine bor (fun _ => b1 (fun q => ?_)) (fun k1 k2 => ?_)
    · obtain ⟨q1, q2, q3⟩ := q; simp at h3; omega
    · rw [k1, k2] at h3; simp at h3
  (repeat (intro (b_ : Bool) (hb_ : b_ = _); (repeat refine ⟨(by first | (simp; done) | (rw [hb_]; simp; done) | (rw [hb_]; simp; omega) | (rw [hb_]; simp; intros; omega) | (rw [hb_]; simp +contextual; done)), ?_⟩); subst hb_))
  refine bor (fun h5 => b1 (fun q => ?_)) (fun h5 h6 => ?_)
  · obtain ⟨q1, q2, q3⟩ := q; simp at h5; omega
  · have ok : newOK x x_1 x_3 := by
      simp at h1 h2 h3 h4 h5 h6
      exact ⟨⟨h1, h2⟩, ⟨h3, h4⟩, h5, h6⟩
    refine ifP_split (fun hu => b2 ok (by simpa using hu)) (fun hu => b3 ok (by simpa using hu))
theorem ok_vantage_New : SpecOK Tryz.prog GL 9 ct_vantage_New.spec := Ct.ok' _ Tryz.func9 (by kernel_rfl) (withSpec_ok noSpecs_ok ok_vantage_usable) hmix an_vantage_New (Eq.mpr (by kernel_rfl) vc_vantage_New)

def ct_vantage_Tag : Ct := ⟨[.val cI, .val cI], [.val cI], fun d => [], fun d => ((tagV d.1 d.2.1, ()), ())⟩
def an_vantage_Tag : PDs ct_vantage_Tag.ps → Anns := (fun _ => {})
theorem vc_vantage_Tag :
    ∀ (x x_1 : Int), ((-9223372036854775808 : Int) ≤ x ∧ x ≤ (9223372036854775807 : Int)) ∧ ((-9223372036854775808 : Int) ≤ x_1 ∧ x_1 ≤ (9223372036854775807 : Int)) ∧ True → True → IntKind.wrap
     IntKind.i64 (IntKind.wrap IntKind.i64 (x * (1000 : Int)) + x_1) = tagV x x_1 := by
  intro x x_1 _ _
  rfl
theorem ok_vantage_Tag : SpecOK Tryz.prog GL 12 ct_vantage_Tag.spec := Ct.ok' _ Tryz.func12 (by kernel_rfl) noSpecs_ok hmix an_vantage_Tag (Eq.mpr (by kernel_rfl) vc_vantage_Tag)

def ct_ClonePend : Ct := ⟨[.val (.sl cPend)], [.own 67 cPend], fun d => [(d.1.length : Int) ≤ 100000], fun d => ((d.1, ()), ())⟩
def an_ClonePend : PDs ct_ClonePend.ps → Anns := (fun _ => {})
theorem vc_ClonePend :
    ∀ (x : List ((Int × Int × Int × Int × Int × Int) × Int × Int × Bool × Bool × Int × Int × Int × Int × Int × Int × Int)), (List.length x ≤ maxLen ∧ ∀ (x_1 : (Int × Int × Int × Int × Int × Int) × Int ×
     Int × Bool × Bool × Int × Int × Int × Int × Int × Int × Int), x_1 ∈ x → (((0 : Int) ≤ x_1.1.1 ∧ x_1.1.1 ≤ (4294967295 : Int)) ∧ ((0 : Int) ≤ x_1.1.2.1 ∧ x_1.1.2.1 ≤ (4294967295 : Int)) ∧
     ((-9223372036854775808 : Int) ≤ x_1.1.2.2.1 ∧ x_1.1.2.2.1 ≤ (9223372036854775807 : Int)) ∧ ((-9223372036854775808 : Int) ≤ x_1.1.2.2.2.1 ∧ x_1.1.2.2.2.1 ≤ (9223372036854775807 : Int)) ∧
     ((-9223372036854775808 : Int) ≤ x_1.1.2.2.2.2.1 ∧ x_1.1.2.2.2.2.1 ≤ (9223372036854775807 : Int)) ∧ (-9223372036854775808 : Int) ≤ x_1.1.2.2.2.2.2 ∧ x_1.1.2.2.2.2.2 ≤ (9223372036854775807 : Int)) ∧
     ((-9223372036854775808 : Int) ≤ x_1.2.1 ∧ x_1.2.1 ≤ (9223372036854775807 : Int)) ∧ ((-9223372036854775808 : Int) ≤ x_1.2.2.1 ∧ x_1.2.2.1 ≤ (9223372036854775807 : Int)) ∧ True ∧ True ∧
     ((-9223372036854775808 : Int) ≤ x_1.2.2.2.2.2.1 ∧ x_1.2.2.2.2.2.1 ≤ (9223372036854775807 : Int)) ∧ ((0 : Int) ≤ x_1.2.2.2.2.2.2.1 ∧ x_1.2.2.2.2.2.2.1 ≤ (4294967295 : Int)) ∧ ((-9223372036854775808 :
     Int) ≤ x_1.2.2.2.2.2.2.2.1 ∧ x_1.2.2.2.2.2.2.2.1 ≤ (9223372036854775807 : Int)) ∧ ((-9223372036854775808 : Int) ≤ x_1.2.2.2.2.2.2.2.2.1 ∧ x_1.2.2.2.2.2.2.2.2.1 ≤ (9223372036854775807 : Int)) ∧
     ((-9223372036854775808 : Int) ≤ x_1.2.2.2.2.2.2.2.2.2.1 ∧ x_1.2.2.2.2.2.2.2.2.2.1 ≤ (9223372036854775807 : Int)) ∧ ((-9223372036854775808 : Int) ≤ x_1.2.2.2.2.2.2.2.2.2.2.1 ∧ x_1.2.2.2.2.2.2.2.2.2.2.1
     ≤ (9223372036854775807 : Int)) ∧ (-9223372036854775808 : Int) ≤ x_1.2.2.2.2.2.2.2.2.2.2.2 ∧ x_1.2.2.2.2.2.2.2.2.2.2.2 ≤ (9223372036854775807 : Int)) ∧ True → (↑(List.length x) : Int) ≤ (100000 : Int)
     → ∀ (x_1 : Bool), (x_1 = true → List.length x = (0 : Nat)) → ifP x_1 (([] : List ((Int × Int × Int × Int × Int × Int) × Int × Int × Bool × Bool × Int × Int × Int × Int × Int × Int × Int)) = x) (((0 :
     Nat) + List.length x) * (120 : Nat) ≤ (140737488355328 : Nat) ∧ x = x) := by
  rintro x ⟨⟨hl, -⟩, -⟩ h b hb
  refine ifP_split (fun h1 => ?_) (fun h1 => ⟨by omega, rfl⟩)
  exact (List.eq_nil_of_length_eq_zero (hb h1)).symm
theorem ok_ClonePend : SpecOK Tryz.prog GL 80 ct_ClonePend.spec := Ct.ok' _ Tryz.func80 (by kernel_rfl) noSpecs_ok hmix an_ClonePend (Eq.mpr (by kernel_rfl) vc_ClonePend)

def ct_CloneRes : Ct := ⟨[.val (.sl cRes)], [.own 58 cRes], fun d => [(d.1.length : Int) ≤ 100000], fun d => ((d.1, ()), ())⟩
def an_CloneRes : PDs ct_CloneRes.ps → Anns := (fun _ => {})
theorem vc_CloneRes :
    ∀ (x : List (Int × Int × Int × Int × Int × Int × Int × Int × Bool × Bool × Int × Int × Int × Int × Int × Int × Int)), (List.length x ≤ maxLen ∧ ∀ (x_1 : Int × Int × Int × Int × Int × Int × Int × Int ×
     Bool × Bool × Int × Int × Int × Int × Int × Int × Int), x_1 ∈ x → ((-9223372036854775808 : Int) ≤ x_1.1 ∧ x_1.1 ≤ (9223372036854775807 : Int)) ∧ ((-9223372036854775808 : Int) ≤ x_1.2.1 ∧ x_1.2.1 ≤
     (9223372036854775807 : Int)) ∧ ((-9223372036854775808 : Int) ≤ x_1.2.2.1 ∧ x_1.2.2.1 ≤ (9223372036854775807 : Int)) ∧ ((-9223372036854775808 : Int) ≤ x_1.2.2.2.1 ∧ x_1.2.2.2.1 ≤ (9223372036854775807 :
     Int)) ∧ ((0 : Int) ≤ x_1.2.2.2.2.1 ∧ x_1.2.2.2.2.1 ≤ (4294967295 : Int)) ∧ ((-9223372036854775808 : Int) ≤ x_1.2.2.2.2.2.1 ∧ x_1.2.2.2.2.2.1 ≤ (9223372036854775807 : Int)) ∧ ((-9223372036854775808 :
     Int) ≤ x_1.2.2.2.2.2.2.1 ∧ x_1.2.2.2.2.2.2.1 ≤ (9223372036854775807 : Int)) ∧ ((-9223372036854775808 : Int) ≤ x_1.2.2.2.2.2.2.2.1 ∧ x_1.2.2.2.2.2.2.2.1 ≤ (9223372036854775807 : Int)) ∧ True ∧ True ∧
     ((-9223372036854775808 : Int) ≤ x_1.2.2.2.2.2.2.2.2.2.2.1 ∧ x_1.2.2.2.2.2.2.2.2.2.2.1 ≤ (9223372036854775807 : Int)) ∧ ((0 : Int) ≤ x_1.2.2.2.2.2.2.2.2.2.2.2.1 ∧ x_1.2.2.2.2.2.2.2.2.2.2.2.1 ≤
     (4294967295 : Int)) ∧ ((-9223372036854775808 : Int) ≤ x_1.2.2.2.2.2.2.2.2.2.2.2.2.1 ∧ x_1.2.2.2.2.2.2.2.2.2.2.2.2.1 ≤ (9223372036854775807 : Int)) ∧ ((-9223372036854775808 : Int) ≤
     x_1.2.2.2.2.2.2.2.2.2.2.2.2.2.1 ∧ x_1.2.2.2.2.2.2.2.2.2.2.2.2.2.1 ≤ (9223372036854775807 : Int)) ∧ ((-9223372036854775808 : Int) ≤ x_1.2.2.2.2.2.2.2.2.2.2.2.2.2.2.1 ∧ x_1.2.2.2.2.2.2.2.2.2.2.2.2.2.2.1
     ≤ (9223372036854775807 : Int)) ∧ ((-9223372036854775808 : Int) ≤ x_1.2.2.2.2.2.2.2.2.2.2.2.2.2.2.2.1 ∧ x_1.2.2.2.2.2.2.2.2.2.2.2.2.2.2.2.1 ≤ (9223372036854775807 : Int)) ∧ (-9223372036854775808 : Int)
     ≤ x_1.2.2.2.2.2.2.2.2.2.2.2.2.2.2.2.2 ∧ x_1.2.2.2.2.2.2.2.2.2.2.2.2.2.2.2.2 ≤ (9223372036854775807 : Int)) ∧ True → (↑(List.length x) : Int) ≤ (100000 : Int) → ∀ (x_1 : Bool), (x_1 = true →
     List.length x = (0 : Nat)) → ifP x_1 (([] : List (Int × Int × Int × Int × Int × Int × Int × Int × Bool × Bool × Int × Int × Int × Int × Int × Int × Int)) = x) (((0 : Nat) + List.length x) * (128 :
     Nat) ≤ (140737488355328 : Nat) ∧ x = x) := by
  rintro x ⟨⟨hl, -⟩, -⟩ h b hb
  refine ifP_split (fun h1 => ?_) (fun h1 => ⟨by omega, rfl⟩)
  exact (List.eq_nil_of_length_eq_zero (hb h1)).symm
theorem ok_CloneRes : SpecOK Tryz.prog GL 81 ct_CloneRes.spec := Ct.ok' _ Tryz.func81 (by kernel_rfl) noSpecs_ok hmix an_CloneRes (Eq.mpr (by kernel_rfl) vc_CloneRes)

def ct_vantage_copied : Ct := ⟨[.agg cVant], [.agg oVant], fun d => [vSmall d.1], fun d => ((d.1, ()), ())⟩
def an_vantage_copied : PDs ct_vantage_copied.ps → Anns := (fun _ => {})
theorem vc_vantage_copied :
    ∀ (d : Int × Int × Int × Int × Int × List ((Int × Int × Int × Int × Int × Int) × Int × Int × Bool × Bool × Int × Int × Int × Int × Int × Int × Int) × List (Int × Int × Int × Int × Int × Int × Int ×
     Int × Bool × Bool × Int × Int × Int × Int × Int × Int × Int)), CT.wf cVant d ∧ True → (↑(List.length (vW d)) : Int) ≤ (100000 : Int) ∧ (↑(List.length (vR d)) : Int) ≤ (100000 : Int) → (↑(List.length
     d.2.2.2.2.2.1) : Int) ≤ (100000 : Int) ∧ (↑(List.length d.2.2.2.2.2.2) : Int) ≤ (100000 : Int) ∧ d = d := by
  intro d _ h
  exact ⟨h.1, h.2, rfl⟩
theorem ok_vantage_copied : SpecOK Tryz.prog GL 50 ct_vantage_copied.spec := Ct.ok' _ Tryz.func50 (by kernel_rfl) (withSpec_ok (withSpec_ok noSpecs_ok ok_ClonePend) ok_CloneRes) hmix an_vantage_copied (Eq.mpr (by kernel_rfl) vc_vantage_copied)

def ct_vantage_result : Ct := ⟨[.agg cVant, .agg cPend], [.agg cRes], fun d => [], fun d => ((resOf d.1 d.2.1, ()), ())⟩
def an_vantage_result : PDs ct_vantage_result.ps → Anns := (fun _ => {})
theorem vc_vantage_result :
    ∀ (d : Int × Int × Int × Int × Int × List ((Int × Int × Int × Int × Int × Int) × Int × Int × Bool × Bool × Int × Int × Int × Int × Int × Int × Int) × List (Int × Int × Int × Int × Int × Int × Int ×
     Int × Bool × Bool × Int × Int × Int × Int × Int × Int × Int)) (d_1 : (Int × Int × Int × Int × Int × Int) × Int × Int × Bool × Bool × Int × Int × Int × Int × Int × Int × Int), CT.wf cVant d ∧ CT.wf
     cPend d_1 ∧ True → True → ifP (!d_1.2.2.2.1) ((d.1, d.2.1, d_1.2.1, d_1.2.2.1, d_1.1.2.1, d_1.1.2.2.1, d_1.1.2.2.2.1, d_1.1.2.2.2.2.2, d_1.2.2.2.1, d_1.2.2.2.2.1, IntKind.wrap IntKind.i64 (d_1.2.2.1 +
     d.2.2.2.2.1), d_1.2.2.2.2.2.2) = resOf d d_1) ((d.1, d.2.1, d_1.2.1, d_1.2.2.1, d_1.1.2.1, d_1.1.2.2.1, d_1.1.2.2.2.1, d_1.1.2.2.2.2.2, d_1.2.2.2) = resOf d d_1) := by
  intro d x _ _
  unfold resOf
  refine ifP_split (fun h => ?_) (fun h => ?_)
  · have h : x.2.2.2.1 = false := by simpa using h
    rw [if_neg (by rw [h]; decide)]
  · have h : x.2.2.2.1 = true := by simpa using h
    rw [if_pos h]
theorem ok_vantage_result : SpecOK Tryz.prog GL 67 ct_vantage_result.spec := Ct.ok' _ Tryz.func67 (by kernel_rfl) noSpecs_ok hmix an_vantage_result (Eq.mpr (by kernel_rfl) vc_vantage_result)

def ct_vantage_Expire_1 : Ct := ⟨[.agg cPend, .box 31 cVant, .box 3 cI], [.val .bool], fun d => [], fun d => ((overAt (vT d.2.1) d.2.2.1 d.1, ()), (d.2.1, d.2.2.1, ()))⟩
def an_vantage_Expire_1 : PDs ct_vantage_Expire_1.ps → Anns := (fun _ => {})
theorem vc_vantage_Expire_1 :
    ∀ (d : (Int × Int × Int × Int × Int × Int) × Int × Int × Bool × Bool × Int × Int × Int × Int × Int × Int × Int) (d_1 : Int × Int × Int × Int × Int × List ((Int × Int × Int × Int × Int × Int) × Int ×
     Int × Bool × Bool × Int × Int × Int × Int × Int × Int × Int) × List (Int × Int × Int × Int × Int × Int × Int × Int × Bool × Bool × Int × Int × Int × Int × Int × Int × Int)) (x : Int), CT.wf cPend d ∧
     CT.wf cVant d_1 ∧ ((-9223372036854775808 : Int) ≤ x ∧ x ≤ (9223372036854775807 : Int)) ∧ True → True → decide (IntKind.wrap IntKind.i64 (d.2.2.1 + d_1.2.2.2.2.1) ≤ x) = overAt (vT d_1) x d ∧ d_1 = d_1
     ∧ x = x := by
  intro d v x _ _
  exact ⟨rfl, rfl, rfl⟩
theorem ok_vantage_Expire_1 : SpecOK Tryz.prog GL 38 ct_vantage_Expire_1.spec := Ct.ok' _ Tryz.func38 (by kernel_rfl) noSpecs_ok hmix an_vantage_Expire_1 (Eq.mpr (by kernel_rfl) vc_vantage_Expire_1)


def ct_finishE : Ct := ⟨[.agg cVant, .fn 38 2, .box 31 cVant, .box 3 cI], [.agg oVant], fun d => [vSmall d.1], fun d => ((finP d.1 (overAt (vT d.2.2.1) d.2.2.2.1), ()), (d.2.2.1, d.2.2.2.1, ()))⟩
def an_finishE : PDs ct_finishE.ps → Anns := (fun d => { loops := (fun n => match n with | 4 => some (fun S => { ι := Int × (List Pend) × (List Res), qn := ⟨fun k_ => ∀ (k : Int) (ls : (List Pend)) (rs : (List Res)), k_ (k, ls, rs), fun k_ h_ i => h_ i.1 i.2.1 i.2.2, fun k_ => ∃ (k : Int) (ls : (List Pend)) (rs : (List Res)), k_ (k, ls, rs), fun k_ ⟨k, ls, rs, h_⟩ => ⟨_, h_⟩⟩, μ := fun i => ((vW d.1).length - i.1).toNat, inv := fun i => 0 ≤ i.1 ∧ i.1 ≤ (vW d.1).length ∧ i.2.1 = ((vW d.1).take i.1.toNat).filter (fun x => !(overAt (vT d.2.2.1) d.2.2.2.1) x) ∧ i.2.2 = vR d.1 ++ (((vW d.1).take i.1.toNat).filter (overAt (vT d.2.2.1) d.2.2.2.1)).map (resOf d.1), keep := [1, 2, 4, 11, 12], slots := fun i => [(13, .int .i64 i.1), (5, .own 524288 17)], keepN := [160, 80, 1048576, 1048577], names := fun i => [(48, .live (.cells 31 [.int .i64 d.1.1, .int .i64 d.1.2.1, .int .i64 d.1.2.2.1, .int .u32 d.1.2.2.2.1, .int .i64 d.1.2.2.2.2.1, .own 160 17, .own 524289 17])), (524288, .live (.row 67 cPend i.2.1)), (524289, .live (.row 58 cRes i.2.2))] }) | _ => none) })
theorem vc_finishE :
    ∀ (d d_1 : Int × Int × Int × Int × Int × List ((Int × Int × Int × Int × Int × Int) × Int × Int × Bool × Bool × Int × Int × Int × Int × Int × Int × Int) × List (Int × Int × Int × Int × Int × Int × Int
     × Int × Bool × Bool × Int × Int × Int × Int × Int × Int × Int)) (x : Int), CT.wf cVant d ∧ True ∧ CT.wf cVant d_1 ∧ ((-9223372036854775808 : Int) ≤ x ∧ x ≤ (9223372036854775807 : Int)) ∧ True →
     (↑(List.length (vW d)) : Int) ≤ (100000 : Int) ∧ (↑(List.length (vR d)) : Int) ≤ (100000 : Int) → vSmall d ∧ (∃ (k : Int), ∃ (ls : List Pend), ∃ (rs : List Res), ((0 : Int) ≤ k ∧ k ≤ (↑(List.length
     (vW d)) : Int) ∧ ls = List.filter (fun (x_1 : Pend) => !overAt (vT d_1) x x_1) (List.take (Int.toNat k) (vW d)) ∧ rs = vR d ++ List.map (resOf d) (List.filter (overAt (vT d_1) x) (List.take (Int.toNat
     k) (vW d)))) ∧ (↑(List.length d.2.2.2.2.2.1) : Int) = (↑(List.length d.2.2.2.2.2.1) : Int) ∧ (0 : Int) = k ∧ d.2.2.2.2.2.1 = d.2.2.2.2.2.1 ∧ (0 : Int) = (0 : Int) ∧ (0 : Int) = (0 : Int) ∧ (0 : Int) =
     (0 : Int) ∧ (0 : Int) = (0 : Int) ∧ (0 : Int) = (0 : Int) ∧ d_1.1 = d_1.1 ∧ d_1.2.1 = d_1.2.1 ∧ d_1.2.2.1 = d_1.2.2.1 ∧ d_1.2.2.2.1 = d_1.2.2.2.1 ∧ d_1.2.2.2.2.1 = d_1.2.2.2.2.1 ∧ d_1.2.2.2.2.2.1 =
     d_1.2.2.2.2.2.1 ∧ d_1.2.2.2.2.2.2 = d_1.2.2.2.2.2.2 ∧ x = x ∧ d.1 = d.1 ∧ d.2.1 = d.2.1 ∧ d.2.2.1 = d.2.2.1 ∧ d.2.2.2.1 = d.2.2.2.1 ∧ d.2.2.2.2.1 = d.2.2.2.2.1 ∧ ls = ([] : List ((Int × Int × Int ×
     Int × Int × Int) × Int × Int × Bool × Bool × Int × Int × Int × Int × Int × Int × Int)) ∧ d.2.2.2.2.2.2 = rs ∧ True) ∧ ∀ (k : Int) (ls : List Pend) (rs : List Res), (0 : Int) ≤ k ∧ k ≤ (↑(List.length
     (vW d)) : Int) ∧ ls = List.filter (fun (x_1 : Pend) => !overAt (vT d_1) x x_1) (List.take (Int.toNat k) (vW d)) ∧ rs = vR d ++ List.map (resOf d) (List.filter (overAt (vT d_1) x) (List.take (Int.toNat
     k) (vW d))) → ifP (decide (k < (↑(List.length d.2.2.2.2.2.1) : Int))) ((0 : Int) ≤ k ∧ k < (↑(List.length d.2.2.2.2.2.1) : Int) ∧ ifP (overAt (vT d_1) x (List.getD d.2.2.2.2.2.1 (Int.toNat k)
     default)) ((List.length rs + List.length [(d.1, d.2.1, (List.getD d.2.2.2.2.2.1 (Int.toNat k) default).2.1, (List.getD d.2.2.2.2.2.1 (Int.toNat k) default).2.2.1, (List.getD d.2.2.2.2.2.1 (Int.toNat
     k) default).1.2.1, (List.getD d.2.2.2.2.2.1 (Int.toNat k) default).1.2.2.1, (List.getD d.2.2.2.2.2.1 (Int.toNat k) default).1.2.2.2.1, (List.getD d.2.2.2.2.2.1 (Int.toNat k) default).1.2.2.2.2.2,
     (List.getD d.2.2.2.2.2.1 (Int.toNat k) default).2.2.2.1, (List.getD d.2.2.2.2.2.1 (Int.toNat k) default).2.2.2.2.1, if (List.getD d.2.2.2.2.2.1 (Int.toNat k) default).2.2.2.1 = true then (List.getD
     d.2.2.2.2.2.1 (Int.toNat k) default).2.2.2.2.2.1 else IntKind.wrap IntKind.i64 ((List.getD d.2.2.2.2.2.1 (Int.toNat k) default).2.2.1 + d.2.2.2.2.1), (List.getD d.2.2.2.2.2.1 (Int.toNat k)
     default).2.2.2.2.2.2)]) * (128 : Nat) ≤ (140737488355328 : Nat) ∧ ∃ (k_1 : Int), ∃ (ls_1 : List Pend), ∃ (rs_1 : List Res), ((0 : Int) ≤ k_1 ∧ k_1 ≤ (↑(List.length (vW d)) : Int) ∧ ls_1 = List.filter
     (fun (x_1 : Pend) => !overAt (vT d_1) x x_1) (List.take (Int.toNat k_1) (vW d)) ∧ rs_1 = vR d ++ List.map (resOf d) (List.filter (overAt (vT d_1) x) (List.take (Int.toNat k_1) (vW d)))) ∧ Int.toNat
     ((↑(List.length (vW d)) : Int) - k_1) < Int.toNat ((↑(List.length (vW d)) : Int) - k) ∧ (↑(List.length d.2.2.2.2.2.1) : Int) = (↑(List.length d.2.2.2.2.2.1) : Int) ∧ IntKind.wrap IntKind.i64 (k + (1 :
     Int)) = k_1 ∧ d.2.2.2.2.2.1 = d.2.2.2.2.2.1 ∧ (0 : Int) = (0 : Int) ∧ (0 : Int) = (0 : Int) ∧ (0 : Int) = (0 : Int) ∧ (0 : Int) = (0 : Int) ∧ (0 : Int) = (0 : Int) ∧ d_1.1 = d_1.1 ∧ d_1.2.1 = d_1.2.1
     ∧ d_1.2.2.1 = d_1.2.2.1 ∧ d_1.2.2.2.1 = d_1.2.2.2.1 ∧ d_1.2.2.2.2.1 = d_1.2.2.2.2.1 ∧ d_1.2.2.2.2.2.1 = d_1.2.2.2.2.2.1 ∧ d_1.2.2.2.2.2.2 = d_1.2.2.2.2.2.2 ∧ x = x ∧ d.1 = d.1 ∧ d.2.1 = d.2.1 ∧
     d.2.2.1 = d.2.2.1 ∧ d.2.2.2.1 = d.2.2.2.1 ∧ d.2.2.2.2.1 = d.2.2.2.2.1 ∧ ls = ls_1 ∧ rs ++ [(d.1, d.2.1, (List.getD d.2.2.2.2.2.1 (Int.toNat k) default).2.1, (List.getD d.2.2.2.2.2.1 (Int.toNat k)
     default).2.2.1, (List.getD d.2.2.2.2.2.1 (Int.toNat k) default).1.2.1, (List.getD d.2.2.2.2.2.1 (Int.toNat k) default).1.2.2.1, (List.getD d.2.2.2.2.2.1 (Int.toNat k) default).1.2.2.2.1, (List.getD
     d.2.2.2.2.2.1 (Int.toNat k) default).1.2.2.2.2.2, (List.getD d.2.2.2.2.2.1 (Int.toNat k) default).2.2.2.1, (List.getD d.2.2.2.2.2.1 (Int.toNat k) default).2.2.2.2.1, if (List.getD d.2.2.2.2.2.1
     (Int.toNat k) default).2.2.2.1 = true then (List.getD d.2.2.2.2.2.1 (Int.toNat k) default).2.2.2.2.2.1 else IntKind.wrap IntKind.i64 ((List.getD d.2.2.2.2.2.1 (Int.toNat k) default).2.2.1 +
     d.2.2.2.2.1), (List.getD d.2.2.2.2.2.1 (Int.toNat k) default).2.2.2.2.2.2)] = rs_1 ∧ True) ((List.length ls + List.length [List.getD d.2.2.2.2.2.1 (Int.toNat k) default]) * (120 : Nat) ≤
     (140737488355328 : Nat) ∧ ∃ (k_1 : Int), ∃ (ls_1 : List Pend), ∃ (rs_1 : List Res), ((0 : Int) ≤ k_1 ∧ k_1 ≤ (↑(List.length (vW d)) : Int) ∧ ls_1 = List.filter (fun (x_1 : Pend) => !overAt (vT d_1) x
     x_1) (List.take (Int.toNat k_1) (vW d)) ∧ rs_1 = vR d ++ List.map (resOf d) (List.filter (overAt (vT d_1) x) (List.take (Int.toNat k_1) (vW d)))) ∧ Int.toNat ((↑(List.length (vW d)) : Int) - k_1) <
     Int.toNat ((↑(List.length (vW d)) : Int) - k) ∧ (↑(List.length d.2.2.2.2.2.1) : Int) = (↑(List.length d.2.2.2.2.2.1) : Int) ∧ IntKind.wrap IntKind.i64 (k + (1 : Int)) = k_1 ∧ d.2.2.2.2.2.1 =
     d.2.2.2.2.2.1 ∧ (0 : Int) = (0 : Int) ∧ (0 : Int) = (0 : Int) ∧ (0 : Int) = (0 : Int) ∧ (0 : Int) = (0 : Int) ∧ (0 : Int) = (0 : Int) ∧ d_1.1 = d_1.1 ∧ d_1.2.1 = d_1.2.1 ∧ d_1.2.2.1 = d_1.2.2.1 ∧
     d_1.2.2.2.1 = d_1.2.2.2.1 ∧ d_1.2.2.2.2.1 = d_1.2.2.2.2.1 ∧ d_1.2.2.2.2.2.1 = d_1.2.2.2.2.2.1 ∧ d_1.2.2.2.2.2.2 = d_1.2.2.2.2.2.2 ∧ x = x ∧ d.1 = d.1 ∧ d.2.1 = d.2.1 ∧ d.2.2.1 = d.2.2.1 ∧ d.2.2.2.1 =
     d.2.2.2.1 ∧ d.2.2.2.2.1 = d.2.2.2.2.1 ∧ ls ++ [List.getD d.2.2.2.2.2.1 (Int.toNat k) default] = ls_1 ∧ rs = rs_1 ∧ True)) ((d.1, d.2.1, d.2.2.1, d.2.2.2.1, d.2.2.2.2.1, ls, rs) = finP d (overAt (vT
     d_1) x) ∧ d_1 = d_1 ∧ x = x) := by
  rintro d v x ⟨-, -, -, -, -⟩ ⟨hw, hr⟩
  refine ⟨⟨hw, hr⟩, ⟨0, [], vR d, ⟨by omega, by omega, by simp, by simp⟩, (by repeat' first | exact trivial | refine ⟨trivial, ?_⟩ | refine ⟨(by with_reducible rfl), ?_⟩ | refine ⟨w64 (by omega) (by omega), ?_⟩ | refine ⟨rfl, ?_⟩)⟩, ?_⟩
  rintro k ls rs ⟨k0, k1, rfl, rfl⟩
  have eW : d.2.2.2.2.2.1 = vW d := rfl
  rw [eW]
  refine ifP_split (fun hk => ?_) (fun hk => ?_)
  · have hk := of_decide_eq_true hk
    have f1 := filter_next k0 hk (overAt (vT v) x)
    have f2 := filter_next k0 hk (fun y => !overAt (vT v) x y)
    have l1 := List.length_filter_le (overAt (vT v) x) ((vW d).take k.toNat)
    have l2 := List.length_filter_le (fun y => !overAt (vT v) x y) ((vW d).take k.toNat)
    have l3 : ((vW d).take k.toNat).length ≤ (vW d).length := by rw [List.length_take]; omega
    refine ⟨k0, hk, ifP_split (fun ho => ?_) (fun ho => ?_)⟩
    · rw [ho] at f1
      rw [show (!overAt (vT v) x ((vW d).getD k.toNat default)) = false by rw [ho]; rfl] at f2
      refine ⟨by simp only [List.length_append, List.length_map, List.length_singleton]; omega, k + 1, _, _, ⟨by omega, by omega, rfl, rfl⟩, by omega, rfl, w64 (by omega) (by omega), ?_⟩
      (repeat refine ⟨(by with_reducible rfl), ?_⟩)
      refine ⟨?_, ?_, trivial⟩
      · rw [f2]; simp
      · rw [f1]; simp only [if_true, List.map_append, List.map_cons, List.map_nil, List.append_assoc]; rfl
    · rw [ho] at f1
      rw [show (!overAt (vT v) x ((vW d).getD k.toNat default)) = true by rw [ho]; rfl] at f2
      refine ⟨by simp only [List.length_singleton]; omega, k + 1, _, _, ⟨by omega, by omega, rfl, rfl⟩, by omega, rfl, w64 (by omega) (by omega), ?_⟩
      (repeat refine ⟨(by with_reducible rfl), ?_⟩)
      refine ⟨?_, ?_, trivial⟩
      · rw [f2]; simp
      · rw [f1]; simp
  · have hk := of_decide_eq_false hk
    have e : (vW d).take k.toNat = vW d := List.take_of_length_le (by omega)
    rw [e]
    exact ⟨rfl, rfl, rfl⟩
theorem ok_finishE : SpecOK Tryz.prog GL 37 ct_finishE.spec := Ct.ok' _ Tryz.func37 (by kernel_rfl) (withSpec_ok (withSpec_ok (withSpec_ok noSpecs_ok ok_vantage_copied) ok_vantage_Expire_1) ok_vantage_result) hmix an_finishE (Eq.mpr (by kernel_rfl) vc_finishE)


def ct_vantage_Expire : Ct := ⟨[.agg cVant, .val cI], [.agg oVant], fun d => [vSmall d.1], fun d => ((expireV d.1 d.2.1, ()), ())⟩
def an_vantage_Expire : PDs ct_vantage_Expire.ps → Anns := (fun _ => {})
theorem vc_vantage_Expire :
    ∀ (d : Int × Int × Int × Int × Int × List ((Int × Int × Int × Int × Int × Int) × Int × Int × Bool × Bool × Int × Int × Int × Int × Int × Int × Int) × List (Int × Int × Int × Int × Int × Int × Int ×
     Int × Bool × Bool × Int × Int × Int × Int × Int × Int × Int)) (x : Int), CT.wf cVant d ∧ ((-9223372036854775808 : Int) ≤ x ∧ x ≤ (9223372036854775807 : Int)) ∧ True → (↑(List.length (vW d)) : Int) ≤
     (100000 : Int) ∧ (↑(List.length (vR d)) : Int) ≤ (100000 : Int) → vSmall d ∧ (d.1, d.2.1, d.2.2.1, d.2.2.2.1, d.2.2.2.2.1, List.filter (fun (x_1 : Pend) => !overAt (vT d) x x_1) (vW d), vR d ++
     List.map (resOf d) (List.filter (overAt (vT d) x) (vW d))) = expireV d x := by
  rintro d x - ⟨hw, hr⟩
  exact ⟨⟨hw, hr⟩, rfl⟩
theorem ok_vantage_Expire : SpecOK Tryz.prog GL 15 ct_vantage_Expire.spec := Ct.ok' _ Tryz.func15 (by kernel_rfl) (withSpec_ok noSpecs_ok ok_finishE) hmix an_vantage_Expire (Eq.mpr (by kernel_rfl) vc_vantage_Expire)


def ct_vantage_Probe : Ct := ⟨[.agg cVant, .val cI, .val cU32, .val cI, .val cI, .val cI], [.agg cVant, .own 5 cU8, .val cI], fun d => [vSmall d.1, 0 ≤ d.1.2.2.1], fun d => ((prV d.1 d.2.1 d.2.2.1 d.2.2.2.1 d.2.2.2.2.1 d.2.2.2.2.2.1, prB d.1 d.2.1 d.2.2.1 d.2.2.2.1 d.2.2.2.2.1 d.2.2.2.2.2.1, prE d.1 d.2.1 d.2.2.1 d.2.2.2.1 d.2.2.2.2.1 d.2.2.2.2.2.1, ()), ())⟩
def an_vantage_Probe : PDs ct_vantage_Probe.ps → Anns := (fun _ => {})
theorem vc_vantage_Probe :
    ∀ (d : Int × Int × Int × Int × Int × List ((Int × Int × Int × Int × Int × Int) × Int × Int × Bool × Bool × Int × Int × Int × Int × Int × Int × Int) × List (Int × Int × Int × Int × Int × Int × Int ×
     Int × Bool × Bool × Int × Int × Int × Int × Int × Int × Int)) (x x_1 x_2 x_3 x_4 : Int), CT.wf cVant d ∧ ((-9223372036854775808 : Int) ≤ x ∧ x ≤ (9223372036854775807 : Int)) ∧ ((0 : Int) ≤ x_1 ∧ x_1 ≤
     (4294967295 : Int)) ∧ ((-9223372036854775808 : Int) ≤ x_2 ∧ x_2 ≤ (9223372036854775807 : Int)) ∧ ((-9223372036854775808 : Int) ≤ x_3 ∧ x_3 ≤ (9223372036854775807 : Int)) ∧ ((-9223372036854775808 :
     Int) ≤ x_4 ∧ x_4 ≤ (9223372036854775807 : Int)) ∧ True → vSmall d ∧ (0 : Int) ≤ d.2.2.1 → ifP (!decide (probeErr (d.2.2.2.1, x_1, x_2, x_3, (0 : Int), x_4) = (0 : Int))) (vSmall d ∧ d = prV d x x_1
     x_2 x_3 x_4 ∧ ([] : List Int) = prB d x x_1 x_2 x_3 x_4 ∧ probeErr (d.2.2.2.1, x_1, x_2, x_3, (0 : Int), x_4) = prE d x x_1 x_2 x_3 x_4) (ifP (!decide (usable x_1)) (vSmall d ∧ d = prV d x x_1 x_2 x_3
     x_4 ∧ ([] : List Int) = prB d x x_1 x_2 x_3 x_4 ∧ (10 : Int) = prE d x x_1 x_2 x_3 x_4) (vSmall d ∧ ∀ (x_5 x_6 x_7 x_8 x_9 : Int) (x_10 : List ((Int × Int × Int × Int × Int × Int) × Int × Int × Bool ×
     Bool × Int × Int × Int × Int × Int × Int × Int)) (x_11 : List (Int × Int × Int × Int × Int × Int × Int × Int × Bool × Bool × Int × Int × Int × Int × Int × Int × Int)), (x_5, x_6, x_7, x_8, x_9, x_10,
     x_11) = expireV d x → ∀ (b : Bool), b = decide ((1000 : Int) ≤ d.2.2.1) → ((!b) = true → ((!b) = true → (!b) = true) ∧ True) ∧ ((!b) = true → ((!b) = true → (!b) = true) ∧ True) ∧ ((!b) = true → ((!b)
     = true → (!b) = true) ∧ True) ∧ (b = false → (!b) = true) ∧ ifP (bif b then true else decide ((256 : Int) ≤ (↑(List.length x_10) : Int))) (vSmall d ∧ d = prV d x x_1 x_2 x_3 x_4 ∧ ([] : List Int) =
     prB d x x_1 x_2 x_3 x_4 ∧ (5 : Int) = prE d x x_1 x_2 x_3 x_4) (ifP (!decide (probeErr (d.2.2.2.1, x_1, x_2, x_3, tagV d.2.1 d.2.2.1, x_4) = (0 : Int))) (vSmall d ∧ d = prV d x x_1 x_2 x_3 x_4 ∧ ([] :
     List Int) = prB d x x_1 x_2 x_3 x_4 ∧ probeErr (d.2.2.2.1, x_1, x_2, x_3, tagV d.2.1 d.2.2.1, x_4) = prE d x x_1 x_2 x_3 x_4) ((List.length x_10 + List.length [((d.2.2.2.1, x_1, x_2, x_3, tagV d.2.1
     d.2.2.1, x_4), d.2.2.1, x, false, false, (0 : Int), (0 : Int), (0 : Int), (0 : Int), (0 : Int), (0 : Int), (0 : Int))]) * (120 : Nat) ≤ (140737488355328 : Nat) ∧ (x_5, x_6, IntKind.wrap IntKind.i64
     (x_7 + (1 : Int)), x_8, x_9, x_10 ++ [((d.2.2.2.1, x_1, x_2, x_3, tagV d.2.1 d.2.2.1, x_4), d.2.2.1, x, false, false, (0 : Int), (0 : Int), (0 : Int), (0 : Int), (0 : Int), (0 : Int), (0 : Int))],
     x_11) = prV d x x_1 x_2 x_3 x_4 ∧ build (d.2.2.2.1, x_1, x_2, x_3, tagV d.2.1 d.2.2.1, x_4) = prB d x x_1 x_2 x_3 x_4 ∧ (0 : Int) = prE d x x_1 x_2 x_3 x_4)))) := by
  rintro d x dst pr fl ttl ⟨-, -, -, -, -, -, -⟩ ⟨⟨hw, hr⟩, hn⟩
  have hs : vSmall d := ⟨hw, hr⟩
  have bad : prE d x dst pr fl ttl ≠ 0 → d = prV d x dst pr fl ttl ∧ ([] : List Int) = prB d x dst pr fl ttl := fun h => by
    rw [prV, prB, if_neg h, if_neg h]; exact ⟨rfl, rfl⟩
  have eA : d.2.2.2.1 = vAddr d := rfl
  refine ifP_split (fun h => ⟨hs, ?_⟩) (fun h => ?_)
  · have h : ¬ probeErr (prP d dst pr fl ttl 0) = 0 := nd_t h
    have e : prE d x dst pr fl ttl = probeErr (prP d dst pr fl ttl 0) := by rw [prE, if_pos h]
    obtain ⟨h1, h2⟩ := bad (by rw [e]; exact h)
    exact ⟨h1, h2, e.symm⟩
  have h : probeErr (prP d dst pr fl ttl 0) = 0 := nd_f h
  refine ifP_split (fun hu => ⟨hs, ?_⟩) (fun hu => ⟨hs, ?_⟩)
  · have hu : ¬ usable dst := by simpa using hu
    have e : prE d x dst pr fl ttl = 10 := by rw [prE, if_neg (fun k => k h), if_pos hu]
    obtain ⟨h1, h2⟩ := bad (by rw [e]; decide)
    exact ⟨h1, h2, e.symm⟩
  have hu : usable dst := by simpa using hu
  rintro a1 a2 a3 a4 a5 a6 a7 ha
  have e3 : a3 = d.2.2.1 := congrArg (fun q : Vant => q.2.2.1) ha
  have e6 : a6 = vW (expireV d x) := congrArg (fun q : Vant => q.2.2.2.2.2.1) ha
  (repeat (intro (b_ : Bool) (hb_ : b_ = _); (repeat refine ⟨(by first | (simp; done) | (rw [hb_]; simp; done) | (rw [hb_]; simp; omega) | (rw [hb_]; simp; intros; omega) | (rw [hb_]; simp +contextual; done)), ?_⟩); subst hb_))
  refine ifP_split (fun h5 => ⟨hs, ?_⟩) (fun h5 => ?_)
  · have h5 : 1000 ≤ d.2.2.1 ∨ 256 ≤ (vW (expireV d x)).length := by
      rw [← e6]; simp [Bool.cond_eq_ite] at h5; omega
    have e : prE d x dst pr fl ttl = 5 := by rw [prE, if_neg (fun k => k h), if_neg (fun k => k hu), if_pos h5]
    obtain ⟨h1, h2⟩ := bad (by rw [e]; decide)
    exact ⟨h1, h2, e.symm⟩
  have h5 : ¬ (1000 ≤ d.2.2.1 ∨ 256 ≤ (vW (expireV d x)).length) := by
    rw [← e6]; simp [Bool.cond_eq_ite] at h5; omega
  have e0 : prE d x dst pr fl ttl = probeErr (prP d dst pr fl ttl (tagV d.2.1 d.2.2.1)) := by rw [prE, if_neg (fun k => k h), if_neg (fun k => k hu), if_neg h5]
  refine ifP_split (fun he => ⟨hs, ?_⟩) (fun he => ⟨?_, ?_⟩)
  · have he : ¬ probeErr (prP d dst pr fl ttl (tagV d.2.1 d.2.2.1)) = 0 := nd_t he
    obtain ⟨h1, h2⟩ := bad (by rw [e0]; exact he)
    exact ⟨h1, h2, e0.symm⟩
  · have : a6.length ≤ 256 := by rw [e6]; omega
    simp only [List.length_singleton]; omega
  · have he : probeErr (prP d dst pr fl ttl (tagV d.2.1 d.2.2.1)) = 0 := nd_f he
    have e : prE d x dst pr fl ttl = 0 := e0.trans he
    refine ⟨?_, by rw [prB, if_pos e]; rfl, e.symm⟩
    rw [prV, if_pos e, ← ha]
    have : IntKind.i64.wrap (a3 + 1) = a3 + 1 := w64 (by rw [e3]; omega) (by rw [e3]; omega)
    rw [this]
    rfl
theorem ok_vantage_Probe : SpecOK Tryz.prog GL 25 ct_vantage_Probe.spec := Ct.ok' _ Tryz.func25 (by kernel_rfl) (withSpec_ok (withSpec_ok (withSpec_ok (withSpec_ok (withSpec_ok (withSpec_ok noSpecs_ok ok_probe_Check) ok_vantage_copied) ok_vantage_usable) (Ct.named ok_vantage_Expire)) ok_vantage_Tag) ok_probe_Build) hmix an_vantage_Probe (Eq.mpr (by kernel_rfl) vc_vantage_Probe)

def ct_vantage_Receive_1 : Ct := ⟨[.agg cPend, .box 42 cProbe], [.val .bool], fun d => [], fun d => ((matchP d.2.1 d.1, ()), (d.2.1, ()))⟩
def an_vantage_Receive_1 : PDs ct_vantage_Receive_1.ps → Anns := (fun _ => {})
theorem vc_vantage_Receive_1 :
    ∀ (d : (Int × Int × Int × Int × Int × Int) × Int × Int × Bool × Bool × Int × Int × Int × Int × Int × Int × Int) (x x_1 x_2 x_3 x_4 x_5 : Int), CT.wf cPend d ∧ (((0 : Int) ≤ x ∧ x ≤ (4294967295 : Int))
     ∧ ((0 : Int) ≤ x_1 ∧ x_1 ≤ (4294967295 : Int)) ∧ ((-9223372036854775808 : Int) ≤ x_2 ∧ x_2 ≤ (9223372036854775807 : Int)) ∧ ((-9223372036854775808 : Int) ≤ x_3 ∧ x_3 ≤ (9223372036854775807 : Int)) ∧
     ((-9223372036854775808 : Int) ≤ x_4 ∧ x_4 ≤ (9223372036854775807 : Int)) ∧ (-9223372036854775808 : Int) ≤ x_5 ∧ x_5 ≤ (9223372036854775807 : Int)) ∧ True → True → (decide (d.1.1 = x) && (decide
     (d.1.2.1 = x_1) && (decide (d.1.2.2.1 = x_2) && (decide (d.1.2.2.2.1 = x_3) && (decide (d.1.2.2.2.2.1 = x_4) && (decide (x_5 = x_5) && true)))))) = matchP (x, x_1, x_2, x_3, x_4, x_5) d ∧ (x, x_1,
     x_2, x_3, x_4, x_5) = (x, x_1, x_2, x_3, x_4, x_5) := by
  rintro ⟨⟨q1, q2, q3, q4, q5, q6⟩, r⟩ x x_1 x_2 x_3 x_4 x_5 - -
  refine ⟨?_, rfl⟩
  unfold matchP noT
  simp only [Prod.mk.injEq, Bool.decide_and, and_true, decide_true, Bool.and_true]
theorem ok_vantage_Receive_1 : SpecOK Tryz.prog GL 41 ct_vantage_Receive_1.spec := Ct.ok' _ Tryz.func41 (by kernel_rfl) noSpecs_ok hmix an_vantage_Receive_1 (Eq.mpr (by kernel_rfl) vc_vantage_Receive_1)

def ct_IndexRecv : Ct := ⟨[.val (.sl cPend), .fn 41 1, .box 42 cProbe], [.val cI], fun d => [], fun d => ((if d.1.findIdx (matchP d.2.2.1) < d.1.length then (d.1.findIdx (matchP d.2.2.1) : Int) else -1, ()), (d.2.2.1, ()))⟩
def an_IndexRecv : PDs ct_IndexRecv.ps → Anns := (fun d => { loops := (fun n => match n with | 2 => some (fun S => { ι := Int, μ := fun i => (d.1.length - i).toNat, inv := fun i => 0 ≤ i ∧ i ≤ d.1.length ∧ ∀ x ∈ d.1.take i.toNat, matchP d.2.2.1 x = false, keep := [0, 1, 6, 7], slots := fun i => [(8, .int .i64 i)], keepN := [1048576], names := fun i => [] }) | _ => none) })
theorem vc_IndexRecv :
    ∀ (x : List ((Int × Int × Int × Int × Int × Int) × Int × Int × Bool × Bool × Int × Int × Int × Int × Int × Int × Int)) (x_1 x_2 x_3 x_4 x_5 x_6 : Int), (List.length x ≤ maxLen ∧ ∀ (x_7 : (Int × Int ×
     Int × Int × Int × Int) × Int × Int × Bool × Bool × Int × Int × Int × Int × Int × Int × Int), x_7 ∈ x → (((0 : Int) ≤ x_7.1.1 ∧ x_7.1.1 ≤ (4294967295 : Int)) ∧ ((0 : Int) ≤ x_7.1.2.1 ∧ x_7.1.2.1 ≤
     (4294967295 : Int)) ∧ ((-9223372036854775808 : Int) ≤ x_7.1.2.2.1 ∧ x_7.1.2.2.1 ≤ (9223372036854775807 : Int)) ∧ ((-9223372036854775808 : Int) ≤ x_7.1.2.2.2.1 ∧ x_7.1.2.2.2.1 ≤ (9223372036854775807 :
     Int)) ∧ ((-9223372036854775808 : Int) ≤ x_7.1.2.2.2.2.1 ∧ x_7.1.2.2.2.2.1 ≤ (9223372036854775807 : Int)) ∧ (-9223372036854775808 : Int) ≤ x_7.1.2.2.2.2.2 ∧ x_7.1.2.2.2.2.2 ≤ (9223372036854775807 :
     Int)) ∧ ((-9223372036854775808 : Int) ≤ x_7.2.1 ∧ x_7.2.1 ≤ (9223372036854775807 : Int)) ∧ ((-9223372036854775808 : Int) ≤ x_7.2.2.1 ∧ x_7.2.2.1 ≤ (9223372036854775807 : Int)) ∧ True ∧ True ∧
     ((-9223372036854775808 : Int) ≤ x_7.2.2.2.2.2.1 ∧ x_7.2.2.2.2.2.1 ≤ (9223372036854775807 : Int)) ∧ ((0 : Int) ≤ x_7.2.2.2.2.2.2.1 ∧ x_7.2.2.2.2.2.2.1 ≤ (4294967295 : Int)) ∧ ((-9223372036854775808 :
     Int) ≤ x_7.2.2.2.2.2.2.2.1 ∧ x_7.2.2.2.2.2.2.2.1 ≤ (9223372036854775807 : Int)) ∧ ((-9223372036854775808 : Int) ≤ x_7.2.2.2.2.2.2.2.2.1 ∧ x_7.2.2.2.2.2.2.2.2.1 ≤ (9223372036854775807 : Int)) ∧
     ((-9223372036854775808 : Int) ≤ x_7.2.2.2.2.2.2.2.2.2.1 ∧ x_7.2.2.2.2.2.2.2.2.2.1 ≤ (9223372036854775807 : Int)) ∧ ((-9223372036854775808 : Int) ≤ x_7.2.2.2.2.2.2.2.2.2.2.1 ∧ x_7.2.2.2.2.2.2.2.2.2.2.1
     ≤ (9223372036854775807 : Int)) ∧ (-9223372036854775808 : Int) ≤ x_7.2.2.2.2.2.2.2.2.2.2.2 ∧ x_7.2.2.2.2.2.2.2.2.2.2.2 ≤ (9223372036854775807 : Int)) ∧ True ∧ (((0 : Int) ≤ x_1 ∧ x_1 ≤ (4294967295 :
     Int)) ∧ ((0 : Int) ≤ x_2 ∧ x_2 ≤ (4294967295 : Int)) ∧ ((-9223372036854775808 : Int) ≤ x_3 ∧ x_3 ≤ (9223372036854775807 : Int)) ∧ ((-9223372036854775808 : Int) ≤ x_4 ∧ x_4 ≤ (9223372036854775807 :
     Int)) ∧ ((-9223372036854775808 : Int) ≤ x_5 ∧ x_5 ≤ (9223372036854775807 : Int)) ∧ (-9223372036854775808 : Int) ≤ x_6 ∧ x_6 ≤ (9223372036854775807 : Int)) ∧ True → True → (∃ (x_7 : Int), ((0 : Int) ≤
     x_7 ∧ x_7 ≤ (↑(List.length x) : Int) ∧ ∀ (x_8 : (Int × Int × Int × Int × Int × Int) × Int × Int × Bool × Bool × Int × Int × Int × Int × Int × Int × Int), x_8 ∈ List.take (Int.toNat x_7) x → matchP
     (x_1, x_2, x_3, x_4, x_5, x_6) x_8 = false) ∧ x = x ∧ x = x ∧ (↑(List.length x) : Int) = (↑(List.length x) : Int) ∧ (0 : Int) = x_7 ∧ x_1 = x_1 ∧ x_2 = x_2 ∧ x_3 = x_3 ∧ x_4 = x_4 ∧ x_5 = x_5 ∧ x_6 =
     x_6 ∧ True) ∧ ∀ (x_7 : Int), ((0 : Int) ≤ x_7 ∧ x_7 ≤ (↑(List.length x) : Int) ∧ ∀ (x_8 : (Int × Int × Int × Int × Int × Int) × Int × Int × Bool × Bool × Int × Int × Int × Int × Int × Int × Int), x_8
     ∈ List.take (Int.toNat x_7) x → matchP (x_1, x_2, x_3, x_4, x_5, x_6) x_8 = false) → ifP (decide (x_7 < (↑(List.length x) : Int))) ((0 : Int) ≤ x_7 ∧ x_7 < (↑(List.length x) : Int) ∧ ifP (matchP (x_1,
     x_2, x_3, x_4, x_5, x_6) (List.getD x (Int.toNat x_7) default)) ((x_7 = if List.findIdx (matchP (x_1, x_2, x_3, x_4, x_5, x_6)) x < List.length x then (↑(List.findIdx (matchP (x_1, x_2, x_3, x_4, x_5,
     x_6)) x) : Int) else (-1 : Int)) ∧ (x_1, x_2, x_3, x_4, x_5, x_6) = (x_1, x_2, x_3, x_4, x_5, x_6)) (∃ (x_8 : Int), ((0 : Int) ≤ x_8 ∧ x_8 ≤ (↑(List.length x) : Int) ∧ ∀ (x_9 : (Int × Int × Int × Int
     × Int × Int) × Int × Int × Bool × Bool × Int × Int × Int × Int × Int × Int × Int), x_9 ∈ List.take (Int.toNat x_8) x → matchP (x_1, x_2, x_3, x_4, x_5, x_6) x_9 = false) ∧ Int.toNat ((↑(List.length x)
     : Int) - x_8) < Int.toNat ((↑(List.length x) : Int) - x_7) ∧ x = x ∧ x = x ∧ (↑(List.length x) : Int) = (↑(List.length x) : Int) ∧ IntKind.wrap IntKind.i64 (x_7 + (1 : Int)) = x_8 ∧ x_1 = x_1 ∧ x_2 =
     x_2 ∧ x_3 = x_3 ∧ x_4 = x_4 ∧ x_5 = x_5 ∧ x_6 = x_6 ∧ True)) (((-1 : Int) = if List.findIdx (matchP (x_1, x_2, x_3, x_4, x_5, x_6)) x < List.length x then (↑(List.findIdx (matchP (x_1, x_2, x_3, x_4,
     x_5, x_6)) x) : Int) else (-1 : Int)) ∧ (x_1, x_2, x_3, x_4, x_5, x_6) = (x_1, x_2, x_3, x_4, x_5, x_6)) := by
  rintro l a b c e f g ⟨⟨hl, -⟩, -⟩ -
  simp only [maxLen] at hl
  refine ⟨⟨0, ⟨by omega, by omega, by simp⟩, (by repeat' first | exact trivial | refine ⟨trivial, ?_⟩ | refine ⟨(by with_reducible rfl), ?_⟩ | refine ⟨w64 (by omega) (by omega), ?_⟩ | refine ⟨rfl, ?_⟩)⟩, ?_⟩
  rintro j ⟨j0, j1, hj⟩
  refine ifP_split (fun hk => ?_) (fun hk => ?_)
  · have hk := of_decide_eq_true hk
    refine ⟨j0, hk, ifP_split (fun hm => ?_) (fun hm => ?_)⟩
    · exact ⟨findI_at j0 hk hj hm, rfl⟩
    · exact ⟨j + 1, ⟨by omega, by omega, all_next j0 hk hj hm⟩, by omega, rfl, rfl, rfl, w64 (by omega) (by omega), (by repeat' first | exact trivial | refine ⟨trivial, ?_⟩ | refine ⟨(by with_reducible rfl), ?_⟩ | refine ⟨w64 (by omega) (by omega), ?_⟩ | refine ⟨rfl, ?_⟩)⟩
  · exact ⟨findI_none (of_decide_eq_false hk) hj, rfl⟩
theorem ok_IndexRecv : SpecOK Tryz.prog GL 40 ct_IndexRecv.spec := Ct.ok' _ Tryz.func40 (by kernel_rfl) (withSpec_ok noSpecs_ok ok_vantage_Receive_1) hmix an_IndexRecv (Eq.mpr (by kernel_rfl) vc_IndexRecv)

def ct_vantage_Receive : Ct := ⟨[.agg cVant, .val cI, .val (.sl cU8)], [.agg cVant, .val cI], fun d => [vSmall d.1, (d.2.2.1.length : Int) ≤ 1000000], fun d => ((rcV d.1 d.2.1 d.2.2.1, rcE d.1 d.2.1 d.2.2.1, ()), ())⟩
def an_vantage_Receive : PDs ct_vantage_Receive.ps → Anns := (fun _ => {})
theorem vc_vantage_Receive :
    ∀ (d : Int × Int × Int × Int × Int × List ((Int × Int × Int × Int × Int × Int) × Int × Int × Bool × Bool × Int × Int × Int × Int × Int × Int × Int) × List (Int × Int × Int × Int × Int × Int × Int ×
     Int × Bool × Bool × Int × Int × Int × Int × Int × Int × Int)) (x : Int) (x_1 : List Int), CT.wf cVant d ∧ ((-9223372036854775808 : Int) ≤ x ∧ x ≤ (9223372036854775807 : Int)) ∧ (List.length x_1 ≤
     maxLen ∧ ∀ (x : Int), x ∈ x_1 → (0 : Int) ≤ x ∧ x ≤ (255 : Int)) ∧ True → vSmall d ∧ (↑(List.length x_1) : Int) ≤ (1000000 : Int) → vSmall d ∧ ∀ (x_2 x_3 x_4 x_5 x_6 : Int) (x_7 : List ((Int × Int ×
     Int × Int × Int × Int) × Int × Int × Bool × Bool × Int × Int × Int × Int × Int × Int × Int)) (x_8 : List (Int × Int × Int × Int × Int × Int × Int × Int × Bool × Bool × Int × Int × Int × Int × Int ×
     Int × Int)), (x_2, x_3, x_4, x_5, x_6, x_7, x_8) = expireV d x → (↑(List.length x_1) : Int) ≤ (1000000 : Int) ∧ ∀ (x_9 x_10 x_11 x_12 x_13 x_14 x_15 x_16 x_17 x_18 x_19 x_20 x_21 : Int), (x_9, x_10,
     x_11, x_12, x_13, x_14) = (readA x_1).1 ∧ (x_15, x_16, x_17, x_18, x_19, x_20) = (readA x_1).2 ∧ x_21 = readAE x_1 → ∀ (b : Bool), b = !decide (x_21 = (0 : Int)) → ((!b) = true → ((!b) = true → (!b) =
     true) ∧ True) ∧ ((!b) = true → ((!b) = true → (!b) = true) ∧ True) ∧ ((!b) = true → ((!b) = true → (!b) = true) ∧ ((!b) = true → (!b) = true) ∧ True) ∧ (b = false → (!b) = true) ∧ ifP (bif b then true
     else !decide (x_9 = x_5)) ((x_2, x_3, x_4, x_5, x_6, x_7, x_8) = rcV d x x_1 ∧ (17 : Int) = rcE d x x_1) (∀ (x_22 x_23 x_24 x_25 x_26 x_27 x_28 : Int), (x_22 = if List.findIdx (matchP (x_9, x_10,
     x_11, x_12, x_13, x_14)) x_7 < List.length x_7 then (↑(List.findIdx (matchP (x_9, x_10, x_11, x_12, x_13, x_14)) x_7) : Int) else (-1 : Int)) ∧ (x_23, x_24, x_25, x_26, x_27, x_28) = (x_9, x_10, x_11,
     x_12, x_13, x_14) → ifP (decide (x_22 < (0 : Int))) ((x_2, x_3, x_4, x_5, x_6, x_7, x_8) = rcV d x x_1 ∧ (8 : Int) = rcE d x x_1) ((0 : Int) ≤ x_22 ∧ x_22 < (↑(List.length x_7) : Int) ∧ ifP
     (!(List.getD x_7 (Int.toNat x_22) default).2.2.2.1) ((x_2, x_3, x_4, x_5, x_6, List.set (List.set (List.set x_7 (Int.toNat x_22) ((List.getD x_7 (Int.toNat x_22) default).1, (List.getD x_7 (Int.toNat
     x_22) default).2.1, (List.getD x_7 (Int.toNat x_22) default).2.2.1, true, (List.getD x_7 (Int.toNat x_22) default).2.2.2.2)) (Int.toNat x_22) ((List.getD (List.set x_7 (Int.toNat x_22) ((List.getD x_7
     (Int.toNat x_22) default).1, (List.getD x_7 (Int.toNat x_22) default).2.1, (List.getD x_7 (Int.toNat x_22) default).2.2.1, true, (List.getD x_7 (Int.toNat x_22) default).2.2.2.2)) (Int.toNat x_22)
     default).1, (List.getD (List.set x_7 (Int.toNat x_22) ((List.getD x_7 (Int.toNat x_22) default).1, (List.getD x_7 (Int.toNat x_22) default).2.1, (List.getD x_7 (Int.toNat x_22) default).2.2.1, true,
     (List.getD x_7 (Int.toNat x_22) default).2.2.2.2)) (Int.toNat x_22) default).2.1, (List.getD (List.set x_7 (Int.toNat x_22) ((List.getD x_7 (Int.toNat x_22) default).1, (List.getD x_7 (Int.toNat x_22)
     default).2.1, (List.getD x_7 (Int.toNat x_22) default).2.2.1, true, (List.getD x_7 (Int.toNat x_22) default).2.2.2.2)) (Int.toNat x_22) default).2.2.1, (List.getD (List.set x_7 (Int.toNat x_22)
     ((List.getD x_7 (Int.toNat x_22) default).1, (List.getD x_7 (Int.toNat x_22) default).2.1, (List.getD x_7 (Int.toNat x_22) default).2.2.1, true, (List.getD x_7 (Int.toNat x_22) default).2.2.2.2))
     (Int.toNat x_22) default).2.2.2.1, (List.getD (List.set x_7 (Int.toNat x_22) ((List.getD x_7 (Int.toNat x_22) default).1, (List.getD x_7 (Int.toNat x_22) default).2.1, (List.getD x_7 (Int.toNat x_22)
     default).2.2.1, true, (List.getD x_7 (Int.toNat x_22) default).2.2.2.2)) (Int.toNat x_22) default).2.2.2.2.1, x, (List.getD (List.set x_7 (Int.toNat x_22) ((List.getD x_7 (Int.toNat x_22) default).1,
     (List.getD x_7 (Int.toNat x_22) default).2.1, (List.getD x_7 (Int.toNat x_22) default).2.2.1, true, (List.getD x_7 (Int.toNat x_22) default).2.2.2.2)) (Int.toNat x_22) default).2.2.2.2.2.2))
     (Int.toNat x_22) ((List.getD (List.set (List.set x_7 (Int.toNat x_22) ((List.getD x_7 (Int.toNat x_22) default).1, (List.getD x_7 (Int.toNat x_22) default).2.1, (List.getD x_7 (Int.toNat x_22)
     default).2.2.1, true, (List.getD x_7 (Int.toNat x_22) default).2.2.2.2)) (Int.toNat x_22) ((List.getD (List.set x_7 (Int.toNat x_22) ((List.getD x_7 (Int.toNat x_22) default).1, (List.getD x_7
     (Int.toNat x_22) default).2.1, (List.getD x_7 (Int.toNat x_22) default).2.2.1, true, (List.getD x_7 (Int.toNat x_22) default).2.2.2.2)) (Int.toNat x_22) default).1, (List.getD (List.set x_7 (Int.toNat
     x_22) ((List.getD x_7 (Int.toNat x_22) default).1, (List.getD x_7 (Int.toNat x_22) default).2.1, (List.getD x_7 (Int.toNat x_22) default).2.2.1, true, (List.getD x_7 (Int.toNat x_22)
     default).2.2.2.2)) (Int.toNat x_22) default).2.1, (List.getD (List.set x_7 (Int.toNat x_22) ((List.getD x_7 (Int.toNat x_22) default).1, (List.getD x_7 (Int.toNat x_22) default).2.1, (List.getD x_7
     (Int.toNat x_22) default).2.2.1, true, (List.getD x_7 (Int.toNat x_22) default).2.2.2.2)) (Int.toNat x_22) default).2.2.1, (List.getD (List.set x_7 (Int.toNat x_22) ((List.getD x_7 (Int.toNat x_22)
     default).1, (List.getD x_7 (Int.toNat x_22) default).2.1, (List.getD x_7 (Int.toNat x_22) default).2.2.1, true, (List.getD x_7 (Int.toNat x_22) default).2.2.2.2)) (Int.toNat x_22) default).2.2.2.1,
     (List.getD (List.set x_7 (Int.toNat x_22) ((List.getD x_7 (Int.toNat x_22) default).1, (List.getD x_7 (Int.toNat x_22) default).2.1, (List.getD x_7 (Int.toNat x_22) default).2.2.1, true, (List.getD
     x_7 (Int.toNat x_22) default).2.2.2.2)) (Int.toNat x_22) default).2.2.2.2.1, x, (List.getD (List.set x_7 (Int.toNat x_22) ((List.getD x_7 (Int.toNat x_22) default).1, (List.getD x_7 (Int.toNat x_22)
     default).2.1, (List.getD x_7 (Int.toNat x_22) default).2.2.1, true, (List.getD x_7 (Int.toNat x_22) default).2.2.2.2)) (Int.toNat x_22) default).2.2.2.2.2.2)) (Int.toNat x_22) default).1, (List.getD
     (List.set (List.set x_7 (Int.toNat x_22) ((List.getD x_7 (Int.toNat x_22) default).1, (List.getD x_7 (Int.toNat x_22) default).2.1, (List.getD x_7 (Int.toNat x_22) default).2.2.1, true, (List.getD x_7
     (Int.toNat x_22) default).2.2.2.2)) (Int.toNat x_22) ((List.getD (List.set x_7 (Int.toNat x_22) ((List.getD x_7 (Int.toNat x_22) default).1, (List.getD x_7 (Int.toNat x_22) default).2.1, (List.getD
     x_7 (Int.toNat x_22) default).2.2.1, true, (List.getD x_7 (Int.toNat x_22) default).2.2.2.2)) (Int.toNat x_22) default).1, (List.getD (List.set x_7 (Int.toNat x_22) ((List.getD x_7 (Int.toNat x_22)
     default).1, (List.getD x_7 (Int.toNat x_22) default).2.1, (List.getD x_7 (Int.toNat x_22) default).2.2.1, true, (List.getD x_7 (Int.toNat x_22) default).2.2.2.2)) (Int.toNat x_22) default).2.1,
     (List.getD (List.set x_7 (Int.toNat x_22) ((List.getD x_7 (Int.toNat x_22) default).1, (List.getD x_7 (Int.toNat x_22) default).2.1, (List.getD x_7 (Int.toNat x_22) default).2.2.1, true, (List.getD
     x_7 (Int.toNat x_22) default).2.2.2.2)) (Int.toNat x_22) default).2.2.1, (List.getD (List.set x_7 (Int.toNat x_22) ((List.getD x_7 (Int.toNat x_22) default).1, (List.getD x_7 (Int.toNat x_22)
     default).2.1, (List.getD x_7 (Int.toNat x_22) default).2.2.1, true, (List.getD x_7 (Int.toNat x_22) default).2.2.2.2)) (Int.toNat x_22) default).2.2.2.1, (List.getD (List.set x_7 (Int.toNat x_22)
     ((List.getD x_7 (Int.toNat x_22) default).1, (List.getD x_7 (Int.toNat x_22) default).2.1, (List.getD x_7 (Int.toNat x_22) default).2.2.1, true, (List.getD x_7 (Int.toNat x_22) default).2.2.2.2))
     (Int.toNat x_22) default).2.2.2.2.1, x, (List.getD (List.set x_7 (Int.toNat x_22) ((List.getD x_7 (Int.toNat x_22) default).1, (List.getD x_7 (Int.toNat x_22) default).2.1, (List.getD x_7 (Int.toNat
     x_22) default).2.2.1, true, (List.getD x_7 (Int.toNat x_22) default).2.2.2.2)) (Int.toNat x_22) default).2.2.2.2.2.2)) (Int.toNat x_22) default).2.1, (List.getD (List.set (List.set x_7 (Int.toNat
     x_22) ((List.getD x_7 (Int.toNat x_22) default).1, (List.getD x_7 (Int.toNat x_22) default).2.1, (List.getD x_7 (Int.toNat x_22) default).2.2.1, true, (List.getD x_7 (Int.toNat x_22)
     default).2.2.2.2)) (Int.toNat x_22) ((List.getD (List.set x_7 (Int.toNat x_22) ((List.getD x_7 (Int.toNat x_22) default).1, (List.getD x_7 (Int.toNat x_22) default).2.1, (List.getD x_7 (Int.toNat
     x_22) default).2.2.1, true, (List.getD x_7 (Int.toNat x_22) default).2.2.2.2)) (Int.toNat x_22) default).1, (List.getD (List.set x_7 (Int.toNat x_22) ((List.getD x_7 (Int.toNat x_22) default).1,
     (List.getD x_7 (Int.toNat x_22) default).2.1, (List.getD x_7 (Int.toNat x_22) default).2.2.1, true, (List.getD x_7 (Int.toNat x_22) default).2.2.2.2)) (Int.toNat x_22) default).2.1, (List.getD
     (List.set x_7 (Int.toNat x_22) ((List.getD x_7 (Int.toNat x_22) default).1, (List.getD x_7 (Int.toNat x_22) default).2.1, (List.getD x_7 (Int.toNat x_22) default).2.2.1, true, (List.getD x_7
     (Int.toNat x_22) default).2.2.2.2)) (Int.toNat x_22) default).2.2.1, (List.getD (List.set x_7 (Int.toNat x_22) ((List.getD x_7 (Int.toNat x_22) default).1, (List.getD x_7 (Int.toNat x_22)
     default).2.1, (List.getD x_7 (Int.toNat x_22) default).2.2.1, true, (List.getD x_7 (Int.toNat x_22) default).2.2.2.2)) (Int.toNat x_22) default).2.2.2.1, (List.getD (List.set x_7 (Int.toNat x_22)
     ((List.getD x_7 (Int.toNat x_22) default).1, (List.getD x_7 (Int.toNat x_22) default).2.1, (List.getD x_7 (Int.toNat x_22) default).2.2.1, true, (List.getD x_7 (Int.toNat x_22) default).2.2.2.2))
     (Int.toNat x_22) default).2.2.2.2.1, x, (List.getD (List.set x_7 (Int.toNat x_22) ((List.getD x_7 (Int.toNat x_22) default).1, (List.getD x_7 (Int.toNat x_22) default).2.1, (List.getD x_7 (Int.toNat
     x_22) default).2.2.1, true, (List.getD x_7 (Int.toNat x_22) default).2.2.2.2)) (Int.toNat x_22) default).2.2.2.2.2.2)) (Int.toNat x_22) default).2.2.1, (List.getD (List.set (List.set x_7 (Int.toNat
     x_22) ((List.getD x_7 (Int.toNat x_22) default).1, (List.getD x_7 (Int.toNat x_22) default).2.1, (List.getD x_7 (Int.toNat x_22) default).2.2.1, true, (List.getD x_7 (Int.toNat x_22)
     default).2.2.2.2)) (Int.toNat x_22) ((List.getD (List.set x_7 (Int.toNat x_22) ((List.getD x_7 (Int.toNat x_22) default).1, (List.getD x_7 (Int.toNat x_22) default).2.1, (List.getD x_7 (Int.toNat
     x_22) default).2.2.1, true, (List.getD x_7 (Int.toNat x_22) default).2.2.2.2)) (Int.toNat x_22) default).1, (List.getD (List.set x_7 (Int.toNat x_22) ((List.getD x_7 (Int.toNat x_22) default).1,
     (List.getD x_7 (Int.toNat x_22) default).2.1, (List.getD x_7 (Int.toNat x_22) default).2.2.1, true, (List.getD x_7 (Int.toNat x_22) default).2.2.2.2)) (Int.toNat x_22) default).2.1, (List.getD
     (List.set x_7 (Int.toNat x_22) ((List.getD x_7 (Int.toNat x_22) default).1, (List.getD x_7 (Int.toNat x_22) default).2.1, (List.getD x_7 (Int.toNat x_22) default).2.2.1, true, (List.getD x_7
     (Int.toNat x_22) default).2.2.2.2)) (Int.toNat x_22) default).2.2.1, (List.getD (List.set x_7 (Int.toNat x_22) ((List.getD x_7 (Int.toNat x_22) default).1, (List.getD x_7 (Int.toNat x_22)
     default).2.1, (List.getD x_7 (Int.toNat x_22) default).2.2.1, true, (List.getD x_7 (Int.toNat x_22) default).2.2.2.2)) (Int.toNat x_22) default).2.2.2.1, (List.getD (List.set x_7 (Int.toNat x_22)
     ((List.getD x_7 (Int.toNat x_22) default).1, (List.getD x_7 (Int.toNat x_22) default).2.1, (List.getD x_7 (Int.toNat x_22) default).2.2.1, true, (List.getD x_7 (Int.toNat x_22) default).2.2.2.2))
     (Int.toNat x_22) default).2.2.2.2.1, x, (List.getD (List.set x_7 (Int.toNat x_22) ((List.getD x_7 (Int.toNat x_22) default).1, (List.getD x_7 (Int.toNat x_22) default).2.1, (List.getD x_7 (Int.toNat
     x_22) default).2.2.1, true, (List.getD x_7 (Int.toNat x_22) default).2.2.2.2)) (Int.toNat x_22) default).2.2.2.2.2.2)) (Int.toNat x_22) default).2.2.2.1, (List.getD (List.set (List.set x_7 (Int.toNat
     x_22) ((List.getD x_7 (Int.toNat x_22) default).1, (List.getD x_7 (Int.toNat x_22) default).2.1, (List.getD x_7 (Int.toNat x_22) default).2.2.1, true, (List.getD x_7 (Int.toNat x_22)
     default).2.2.2.2)) (Int.toNat x_22) ((List.getD (List.set x_7 (Int.toNat x_22) ((List.getD x_7 (Int.toNat x_22) default).1, (List.getD x_7 (Int.toNat x_22) default).2.1, (List.getD x_7 (Int.toNat
     x_22) default).2.2.1, true, (List.getD x_7 (Int.toNat x_22) default).2.2.2.2)) (Int.toNat x_22) default).1, (List.getD (List.set x_7 (Int.toNat x_22) ((List.getD x_7 (Int.toNat x_22) default).1,
     (List.getD x_7 (Int.toNat x_22) default).2.1, (List.getD x_7 (Int.toNat x_22) default).2.2.1, true, (List.getD x_7 (Int.toNat x_22) default).2.2.2.2)) (Int.toNat x_22) default).2.1, (List.getD
     (List.set x_7 (Int.toNat x_22) ((List.getD x_7 (Int.toNat x_22) default).1, (List.getD x_7 (Int.toNat x_22) default).2.1, (List.getD x_7 (Int.toNat x_22) default).2.2.1, true, (List.getD x_7
     (Int.toNat x_22) default).2.2.2.2)) (Int.toNat x_22) default).2.2.1, (List.getD (List.set x_7 (Int.toNat x_22) ((List.getD x_7 (Int.toNat x_22) default).1, (List.getD x_7 (Int.toNat x_22)
     default).2.1, (List.getD x_7 (Int.toNat x_22) default).2.2.1, true, (List.getD x_7 (Int.toNat x_22) default).2.2.2.2)) (Int.toNat x_22) default).2.2.2.1, (List.getD (List.set x_7 (Int.toNat x_22)
     ((List.getD x_7 (Int.toNat x_22) default).1, (List.getD x_7 (Int.toNat x_22) default).2.1, (List.getD x_7 (Int.toNat x_22) default).2.2.1, true, (List.getD x_7 (Int.toNat x_22) default).2.2.2.2))
     (Int.toNat x_22) default).2.2.2.2.1, x, (List.getD (List.set x_7 (Int.toNat x_22) ((List.getD x_7 (Int.toNat x_22) default).1, (List.getD x_7 (Int.toNat x_22) default).2.1, (List.getD x_7 (Int.toNat
     x_22) default).2.2.1, true, (List.getD x_7 (Int.toNat x_22) default).2.2.2.2)) (Int.toNat x_22) default).2.2.2.2.2.2)) (Int.toNat x_22) default).2.2.2.2.1, (List.getD (List.set (List.set x_7
     (Int.toNat x_22) ((List.getD x_7 (Int.toNat x_22) default).1, (List.getD x_7 (Int.toNat x_22) default).2.1, (List.getD x_7 (Int.toNat x_22) default).2.2.1, true, (List.getD x_7 (Int.toNat x_22)
     default).2.2.2.2)) (Int.toNat x_22) ((List.getD (List.set x_7 (Int.toNat x_22) ((List.getD x_7 (Int.toNat x_22) default).1, (List.getD x_7 (Int.toNat x_22) default).2.1, (List.getD x_7 (Int.toNat
     x_22) default).2.2.1, true, (List.getD x_7 (Int.toNat x_22) default).2.2.2.2)) (Int.toNat x_22) default).1, (List.getD (List.set x_7 (Int.toNat x_22) ((List.getD x_7 (Int.toNat x_22) default).1,
     (List.getD x_7 (Int.toNat x_22) default).2.1, (List.getD x_7 (Int.toNat x_22) default).2.2.1, true, (List.getD x_7 (Int.toNat x_22) default).2.2.2.2)) (Int.toNat x_22) default).2.1, (List.getD
     (List.set x_7 (Int.toNat x_22) ((List.getD x_7 (Int.toNat x_22) default).1, (List.getD x_7 (Int.toNat x_22) default).2.1, (List.getD x_7 (Int.toNat x_22) default).2.2.1, true, (List.getD x_7
     (Int.toNat x_22) default).2.2.2.2)) (Int.toNat x_22) default).2.2.1, (List.getD (List.set x_7 (Int.toNat x_22) ((List.getD x_7 (Int.toNat x_22) default).1, (List.getD x_7 (Int.toNat x_22)
     default).2.1, (List.getD x_7 (Int.toNat x_22) default).2.2.1, true, (List.getD x_7 (Int.toNat x_22) default).2.2.2.2)) (Int.toNat x_22) default).2.2.2.1, (List.getD (List.set x_7 (Int.toNat x_22)
     ((List.getD x_7 (Int.toNat x_22) default).1, (List.getD x_7 (Int.toNat x_22) default).2.1, (List.getD x_7 (Int.toNat x_22) default).2.2.1, true, (List.getD x_7 (Int.toNat x_22) default).2.2.2.2))
     (Int.toNat x_22) default).2.2.2.2.1, x, (List.getD (List.set x_7 (Int.toNat x_22) ((List.getD x_7 (Int.toNat x_22) default).1, (List.getD x_7 (Int.toNat x_22) default).2.1, (List.getD x_7 (Int.toNat
     x_22) default).2.2.1, true, (List.getD x_7 (Int.toNat x_22) default).2.2.2.2)) (Int.toNat x_22) default).2.2.2.2.2.2)) (Int.toNat x_22) default).2.2.2.2.2.1, x_15, x_16, x_17, x_18, x_19, x_20), x_8)
     = rcV d x x_1 ∧ (0 : Int) = rcE d x x_1) (ifP (!(decide ((List.getD x_7 (Int.toNat x_22) default).2.2.2.2.2.2.1 = x_15) && (decide ((List.getD x_7 (Int.toNat x_22) default).2.2.2.2.2.2.2.1 = x_16) &&
     (decide ((List.getD x_7 (Int.toNat x_22) default).2.2.2.2.2.2.2.2.1 = x_17) && (decide ((List.getD x_7 (Int.toNat x_22) default).2.2.2.2.2.2.2.2.2.1 = x_18) && (decide ((List.getD x_7 (Int.toNat x_22)
     default).2.2.2.2.2.2.2.2.2.2.1 = x_19) && (decide ((List.getD x_7 (Int.toNat x_22) default).2.2.2.2.2.2.2.2.2.2.2 = x_20) && true))))))) ((x_2, x_3, x_4, x_5, x_6, List.set x_7 (Int.toNat x_22)
     ((List.getD x_7 (Int.toNat x_22) default).1, (List.getD x_7 (Int.toNat x_22) default).2.1, (List.getD x_7 (Int.toNat x_22) default).2.2.1, (List.getD x_7 (Int.toNat x_22) default).2.2.2.1, true,
     (List.getD x_7 (Int.toNat x_22) default).2.2.2.2.2), x_8) = rcV d x x_1 ∧ (0 : Int) = rcE d x x_1) ((x_2, x_3, x_4, x_5, x_6, x_7, x_8) = rcV d x x_1 ∧ (0 : Int) = rcE d x x_1)))) := by
  rintro d x b ⟨-, -, -, -⟩ ⟨hs, hl⟩
  refine ⟨hs, ?_⟩
  rintro a1 a2 a3 a4 a5 a6 a7 ha
  have e4 : a4 = vAddr d := congrArg (fun q : Vant => q.2.2.2.1) ha
  have e6 : a6 = vW (expireV d x) := congrArg (fun q : Vant => q.2.2.2.2.2.1) ha
  refine ⟨hl, ?_⟩
  rintro p1 p2 p3 p4 p5 p6 c1 c2 c3 c4 c5 c6 e ⟨hp, hc, rfl⟩
  have ep1 : p1 = (readA b).1.1 := congrArg (fun q : Probe => q.1) hp
  (repeat (intro (b_ : Bool) (hb_ : b_ = _); (repeat refine ⟨(by first | (simp; done) | (rw [hb_]; simp; done) | (rw [hb_]; simp; omega) | (rw [hb_]; simp; intros; omega) | (rw [hb_]; simp +contextual; done)), ?_⟩); subst hb_))
  have bad : rcE d x b ≠ 0 → (a1, a2, a3, a4, a5, a6, a7) = rcV d x b := fun h => by rw [rcV, if_neg h]; exact ha
  refine ifP_or (fun h => ?_) (fun h1 h2 => ?_)
  · have e : rcE d x b = 17 := by
      rw [rcE, if_pos]
      rcases h with h | h
      · exact .inl (nd_t h)
      · rw [← ep1, ← e4]; exact .inr (nd_t h)
    exact ⟨bad (by rw [e]; decide), e.symm⟩
  have h1 : readAE b = 0 := nd_f h1
  have h2 : p1 = a4 := nd_f h2
  have hno : ¬ (readAE b ≠ 0 ∨ (readA b).1.1 ≠ vAddr d) := by rw [← ep1, ← e4]; exact fun k => k.elim (fun k => k h1) (fun k => k h2)
  rintro i q1 q2 q3 q4 q5 q6 ⟨hi, -⟩
  rw [hp] at hi
  have er : a6.findIdx (matchP (readA b).1) = rcI (expireV d x) (readA b).1 := by rw [e6]; rfl
  rw [er] at hi
  refine ifP_split (fun h => ?_) (fun h => ?_)
  · have h := of_decide_eq_true h
    have hlt : ¬ rcI (expireV d x) (readA b).1 < a6.length := fun k => by rw [if_pos k] at hi; omega
    have e : rcE d x b = 8 := by rw [rcE, if_neg hno, if_neg (by rw [← e6]; exact hlt)]
    exact ⟨bad (by rw [e]; decide), e.symm⟩
  have h := of_decide_eq_false h
  have hlt : rcI (expireV d x) (readA b).1 < a6.length := Classical.byContradiction fun k => by rw [if_neg k] at hi; omega
  rw [if_pos hlt] at hi
  have hin : i.toNat = rcI (expireV d x) (readA b).1 := by omega
  have e : rcE d x b = 0 := by rw [rcE, if_neg hno, if_pos (by rw [← e6]; exact hlt)]
  have ev : rcV d x b = (a1, a2, a3, a4, a5, a6.set i.toNat (updP x (readA b).2 (a6.getD i.toNat default)), a7) := by
    rw [rcV, if_pos e, hin, ← ha]; rfl
  refine ⟨by omega, by omega, ?_⟩
  rw [ev, e, ← hc]
  have hil : i.toNat < a6.length := by omega
  generalize i.toNat = n at hil
  simp only [List.set_set, getD_set hil]
  have self : a6.set n (a6.getD n default) = a6 := by
    rw [List.getD_eq_getElem?_getD, List.getElem?_eq_getElem hil, Option.getD_some, List.set_getElem_self]
  generalize hy : a6.getD n default = y at *
  refine ifP_split (fun h => ⟨?_, trivial⟩) (fun h => ifP_split (fun h2 => ⟨?_, trivial⟩) (fun h2 => ⟨?_, trivial⟩))
  · have h : y.2.2.2.1 = false := by simpa only [Bool.not_eq_true'] using h
    rw [updP, if_pos h]
  · have h : y.2.2.2.1 = true := by simpa only [Bool.not_eq_false'] using h
    rw [updP, if_neg (by rw [h]; decide), if_pos]
    intro k
    rw [k] at h2
    simp at h2
  · have h : y.2.2.2.1 = true := by simpa only [Bool.not_eq_false'] using h
    have k : y.2.2.2.2.2.2 = (c1, c2, c3, c4, c5, c6) := by
      simp at h2
      obtain ⟨k1, k2, k3, k4, k5, k6⟩ := h2
      simp only [Prod.ext_iff]
      exact ⟨k1, k2, k3, k4, k5, k6⟩
    rw [updP, if_neg (by rw [h]; decide), if_neg (fun q => q k), self]
theorem ok_vantage_Receive : SpecOK Tryz.prog GL 17 ct_vantage_Receive.spec := Ct.ok' _ Tryz.func17 (by kernel_rfl) (withSpec_ok (withSpec_ok (withSpec_ok noSpecs_ok (Ct.named ok_vantage_Expire)) (Ct.named ok_reply_Read)) (Ct.named ok_IndexRecv)) hmix an_vantage_Receive (Eq.mpr (by kernel_rfl) vc_vantage_Receive)

def ct_vantage_Crash : Ct := ⟨[.agg cVant], [.agg cVant, .val cI], fun d => [], fun d => ((crV d.1, crE d.1, ()), ())⟩
def an_vantage_Crash : PDs ct_vantage_Crash.ps → Anns := (fun _ => {})
theorem vc_vantage_Crash :
    ∀ (d : Int × Int × Int × Int × Int × List ((Int × Int × Int × Int × Int × Int) × Int × Int × Bool × Bool × Int × Int × Int × Int × Int × Int × Int) × List (Int × Int × Int × Int × Int × Int × Int ×
     Int × Bool × Bool × Int × Int × Int × Int × Int × Int × Int)), CT.wf cVant d ∧ True → True → ifP (decide ((63 : Int) ≤ d.2.1)) (((0 : Int), (0 : Int), (0 : Int), (0 : Int), (0 : Int), ([] : List ((Int
     × Int × Int × Int × Int × Int) × Int × Int × Bool × Bool × Int × Int × Int × Int × Int × Int × Int)), ([] : List (Int × Int × Int × Int × Int × Int × Int × Int × Bool × Bool × Int × Int × Int × Int ×
     Int × Int × Int))) = crV d ∧ (5 : Int) = crE d) ((d.1, IntKind.wrap IntKind.i64 (d.2.1 + (1 : Int)), (0 : Int), d.2.2.2.1, d.2.2.2.2.1, ([] : List ((Int × Int × Int × Int × Int × Int) × Int × Int ×
     Bool × Bool × Int × Int × Int × Int × Int × Int × Int)), ([] : List (Int × Int × Int × Int × Int × Int × Int × Int × Bool × Bool × Int × Int × Int × Int × Int × Int × Int))) = crV d ∧ (0 : Int) = crE
     d) := by
  rintro d ⟨hwf, -⟩ -
  refine ifP_split (fun h => ?_) (fun h => ?_)
  · have h := of_decide_eq_true h
    have e : crE d = 5 := by rw [crE, if_pos h]
    exact ⟨by rw [crV, if_neg (by rw [e]; decide)]; rfl, e.symm⟩
  · have h := of_decide_eq_false h
    have hr := hwf.2.1.1
    have e : crE d = 0 := by rw [crE, if_neg h]
    refine ⟨?_, e.symm⟩
    rw [crV, if_pos e, w64 (by have : (-9223372036854775808 : Int) ≤ d.2.1 := hr; omega) (by omega)]
theorem ok_vantage_Crash : SpecOK Tryz.prog GL 22 ct_vantage_Crash.spec := Ct.ok' _ Tryz.func22 (by kernel_rfl) noSpecs_ok hmix an_vantage_Crash (Eq.mpr (by kernel_rfl) vc_vantage_Crash)
end Go.RS

