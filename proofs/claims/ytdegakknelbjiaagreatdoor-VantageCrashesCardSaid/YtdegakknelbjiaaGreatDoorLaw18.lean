/- Law18: the laws of vantage points. -/
import Derived.Test.YtdegakknelbjiaaGreatDoorRefv
namespace Go.RS
open Go.SX Go.Proofs
set_option maxRecDepth 100000
set_option linter.unusedVariables false

theorem tag_eq {r n : Int} (hr : 0 ≤ r ∧ r < 64) (hn : 0 ≤ n ∧ n < 1000) : tagV r n = r * 1000 + n := by
  unfold tagV; rw [w64 (n := r * 1000) (by omega) (by omega), w64 (by omega) (by omega)]
def home : Int := 167772167
theorem home_ok : usable home := by decide
/-- Vantage points of the laws: at home, with a short list of probes. -/
structure VS (v : Vant) (n : Int) : Prop where
  ok : VOK v
  addr : vAddr v = home
  len : ((vW v).length : Int) + (vR v).length ≤ n
theorem VS.small {v : Vant} {n : Int} (h : VS v n) (hn : n ≤ 1000) : vSmall v := by
  have := h.len; unfold vSmall; omega
theorem VS.mono {v : Vant} {n m : Int} (h : VS v n) (k : n ≤ m) : VS v m := ⟨h.ok, h.addr, by have := h.len; omega⟩
theorem fin_len (v : Vant) (o : Pend → Bool) : (vW (finP v o)).length + (vR (finP v o)).length = (vW v).length + (vR v).length := by
  have e1 : vW (finP v o) = (vW v).filter fun x => !o x := rfl
  have e2 : vR (finP v o) = vR v ++ ((vW v).filter o).map (resOf v) := rfl
  rw [e1, e2, List.length_append, List.length_map]
  have : ((vW v).filter fun x => !o x).length + ((vW v).filter o).length = (vW v).length := by
    generalize vW v = l
    induction l with
    | nil => rfl
    | cons a l ih => cases h : o a <;> simp [h] <;> omega
  omega
theorem VS.fin {v : Vant} {n : Int} (h : VS v n) (o : Pend → Bool) : VS (finP v o) n := ⟨h.ok.fin o, h.addr, by have := fin_len v o; have := h.len; omega⟩
theorem upd_un {at' : Int} {a : Ans} {x : Pend} (h : un0 x) : un0 (updP at' a x) := by
  unfold updP
  split
  · intro k; cases k
  · split
    · rename_i k _; intro q; exact absurd q k
    · exact h
theorem VS.recv {v : Vant} {n : Int} (h : VS v n) (at' : Int) (b : List Int) : VS (rcV v at' b) n := by
  have hf := h.fin (overAt (vT v) at')
  unfold rcV
  split
  · rename_i h0
    have e : expireV v at' = finP v (overAt (vT v) at') := rfl
    rw [e]
    generalize finP v (overAt (vT v) at') = w at hf h0 ⊢
    have hmem : ∀ x ∈ (vW w).set (rcI w (readA b).1) (updP at' (readA b).2 ((vW w).getD (rcI w (readA b).1) default)), x ∈ vW w ∨ (x = updP at' (readA b).2 ((vW w).getD (rcI w (readA b).1) default) ∧ (vW w).getD (rcI w (readA b).1) default ∈ vW w) := by
      intro x hx
      by_cases hi : rcI w (readA b).1 < (vW w).length
      · rcases List.mem_or_eq_of_mem_set hx with hx | hx
        · exact .inl hx
        · refine .inr ⟨hx, ?_⟩
          rw [List.getD_eq_getElem?_getD, List.getElem?_eq_getElem hi]; exact List.getElem_mem _
      · rw [List.set_eq_of_length_le (by omega)] at hx
        exact .inl hx
    refine ⟨⟨hf.ok.run, hf.ok.next, fun x hx => ?_, fun x hx => ?_⟩, hf.addr, ?_⟩
    · rcases hmem x hx with k | ⟨k, k2⟩
      · exact hf.ok.src x k
      · rw [k, (upd_same _ _ _).1]; exact hf.ok.src _ k2
    · rcases hmem x hx with k | ⟨k, k2⟩
      · exact hf.ok.un x k
      · rw [k]; exact upd_un (hf.ok.un _ k2)
    · have := hf.len
      show (((vW w).set _ _).length : Int) + (vR w).length ≤ n
      rw [List.length_set]; exact this
  · exact hf
theorem VS.probe {v : Vant} {n : Int} (h : VS v n) (at' dst pr fl ttl : Int) : VS (prV v at' dst pr fl ttl) (n + 1) := by
  unfold prV
  split
  · rename_i h0
    have hn : v.2.2.1 < 1000 := by
      refine Int.not_le.1 fun k => ?_
      unfold prE at h0
      split at h0
      · rename_i q; exact q h0
      · split at h0
        · cases h0
        · rw [if_pos (.inl k)] at h0; cases h0
    have hf := h.fin (overAt (vT v) at')
    have hnx := h.ok.next
    refine ⟨⟨hf.ok.run, ⟨?_, ?_⟩, fun x hx => ?_, fun x hx => ?_⟩, hf.addr, ?_⟩
    · show 0 ≤ v.2.2.1 + 1; omega
    · show v.2.2.1 + 1 ≤ 1000; omega
    · rcases List.mem_append.1 hx with hx | hx
      · exact hf.ok.src x hx
      · rw [List.mem_singleton.1 hx]; rfl
    · rcases List.mem_append.1 hx with hx | hx
      · exact hf.ok.un x hx
      · rw [List.mem_singleton.1 hx]; intro _; exact ⟨rfl, rfl⟩
    · have := hf.len
      show ((vW (expireV v at') ++ [_]).length : Int) + (vR (expireV v at')).length ≤ n + 1
      rw [List.length_append, List.length_singleton]
      have e : expireV v at' = finP v (overAt (vT v) at') := rfl
      rw [e]; omega
  · exact h.mono (by omega)
theorem VS.crash {v : Vant} {n m : Int} (h : VS v n) (hc : crE v = 0) (hm : 0 ≤ m) : VS (crV v) m := by
  have hr : ¬ 63 ≤ v.2.1 := fun k => by rw [crE, if_pos k] at hc; cases hc
  have := h.ok.run
  rw [crV, if_pos hc]
  exact ⟨⟨⟨by show 0 ≤ v.2.1 + 1; omega, by show v.2.1 + 1 ≤ 63; omega⟩, ⟨by show (0 : Int) ≤ 0; omega, by show (0 : Int) ≤ 1000; omega⟩, fun x hx => (by cases hx), fun x hx => (by cases hx)⟩, h.addr, by show ((0 : Nat) : Int) + ((0 : Nat) : Int) ≤ m; omega⟩
theorem new_eq {id run t : Int} (hi : 0 ≤ id ∧ id < 16) (hr : 0 ≤ run ∧ run < 64) (ht : 1 ≤ t ∧ t ≤ 1073741824) : newE id run home t = 0 ∧ newV id run home t = (id, run, 0, home, t, [], []) := by
  have e : newE id run home t = 0 := by rw [newE, if_neg (fun k => k ⟨hi, hr, ht⟩), if_neg (fun k => k home_ok)]
  exact ⟨e, by rw [newV, if_pos e]⟩
theorem VS.new {id run t : Int} (hr : 0 ≤ run ∧ run < 64) : VS (id, run, 0, home, t, [], []) 0 :=
  ⟨⟨⟨hr.1, by show run ≤ 63; omega⟩, ⟨Int.le_refl 0, by show (0 : Int) ≤ 1000; omega⟩, fun x hx => (by cases hx), fun x hx => (by cases hx)⟩, rfl, Int.le_refl 0⟩
theorem sameV_self (v : Vant) : sameV v v = true := decide_eq_true rfl
theorem read_good {b : List Int} (hb : bytes b) (h : readE b = 0) : Good (readP b) := by
  have hk : readOK b := Classical.byContradiction fun k => by rw [readE, if_neg k] at h; cases h
  rw [readP, if_pos hk]
  exact ⟨hk.2.1, bytes_num4 hb 12, bytes_num4 hb 16⟩
/-- A vantage point with one probe that waits; with one that is over. -/
def one1 (id run t : Int) (q : Probe) (at0 : Int) (st : Bool × Bool × Int × Ans) : Vant := (id, run, 1, home, t, [(q, 0, at0, st)], [])
def done1 (id run t : Int) (q : Probe) (at0 : Int) (st : Bool × Bool × Int × Ans) : Vant := (id, run, 1, home, t, [], [resOf (id, run, 1, home, t, [], []) (q, 0, at0, st)])
section
variable {id run t : Int} {q : Probe} {at0 s : Int} {st : Bool × Bool × Int × Ans} {a : Ans} {x : List Int}
theorem match_self (q : Probe) (r : Int × Int × Bool × Bool × Int × Ans) : matchP (noT q 0) (q, r) = true := decide_eq_true rfl
theorem one_live (ht : 1 ≤ t ∧ t ≤ 1073741824) (h0 : 0 ≤ at0 ∧ at0 ≤ 1000000000) (hs : s < at0 + t) (hq : q.1 = home) (hx : readA x = (noT q 0, a) ∧ readAE x = 0) :
    rcE (one1 id run t q at0 st) s x = 0 ∧ rcV (one1 id run t q at0 st) s x = one1 id run t q at0 (updP s a (q, 0, at0, st)).2.2.2 := by
  have ho : overAt t s (q, 0, at0, st) = false := by
    rw [over_iff (x := (q, 0, at0, st)) ht h0]; exact decide_eq_false (by show ¬ at0 + t ≤ s; omega)
  have e : expireV (one1 id run t q at0 st) s = one1 id run t q at0 st := by
    show setWR _ ([(q, 0, at0, st)].filter fun x => !overAt t s x) ([] ++ ([(q, 0, at0, st)].filter (overAt t s)).map _) = _
    simp only [List.filter_cons, ho, Bool.not_false, if_true, List.filter_nil]; rfl
  have hi : rcI (one1 id run t q at0 st) (noT q 0) = 0 := by
    show List.findIdx _ [(q, 0, at0, st)] = 0
    simp only [List.findIdx_cons, match_self, cond_true]
  have he : rcE (one1 id run t q at0 st) s x = 0 := by
    rw [rcE, if_neg, e, hx.1, hi, if_pos (by show 0 < 1; omega)]
    rw [hx.1]; rintro (k | k)
    · exact k hx.2
    · exact k hq
  refine ⟨he, ?_⟩
  rw [rcV, if_pos he, e, hx.1, hi]
  have hu := upd_same s a (q, 0, at0, st)
  show (id, run, (1 : Int), home, t, [updP s a (q, 0, at0, st)], ([] : List Res)) = (id, run, 1, home, t, [(q, 0, at0, (updP s a (q, 0, at0, st)).2.2.2)], [])
  have : updP s a (q, 0, at0, st) = (q, 0, at0, (updP s a (q, 0, at0, st)).2.2.2) := by
    unfold updP; split
    · rfl
    · split <;> rfl
  rw [← this]
theorem one_late (ht : 1 ≤ t ∧ t ≤ 1073741824) (h0 : 0 ≤ at0 ∧ at0 ≤ 1000000000) (hs : ¬ s < at0 + t) (hq : q.1 = home) (hx : readA x = (noT q 0, a) ∧ readAE x = 0) :
    rcE (one1 id run t q at0 st) s x = 8 ∧ rcV (one1 id run t q at0 st) s x = done1 id run t q at0 st := by
  have ho : overAt t s (q, 0, at0, st) = true := by
    rw [over_iff (x := (q, 0, at0, st)) ht h0]; exact decide_eq_true (by show at0 + t ≤ s; omega)
  have e : expireV (one1 id run t q at0 st) s = done1 id run t q at0 st := by
    show setWR _ ([(q, 0, at0, st)].filter fun x => !overAt t s x) ([] ++ ([(q, 0, at0, st)].filter (overAt t s)).map _) = _
    simp only [List.filter_cons, ho, Bool.not_true, if_true, List.filter_nil]; rfl
  have he : rcE (one1 id run t q at0 st) s x = 8 := by
    rw [rcE, if_neg, e, hx.1, if_neg (by show ¬ _ < 0; omega)]
    rw [hx.1]; rintro (k | k)
    · exact k hx.2
    · exact k hq
  refine ⟨he, ?_⟩
  rw [rcV, if_neg (by rw [he]; decide), e]
theorem done_any (hq : q.1 = home) (hx : readA x = (noT q 0, a) ∧ readAE x = 0) :
    rcE (done1 id run t q at0 st) s x = 8 ∧ rcV (done1 id run t q at0 st) s x = done1 id run t q at0 st := by
  have e : expireV (done1 id run t q at0 st) s = done1 id run t q at0 st := by
    show setWR _ (([] : List Pend).filter fun x => !overAt t s x) (_ ++ (([] : List Pend).filter (overAt t s)).map _) = _
    simp only [List.filter_nil, List.map_nil, List.append_nil]; rfl
  have he : rcE (done1 id run t q at0 st) s x = 8 := by
    rw [rcE, if_neg, e, hx.1, if_neg (by show ¬ _ < 0; omega)]
    rw [hx.1]; rintro (k | k)
    · exact k hx.2
    · exact k hq
  refine ⟨he, ?_⟩
  rw [rcV, if_neg (by rw [he]; decide), e]
theorem finish_one : vR (finishV (one1 id run t q at0 st)) = [resOf (id, run, 1, home, t, [], []) (q, 0, at0, st)] := rfl
theorem finish_done : vR (finishV (done1 id run t q at0 st)) = [resOf (id, run, 1, home, t, [], []) (q, 0, at0, st)] := rfl
theorem probe_one {dst pr fl ttl : Int} (hr : 0 ≤ run ∧ run < 64) (hp : probeErr (home, dst, pr, fl, 0, ttl) = 0) (hu : usable dst) (hd : u32 dst) :
    prE (id, run, 0, home, t, [], []) at0 dst pr fl ttl = 0 ∧ prV (id, run, 0, home, t, [], []) at0 dst pr fl ttl = one1 id run t (home, dst, pr, fl, run * 1000, ttl) at0 (false, false, 0, ans0) ∧
    prB (id, run, 0, home, t, [], []) at0 dst pr fl ttl = build (home, dst, pr, fl, run * 1000, ttl) ∧ Good (home, dst, pr, fl, run * 1000, ttl) := by
  have et : tagV run 0 = run * 1000 := by rw [tag_eq hr (by omega)]; omega
  have hg : probeErr (home, dst, pr, fl, run * 1000, ttl) = 0 := by
    obtain ⟨h1, h2, h3, h4⟩ := probe_ok.1 hp
    exact probe_ok.2 ⟨h1, h2, by show 0 ≤ run * 1000 ∧ run * 1000 ≤ 65534; omega, h4⟩
  have hv : vW (expireV (id, run, 0, home, t, [], []) at0) = [] := rfl
  have e : prE (id, run, 0, home, t, [], []) at0 dst pr fl ttl = 0 := by
    rw [prE, if_neg (fun k => k hp), if_neg (fun k => k hu), if_neg]
    · show probeErr (home, dst, pr, fl, tagV run 0, ttl) = 0
      rw [et]; exact hg
    · rw [hv]; rintro (k | k)
      · exact absurd k (by show ¬ (1000 : Int) ≤ 0; omega)
      · simp at k
  refine ⟨e, ?_, ?_, ⟨hg, by show u32 home; unfold u32 home; omega, hd⟩⟩
  · rw [prV, if_pos e]
    show (id, run, (0 : Int) + 1, home, t, [((home, dst, pr, fl, tagV run 0, ttl), 0, at0, false, false, 0, ans0)], []) = _
    rw [et]; rfl
  · rw [prB, if_pos e]
    show build (home, dst, pr, fl, tagV run 0, ttl) = _
    rw [et]
end
def goodAll (s : List Probe) : Prop := ∀ p ∈ s, Good p
def ct_law18_awake : Ct := ⟨[], [.val .bool], fun _ => [], fun _ => ((true, ()), ())⟩
def an_law18_awake : PDs ct_law18_awake.ps → Anns := (fun _ => {})
theorem vc_law18_awake :
    True → True → ∀ (d : Int × Int × Int × Int × Int × List ((Int × Int × Int × Int × Int × Int) × Int × Int × Bool × Bool × Int × Int × Int × Int × Int × Int × Int) × List (Int × Int × Int × Int × Int ×
     Int × Int × Int × Bool × Bool × Int × Int × Int × Int × Int × Int × Int)) (x : Int), d = newV (1 : Int) (2 : Int) (167772167 : Int) (10 : Int) ∧ x = newE (1 : Int) (2 : Int) (167772167 : Int) (10 :
     Int) → vSmall d ∧ (0 : Int) ≤ d.2.2.1 ∧ ∀ (d_1 : Int × Int × Int × Int × Int × List ((Int × Int × Int × Int × Int × Int) × Int × Int × Bool × Bool × Int × Int × Int × Int × Int × Int × Int) × List
     (Int × Int × Int × Int × Int × Int × Int × Int × Bool × Bool × Int × Int × Int × Int × Int × Int × Int)) (x_1 : List Int) (x_2 : Int), d_1 = prV d (0 : Int) (167772161 : Int) (17 : Int) (3 : Int) (4 :
     Int) ∧ x_1 = prB d (0 : Int) (167772161 : Int) (17 : Int) (3 : Int) (4 : Int) ∧ x_2 = prE d (0 : Int) (167772161 : Int) (17 : Int) (3 : Int) (4 : Int) → (↑(List.length x_1) : Int) ≤ (1099511627776 :
     Int) ∧ ∀ (x_3 : List Int) (x_4 : Int), x_3 = errB x_1 (167772162 : Int) (11 : Int) (0 : Int) (1 : Int) (60 : Int) ∧ x_4 = errE x_1 (11 : Int) (0 : Int) (1 : Int) (60 : Int) → vSmall d_1 ∧
     (↑(List.length x_3) : Int) ≤ (1000000 : Int) ∧ ∀ (d : Int × Int × Int × Int × Int × List ((Int × Int × Int × Int × Int × Int) × Int × Int × Bool × Bool × Int × Int × Int × Int × Int × Int × Int) ×
     List (Int × Int × Int × Int × Int × Int × Int × Int × Bool × Bool × Int × Int × Int × Int × Int × Int × Int)) (x_5 : Int), d = rcV d_1 (9 : Int) x_3 ∧ x_5 = rcE d_1 (9 : Int) x_3 → vSmall d_1 ∧
     (↑(List.length x_3) : Int) ≤ (1000000 : Int) ∧ ∀ (d_2 : Int × Int × Int × Int × Int × List ((Int × Int × Int × Int × Int × Int) × Int × Int × Bool × Bool × Int × Int × Int × Int × Int × Int × Int) ×
     List (Int × Int × Int × Int × Int × Int × Int × Int × Bool × Bool × Int × Int × Int × Int × Int × Int × Int)) (x_6 : Int), d_2 = rcV d_1 (10 : Int) x_3 ∧ x_6 = rcE d_1 (10 : Int) x_3 → ∀ (b : Bool), b
     = decide (x = (0 : Int)) → (b = true → (b = true → b = true) ∧ True) ∧ (b = true → b = true) ∧ ∀ (b_1 : Bool), (b_1 = bif b then decide (x_2 = (0 : Int)) else false) → (b_1 = true → (b_1 = true → b_1
     = true) ∧ True) ∧ (b_1 = true → b_1 = true) ∧ ∀ (b : Bool), (b = bif b_1 then decide (x_5 = (0 : Int)) else false) → (b = true → (b = true → b = true) ∧ True) ∧ (b = true → (b = true → b = true) ∧
     True) ∧ (b = true → (b = true → b = true) ∧ True) ∧ (b = true → b = true) ∧ ∀ (b_2 : Bool), (b_2 = bif b then decide ((↑(List.length d.2.2.2.2.2.1) : Int) = (1 : Int)) else false) → (b_2 = true → (b_2
     = true → b_2 = true) ∧ True) ∧ (b_2 = true → (b_2 = true → b_2 = true) ∧ (0 : Int) ≤ (0 : Int) ∧ (0 : Int) < (↑(List.length d.2.2.2.2.2.1) : Int) ∧ True) ∧ (b_2 = true → (b_2 = true → b_2 = true) ∧
     True) ∧ (b_2 = true → (b_2 = true → b_2 = true) ∧ True) ∧ (b_2 = true → b_2 = true) ∧ ∀ (b : Bool), (b = bif b_2 then (List.getD d.2.2.2.2.2.1 (Int.toNat (0 : Int)) default).2.2.2.1 else false) → (b =
     true → (b = true → b = true) ∧ True) ∧ (b = true → b = true) ∧ (bif b then decide (x_6 = (8 : Int)) else false) = true := by
  intro _ _
  obtain ⟨e1, e2, e3, g⟩ := probe_one (id := 1) (run := 2) (t := 10) (at0 := 0) (dst := 167772161) (pr := 17) (fl := 3) (ttl := 4) (by omega) (by decide) (by decide) (by simp [u32])
  have hq : ((home, 167772161, 17, 3, 2 * 1000, 4) : Probe).1 = home := rfl
  generalize ((home, 167772161, 17, 3, 2 * 1000, 4) : Probe) = q at e2 e3 g hq
  obtain ⟨n1, n2⟩ := new_eq (id := 1) (run := 2) (t := 10) (by omega) (by omega) (by omega)
  rintro v ev ⟨hv, hev⟩
  have hv : v = (1, 2, 0, home, 10, [], []) := hv.trans n2
  have hev : ev = 0 := hev.trans n1
  subst hv hev
  refine ⟨by unfold vSmall; decide, by show (0 : Int) ≤ 0; omega, ?_⟩
  rintro d b e ⟨hd, hb, he⟩
  have hd : d = one1 1 2 10 q 0 (false, false, 0, ans0) := hd.trans e2
  have hb : b = build q := hb.trans e3
  have he : e = 0 := he.trans e1
  subst hd hb he
  have hbl := build_len q
  refine ⟨by omega, ?_⟩
  rintro x f ⟨rfl, -⟩
  have hn := is_notice g (by rw [hq]; exact home_ok) (from' := 167772162) (kind := 11) (code := 0) (id := 1) (ttl := 60) (by simp [u32]) ⟨.inl rfl, by omega, by omega, by omega⟩
  have hl := hn.2.1.len
  have hs : vSmall (one1 1 2 10 q 0 (false, false, 0, ans0)) := by unfold vSmall one1 vW vR; simp
  refine ⟨hs, by omega, ?_⟩
  rintro d e ⟨hd, he⟩
  obtain ⟨l1, l2⟩ := one_live (id := 1) (run := 2) (t := 10) (at0 := 0) (s := 9) (st := (false, false, 0, ans0)) (by omega) (by omega) (by omega) hq ⟨hn.2.1.rd, hn.2.1.re⟩
  obtain ⟨l3, l4⟩ := one_late (id := 1) (run := 2) (t := 10) (at0 := 0) (s := 10) (st := (false, false, 0, ans0)) (by omega) (by omega) (by omega) hq ⟨hn.2.1.rd, hn.2.1.re⟩
  rw [l2] at hd
  rw [l1] at he
  refine ⟨hs, by omega, ?_⟩
  rintro d2 e2 ⟨-, he2⟩
  rw [l3] at he2
  subst hd he he2
  (repeat (intro (b_ : Bool) (hb_ : b_ = _); (repeat refine ⟨(by first | (simp +contextual; done) | (rw [hb_]; simp +contextual; done) | (rw [hb_]; simp; omega) | (rw [hb_]; simp; intros; omega) | (rw [hb_]; simp +contextual; intros; omega) | (intros; simp_all; done) | (intros; simp_all; omega)), ?_⟩))); subst_vars
  rfl
theorem ok_law18_awake : SpecOK Tryz.prog GL 7 ct_law18_awake.spec := Ct.ok' _ Tryz.func7 (by kernel_rfl) (withSpec_ok (withSpec_ok (withSpec_ok (withSpec_ok noSpecs_ok (Ct.named ok_vantage_New)) (Ct.named ok_vantage_Probe)) (Ct.named ok_ref08_Error)) (Ct.named ok_vantage_Receive)) hmix an_law18_awake (Eq.mpr (by kernel_rfl) vc_law18_awake)
def lpTags : LPs := [(false, .int .u16), (false, .int .u16), (false, .int .u16), (false, .int .u16)]
def lpExact18 : LPs := [(false, .sl cU8), (false, .sl cU8), (false, cI), (false, cI), (false, cU32), (false, cI)]
def lpCodes18 : LPs := [(false, .sl cU8)]
def lpAns18 : LPs := [(false, .sl cU8), (false, cU8), (false, cU8)]

theorem prB_facts (v : Vant) (at' dst pr fl ttl : Int) : (prB v at' dst pr fl ttl).length ≤ 40 ∧ bytes (prB v at' dst pr fl ttl) := by
  unfold prB; split
  · exact ⟨build_len _, build_bytes _⟩
  · exact ⟨by simp, fun x hx => (by cases hx)⟩
/-- A vantage point whose probes so far are 's', sent at the times 'ts'. -/
structure NV (v : Vant) (s : List Probe) (ts : List Int) (a : Int) : Prop where
  vs : VS v s.length
  id : v.1 = 3
  inv : ∃ L m, VInv v L m a ∧ L.length = s.length ∧ ts.length = s.length ∧ ∀ i, i < L.length → (L.getD i default).1 = s.getD i default ∧ pAt (L.getD i default) = ts.getD i default
  good : ∀ p ∈ s, Good p ∧ p.1 = home
/-- Answers to probes of an earlier run. -/
def oldOK (r : Int) (old : List (List Int)) : Prop := ∀ b ∈ old, ∃ q, Good q ∧ q.1 = home ∧ answered q b ∧ q.2.2.2.2.1 < (r + 1) * 1000
structure UI (u : Vant) (r n : Int) : Prop where
  vs : VS u n
  run : u.2.1 = r + 1
  t : vT u = 1000
  res : vR u = []
  w : ∀ x ∈ vW u, (r + 1) * 1000 ≤ x.1.2.2.2.2.1 ∧ pAt x = 1
theorem getD_lt {α : Type} [Inhabited α] {l : List α} {i : Nat} (h : i < l.length) : l.getD i default = l[i] := by
  rw [List.getD_eq_getElem?_getD, List.getElem?_eq_getElem h]; rfl
theorem getD_app {α : Type} [Inhabited α] {l : List α} {x : α} {i : Nat} (h : i < l.length) : (l ++ [x]).getD i default = l.getD i default := by
  rw [List.getD_eq_getElem?_getD, List.getElem?_append_left h, List.getD_eq_getElem?_getD]
theorem getD_end {α : Type} [Inhabited α] {l : List α} {x : α} : (l ++ [x]).getD l.length default = x := by
  rw [List.getD_eq_getElem?_getD, List.getElem?_append_right (Nat.le_refl _), Nat.sub_self]; rfl
theorem pr_parts {v : Vant} {a dst pr fl ttl : Int} (h : prE v a dst pr fl ttl = 0) :
    v.2.2.1 < 1000 ∧ usable dst ∧ probeErr (prP v dst pr fl ttl (tagV v.2.1 v.2.2.1)) = 0 := by
  unfold prE at h
  split at h
  · rename_i q; exact absurd h q
  · split at h
    · cases h
    · split at h
      · cases h
      · rename_i h1 h2 h3
        exact ⟨by omega, Classical.byContradiction fun k => h2 k, h⟩
theorem NV.probe {v : Vant} {s : List Probe} {ts : List Int} {a dst pr fl ttl : Int} (h : NV v s ts a) (he : prE v a dst pr fl ttl = 0) (hd : u32 dst) :
    NV (prV v a dst pr fl ttl) (s ++ [prP v dst pr fl ttl (tagV v.2.1 v.2.2.1)]) (ts ++ [a]) a ∧ Good (prP v dst pr fl ttl (tagV v.2.1 v.2.2.1)) ∧ v.2.2.1 = s.length := by
  obtain ⟨L, m, hi, hl, ht, hx⟩ := h.inv
  obtain ⟨m', hi', -⟩ := hi.expire (Int.le_refl a) hi.now.2
  have hg : Good (prP v dst pr fl ttl (tagV v.2.1 v.2.2.1)) := ⟨(pr_parts he).2.2, by show u32 (vAddr v); rw [h.vs.addr]; unfold u32 home; omega, hd⟩
  have hn : v.2.2.1 = s.length := by rw [hi.next, hl]
  refine ⟨⟨?_, ?_, ?_, ?_⟩, hg, hn⟩
  · have := h.vs.probe a dst pr fl ttl
    exact this.mono (by simp only [List.length_append, List.length_singleton]; omega)
  · rw [prV, if_pos he]; exact h.id
  · rw [prV, if_pos he]
    refine ⟨L ++ [(prP v dst pr fl ttl (tagV v.2.1 v.2.2.1), v.2.2.1, a, false, false, 0, ans0)], m', hi'.add, by simp [hl], by simp [ht], ?_⟩
    intro i hi2
    rw [List.length_append, List.length_singleton] at hi2
    by_cases hlt : i < L.length
    · rw [getD_app hlt, getD_app (by omega), getD_app (by omega)]; exact hx i hlt
    · have e1 : i = L.length := by omega
      have e2 : i = s.length := by omega
      have e3 : i = ts.length := by omega
      refine ⟨?_, ?_⟩
      · rw [e1, getD_end, hl, getD_end]
      · rw [e1, getD_end, show L.length = ts.length by omega, getD_end]; rfl
  · intro p hp
    rcases List.mem_append.1 hp with hp | hp
    · exact h.good p hp
    · rw [List.mem_singleton.1 hp]; exact ⟨hg, h.vs.addr⟩
theorem NV.later {v : Vant} {s : List Probe} {ts : List Int} {a b : Int} (h : NV v s ts a) (h2 : a ≤ b) (h3 : b ≤ 1000000000) : NV v s ts b := by
  obtain ⟨L, m, hi, hl, ht, hx⟩ := h.inv
  exact ⟨h.vs, h.id, ⟨L, m, hi.later h2 h3, hl, ht, hx⟩, h.good⟩
theorem rcV_head (v : Vant) (a : Int) (b : List Int) : (rcV v a b).1 = v.1 ∧ (rcV v a b).2.1 = v.2.1 ∧ vT (rcV v a b) = vT v := by
  unfold rcV; split <;> exact ⟨rfl, rfl, rfl⟩
theorem NV.recv {v : Vant} {s : List Probe} {ts : List Int} {a c : Int} (h : NV v s ts a) (h2 : a ≤ c) (h3 : c ≤ 1000000000) (b : List Int) : NV (rcV v c b) s ts c := by
  obtain ⟨L, m, hi, hl, ht, hx⟩ := h.inv
  obtain ⟨L', m', hi', hs1, hs2⟩ := hi.recv (b := b) h2 h3
  refine ⟨h.vs.recv c b, (rcV_head v c b).1.trans h.id, ⟨L', m', hi', by omega, ht, fun i hi2 => ?_⟩, h.good⟩
  have k := hs2 i (by omega) hi2
  have e := hx i (by omega)
  rw [getD_lt (by omega : i < L.length)] at e
  rw [getD_lt hi2, k.1, k.2]
  exact e
theorem prV_head (v : Vant) (a dst pr fl ttl : Int) : (prV v a dst pr fl ttl).2.1 = v.2.1 ∧ vT (prV v a dst pr fl ttl) = vT v := by
  unfold prV; split <;> exact ⟨rfl, rfl⟩
theorem prV_same {v : Vant} {a dst pr fl ttl : Int} (h : prE v a dst pr fl ttl ≠ 0) : prV v a dst pr fl ttl = v := by rw [prV, if_neg h]
theorem UI.quiet {u : Vant} {r n at' : Int} (h : UI u r n) (h1 : at' ≤ 2) : expireV u at' = u := by
  have hf : ∀ x ∈ vW u, overAt (vT u) at' x = false := fun x hx => by
    have := (h.w x hx).2
    rw [over_iff (by rw [h.t]; omega) (by omega), h.t]
    exact decide_eq_false (by omega)
  have e1 : ((vW u).filter fun x => !overAt (vT u) at' x) = vW u := List.filter_eq_self.2 fun x hx => by rw [hf x hx]; rfl
  have e2 : (vW u).filter (overAt (vT u) at') = [] := List.filter_eq_nil_iff.2 fun x hx => by rw [hf x hx]; simp
  show setWR u ((vW u).filter fun x => !overAt (vT u) at' x) (vR u ++ ((vW u).filter (overAt (vT u) at')).map (resOf u)) = u
  rw [e1, e2, List.map_nil, List.append_nil]
  rfl
theorem UI.probe {u : Vant} {r n dst pr fl ttl : Int} (h : UI u r n) (hr : 0 ≤ r) : UI (prV u 1 dst pr fl ttl) r (n + 1) := by
  have hv := h.vs.probe 1 dst pr fl ttl
  by_cases he : prE u 1 dst pr fl ttl = 0
  · obtain ⟨hn, -, -⟩ := pr_parts he
    have hnx := h.vs.ok.next
    have hru := h.vs.ok.run
    have hrun := h.run
    have et : tagV u.2.1 u.2.2.1 = u.2.1 * 1000 + u.2.2.1 := tag_eq (by omega) (by omega)
    have e : prV u 1 dst pr fl ttl = addP u (prP u dst pr fl ttl (tagV u.2.1 u.2.2.1), u.2.2.1, 1, false, false, 0, ans0) := by
      rw [prV, if_pos he, h.quiet (by omega)]
    rw [e] at hv ⊢
    refine ⟨hv, h.run, h.t, h.res, fun x hx => ?_⟩
    rcases List.mem_append.1 hx with hx | hx
    · exact h.w x hx
    · rw [List.mem_singleton.1 hx]
      refine ⟨?_, rfl⟩
      show (r + 1) * 1000 ≤ tagV u.2.1 u.2.2.1
      rw [et, hrun]; omega
  · rw [prV_same he] at hv ⊢
    exact ⟨hv, h.run, h.t, h.res, h.w⟩
theorem UI.old {u : Vant} {r n : Int} {q : Probe} {b : List Int} (h : UI u r n) (g : Good q) (hq : q.1 = home) (hb : answered q b) (ht : q.2.2.2.2.1 < (r + 1) * 1000) : rcE u 2 b = 8 ∧ rcV u 2 b = u := by
  obtain ⟨a, -, hA⟩ := hb.2 (by rw [hq]; exact home_ok)
  have hnone : rcI u (noT q 0) = (vW u).length := List.findIdx_eq_length_of_false fun x hx => by
    refine decide_eq_false fun k => ?_
    have k5 : x.1.2.2.2.2.1 = q.2.2.2.2.1 := by
      have := congrArg (fun z : Probe => z.2.2.2.2.1) k
      exact this
    have := (h.w x hx).1
    omega
  have e : rcE u 2 b = 8 := by
    rw [rcE, if_neg, h.quiet (by omega), hA.rd, hnone, if_neg (Nat.lt_irrefl _)]
    rw [hA.rd, hA.re, h.vs.addr]; rintro (k | k)
    · exact k rfl
    · exact k hq
  exact ⟨e, by rw [rcV, if_neg (by rw [e]; decide), h.quiet (by omega)]⟩
theorem readE_nil : readE [] = 17 := by
  rw [readE, if_neg]
  intro k; have := read_len k; simp at this
def ct_law18_VantageCrashes : Ct := lawCt lpCodes18
def an_law18_VantageCrashes : PDs ct_law18_VantageCrashes.ps → Anns := (fun d => { loops := (fun n => match n with | 7 => some (fun S => { ι := Int × Vant × (List (List Int)) × (List Int × Int), qn := ⟨fun k_ => ∀ (k : Int) (v : Vant) (old : (List (List Int))) (cs : (List Int × Int)), k_ (k, v, old, cs), fun k_ h_ i => h_ i.1 i.2.1 i.2.2.1 i.2.2.2, fun k_ => ∃ (k : Int) (v : Vant) (old : (List (List Int))) (cs : (List Int × Int)), k_ (k, v, old, cs), fun k_ ⟨k, v, old, cs, h_⟩ => ⟨_, h_⟩⟩, μ := fun i => i.1.toNat, inv := fun i => okC i.2.2.2 ∧ 0 ≤ i.1 ∧ i.1 ≤ 8 ∧ VS i.2.1 (8 - i.1) ∧ i.2.1.2.1 = (S.c cVant 80).2.1 ∧ vT i.2.1 = 1000 ∧ i.2.2.1.length + i.1 ≤ 8 ∧ oldOK (S.c cVant 80).2.1 i.2.2.1, keep := [3, 4], slots := fun i => [(7, .int .i64 i.1), (6, .own 524288 1)], names := fun i => [(400, .live (.cells 69 (flat cCodes i.2.2.2))), (80, .live (.cells 31 (flat cVant i.2.1))), (524288, .live (.row 22 (.sl cU8) i.2.2.1))] }) | 19 => some (fun S => { ι := Int × Vant × (List Int × Int), qn := ⟨fun k_ => ∀ (k : Int) (u : Vant) (cs : (List Int × Int)), k_ (k, u, cs), fun k_ h_ i => h_ i.1 i.2.1 i.2.2, fun k_ => ∃ (k : Int) (u : Vant) (cs : (List Int × Int)), k_ (k, u, cs), fun k_ ⟨k, u, cs, h_⟩ => ⟨_, h_⟩⟩, μ := fun i => i.1.toNat, inv := fun i => okC i.2.2 ∧ 0 ≤ i.1 ∧ i.1 ≤ 8 ∧ UI i.2.1 (S.c cVant 80).2.1 (8 - i.1), keep := [3, 6, 14], slots := fun i => [(16, .int .i64 i.1)], keepN := [524288], names := fun i => [(400, .live (.cells 69 (flat cCodes i.2.2))), (240, .live (.cells 31 (flat cVant i.2.1)))] }) | 24 => some (fun S => { ι := Int, μ := fun i => ((S.r (.sl cU8) 524288).length - i).toNat, inv := fun i => 0 ≤ i ∧ i ≤ (S.r (.sl cU8) 524288).length, keep := [6, 14], slots := fun i => [(18, .int .i64 i)], keepN := [524288, 240], names := fun i => [] }) | _ => none) })
theorem vc_law18_VantageCrashes :
    ∀ (x : List Int), (List.length x ≤ maxLen ∧ ∀ (x_1 : Int), x_1 ∈ x → (0 : Int) ≤ x_1 ∧ x_1 ≤ (255 : Int)) ∧ True → True → (0 : Int) ≤ (300 : Int) ∧ okC (if (↑(List.length x) : Int) ≤ (300 : Int) then
     x else List.take (Int.toNat (300 : Int)) x, (0 : Int)) ∧ ∀ (x : Int) (x_1 : List Int) (x_2 : Int), (0 : Int) ≤ x ∧ (x < (63 : Int) ∨ x = (0 : Int)) ∧ okC (x_1, x_2) → okC (x_1, x_2) ∧ ∀ (x_3 : Int)
     (x_4 : List Int) (x_5 : Int), (0 : Int) ≤ x_3 ∧ (x_3 < (8 : Int) ∨ x_3 = (0 : Int)) ∧ okC (x_4, x_5) → (∃ (k : Int), ∃ (v : Vant), ∃ (old : List (List Int)), ∃ (cs : List Int × Int), (okC cs ∧ (0 :
     Int) ≤ k ∧ k ≤ (8 : Int) ∧ VS v ((8 : Int) - k) ∧ v.2.1 = (newV (0 : Int) x (167772167 : Int) (1000 : Int)).2.1 ∧ vT v = (1000 : Int) ∧ (↑(List.length old) : Int) + k ≤ (8 : Int) ∧ oldOK (newV (0 :
     Int) x (167772167 : Int) (1000 : Int)).2.1 old) ∧ IntKind.wrap IntKind.i64 ((1 : Int) + x_3) = k ∧ x_4 = cs.1 ∧ x_5 = cs.2 ∧ (newV (0 : Int) x (167772167 : Int) (1000 : Int)).1 = v.1 ∧ (newV (0 : Int)
     x (167772167 : Int) (1000 : Int)).2.1 = v.2.1 ∧ (newV (0 : Int) x (167772167 : Int) (1000 : Int)).2.2.1 = v.2.2.1 ∧ (newV (0 : Int) x (167772167 : Int) (1000 : Int)).2.2.2.1 = v.2.2.2.1 ∧ (newV (0 :
     Int) x (167772167 : Int) (1000 : Int)).2.2.2.2.1 = v.2.2.2.2.1 ∧ (newV (0 : Int) x (167772167 : Int) (1000 : Int)).2.2.2.2.2.1 = v.2.2.2.2.2.1 ∧ (newV (0 : Int) x (167772167 : Int) (1000 :
     Int)).2.2.2.2.2.2 = v.2.2.2.2.2.2 ∧ old = ([] : List (List Int)) ∧ True) ∧ ∀ (k : Int) (v : Vant) (old : List (List Int)) (cs : List Int × Int), okC cs ∧ (0 : Int) ≤ k ∧ k ≤ (8 : Int) ∧ VS v ((8 :
     Int) - k) ∧ v.2.1 = (newV (0 : Int) x (167772167 : Int) (1000 : Int)).2.1 ∧ vT v = (1000 : Int) ∧ (↑(List.length old) : Int) + k ≤ (8 : Int) ∧ oldOK (newV (0 : Int) x (167772167 : Int) (1000 :
     Int)).2.1 old → ifP (decide ((0 : Int) < k)) (okC cs ∧ ∀ (x_6 x_7 x_8 x_9 x_10 x_11 : Int) (x_12 : List Int) (x_13 : Int), okC (x_12, x_13) ∧ u32 x_6 ∧ u32 x_7 ∧ probeErr (x_6, x_7, x_8, x_9, x_10,
     x_11) = (0 : Int) → vSmall v ∧ (0 : Int) ≤ v.2.2.1 ∧ ∀ (d : Int × Int × Int × Int × Int × List ((Int × Int × Int × Int × Int × Int) × Int × Int × Bool × Bool × Int × Int × Int × Int × Int × Int × Int)
     × List (Int × Int × Int × Int × Int × Int × Int × Int × Bool × Bool × Int × Int × Int × Int × Int × Int × Int)) (x_14 : List Int) (x_15 : Int), d = prV v (0 : Int) x_7 x_8 x_9 x_11 ∧ x_14 = prB v (0 :
     Int) x_7 x_8 x_9 x_11 ∧ x_15 = prE v (0 : Int) x_7 x_8 x_9 x_11 → (↑(List.length x_14) : Int) ≤ (1099511627776 : Int) ∧ ∀ (x_16 x_17 x_18 x_19 x_20 x_21 x_22 : Int), (x_16, x_17, x_18, x_19, x_20,
     x_21) = readP x_14 ∧ x_22 = readE x_14 → ∀ (b : Bool), b = decide (x_15 = (0 : Int)) → (b = true → (b = true → b = true) ∧ True) ∧ (b = true → b = true) ∧ ifP (bif b then decide (x_22 = (0 : Int))
     else false) (okC (x_12, x_13) ∧ Good (x_16, x_17, x_18, x_19, x_20, x_21) ∧ ∀ (x_23 x_24 : List Int) (x_25 : Int), okC (x_24, x_25) ∧ answered (x_16, x_17, x_18, x_19, x_20, x_21) x_23 → (List.length
     old + List.length [x_23]) * (24 : Nat) ≤ (140737488355328 : Nat) ∧ ∃ (k_1 : Int), ∃ (v : Vant), ∃ (old_1 : List (List Int)), ∃ (cs : List Int × Int), (okC cs ∧ (0 : Int) ≤ k_1 ∧ k_1 ≤ (8 : Int) ∧ VS v
     ((8 : Int) - k_1) ∧ v.2.1 = (newV (0 : Int) x (167772167 : Int) (1000 : Int)).2.1 ∧ vT v = (1000 : Int) ∧ (↑(List.length old_1) : Int) + k_1 ≤ (8 : Int) ∧ oldOK (newV (0 : Int) x (167772167 : Int)
     (1000 : Int)).2.1 old_1) ∧ Int.toNat k_1 < Int.toNat k ∧ IntKind.wrap IntKind.i64 (k - (1 : Int)) = k_1 ∧ x_24 = cs.1 ∧ x_25 = cs.2 ∧ d.1 = v.1 ∧ d.2.1 = v.2.1 ∧ d.2.2.1 = v.2.2.1 ∧ d.2.2.2.1 =
     v.2.2.2.1 ∧ d.2.2.2.2.1 = v.2.2.2.2.1 ∧ d.2.2.2.2.2.1 = v.2.2.2.2.2.1 ∧ d.2.2.2.2.2.2 = v.2.2.2.2.2.2 ∧ old ++ [x_23] = old_1 ∧ True) (∃ (k_1 : Int), ∃ (v : Vant), ∃ (old_1 : List (List Int)), ∃ (cs :
     List Int × Int), (okC cs ∧ (0 : Int) ≤ k_1 ∧ k_1 ≤ (8 : Int) ∧ VS v ((8 : Int) - k_1) ∧ v.2.1 = (newV (0 : Int) x (167772167 : Int) (1000 : Int)).2.1 ∧ vT v = (1000 : Int) ∧ (↑(List.length old_1) :
     Int) + k_1 ≤ (8 : Int) ∧ oldOK (newV (0 : Int) x (167772167 : Int) (1000 : Int)).2.1 old_1) ∧ Int.toNat k_1 < Int.toNat k ∧ IntKind.wrap IntKind.i64 (k - (1 : Int)) = k_1 ∧ x_12 = cs.1 ∧ x_13 = cs.2 ∧
     d.1 = v.1 ∧ d.2.1 = v.2.1 ∧ d.2.2.1 = v.2.2.1 ∧ d.2.2.2.1 = v.2.2.2.1 ∧ d.2.2.2.2.1 = v.2.2.2.2.1 ∧ d.2.2.2.2.2.1 = v.2.2.2.2.2.1 ∧ d.2.2.2.2.2.2 = v.2.2.2.2.2.2 ∧ old = old_1 ∧ True)) (∀ (d : Int ×
     Int × Int × Int × Int × List ((Int × Int × Int × Int × Int × Int) × Int × Int × Bool × Bool × Int × Int × Int × Int × Int × Int × Int) × List (Int × Int × Int × Int × Int × Int × Int × Int × Bool ×
     Bool × Int × Int × Int × Int × Int × Int × Int)) (x : Int), d = crV v ∧ x = crE v → ∀ (b : Bool), b = !decide (x = (0 : Int)) → ((!b) = true → ((!b) = true → (!b) = true) ∧ True) ∧ ((!b) = true →
     ((!b) = true → (!b) = true) ∧ True) ∧ ((!b) = true → ((!b) = true → (!b) = true) ∧ True) ∧ ((!b) = true → ((!b) = true → (!b) = true) ∧ ((!b) = true → (!b) = true) ∧ True) ∧ (b = false → (!b) = true)
     ∧ ∀ (b_1 : Bool), (b_1 = bif b then true else !decide (d.2.1 = IntKind.wrap IntKind.i64 (v.2.1 + (1 : Int)))) → ((!b_1) = true → ((!b_1) = true → (!b_1) = true) ∧ True) ∧ ((!b_1) = true → ((!b_1) =
     true → (!b_1) = true) ∧ True) ∧ (b_1 = false → (!b_1) = true) ∧ ∀ (b : Bool), (b = bif b_1 then true else !decide (d.2.2.1 = (0 : Int))) → ((!b) = true → ((!b) = true → (!b) = true) ∧ True) ∧ ((!b) =
     true → ((!b) = true → (!b) = true) ∧ True) ∧ ((!b) = true → ((!b) = true → (!b) = true) ∧ True) ∧ (b = false → (!b) = true) ∧ ifP (bif b then true else !decide ((↑(List.length d.2.2.2.2.2.1) : Int) =
     (0 : Int))) (false = true) (okC cs ∧ ∀ (x : Int) (x_6 : List Int) (x_7 : Int), (0 : Int) ≤ x ∧ (x < (8 : Int) ∨ x = (0 : Int)) ∧ okC (x_6, x_7) → (∃ (k : Int), ∃ (u : Vant), ∃ (cs : List Int × Int),
     (okC cs ∧ (0 : Int) ≤ k ∧ k ≤ (8 : Int) ∧ UI u v.2.1 ((8 : Int) - k)) ∧ x = k ∧ old = old ∧ x_6 = cs.1 ∧ x_7 = cs.2 ∧ d.1 = u.1 ∧ d.2.1 = u.2.1 ∧ d.2.2.1 = u.2.2.1 ∧ d.2.2.2.1 = u.2.2.2.1 ∧
     d.2.2.2.2.1 = u.2.2.2.2.1 ∧ d.2.2.2.2.2.1 = u.2.2.2.2.2.1 ∧ d.2.2.2.2.2.2 = u.2.2.2.2.2.2 ∧ True) ∧ ∀ (k : Int) (u : Vant) (cs : List Int × Int), okC cs ∧ (0 : Int) ≤ k ∧ k ≤ (8 : Int) ∧ UI u v.2.1
     ((8 : Int) - k) → ifP (decide ((0 : Int) < k)) (okC cs ∧ ∀ (x x_8 x_9 x_10 x_11 x_12 : Int) (x_13 : List Int) (x_14 : Int), okC (x_13, x_14) ∧ u32 x ∧ u32 x_8 ∧ probeErr (x, x_8, x_9, x_10, x_11,
     x_12) = (0 : Int) → vSmall u ∧ (0 : Int) ≤ u.2.2.1 ∧ ∀ (d : Int × Int × Int × Int × Int × List ((Int × Int × Int × Int × Int × Int) × Int × Int × Bool × Bool × Int × Int × Int × Int × Int × Int × Int)
     × List (Int × Int × Int × Int × Int × Int × Int × Int × Bool × Bool × Int × Int × Int × Int × Int × Int × Int)) (x : List Int) (x_15 : Int), d = prV u (1 : Int) x_8 x_9 x_10 x_12 ∧ x = prB u (1 : Int)
     x_8 x_9 x_10 x_12 ∧ x_15 = prE u (1 : Int) x_8 x_9 x_10 x_12 → ∃ (k_1 : Int), ∃ (u : Vant), ∃ (cs : List Int × Int), (okC cs ∧ (0 : Int) ≤ k_1 ∧ k_1 ≤ (8 : Int) ∧ UI u v.2.1 ((8 : Int) - k_1)) ∧
     Int.toNat k_1 < Int.toNat k ∧ IntKind.wrap IntKind.i64 (k - (1 : Int)) = k_1 ∧ old = old ∧ x_13 = cs.1 ∧ x_14 = cs.2 ∧ d.1 = u.1 ∧ d.2.1 = u.2.1 ∧ d.2.2.1 = u.2.2.1 ∧ d.2.2.2.1 = u.2.2.2.1 ∧
     d.2.2.2.2.1 = u.2.2.2.2.1 ∧ d.2.2.2.2.2.1 = u.2.2.2.2.2.1 ∧ d.2.2.2.2.2.2 = u.2.2.2.2.2.2 ∧ True) ((∃ (x : Int), ((0 : Int) ≤ x ∧ x ≤ (↑(List.length old) : Int)) ∧ (0 : Int) = x ∧ old = old ∧ u.1 =
     u.1 ∧ u.2.1 = u.2.1 ∧ u.2.2.1 = u.2.2.1 ∧ u.2.2.2.1 = u.2.2.2.1 ∧ u.2.2.2.2.1 = u.2.2.2.2.1 ∧ u.2.2.2.2.2.1 = u.2.2.2.2.2.1 ∧ u.2.2.2.2.2.2 = u.2.2.2.2.2.2 ∧ True) ∧ ∀ (x : Int), (0 : Int) ≤ x ∧ x ≤
     (↑(List.length old) : Int) → ifP (decide (x < (↑(List.length old) : Int))) ((0 : Int) ≤ x ∧ x < (↑(List.length old) : Int) ∧ vSmall u ∧ (↑(List.length (List.getD old (Int.toNat x) default)) : Int) ≤
     (1000000 : Int) ∧ ∀ (d : Int × Int × Int × Int × Int × List ((Int × Int × Int × Int × Int × Int) × Int × Int × Bool × Bool × Int × Int × Int × Int × Int × Int × Int) × List (Int × Int × Int × Int ×
     Int × Int × Int × Int × Bool × Bool × Int × Int × Int × Int × Int × Int × Int)) (x_8 : Int), d = rcV u (2 : Int) (List.getD old (Int.toNat x) default) ∧ x_8 = rcE u (2 : Int) (List.getD old (Int.toNat
     x) default) → ∀ (b : Bool), b = !decide (x_8 = (8 : Int)) → ((!b) = true → ((!b) = true → (!b) = true) ∧ ((!b) = true → (!b) = true) ∧ True) ∧ ((!b) = true → ((!b) = true → (!b) = true) ∧ True) ∧ (b =
     false → (!b) = true) ∧ ifP (bif b then true else !sameV d u) (false = true) (∃ (x_9 : Int), ((0 : Int) ≤ x_9 ∧ x_9 ≤ (↑(List.length old) : Int)) ∧ Int.toNat ((↑(List.length old) : Int) - x_9) <
     Int.toNat ((↑(List.length old) : Int) - x) ∧ IntKind.wrap IntKind.i64 (x + (1 : Int)) = x_9 ∧ old = old ∧ u.1 = u.1 ∧ u.2.1 = u.2.1 ∧ u.2.2.1 = u.2.2.1 ∧ u.2.2.2.1 = u.2.2.2.1 ∧ u.2.2.2.2.1 =
     u.2.2.2.2.1 ∧ u.2.2.2.2.2.1 = u.2.2.2.2.2.1 ∧ u.2.2.2.2.2.2 = u.2.2.2.2.2.2 ∧ True)) (true = true)))) := by
  rintro cl - -
  refine ⟨by omega, okC_new _ (by omega) cl, ?_⟩
  rintro r l p ⟨r0, r1, hc⟩
  obtain ⟨n1, n2⟩ := new_eq (id := 0) (run := r) (t := 1000) (by omega) (by omega) (by omega)
  rw [show newV 0 r 167772167 1000 = (0, r, 0, home, 1000, [], []) from n2]
  refine ⟨hc, ?_⟩
  rintro k0 l p ⟨k00, k01, hc⟩
  rw [w64 (n := 1 + k0) (by omega) (by omega)]
  refine ⟨⟨1 + k0, _, [], (_, _), ⟨hc, by omega, by omega, (VS.new (id := 0) (run := r) (t := 1000) (by omega)).mono (by omega), rfl, rfl, by simp; omega, fun b hb => (by cases hb)⟩, (by repeat' first | exact trivial | refine ⟨trivial, ?_⟩ | refine ⟨(by with_reducible rfl), ?_⟩ | refine ⟨w64 (by omega) (by omega), ?_⟩ | refine ⟨rfl, ?_⟩)⟩, ?_⟩
  clear n1 n2 hc
  rintro k v old cs ⟨hc, k0, k1, hv, hr, ht, hol, hold⟩
  have hsm := hv.small (by omega)
  have hnx := hv.ok.next
  have hr : v.2.1 = r := hr
  have hold : oldOK r old := hold
  refine ifP_split (fun hk => ?_) (fun hk => ?_)
  · have hk := of_decide_eq_true hk
    refine ⟨hc, ?_⟩
    rintro w1 dst pr fl tg ttl l p ⟨hc, hs1, hs2, he⟩
    refine ⟨hsm, hnx.1, ?_⟩
    rintro d b e ⟨rfl, rfl, rfl⟩
    have hpb := prB_facts v 0 dst pr fl ttl
    refine ⟨by omega, ?_⟩
    rintro q1 q2 q3 q4 q5 q6 er ⟨hq, rfl⟩
    have hv2 := hv.probe 0 dst pr fl ttl
    obtain ⟨e1, e2⟩ := prV_head v 0 dst pr fl ttl
    (repeat (intro (b_ : Bool) (hb_ : b_ = _); (repeat refine ⟨(by first | (simp; done) | (rw [hb_]; simp; done) | (rw [hb_]; simp; omega) | (rw [hb_]; simp; intros; omega) | (rw [hb_]; simp +contextual; done)), ?_⟩); subst hb_))
    refine ifP_and (fun h1 h2 => ?_) (fun _ => ?_)
    · have h1 := of_decide_eq_true h1
      have h2 := of_decide_eq_true h2
      obtain ⟨hn, hu, hpe⟩ := pr_parts h1
      have hb : prB v 0 dst pr fl ttl = build (prP v dst pr fl ttl (tagV v.2.1 v.2.2.1)) := by rw [prB, if_pos h1]
      have hg : Good (prP v dst pr fl ttl (tagV v.2.1 v.2.2.1)) := ⟨hpe, by show u32 (vAddr v); rw [hv.addr]; unfold u32 home; omega, hs2⟩
      have hrb := read_build hg.ok hg.s hg.d
      rw [hb, hrb.1] at hq
      rw [hq]
      refine ⟨hc, hg, ?_⟩
      rintro x l p ⟨hc, hx⟩
      refine ⟨by simp only [List.length_singleton]; omega, k - 1, _, old ++ [x], (_, _), ⟨hc, by omega, by omega, hv2.mono (by omega), e1.trans hr, e2.trans ht, by simp only [List.length_append, List.length_singleton]; omega, ?_⟩, by omega, (by repeat' first | exact trivial | refine ⟨trivial, ?_⟩ | refine ⟨(by with_reducible rfl), ?_⟩ | refine ⟨w64 (by omega) (by omega), ?_⟩ | refine ⟨rfl, ?_⟩)⟩
      intro b hb
      rcases List.mem_append.1 hb with hb | hb
      · exact hold b hb
      · rw [List.mem_singleton.1 hb]
        refine ⟨_, hg, hv.addr, hx, ?_⟩
        show tagV v.2.1 v.2.2.1 < (r + 1) * 1000
        have hru := hv.ok.run
        rw [tag_eq (by omega) (by omega), hr]; omega
    · exact ⟨k - 1, _, old, (_, _), ⟨hc, by omega, by omega, hv2.mono (by omega), e1.trans hr, e2.trans ht, by omega, hold⟩, by omega, (by repeat' first | exact trivial | refine ⟨trivial, ?_⟩ | refine ⟨(by with_reducible rfl), ?_⟩ | refine ⟨w64 (by omega) (by omega), ?_⟩ | refine ⟨rfl, ?_⟩)⟩
  have hru := hv.ok.run
  have ec : crE v = 0 := by rw [crE, if_neg (by omega)]
  have ev : crV v = (v.1, v.2.1 + 1, 0, v.2.2.2.1, v.2.2.2.2.1, [], []) := by rw [crV, if_pos ec]
  rintro d e ⟨hd, rfl⟩
  rw [ec, w64 (n := v.2.1 + 1) (by omega) (by omega)]
  have hui : ∀ m : Int, 0 ≤ m → UI d v.2.1 m := fun m hm => by
    have := hv.crash (m := m) ec hm
    rw [← hd] at this
    exact ⟨this, by rw [hd, ev], by rw [hd, ev]; exact ht, by rw [hd, ev]; rfl, fun x hx => (by rw [hd, ev] at hx; cases hx)⟩
  have d1 : d.2.1 = v.2.1 + 1 := by rw [hd, ev]
  have d2 : d.2.2.1 = 0 := by rw [hd, ev]
  have d3 : d.2.2.2.2.2.1 = [] := by rw [hd, ev]
  (repeat (intro (b_ : Bool) (hb_ : b_ = _); (repeat refine ⟨(by first | (simp +contextual; done) | (rw [hb_]; simp +contextual; done) | (rw [hb_]; simp; omega) | (rw [hb_]; simp; intros; omega) | (rw [hb_]; simp +contextual; intros; omega) | (intros; simp_all; done) | (intros; simp_all; omega)), ?_⟩))); (repeat (subst hb_))
  refine ifP_or (fun h => (by rw [d1, d2, d3] at h; simp at h)) (fun _ _ => ⟨hc, ?_⟩)
  rintro kk l p ⟨kk0, kk1, hc⟩
  refine ⟨⟨kk, d, (_, _), ⟨hc, kk0, by omega, hui _ (by omega)⟩, (by repeat' first | exact trivial | refine ⟨trivial, ?_⟩ | refine ⟨(by with_reducible rfl), ?_⟩ | refine ⟨w64 (by omega) (by omega), ?_⟩ | refine ⟨rfl, ?_⟩)⟩, ?_⟩
  rintro k u cs ⟨hc, k0, k1, hu⟩
  have hsu := hu.vs.small (by omega)
  refine ifP_split (fun hk => ?_) (fun hk => ?_)
  · have hk := of_decide_eq_true hk
    refine ⟨hc, ?_⟩
    rintro w1 dst pr fl tg ttl l p ⟨hc, hs1, hs2, he⟩
    refine ⟨hsu, hu.vs.ok.next.1, ?_⟩
    rintro x b e ⟨rfl, rfl, rfl⟩
    have hu2 := hu.probe (dst := dst) (pr := pr) (fl := fl) (ttl := ttl) (by omega)
    rw [show 8 - k + 1 = 8 - (k - 1) by omega] at hu2
    exact ⟨k - 1, _, (_, _), ⟨hc, by omega, by omega, hu2⟩, by omega, (by repeat' first | exact trivial | refine ⟨trivial, ?_⟩ | refine ⟨(by with_reducible rfl), ?_⟩ | refine ⟨w64 (by omega) (by omega), ?_⟩ | refine ⟨rfl, ?_⟩)⟩
  refine ⟨⟨0, ⟨by omega, by omega⟩, (by repeat' first | exact trivial | refine ⟨trivial, ?_⟩ | refine ⟨(by with_reducible rfl), ?_⟩ | refine ⟨w64 (by omega) (by omega), ?_⟩ | refine ⟨rfl, ?_⟩)⟩, ?_⟩
  rintro i ⟨i0, i1⟩
  refine ifP_split (fun hi => ?_) (fun _ => rfl)
  have hi := of_decide_eq_true hi
  obtain ⟨q, hg, hq, hx, htg⟩ := hold _ (getD_mem i0 hi)
  have hbl := (answered_no hx).2
  rw [← hr] at htg
  obtain ⟨r1, r2⟩ := hu.old hg hq hx htg
  refine ⟨i0, hi, hsu, by omega, ?_⟩
  rintro x e ⟨rfl, rfl⟩
  rw [r1, r2]
  (repeat (intro (b_ : Bool) (hb_ : b_ = _); (repeat refine ⟨(by first | (simp +contextual; done) | (rw [hb_]; simp +contextual; done) | (rw [hb_]; simp; omega) | (rw [hb_]; simp; intros; omega) | (rw [hb_]; simp +contextual; intros; omega) | (intros; simp_all; done) | (intros; simp_all; omega)), ?_⟩))); (repeat (subst hb_))
  refine ifP_or (fun h => (by rw [sameV_self] at h; simp at h)) (fun _ _ => ⟨i + 1, ⟨by omega, by omega⟩, by omega, (by repeat' first | exact trivial | refine ⟨trivial, ?_⟩ | refine ⟨(by with_reducible rfl), ?_⟩ | refine ⟨w64 (by omega) (by omega), ?_⟩ | refine ⟨rfl, ?_⟩)⟩)
theorem ok_law18_VantageCrashes : SpecOK Tryz.prog GL 6 ct_law18_VantageCrashes.spec := Ct.ok' _ Tryz.func6 (by kernel_rfl) (withSpec_ok (withSpec_ok (withSpec_ok (withSpec_ok (withSpec_ok (withSpec_ok (withSpec_ok (withSpec_ok (withSpec_ok (withSpec_ok (withSpec_ok noSpecs_ok ok_law18_awake) ok_draw_New) ok_Next) ok_vantage_New) ok_draw_Codes_Right) (Ct.named ok_vantage_Probe)) (Ct.named ok_probe_Read)) ok_draw_Codes_Answer) (Ct.named ok_vantage_Crash)) (Ct.named ok_vantage_Receive)) ok_ref18_Same) hmix an_law18_VantageCrashes (Eq.mpr (by kernel_rfl) vc_law18_VantageCrashes)
end Go.RS

