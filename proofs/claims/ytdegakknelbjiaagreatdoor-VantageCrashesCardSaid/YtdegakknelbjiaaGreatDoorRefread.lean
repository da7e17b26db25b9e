/- Refread: the reference's reading of answers is the same. -/
import Derived.Test.YtdegakknelbjiaaGreatDoorLaw08
namespace Go.RS
open Go.SX Go.Proofs
set_option maxRecDepth 100000
set_option linter.unusedVariables false

/-- Eight bytes are four words. -/
theorem eight_words {a b : List Int} (ha : bytes a) (hb : bytes b) (la : a.length = 8) (lb : b.length = 8) : a = b ↔ wordAt a 0 = wordAt b 0 ∧ wordAt a 2 = wordAt b 2 ∧ wordAt a 4 = wordAt b 4 ∧ wordAt a 6 = wordAt b 6 := by
  constructor
  · rintro rfl; exact ⟨rfl, rfl, rfl, rfl⟩
  · match a, la with
    | [a0, a1, a2, a3, a4, a5, a6, a7], _ =>
      match b, lb with
      | [b0, b1, b2, b3, b4, b5, b6, b7], _ =>
        rintro ⟨h0, h2, h4, h6⟩
        have e0 : ∀ x y : Int, ∀ r, wordAt (x :: y :: r) 0 = x * 256 + y := wordAt0
        have q : ∀ x ∈ [a0, a1, a2, a3, a4, a5, a6, a7], 0 ≤ x ∧ x ≤ 255 := ha
        have r : ∀ x ∈ [b0, b1, b2, b3, b4, b5, b6, b7], 0 ≤ x ∧ x ≤ 255 := hb
        have k2 : wordAt [a0, a1, a2, a3, a4, a5, a6, a7] 2 = a2 * 256 + a3 := e0 _ _ _
        have k4 : wordAt [a0, a1, a2, a3, a4, a5, a6, a7] 4 = a4 * 256 + a5 := e0 _ _ _
        have k6 : wordAt [a0, a1, a2, a3, a4, a5, a6, a7] 6 = a6 * 256 + a7 := e0 _ _ _
        have l2 : wordAt [b0, b1, b2, b3, b4, b5, b6, b7] 2 = b2 * 256 + b3 := e0 _ _ _
        have l4 : wordAt [b0, b1, b2, b3, b4, b5, b6, b7] 4 = b4 * 256 + b5 := e0 _ _ _
        have l6 : wordAt [b0, b1, b2, b3, b4, b5, b6, b7] 6 = b6 * 256 + b7 := e0 _ _ _
        rw [e0, e0] at h0
        rw [k2, l2] at h2
        rw [k4, l4] at h4
        rw [k6, l6] at h6
        simp only [List.mem_cons, List.not_mem_nil, or_false, forall_eq_or_imp, forall_eq] at q r
        simp only [List.cons.injEq, and_true]
        omega
theorem num4_words {b : List Int} {i : Nat} (h : i + 4 ≤ b.length) : numB ((b.drop i).take 4) = wordAt b i * 65536 + wordAt b (i + 2) := by
  have e : wordAt b (i + 2) = wordAt (b.drop i) 2 := by unfold wordAt; rw [List.drop_drop]
  have e0 : wordAt b i = wordAt (b.drop i) 0 := by unfold wordAt; rw [List.drop_zero]
  rw [e, e0]
  have hl : 4 ≤ (b.drop i).length := by rw [List.length_drop]; omega
  generalize b.drop i = c at hl
  match c, hl with
  | x0 :: x1 :: x2 :: x3 :: r, _ =>
    have k2 : wordAt (x0 :: x1 :: x2 :: x3 :: r) 2 = x2 * 256 + x3 := wordAt0 _ _ _
    rw [wordAt0, k2]
    show numB [x0, x1, x2, x3] = _
    rw [numB4]; omega
def rqP (b : List Int) : Probe := (srcOf b, dstOf b, protoOf b, if protoOf b = 1 then wordAt b 22 - 16384 else wordAt b 20 - 20000, (pkHdrF b).2.1, 0)
def rqGood (b : List Int) : Prop := quHead b ∧ 1 ≤ (pkHdrF b).2.2.1 ∧ probeErr (noT (rqP b) 1) = 0
instance (b : List Int) : Decidable (rqGood b) := by unfold rqGood; infer_instance
def rqOK (b : List Int) : Bool := decide ((build (noT (rqP b) (pkHdrF b).2.2.1)).length = wordAt b 2) && decide (((build (noT (rqP b) (pkHdrF b).2.2.1)).drop 20).take 8 = (b.drop 20).take 8)
def rqV (b : List Int) : Probe × Int × Bool := if rqGood b then (rqP b, (pkHdrF b).2.2.1, rqOK b) else (probe0, 0, false)
theorem u32_num4 {b : List Int} (hb : bytes b) (i : Nat) : u32 (numB ((b.drop i).take 4)) := bytes_num4 hb i
theorem quote_of_head {b : List Int} (hb : bytes b) (hq : quHead b) (h1 : 1 ≤ (pkHdrF b).2.2.1) (hp : probeErr (noT (rqP b) 1) = 0) : Good (noT (rqP b) (pkHdrF b).2.2.1) := by
  have ht : (pkHdrF b).2.2.1 ≤ 255 := (bytes_get hb (i := 8) (by have := hq.2.1; omega)).2
  obtain ⟨k1, k2, k3, -⟩ := probe_ok.1 hp
  exact ⟨probe_ok.2 ⟨k1, k2, k3, ⟨h1, ht⟩⟩, u32_num4 hb 12, u32_num4 hb 16⟩
/-- Both readings of a quote agree. -/
theorem quote_same {b : List Int} (hb : bytes b) : (quV b).2 = (rqV b).2.2 ∧ ((quV b).2 = true → (quV b).1 = noT (rqV b).1 (rqV b).2.1 ∧ rqV b = (rqP b, (pkHdrF b).2.2.1, rqOK b) ∧ noT (rqP b) 0 = rqP b) := by
  by_cases hq : quHead b
  rotate_left
  · have h1 : ¬ rqGood b := fun k => hq k.1
    rw [quV, if_neg hq, rqV, if_neg h1]
    exact ⟨rfl, fun k => by cases k⟩
  obtain ⟨-, h28, -, -⟩ := id hq
  have ht : 0 ≤ (pkHdrF b).2.2.1 ∧ (pkHdrF b).2.2.1 ≤ 255 := bytes_get hb (i := 8) (by omega)
  by_cases hg : rqGood b
  · obtain ⟨-, g1, g2⟩ := id hg
    have G := quote_of_head hb hq g1 g2
    have hpr : protoOK (protoOf b) := (probe_ok.1 g2).1
    have eP : quP b = noT (rqP b) (pkHdrF b).2.2.1 := by
      unfold quP rqP noT quFlow
      simp only
      rcases hpr with h | h | h <;> simp [h]
    rw [quV, if_pos hq, rqV, if_pos hg]
    have hpe : probeErr (quP b) = 0 := by rw [eP]; exact G.ok
    -- words of the probe's own packet
    have hbl := build_len (noT (rqP b) (pkHdrF b).2.2.1)
    obtain ⟨e1, e2, e3⟩ := G.dec
    have cw := con_words G.ok
    have cm := con_more G
    have len := G.len
    have L8 : ((conP (noT (rqP b) (pkHdrF b).2.2.1)).take 8).length = 8 := by
      rw [List.length_take]; rcases con_len G.ok with h | h <;> omega
    have M8 : ((b.drop 20).take 8).length = 8 := by rw [List.length_take, List.length_drop]; omega
    have wA : ∀ i, i + 2 ≤ 8 → wordAt ((b.drop 20).take 8) i = wordAt b (20 + i) := fun i hi => by
      rw [take_word hi]; unfold wordAt; rw [List.drop_drop]
    have wB : ∀ i, i + 2 ≤ 8 → wordAt ((conP (noT (rqP b) (pkHdrF b).2.2.1)).take 8) i = wordAt (conP (noT (rqP b) (pkHdrF b).2.2.1)) i := fun i hi => take_word hi
    have key : (((build (noT (rqP b) (pkHdrF b).2.2.1)).drop 20).take 8 = (b.drop 20).take 8) ↔ (keyA (noT (rqP b) (pkHdrF b).2.2.1) = wordAt b 20 ∧ keyC (noT (rqP b) (pkHdrF b).2.2.1) = wordAt b 22 ∧ wordAt (conP (noT (rqP b) (pkHdrF b).2.2.1)) 4 = wordAt b 24 ∧ wordAt (conP (noT (rqP b) (pkHdrF b).2.2.1)) 6 = wordAt b 26) := by
      rw [e3, eight_words (bytes_take (con_bytes G.ok)) (bytes_take (bytes_drop hb)) L8 M8, wA 0 (by omega), wA 2 (by omega), wA 4 (by omega), wA 6 (by omega), wB 0 (by omega), wB 2 (by omega), wB 4 (by omega), wB 6 (by omega), cw.1, cw.2]
    have hiff : quRight b ↔ ((build (noT (rqP b) (pkHdrF b).2.2.1)).length : Int) = wordAt b 2 ∧ ((build (noT (rqP b) (pkHdrF b).2.2.1)).drop 20).take 8 = (b.drop 20).take 8 := by
      rw [key]
      have pP : (noT (rqP b) (pkHdrF b).2.2.1).2.2.1 = protoOf b := rfl
      have pF : (noT (rqP b) (pkHdrF b).2.2.1).2.2.2.1 = if protoOf b = 1 then wordAt b 22 - 16384 else wordAt b 20 - 20000 := rfl
      have pT : (noT (rqP b) (pkHdrF b).2.2.1).2.2.2.2.1 = (pkHdrF b).2.1 := rfl
      rw [pP] at cm len
      rw [pT] at cm
      unfold keyA keyC
      rw [pP, pF]
      unfold quRight
      rcases hpr with h | h | h
      · have c := cm.1 h
        rw [c.1, c.2]
        have l30 : (build (noT (rqP b) (pkHdrF b).2.2.1)).length = 30 := by rcases len with k | k <;> omega
        rw [l30]
        simp [h]; omega
      · have c := cm.2.2 h
        have l40 : (build (noT (rqP b) (pkHdrF b).2.2.1)).length = 40 := by rcases len with k | k <;> omega
        have cl : (conP (noT (rqP b) (pkHdrF b).2.2.1)).length = 20 := (con_len G.ok).elim (fun k => absurd h k.1) (fun k => k.2)
        rw [num4_words (b := conP _) (i := 4) (by omega)] at c
        rw [l40, num4_words (b := b) (i := 24) (by omega)]
        have r1 := bytes_word (con_bytes G.ok) 4
        have r2 := bytes_word (con_bytes G.ok) 6
        have r3 := bytes_word hb 24
        have r4 := bytes_word hb 26
        simp only [h, show ¬ (6 : Int) = 1 by decide, show ¬ (6 : Int) = 17 by decide, if_false, false_and, false_or, true_and]
        simp only [Nat.reduceAdd] at c ⊢
        omega
      · have c := cm.2.1 h
        rw [c.1, c.2]
        have l30 : (build (noT (rqP b) (pkHdrF b).2.2.1)).length = 30 := by rcases len with k | k <;> omega
        rw [l30]
        simp [h]; omega
    refine ⟨?_, fun _ => ⟨eP, rfl, rfl⟩⟩
    simp only [rqOK]
    rw [← Bool.decide_and, decide_eq_decide, ← hiff]
    exact ⟨fun k => k.1, fun k => ⟨k, hpe⟩⟩
  · have hno : ¬ (quRight b ∧ probeErr (quP b) = 0) := by
      rintro ⟨-, k⟩
      obtain ⟨k1, k2, k3, k4⟩ := probe_ok.1 k
      refine hg ⟨hq, k4.1, probe_ok.2 ⟨k1, ?_, k3, by simp only [noT]; omega⟩⟩
      have hpr : protoOK (protoOf b) := k1
      have e : (noT (rqP b) 1).2.2.2.1 = (quP b).2.2.2.1 := by
        unfold quP rqP noT quFlow
        simp only
        rcases hpr with h | h | h <;> simp [h]
      rw [e]; exact k2
    rw [quV, if_pos hq, rqV, if_neg hg, decide_eq_false hno]
    exact ⟨rfl, fun k => by cases k⟩
theorem rq_rng {b : List Int} (hb : bytes b) : -9223372036854775808 ≤ (if protoOf b = 1 then wordAt b 22 - 16384 else wordAt b 20 - 20000) ∧ (if protoOf b = 1 then wordAt b 22 - 16384 else wordAt b 20 - 20000) ≤ 9223372036854775807 := by
  have r1 := bytes_word hb 22
  have r2 := bytes_word hb 20
  split <;> omega

theorem notice_first3 {b : List Int} (h : unNoticeErr b = 0) : b.getD 0 default = 3 ∨ b.getD 0 default = 11 := by
  have hl : ¬ (b.length : Int) < 36 := fun k => by rw [unNoticeErr, if_pos k] at h; cases h
  have : noticeForm b := Classical.byContradiction fun k => by rw [unNoticeErr, if_neg hl, if_pos k] at h; cases h
  exact this.1
theorem echo_len8 {b : List Int} (h : unEchoErr b = 0) : 8 ≤ b.length := by
  refine Nat.le_of_not_lt fun k => ?_
  rw [unEchoErr, if_pos (by omega)] at h; cases h
end Go.RS

