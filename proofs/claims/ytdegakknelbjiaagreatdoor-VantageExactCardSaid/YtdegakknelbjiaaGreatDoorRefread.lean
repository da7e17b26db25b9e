/- Refread: the reference's reading of answers is the same. -/
import Derived.Test.YtdegakknelbjiaaGreatDoorLaw08
namespace Go.RS
open Go.SX Go.Proofs
set_option maxRecDepth 100000
set_option linter.unusedVariables false

/-- Eight bytes are four words. -/
theorem eight_words {a b : List Int} (ha : bytes a) (hb : bytes b) (la : a.length = 8) (lb : b.length = 8) : a = b ↔ wordAt a 0 = wordAt b 0 ∧ wordAt a 2 = wordAt b 2 ∧ wordAt a 4 = wordAt b 4 ∧ wordAt a 6 = wordAt b 6 := by
  constructor
  · rintro rfl; exact ⟨rfl, rfl, rfl, rfl⟩
  · match a, la with
    | [a0, a1, a2, a3, a4, a5, a6, a7], _ =>
      match b, lb with
      | [b0, b1, b2, b3, b4, b5, b6, b7], _ =>
        rintro ⟨h0, h2, h4, h6⟩
        have e0 : ∀ x y : Int, ∀ r, wordAt (x :: y :: r) 0 = x * 256 + y := wordAt0
        have q : ∀ x ∈ [a0, a1, a2, a3, a4, a5, a6, a7], 0 ≤ x ∧ x ≤ 255 := ha
        have r : ∀ x ∈ [b0, b1, b2, b3, b4, b5, b6, b7], 0 ≤ x ∧ x ≤ 255 := hb
        have k2 : wordAt [a0, a1, a2, a3, a4, a5, a6, a7] 2 = a2 * 256 + a3 := e0 _ _ _
        have k4 : wordAt [a0, a1, a2, a3, a4, a5, a6, a7] 4 = a4 * 256 + a5 := e0 _ _ _
        have k6 : wordAt [a0, a1, a2, a3, a4, a5, a6, a7] 6 = a6 * 256 + a7 := e0 _ _ _
        have l2 : wordAt [b0, b1, b2, b3, b4, b5, b6, b7] 2 = b2 * 256 + b3 := e0 _ _ _
        have l4 : wordAt [b0, b1, b2, b3, b4, b5, b6, b7] 4 = b4 * 256 + b5 := e0 _ _ _
        have l6 : wordAt [b0, b1, b2, b3, b4, b5, b6, b7] 6 = b6 * 256 + b7 := e0 _ _ _
        rw [e0, e0] at h0
        rw [k2, l2] at h2
        rw [k4, l4] at h4
        rw [k6, l6] at h6
        simp only [List.mem_cons, List.not_mem_nil, or_false, forall_eq_or_imp, forall_eq] at q r
        simp only [List.cons.injEq, and_true]
        omega
theorem num4_words {b : List Int} {i : Nat} (h : i + 4 ≤ b.length) : numB ((b.drop i).take 4) = wordAt b i * 65536 + wordAt b (i + 2) := by
  have e : wordAt b (i + 2) = wordAt (b.drop i) 2 := by unfold wordAt; rw [List.drop_drop]
  have e0 : wordAt b i = wordAt (b.drop i) 0 := by unfold wordAt; rw [List.drop_zero]
  rw [e, e0]
  have hl : 4 ≤ (b.drop i).length := by rw [List.length_drop]; omega
  generalize b.drop i = c at hl
  match c, hl with
  | x0 :: x1 :: x2 :: x3 :: r, _ =>
    have k2 : wordAt (x0 :: x1 :: x2 :: x3 :: r) 2 = x2 * 256 + x3 := wordAt0 _ _ _
    rw [wordAt0, k2]
    show numB [x0, x1, x2, x3] = _
    rw [numB4]; omega
def rqP (b : List Int) : Probe := (srcOf b, dstOf b, protoOf b, if protoOf b = 1 then wordAt b 22 - 16384 else wordAt b 20 - 20000, (pkHdrF b).2.1, 0)
def rqGood (b : List Int) : Prop := quHead b ∧ 1 ≤ (pkHdrF b).2.2.1 ∧ probeErr (noT (rqP b) 1) = 0
instance (b : List Int) : Decidable (rqGood b) := by unfold rqGood; infer_instance
def rqOK (b : List Int) : Bool := decide ((build (noT (rqP b) (pkHdrF b).2.2.1)).length = wordAt b 2) && decide (((build (noT (rqP b) (pkHdrF b).2.2.1)).drop 20).take 8 = (b.drop 20).take 8)
def rqV (b : List Int) : Probe × Int × Bool := if rqGood b then (rqP b, (pkHdrF b).2.2.1, rqOK b) else (probe0, 0, false)
theorem u32_num4 {b : List Int} (hb : bytes b) (i : Nat) : u32 (numB ((b.drop i).take 4)) := bytes_num4 hb i
theorem quote_of_head {b : List Int} (hb : bytes b) (hq : quHead b) (h1 : 1 ≤ (pkHdrF b).2.2.1) (hp : probeErr (noT (rqP b) 1) = 0) : Good (noT (rqP b) (pkHdrF b).2.2.1) := by
  have ht : (pkHdrF b).2.2.1 ≤ 255 := (bytes_get hb (i := 8) (by have := hq.2.1; omega)).2
  obtain ⟨k1, k2, k3, -⟩ := probe_ok.1 hp
  exact ⟨probe_ok.2 ⟨k1, k2, k3, ⟨h1, ht⟩⟩, u32_num4 hb 12, u32_num4 hb 16⟩
/-- Both readings of a quote agree. -/
theorem quote_same {b : List Int} (hb : bytes b) : (quV b).2 = (rqV b).2.2 ∧ ((quV b).2 = true → (quV b).1 = noT (rqV b).1 (rqV b).2.1 ∧ rqV b = (rqP b, (pkHdrF b).2.2.1, rqOK b) ∧ noT (rqP b) 0 = rqP b) := by
  by_cases hq : quHead b
  rotate_left
  · have h1 : ¬ rqGood b := fun k => hq k.1
    rw [quV, if_neg hq, rqV, if_neg h1]
    exact ⟨rfl, fun k => by cases k⟩
  obtain ⟨-, h28, -, -⟩ := id hq
  have ht : 0 ≤ (pkHdrF b).2.2.1 ∧ (pkHdrF b).2.2.1 ≤ 255 := bytes_get hb (i := 8) (by omega)
  by_cases hg : rqGood b
  · obtain ⟨-, g1, g2⟩ := id hg
    have G := quote_of_head hb hq g1 g2
    have hpr : protoOK (protoOf b) := (probe_ok.1 g2).1
    have eP : quP b = noT (rqP b) (pkHdrF b).2.2.1 := by
      unfold quP rqP noT quFlow
      simp only
      rcases hpr with h | h | h <;> simp [h]
    rw [quV, if_pos hq, rqV, if_pos hg]
    have hpe : probeErr (quP b) = 0 := by rw [eP]; exact G.ok
    -- words of the probe's own packet
    have hbl := build_len (noT (rqP b) (pkHdrF b).2.2.1)
    obtain ⟨e1, e2, e3⟩ := G.dec
    have cw := con_words G.ok
    have cm := con_more G
    have len := G.len
    have L8 : ((conP (noT (rqP b) (pkHdrF b).2.2.1)).take 8).length = 8 := by
      rw [List.length_take]; rcases con_len G.ok with h | h <;> omega
    have M8 : ((b.drop 20).take 8).length = 8 := by rw [List.length_take, List.length_drop]; omega
    have wA : ∀ i, i + 2 ≤ 8 → wordAt ((b.drop 20).take 8) i = wordAt b (20 + i) := fun i hi => by
      rw [take_word hi]; unfold wordAt; rw [List.drop_drop]
    have wB : ∀ i, i + 2 ≤ 8 → wordAt ((conP (noT (rqP b) (pkHdrF b).2.2.1)).take 8) i = wordAt (conP (noT (rqP b) (pkHdrF b).2.2.1)) i := fun i hi => take_word hi
    have key : (((build (noT (rqP b) (pkHdrF b).2.2.1)).drop 20).take 8 = (b.drop 20).take 8) ↔ (keyA (noT (rqP b) (pkHdrF b).2.2.1) = wordAt b 20 ∧ keyC (noT (rqP b) (pkHdrF b).2.2.1) = wordAt b 22 ∧ wordAt (conP (noT (rqP b) (pkHdrF b).2.2.1)) 4 = wordAt b 24 ∧ wordAt (conP (noT (rqP b) (pkHdrF b).2.2.1)) 6 = wordAt b 26) := by
      rw [e3, eight_words (bytes_take (con_bytes G.ok)) (bytes_take (bytes_drop hb)) L8 M8, wA 0 (by omega), wA 2 (by omega), wA 4 (by omega), wA 6 (by omega), wB 0 (by omega), wB 2 (by omega), wB 4 (by omega), wB 6 (by omega), cw.1, cw.2]
    have hiff : quRight b ↔ ((build (noT (rqP b) (pkHdrF b).2.2.1)).length : Int) = wordAt b 2 ∧ ((build (noT (rqP b) (pkHdrF b).2.2.1)).drop 20).take 8 = (b.drop 20).take 8 := by
      rw [key]
      have pP : (noT (rqP b) (pkHdrF b).2.2.1).2.2.1 = protoOf b := rfl
      have pF : (noT (rqP b) (pkHdrF b).2.2.1).2.2.2.1 = if protoOf b = 1 then wordAt b 22 - 16384 else wordAt b 20 - 20000 := rfl
      have pT : (noT (rqP b) (pkHdrF b).2.2.1).2.2.2.2.1 = (pkHdrF b).2.1 := rfl
      rw [pP] at cm len
      rw [pT] at cm
      unfold keyA keyC
      rw [pP, pF]
      unfold quRight
      rcases hpr with h | h | h
      · have c := cm.1 h
        rw [c.1, c.2]
        have l30 : (build (noT (rqP b) (pkHdrF b).2.2.1)).length = 30 := by rcases len with k | k <;> omega
        rw [l30]
        simp [h]; omega
      · have c := cm.2.2 h
        have l40 : (build (noT (rqP b) (pkHdrF b).2.2.1)).length = 40 := by rcases len with k | k <;> omega
        have cl : (conP (noT (rqP b) (pkHdrF b).2.2.1)).length = 20 := (con_len G.ok).elim (fun k => absurd h k.1) (fun k => k.2)
        rw [num4_words (b := conP _) (i := 4) (by omega)] at c
        rw [l40, num4_words (b := b) (i := 24) (by omega)]
        have r1 := bytes_word (con_bytes G.ok) 4
        have r2 := bytes_word (con_bytes G.ok) 6
        have r3 := bytes_word hb 24
        have r4 := bytes_word hb 26
        simp only [h, show ¬ (6 : Int) = 1 by decide, show ¬ (6 : Int) = 17 by decide, if_false, false_and, false_or, true_and]
        simp only [Nat.reduceAdd] at c ⊢
        omega
      · have c := cm.2.1 h
        rw [c.1, c.2]
        have l30 : (build (noT (rqP b) (pkHdrF b).2.2.1)).length = 30 := by rcases len with k | k <;> omega
        rw [l30]
        simp [h]; omega
    refine ⟨?_, fun _ => ⟨eP, rfl, rfl⟩⟩
    simp only [rqOK]
    rw [← Bool.decide_and, decide_eq_decide, ← hiff]
    exact ⟨fun k => k.1, fun k => ⟨k, hpe⟩⟩
  · have hno : ¬ (quRight b ∧ probeErr (quP b) = 0) := by
      rintro ⟨-, k⟩
      obtain ⟨k1, k2, k3, k4⟩ := probe_ok.1 k
      refine hg ⟨hq, k4.1, probe_ok.2 ⟨k1, ?_, k3, by simp only [noT]; omega⟩⟩
      have hpr : protoOK (protoOf b) := k1
      have e : (noT (rqP b) 1).2.2.2.1 = (quP b).2.2.2.1 := by
        unfold quP rqP noT quFlow
        simp only
        rcases hpr with h | h | h <;> simp [h]
      rw [e]; exact k2
    rw [quV, if_pos hq, rqV, if_neg hg, decide_eq_false hno]
    exact ⟨rfl, fun k => by cases k⟩
theorem rq_rng {b : List Int} (hb : bytes b) : -9223372036854775808 ≤ (if protoOf b = 1 then wordAt b 22 - 16384 else wordAt b 20 - 20000) ∧ (if protoOf b = 1 then wordAt b 22 - 16384 else wordAt b 20 - 20000) ≤ 9223372036854775807 := by
  have r1 := bytes_word hb 22
  have r2 := bytes_word hb 20
  split <;> omega
def ct_ref08_right : Ct := ⟨[.agg cProbe], [.val .bool], fun d => [], fun d => ((decide (probeErr (noT d.1 1) = 0), ()), ())⟩
def an_ref08_right : PDs ct_ref08_right.ps → Anns := (fun _ => {})
theorem vc_ref08_right :
    ∀ (x x_1 x_2 x_3 x_4 x_5 : Int), (((0 : Int) ≤ x ∧ x ≤ (4294967295 : Int)) ∧ ((0 : Int) ≤ x_1 ∧ x_1 ≤ (4294967295 : Int)) ∧ ((-9223372036854775808 : Int) ≤ x_2 ∧ x_2 ≤ (9223372036854775807 : Int)) ∧
     ((-9223372036854775808 : Int) ≤ x_3 ∧ x_3 ≤ (9223372036854775807 : Int)) ∧ ((-9223372036854775808 : Int) ≤ x_4 ∧ x_4 ≤ (9223372036854775807 : Int)) ∧ (-9223372036854775808 : Int) ≤ x_5 ∧ x_5 ≤
     (9223372036854775807 : Int)) ∧ True → True → decide (probeErr (x, x_1, x_2, x_3, x_4, (1 : Int)) = (0 : Int)) = decide (probeErr (noT (x, x_1, x_2, x_3, x_4, x_5) (1 : Int)) = (0 : Int)) := by
  intros
  rfl
theorem ok_ref08_right : SpecOK Tryz.prog GL 72 ct_ref08_right.spec := Ct.ok' _ Tryz.func72 (by kernel_rfl) (withSpec_ok noSpecs_ok ok_ref07_Check) hmix an_ref08_right (Eq.mpr (by kernel_rfl) vc_ref08_right)

def ct_ref08_quoted : Ct := ⟨[.val (.sl cU8)], [.agg cProbe, .val cI, .val .bool], fun d => [(d.1.length : Int) ≤ 1000000], fun d => (((rqV d.1).1, (rqV d.1).2.1, (rqV d.1).2.2, ()), ())⟩
def an_ref08_quoted : PDs ct_ref08_quoted.ps → Anns := (fun _ => {})
theorem vc_ref08_quoted :
    ∀ (x : List Int), (List.length x ≤ maxLen ∧ ∀ (x_1 : Int), x_1 ∈ x → (0 : Int) ≤ x_1 ∧ x_1 ≤ (255 : Int)) ∧ True → (↑(List.length x) : Int) ≤ (1000000 : Int) → (↑(List.length x) : Int) ≤
     (1099511627776 : Int) ∧ ∀ (d : Int × Int × Int × Int × Bool × Int × Int) (x_1 x_2 : Int), d = pkHdr x ∧ x_1 = pkLen x ∧ x_2 = pkErr x → ∀ (b : Bool), b = !decide (x_2 = (0 : Int)) → ((!b) = true →
     ((!b) = true → (!b) = true) ∧ True) ∧ ((!b) = true → ((!b) = true → (!b) = true) ∧ True) ∧ (b = false → (!b) = true) ∧ ∀ (b_1 : Bool), (b_1 = bif b then true else !decide ((↑(List.length x) : Int) =
     (28 : Int))) → ((!b_1) = true → ((!b_1) = true → (!b_1) = true) ∧ True) ∧ ((!b_1) = true → ((!b_1) = true → (!b_1) = true) ∧ True) ∧ (b_1 = false → (!b_1) = true) ∧ ∀ (b : Bool), (b = bif b_1 then
     true else !decide (d.1 = (0 : Int))) → ((!b) = true → ((!b) = true → (!b) = true) ∧ True) ∧ ((!b) = true → ((!b) = true → (!b) = true) ∧ True) ∧ (b = false → (!b) = true) ∧ ∀ (b_2 : Bool), (b_2 = bif
     b then true else !d.2.2.2.2.1) → ((!b_2) = true → ((!b_2) = true → (!b_2) = true) ∧ True) ∧ ((!b_2) = true → ((!b_2) = true → (!b_2) = true) ∧ True) ∧ (b_2 = false → (!b_2) = true) ∧ ifP (bif b_2 then
     true else decide (d.2.2.1 < (1 : Int))) (((0 : Int), (0 : Int), (0 : Int), (0 : Int), (0 : Int), (0 : Int)) = (rqV x).1 ∧ (0 : Int) = (rqV x).2.1 ∧ false = (rqV x).2.2) ((↑(List.length x) : Int) ≤
     (1099511627776 : Int) ∧ ∀ (x_3 : Int), x_3 = getV x (20 : Int) (2 : Int) → ifP (decide (d.2.2.2.1 = (1 : Int))) ((↑(List.length x) : Int) ≤ (1099511627776 : Int) ∧ ∀ (x_4 : Int), x_4 = getV x (22 :
     Int) (2 : Int) → ifP (!decide (probeErr (noT (d.2.2.2.2.2.1, d.2.2.2.2.2.2, d.2.2.2.1, IntKind.wrap IntKind.i64 (x_4 - (16384 : Int)), d.2.1, (0 : Int)) (1 : Int)) = (0 : Int))) (((0 : Int), (0 :
     Int), (0 : Int), (0 : Int), (0 : Int), (0 : Int)) = (rqV x).1 ∧ (0 : Int) = (rqV x).2.1 ∧ false = (rqV x).2.2) (∀ (x_5 : List Int) (x_6 : Int), x_5 = build (d.2.2.2.2.2.1, d.2.2.2.2.2.2, d.2.2.2.1,
     IntKind.wrap IntKind.i64 (x_4 - (16384 : Int)), d.2.1, d.2.2.1) ∧ x_6 = probeErr (d.2.2.2.2.2.1, d.2.2.2.2.2.2, d.2.2.2.1, IntKind.wrap IntKind.i64 (x_4 - (16384 : Int)), d.2.1, d.2.2.1) → ∀ (b :
     Bool), b = decide ((↑(List.length x_5) : Int) = x_1) → ifP b ((b = true → b = true) ∧ (0 : Int) ≤ (20 : Int) ∧ (20 : Int) ≤ (28 : Int) ∧ (28 : Int) ≤ (↑(List.length x_5) : Int) ∧ (b = true → (b = true
     → b = true) ∧ (0 : Int) ≤ (20 : Int) ∧ (20 : Int) ≤ (28 : Int) ∧ (28 : Int) ≤ (↑(List.length x) : Int) ∧ True) ∧ (b = true → (b = true → b = true) ∧ True) ∧ (b = true → b = true) ∧ (d.2.2.2.2.2.1,
     d.2.2.2.2.2.2, d.2.2.2.1, IntKind.wrap IntKind.i64 (x_4 - (16384 : Int)), d.2.1, (0 : Int)) = (rqV x).1 ∧ d.2.2.1 = (rqV x).2.1 ∧ (bif b then decide (subL x_5 (Int.toNat (20 : Int)) (Int.toNat (28 :
     Int)) = subL x (Int.toNat (20 : Int)) (Int.toNat (28 : Int))) else false) = (rqV x).2.2) ((b = true → (b = true → b = true) ∧ (0 : Int) ≤ (20 : Int) ∧ (20 : Int) ≤ (28 : Int) ∧ (28 : Int) ≤
     (↑(List.length x) : Int) ∧ True) ∧ b = false ∧ (b = true → false = true) ∧ (d.2.2.2.2.2.1, d.2.2.2.2.2.2, d.2.2.2.1, IntKind.wrap IntKind.i64 (x_4 - (16384 : Int)), d.2.1, (0 : Int)) = (rqV x).1 ∧
     d.2.2.1 = (rqV x).2.1 ∧ (bif b then false else false) = (rqV x).2.2))) (ifP (!decide (probeErr (noT (d.2.2.2.2.2.1, d.2.2.2.2.2.2, d.2.2.2.1, IntKind.wrap IntKind.i64 (x_3 - (20000 : Int)), d.2.1, (0
     : Int)) (1 : Int)) = (0 : Int))) (((0 : Int), (0 : Int), (0 : Int), (0 : Int), (0 : Int), (0 : Int)) = (rqV x).1 ∧ (0 : Int) = (rqV x).2.1 ∧ false = (rqV x).2.2) (∀ (x_4 : List Int) (x_5 : Int), x_4 =
     build (d.2.2.2.2.2.1, d.2.2.2.2.2.2, d.2.2.2.1, IntKind.wrap IntKind.i64 (x_3 - (20000 : Int)), d.2.1, d.2.2.1) ∧ x_5 = probeErr (d.2.2.2.2.2.1, d.2.2.2.2.2.2, d.2.2.2.1, IntKind.wrap IntKind.i64 (x_3
     - (20000 : Int)), d.2.1, d.2.2.1) → ∀ (b : Bool), b = decide ((↑(List.length x_4) : Int) = x_1) → ifP b ((b = true → b = true) ∧ (0 : Int) ≤ (20 : Int) ∧ (20 : Int) ≤ (28 : Int) ∧ (28 : Int) ≤
     (↑(List.length x_4) : Int) ∧ (b = true → (b = true → b = true) ∧ (0 : Int) ≤ (20 : Int) ∧ (20 : Int) ≤ (28 : Int) ∧ (28 : Int) ≤ (↑(List.length x) : Int) ∧ True) ∧ (b = true → (b = true → b = true) ∧
     True) ∧ (b = true → b = true) ∧ (d.2.2.2.2.2.1, d.2.2.2.2.2.2, d.2.2.2.1, IntKind.wrap IntKind.i64 (x_3 - (20000 : Int)), d.2.1, (0 : Int)) = (rqV x).1 ∧ d.2.2.1 = (rqV x).2.1 ∧ (bif b then decide
     (subL x_4 (Int.toNat (20 : Int)) (Int.toNat (28 : Int)) = subL x (Int.toNat (20 : Int)) (Int.toNat (28 : Int))) else false) = (rqV x).2.2) ((b = true → (b = true → b = true) ∧ (0 : Int) ≤ (20 : Int) ∧
     (20 : Int) ≤ (28 : Int) ∧ (28 : Int) ≤ (↑(List.length x) : Int) ∧ True) ∧ b = false ∧ (b = true → false = true) ∧ (d.2.2.2.2.2.1, d.2.2.2.2.2.2, d.2.2.2.1, IntKind.wrap IntKind.i64 (x_3 - (20000 :
     Int)), d.2.1, (0 : Int)) = (rqV x).1 ∧ d.2.2.1 = (rqV x).2.1 ∧ (bif b then false else false) = (rqV x).2.2)))) := by
  rintro b ⟨⟨-, hb⟩, -⟩ hl
  have bad : ¬ rqGood b → ((0, 0, 0, 0, 0, 0) : Probe) = (rqV b).1 ∧ (0 : Int) = (rqV b).2.1 ∧ false = (rqV b).2.2 := fun h => by rw [rqV, if_neg h]; exact ⟨rfl, rfl, rfl⟩
  refine ⟨by omega, ?_⟩
  rintro d n e ⟨rfl, rfl, rfl⟩
  (repeat (intro (b_ : Bool) (hb_ : b_ = _); (repeat refine ⟨(by first | (simp; done) | (rw [hb_]; simp; done) | (rw [hb_]; simp; omega) | (rw [hb_]; simp; intros; omega) | (rw [hb_]; simp +contextual; done)), ?_⟩); subst hb_))
  refine ifP_or (fun h => bad (fun k => ?_)) (fun h h1 => ?_)
  · obtain ⟨⟨k1, k2, k3, k4⟩, k5, -⟩ := k
    rw [pkHdr, if_pos k1] at h
    have k5 : ¬ (pkHdrF b).2.2.1 < 1 := by omega
    simp [k1, k2, k3, k4] at h
    omega
  have k1 : pkErr b = 0 := Classical.byContradiction fun k => by simp [k] at h
  rw [pkHdr, if_pos k1] at h h1 ⊢
  have hq : quHead b := by
    simp [Bool.cond_eq_ite, k1] at h
    exact ⟨k1, by have := h.1.1; omega, h.1.2, h.2⟩
  have h1 : 1 ≤ (pkHdrF b).2.2.1 := by have := of_decide_eq_false h1; omega
  clear h
  obtain ⟨-, h28, -, -⟩ := id hq
  refine ⟨by omega, ?_⟩
  rintro _ rfl
  have g20 : getV b 20 2 = wordAt b 20 := by rw [gV2 (by omega) (by omega)]; rfl
  have g22 : getV b 22 2 = wordAt b 22 := by rw [gV2 (by omega) (by omega)]; rfl
  rw [g20, pkLen, if_pos k1]
  have w20 := bytes_word hb 20
  have w22 := bytes_word hb 22
  have e22 : IntKind.i64.wrap (wordAt b 22 - 16384) = wordAt b 22 - 16384 := w64 (by omega) (by omega)
  have e20 : IntKind.i64.wrap (wordAt b 20 - 20000) = wordAt b 20 - 20000 := w64 (by omega) (by omega)
  have core : ∀ fl : Int, fl = (if protoOf b = 1 then wordAt b 22 - 16384 else wordAt b 20 - 20000) →
      ifP (!decide (probeErr (noT ((pkHdrF b).2.2.2.2.2.1, (pkHdrF b).2.2.2.2.2.2, (pkHdrF b).2.2.2.1, fl, (pkHdrF b).2.1, 0) 1) = 0)) (((0, 0, 0, 0, 0, 0) : Probe) = (rqV b).1 ∧ (0 : Int) = (rqV b).2.1 ∧ false = (rqV b).2.2)
       (∀ (x_5 : List Int) (x_6 : Int), x_5 = build ((pkHdrF b).2.2.2.2.2.1, (pkHdrF b).2.2.2.2.2.2, (pkHdrF b).2.2.2.1, fl, (pkHdrF b).2.1, (pkHdrF b).2.2.1) ∧ x_6 = probeErr ((pkHdrF b).2.2.2.2.2.1, (pkHdrF b).2.2.2.2.2.2, (pkHdrF b).2.2.2.1, fl, (pkHdrF b).2.1, (pkHdrF b).2.2.1) →
        ∀ (c : Bool), c = decide ((x_5.length : Int) = wordAt b 2) → ((pkHdrF b).2.2.2.2.2.1, (pkHdrF b).2.2.2.2.2.2, (pkHdrF b).2.2.2.1, fl, (pkHdrF b).2.1, 0) = (rqV b).1 ∧ (pkHdrF b).2.2.1 = (rqV b).2.1 ∧ (c = true → 28 ≤ x_5.length) ∧
          (bif c then decide (subL x_5 (Int.toNat 20) (Int.toNat 28) = subL b (Int.toNat 20) (Int.toNat 28)) else false) = (rqV b).2.2) := by
    rintro fl rfl
    refine ifP_split (fun h => bad (fun k => nd_t h k.2.2)) (fun h => ?_)
    have hg : rqGood b := ⟨hq, h1, nd_f h⟩
    have G := quote_of_head hb hq h1 hg.2.2
    rintro _ _ ⟨rfl, -⟩ c rfl
    rw [rqV, if_pos hg]
    refine ⟨rfl, rfl, fun _ => ?_, ?_⟩
    · have hl := G.len
      have : 30 ≤ (build (noT (rqP b) (pkHdrF b).2.2.1)).length := by rcases hl with hl | hl <;> omega
      exact Nat.le_trans (by omega) this
    · show _ = rqOK b
      unfold rqOK
      have e : ∀ l : List Int, subL l (Int.toNat 20) (Int.toNat 28) = (l.drop 20).take 8 := fun l => by
        show (l.take 28).drop 20 = _
        rw [List.drop_take]
      rw [e, e]
      exact Bool.cond_false_right _ _
  have fin : ∀ (fl : Int), fl = (if protoOf b = 1 then wordAt b 22 - 16384 else wordAt b 20 - 20000) →
      ifP (!decide (probeErr (noT ((pkHdrF b).2.2.2.2.2.1, (pkHdrF b).2.2.2.2.2.2, (pkHdrF b).2.2.2.1, fl, (pkHdrF b).2.1, 0) 1) = 0)) (((0, 0, 0, 0, 0, 0) : Probe) = (rqV b).1 ∧ (0 : Int) = (rqV b).2.1 ∧ false = (rqV b).2.2)
       (∀ (x_5 : List Int) (x_6 : Int), x_5 = build ((pkHdrF b).2.2.2.2.2.1, (pkHdrF b).2.2.2.2.2.2, (pkHdrF b).2.2.2.1, fl, (pkHdrF b).2.1, (pkHdrF b).2.2.1) ∧ x_6 = probeErr ((pkHdrF b).2.2.2.2.2.1, (pkHdrF b).2.2.2.2.2.2, (pkHdrF b).2.2.2.1, fl, (pkHdrF b).2.1, (pkHdrF b).2.2.1) →
        ∀ (c : Bool), c = decide ((x_5.length : Int) = wordAt b 2) → ifP c ((c = true → c = true) ∧ (0 : Int) ≤ 20 ∧ (20 : Int) ≤ 28 ∧ (28 : Int) ≤ x_5.length ∧ (c = true → (c = true → c = true) ∧ (0 : Int) ≤ 20 ∧ (20 : Int) ≤ 28 ∧ (28 : Int) ≤ b.length ∧ True) ∧ (c = true → (c = true → c = true) ∧ True) ∧ (c = true → c = true) ∧
            ((pkHdrF b).2.2.2.2.2.1, (pkHdrF b).2.2.2.2.2.2, (pkHdrF b).2.2.2.1, fl, (pkHdrF b).2.1, 0) = (rqV b).1 ∧ (pkHdrF b).2.2.1 = (rqV b).2.1 ∧ (bif c then decide (subL x_5 (Int.toNat 20) (Int.toNat 28) = subL b (Int.toNat 20) (Int.toNat 28)) else false) = (rqV b).2.2)
          ((c = true → (c = true → c = true) ∧ (0 : Int) ≤ 20 ∧ (20 : Int) ≤ 28 ∧ (28 : Int) ≤ b.length ∧ True) ∧ c = false ∧ (c = true → false = true) ∧
            ((pkHdrF b).2.2.2.2.2.1, (pkHdrF b).2.2.2.2.2.2, (pkHdrF b).2.2.2.1, fl, (pkHdrF b).2.1, 0) = (rqV b).1 ∧ (pkHdrF b).2.2.1 = (rqV b).2.1 ∧ (bif c then false else false) = (rqV b).2.2)) := by
    intro fl hfl
    have h := ifP_iff.1 (core fl hfl)
    refine ifP_split h.1 (fun k x5 x6 hx c hc => ?_)
    obtain ⟨q1, q2, q3, q4⟩ := h.2 k x5 x6 hx c hc
    refine ifP_split (fun hb => ?_) (fun hb => ?_)
    · have := q3 hb
      exact ⟨id, by decide, by decide, by omega, fun _ => ⟨id, by decide, by decide, by omega, trivial⟩, fun _ => ⟨id, trivial⟩, id, q1, q2, q4⟩
    · rw [hb] at q4 ⊢
      exact ⟨fun k => (Bool.false_ne_true k).elim, rfl, id, q1, q2, q4⟩
  have ep : (pkHdrF b).2.2.2.1 = protoOf b := rfl
  refine ifP_split (fun h => ⟨by omega, ?_⟩) (fun h => ?_)
  · have h := of_decide_eq_true h
    rintro _ rfl
    rw [g22]
    exact fin _ (by rw [if_pos (show protoOf b = 1 from h)]; exact e22)
  · have h := of_decide_eq_false h
    exact fin _ (by rw [if_neg (show ¬ protoOf b = 1 from h)]; exact e20)
theorem ok_ref08_quoted : SpecOK Tryz.prog GL 70 ct_ref08_quoted.spec := Ct.ok' _ Tryz.func70 (by kernel_rfl) (withSpec_ok (withSpec_ok (withSpec_ok (withSpec_ok (withSpec_ok noSpecs_ok (Ct.named ok_ref05_Peek)) (Ct.named ok_ref04_At)) ok_ref08_right) (Ct.named ok_ref07_Build)) ok_ref04_Equal) hmix an_ref08_quoted (Eq.mpr (by kernel_rfl) vc_ref08_quoted)
theorem notice_first3 {b : List Int} (h : unNoticeErr b = 0) : b.getD 0 default = 3 ∨ b.getD 0 default = 11 := by
  have hl : ¬ (b.length : Int) < 36 := fun k => by rw [unNoticeErr, if_pos k] at h; cases h
  have : noticeForm b := Classical.byContradiction fun k => by rw [unNoticeErr, if_neg hl, if_pos k] at h; cases h
  exact this.1
theorem echo_len8 {b : List Int} (h : unEchoErr b = 0) : 8 ≤ b.length := by
  refine Nat.le_of_not_lt fun k => ?_
  rw [unEchoErr, if_pos (by omega)] at h; cases h
def ct_ref08_Read : Ct := ⟨[.val (.sl cU8)], [.agg cProbe, .agg cAns, .val cI], fun d => [(d.1.length : Int) ≤ 1000000], fun d => (((readA d.1).1, (readA d.1).2, readAE d.1, ()), ())⟩
def an_ref08_Read : PDs ct_ref08_Read.ps → Anns := (fun _ => {})
theorem vc_ref08_Read :
    ∀ (x : List Int), (List.length x ≤ maxLen ∧ ∀ (x_1 : Int), x_1 ∈ x → (0 : Int) ≤ x_1 ∧ x_1 ≤ (255 : Int)) ∧ True → (↑(List.length x) : Int) ≤ (1000000 : Int) → (↑(List.length x) : Int) ≤
     (1099511627776 : Int) ∧ ∀ (d : (Int × Int × Int × Int × Bool × Int × Int) × List Int) (x_1 : Int), d = decPkt x ∧ x_1 = decErr x → ifP (!decide (x_1 = (0 : Int))) (((0 : Int), (0 : Int), (0 : Int), (0
     : Int), (0 : Int), (0 : Int)) = (readA x).1 ∧ ((0 : Int), (0 : Int), (0 : Int), (0 : Int), (0 : Int), (0 : Int)) = (readA x).2 ∧ (17 : Int) = readAE x) ((↑(List.length d.2) : Int) ≤ (1000000 : Int) ∧
     ∀ (x_2 x_3 : Int) (x_4 : List Int) (x_5 : Int), (x_2, x_3, x_4) = unNotice d.2 ∧ x_5 = unNoticeErr d.2 → ∀ (b : Bool), b = decide (x_5 = (0 : Int)) → (b = true → (b = true → b = true) ∧ True) ∧ (b =
     true → (b = true → b = true) ∧ True) ∧ (b = true → (b = true → b = true) ∧ True) ∧ (b = true → b = true) ∧ ifP (bif b then decide (d.1.2.2.2.1 = (1 : Int)) else false) ((↑(List.length x_4) : Int) ≤
     (1000000 : Int) ∧ ∀ (x_6 x_7 x_8 x_9 x_10 x_11 x_12 : Int) (x_13 : Bool), (x_6, x_7, x_8, x_9, x_10, x_11) = (rqV x_4).1 ∧ x_12 = (rqV x_4).2.1 ∧ x_13 = (rqV x_4).2.2 → ∀ (b : Bool), b = !x_13 → ((!b)
     = true → ((!b) = true → (!b) = true) ∧ True) ∧ ((!b) = true → ((!b) = true → (!b) = true) ∧ True) ∧ ((!b) = true → ((!b) = true → (!b) = true) ∧ True) ∧ ((!b) = true → ((!b) = true → (!b) = true) ∧
     ((!b) = true → (!b) = true) ∧ True) ∧ (b = false → (!b) = true) ∧ ifP (bif b then true else !decide (x_6 = d.1.2.2.2.2.2.2)) (((0 : Int), (0 : Int), (0 : Int), (0 : Int), (0 : Int), (0 : Int)) =
     (readA x).1 ∧ ((0 : Int), (0 : Int), (0 : Int), (0 : Int), (0 : Int), (0 : Int)) = (readA x).2 ∧ (17 : Int) = readAE x) (ifP (decide (x_2 = (11 : Int))) ((x_6, x_7, x_8, x_9, x_10, x_11) = (readA x).1
     ∧ (d.1.2.2.2.2.2.1, (1 : Int), x_3, d.1.2.2.1, d.1.2.1, x_12) = (readA x).2 ∧ (0 : Int) = readAE x) (ifP (decide (x_3 = (3 : Int))) ((x_6, x_7, x_8, x_9, x_10, x_11) = (readA x).1 ∧ (d.1.2.2.2.2.2.1,
     (3 : Int), x_3, d.1.2.2.1, d.1.2.1, x_12) = (readA x).2 ∧ (0 : Int) = readAE x) ((x_6, x_7, x_8, x_9, x_10, x_11) = (readA x).1 ∧ (d.1.2.2.2.2.2.1, (5 : Int), x_3, d.1.2.2.1, d.1.2.1, x_12) = (readA
     x).2 ∧ (0 : Int) = readAE x)))) ((↑(List.length d.2) : Int) ≤ (1000000 : Int) ∧ ∀ (x_6 : Bool) (x_7 x_8 : Int) (x_9 : List Int) (x_10 : Int), (x_6, x_7, x_8, x_9) = unEcho d.2 ∧ x_10 = unEchoErr d.2 →
     ∀ (b : Bool), b = decide (x_10 = (0 : Int)) → (b = true → (b = true → b = true) ∧ True) ∧ (b = true → (b = true → b = true) ∧ True) ∧ (b = true → b = true) ∧ ∀ (b_1 : Bool), (b_1 = bif b then decide
     (d.1.2.2.2.1 = (1 : Int)) else false) → (b_1 = true → (b_1 = true → b_1 = true) ∧ True) ∧ (b_1 = true → b_1 = true) ∧ ∀ (b : Bool), (b = bif b_1 then x_6 else false) → (b = true → (b = true → b =
     true) ∧ True) ∧ (b = true → (b = true → b = true) ∧ True) ∧ (b = true → b = true) ∧ ∀ (b_2 : Bool), (b_2 = bif b then decide (x_7 = (21075 : Int)) else false) → (b_2 = true → (b_2 = true → b_2 = true)
     ∧ True) ∧ (b_2 = true → (b_2 = true → b_2 = true) ∧ True) ∧ (b_2 = true → (b_2 = true → b_2 = true) ∧ True) ∧ (b_2 = true → b_2 = true) ∧ ifP (bif b_2 then decide ((↑(List.length x_9) : Int) = (2 :
     Int)) else false) ((↑(List.length d.2) : Int) ≤ (1099511627776 : Int) ∧ ∀ (x_11 : Int), x_11 = getV d.2 (2 : Int) (2 : Int) → ifP (decide (probeErr (noT (d.1.2.2.2.2.2.2, d.1.2.2.2.2.2.1, d.1.2.2.2.1,
     IntKind.wrap IntKind.i64 (IntKind.wrap IntKind.i64 (x_11 - (16384 : Int)) - (2048 : Int)), x_8, (0 : Int)) (1 : Int)) = (0 : Int))) ((d.1.2.2.2.2.2.2, d.1.2.2.2.2.2.1, d.1.2.2.2.1, IntKind.wrap
     IntKind.i64 (IntKind.wrap IntKind.i64 (x_11 - (16384 : Int)) - (2048 : Int)), x_8, (0 : Int)) = (readA x).1 ∧ (d.1.2.2.2.2.2.1, (2 : Int), (0 : Int), d.1.2.2.1, d.1.2.1, (0 : Int)) = (readA x).2 ∧ (0
     : Int) = readAE x) ((↑(List.length d.2) : Int) ≤ (1000000 : Int) ∧ ∀ (d_1 : Int × Int × Int × Int × Int × Int × List Int) (x_12 : Int), d_1 = unTCP d.1.2.2.2.2.2.1 d.1.2.2.2.2.2.2 d.2 ∧ x_12 =
     unTCPErr d.1.2.2.2.2.2.1 d.1.2.2.2.2.2.2 d.2 → ∀ (b : Bool), b = decide (x_12 = (0 : Int)) → (b = true → (b = true → b = true) ∧ True) ∧ (b = true → (b = true → b = true) ∧ True) ∧ (b = true → b =
     true) ∧ ifP (bif b then decide (d.1.2.2.2.1 = (6 : Int)) else false) (∀ (b : Bool), b = decide (probeErr (noT (d.1.2.2.2.2.2.2, d.1.2.2.2.2.2.1, d.1.2.2.2.1, IntKind.wrap IntKind.i64 (d_1.2.1 - (20000
     : Int)), IntKind.wrap IntKind.i64 (d_1.2.2.2.1 - (1 : Int)), (0 : Int)) (1 : Int)) = (0 : Int)) → (b = true → (b = true → b = true) ∧ (b = true → b = true) ∧ True) ∧ (b = true → b = true) ∧ ifP (bif b
     then sameSeg d_1 ((80 : Int), d_1.2.1, (0 : Int), d_1.2.2.2.1, (20 : Int), (0 : Int), ([] : List Int)) else false) ((d.1.2.2.2.2.2.2, d.1.2.2.2.2.2.1, d.1.2.2.2.1, IntKind.wrap IntKind.i64 (d_1.2.1 -
     (20000 : Int)), IntKind.wrap IntKind.i64 (d_1.2.2.2.1 - (1 : Int)), (0 : Int)) = (readA x).1 ∧ (d.1.2.2.2.2.2.1, (4 : Int), (0 : Int), d.1.2.2.1, d.1.2.1, (0 : Int)) = (readA x).2 ∧ (0 : Int) = readAE
     x) (((0 : Int), (0 : Int), (0 : Int), (0 : Int), (0 : Int), (0 : Int)) = (readA x).1 ∧ ((0 : Int), (0 : Int), (0 : Int), (0 : Int), (0 : Int), (0 : Int)) = (readA x).2 ∧ (17 : Int) = readAE x)) (((0 :
     Int), (0 : Int), (0 : Int), (0 : Int), (0 : Int), (0 : Int)) = (readA x).1 ∧ ((0 : Int), (0 : Int), (0 : Int), (0 : Int), (0 : Int), (0 : Int)) = (readA x).2 ∧ (17 : Int) = readAE x))) ((↑(List.length
     d.2) : Int) ≤ (1000000 : Int) ∧ ∀ (d_1 : Int × Int × Int × Int × Int × Int × List Int) (x_11 : Int), d_1 = unTCP d.1.2.2.2.2.2.1 d.1.2.2.2.2.2.2 d.2 ∧ x_11 = unTCPErr d.1.2.2.2.2.2.1 d.1.2.2.2.2.2.2
     d.2 → ∀ (b : Bool), b = decide (x_11 = (0 : Int)) → (b = true → (b = true → b = true) ∧ True) ∧ (b = true → (b = true → b = true) ∧ True) ∧ (b = true → b = true) ∧ ifP (bif b then decide (d.1.2.2.2.1
     = (6 : Int)) else false) (∀ (b : Bool), b = decide (probeErr (noT (d.1.2.2.2.2.2.2, d.1.2.2.2.2.2.1, d.1.2.2.2.1, IntKind.wrap IntKind.i64 (d_1.2.1 - (20000 : Int)), IntKind.wrap IntKind.i64
     (d_1.2.2.2.1 - (1 : Int)), (0 : Int)) (1 : Int)) = (0 : Int)) → (b = true → (b = true → b = true) ∧ (b = true → b = true) ∧ True) ∧ (b = true → b = true) ∧ ifP (bif b then sameSeg d_1 ((80 : Int),
     d_1.2.1, (0 : Int), d_1.2.2.2.1, (20 : Int), (0 : Int), ([] : List Int)) else false) ((d.1.2.2.2.2.2.2, d.1.2.2.2.2.2.1, d.1.2.2.2.1, IntKind.wrap IntKind.i64 (d_1.2.1 - (20000 : Int)), IntKind.wrap
     IntKind.i64 (d_1.2.2.2.1 - (1 : Int)), (0 : Int)) = (readA x).1 ∧ (d.1.2.2.2.2.2.1, (4 : Int), (0 : Int), d.1.2.2.1, d.1.2.1, (0 : Int)) = (readA x).2 ∧ (0 : Int) = readAE x) (((0 : Int), (0 : Int),
     (0 : Int), (0 : Int), (0 : Int), (0 : Int)) = (readA x).1 ∧ ((0 : Int), (0 : Int), (0 : Int), (0 : Int), (0 : Int), (0 : Int)) = (readA x).2 ∧ (17 : Int) = readAE x)) (((0 : Int), (0 : Int), (0 :
     Int), (0 : Int), (0 : Int), (0 : Int)) = (readA x).1 ∧ ((0 : Int), (0 : Int), (0 : Int), (0 : Int), (0 : Int), (0 : Int)) = (readA x).2 ∧ (17 : Int) = readAE x)))) := by
  rintro b ⟨⟨-, hb⟩, -⟩ hl
  refine ⟨by omega, ?_⟩
  rintro d e ⟨rfl, rfl⟩
  have bad : ¬ readGood b → ((0, 0, 0, 0, 0, 0) : Probe) = (readA b).1 ∧ ((0, 0, 0, 0, 0, 0) : Ans) = (readA b).2 ∧ (17 : Int) = readAE b := fun k => by
    rw [readA, readAE, if_neg k, if_neg k]; exact ⟨rfl, rfl, rfl⟩
  refine ifP_split (fun h => bad (fun k => nd_t h k.1)) (fun h => ?_)
  have h : decErr b = 0 := nd_f h
  have hdl := dec_len h
  rw [decPkt, if_pos h]
  have hdr : ((b.drop 20).length : Int) ≤ 1000000 := by rw [List.length_drop]; omega
  have hdb : bytes (b.drop 20) := bytes_drop hb
  have eq1 : (pkHdrF b).2.2.2.1 = protoOf b := rfl
  have eq2 : (pkHdrF b).2.2.2.2.2.1 = srcOf b := rfl
  have eq3 : (pkHdrF b).2.2.2.2.2.2 = dstOf b := rfl
  simp only [eq1, eq2, eq3]
  refine ⟨hdr, ?_⟩
  rintro ty code q e ⟨hn, rfl⟩
  (repeat (intro (b_ : Bool) (hb_ : b_ = _); (repeat refine ⟨(by first | (simp; done) | (rw [hb_]; simp; done) | (rw [hb_]; simp; omega) | (rw [hb_]; simp; intros; omega) | (rw [hb_]; simp +contextual; done)), ?_⟩); subst hb_))
  have good : ∀ {P : Probe} {A : Ans}, partR b = (P, A, true) → probeErr (noT P 1) = 0 → readA b = (P, (srcOf b, A.2.1, A.2.2.1, (pkHdrF b).2.2.1, (pkHdrF b).2.1, A.2.2.2.2.2)) ∧ (0 : Int) = readAE b := by
    intro P A hP hg
    have g : readGood b := ⟨h, by rw [hP], by rw [hP]; exact hg⟩
    rw [readA, readAE, if_pos g, if_pos g, hP]; exact ⟨rfl, rfl⟩
  refine ifP_and (fun h1 h2 => ?_) (fun hno => ?_)
  · have he : unNoticeErr (b.drop 20) = 0 := of_decide_eq_true h1
    have hp : protoOf b = 1 := of_decide_eq_true h2
    have hf := notice_first3 he
    have hq : (unNotice (b.drop 20)).2.2 = q := congrArg (fun z : Notice => z.2.2) hn.symm
    have ht : (unNotice (b.drop 20)).1 = ty := congrArg (fun z : Notice => z.1) hn.symm
    have hc : (unNotice (b.drop 20)).2.1 = code := congrArg (fun z : Notice => z.2.1) hn.symm
    have hqb : bytes q := by
      rw [← hq, unNotice, if_pos he]; exact bytes_drop hdb
    have hql := un_notice_len (b.drop 20)
    rw [hq] at hql
    have er : partR b = noticeR (dstOf b) (b.drop 20) := by
      rw [partR, if_neg (by rintro ⟨-, -, k⟩; omega), if_pos hp]
    rw [noticeR, if_pos he, hq, ht, hc] at er
    obtain ⟨s1, s2⟩ := quote_same hqb
    refine ⟨by omega, ?_⟩
    rintro p1 p2 p3 p4 p5 p6 t ok ⟨hP, rfl, rfl⟩
    (repeat (intro (b_ : Bool) (hb_ : b_ = _); (repeat refine ⟨(by first | (simp; done) | (rw [hb_]; simp; done) | (rw [hb_]; simp; omega) | (rw [hb_]; simp; intros; omega) | (rw [hb_]; simp +contextual; done)), ?_⟩); subst hb_))
    refine ifP_or (fun k => bad (fun g => ?_)) (fun k1 k2 => ?_)
    · have g2 := g.2.1
      rw [er] at g2
      simp only [Bool.and_eq_true, decide_eq_true_eq] at g2
      rcases k with k | k
      · rw [← s1, g2.1] at k; cases k
      · refine nd_t k ?_
        rw [← g2.2, (s2 g2.1).1]
        exact congrArg (fun z : Probe => z.1) hP
    · have ok : (quV q).2 = true := by rw [s1]; simpa using k1
      obtain ⟨t1, t2, t3⟩ := s2 ok
      have hg : rqGood q := Classical.byContradiction fun k => by
        rw [s1, rqV, if_neg k] at ok; cases ok
      have k2 : p1 = dstOf b := nd_f k2
      have e1 : (quV q).1.1 = dstOf b := by rw [t1, ← k2]; exact (congrArg (fun z : Probe => z.1) hP).symm
      have eP : noT (quV q).1 0 = (p1, p2, p3, p4, p5, p6) := by
        rw [hP, t1, t2]; exact t3
      rw [ok, decide_eq_true e1, eP] at er
      have r1 : probeErr (noT (p1, p2, p3, p4, p5, p6) 1) = 0 := by rw [hP, t2]; exact hg.2.2
      obtain ⟨u1, u2⟩ := good er r1
      rw [u1, ← u2]
      have et : (quV q).1.2.2.2.2.2 = (rqV q).2.1 := by rw [t1]; rfl
      simp only [et]
      refine ifP_split (fun h1 => ?_) (fun h1 => ifP_split (fun h3 => ?_) (fun h3 => ?_))
      · rw [kindN, if_pos (of_decide_eq_true h1)]; exact (by first | exact ⟨rfl, rfl, rfl⟩ | exact ⟨rfl, trivial, trivial⟩ | exact ⟨trivial, trivial, trivial⟩ | exact ⟨trivial, rfl, trivial⟩)
      · rw [kindN, if_neg (of_decide_eq_false h1), if_pos (of_decide_eq_true h3)]; exact (by first | exact ⟨rfl, rfl, rfl⟩ | exact ⟨rfl, trivial, trivial⟩ | exact ⟨trivial, trivial, trivial⟩ | exact ⟨trivial, rfl, trivial⟩)
      · rw [kindN, if_neg (of_decide_eq_false h1), if_neg (of_decide_eq_false h3)]; exact (by first | exact ⟨rfl, rfl, rfl⟩ | exact ⟨rfl, trivial, trivial⟩ | exact ⟨trivial, trivial, trivial⟩ | exact ⟨trivial, rfl, trivial⟩)
  have hno : ¬ (protoOf b = 1 ∧ unNoticeErr (b.drop 20) = 0) := by
    rintro ⟨k1, k2⟩
    rcases hno with k | k
    · exact of_decide_eq_false k k2
    · exact of_decide_eq_false k k1
  refine ⟨hdr, ?_⟩
  rintro r id sq dt e ⟨hu, rfl⟩
  have tcp : (protoOf b = 1 → ¬ readGood b) → ∀ (d_1 : Seg) (x_11 : Int), d_1 = unTCP (srcOf b) (dstOf b) (b.drop 20) ∧ x_11 = unTCPErr (srcOf b) (dstOf b) (b.drop 20) →
      ifP (bif decide (x_11 = 0) then decide (protoOf b = 6) else false) (∀ c : Bool, c = decide (probeErr (noT (dstOf b, srcOf b, protoOf b, IntKind.i64.wrap (d_1.2.1 - 20000), IntKind.i64.wrap (d_1.2.2.2.1 - 1), 0) 1) = 0) → (c = true → (c = true → c = true) ∧ (c = true → c = true) ∧ True) ∧ (c = true → c = true) ∧ ifP (bif c then sameSeg d_1 (80, d_1.2.1, 0, d_1.2.2.2.1, 20, 0, []) else false)
        ((dstOf b, srcOf b, protoOf b, IntKind.i64.wrap (d_1.2.1 - 20000), IntKind.i64.wrap (d_1.2.2.2.1 - 1), 0) = (readA b).1 ∧ (srcOf b, 4, 0, (pkHdrF b).2.2.1, (pkHdrF b).2.1, 0) = (readA b).2 ∧ 0 = readAE b)
        (((0, 0, 0, 0, 0, 0) : Probe) = (readA b).1 ∧ ((0, 0, 0, 0, 0, 0) : Ans) = (readA b).2 ∧ 17 = readAE b)) (((0, 0, 0, 0, 0, 0) : Probe) = (readA b).1 ∧ ((0, 0, 0, 0, 0, 0) : Ans) = (readA b).2 ∧ 17 = readAE b) := by
    rintro hicmp t _ ⟨ht, rfl⟩
    have hr := un_tcp_rng (s := srcOf b) (d := dstOf b) hdb
    rw [← ht] at hr
    rw [w64 (by omega) (by omega), w64 (by omega) (by omega)]
    refine ifP_and (fun h1 h6 => ?_) (fun hn6 => bad (fun g => ?_))
    · have h1 : unTCPErr (srcOf b) (dstOf b) (b.drop 20) = 0 := of_decide_eq_true h1
      have h6 : protoOf b = 6 := of_decide_eq_true h6
      have er : partR b = resetR (srcOf b) (dstOf b) (b.drop 20) := by
        rw [partR, if_neg (by omega), if_neg (by omega), if_pos h6]
      rw [h6]
      rintro c rfl
      refine ⟨fun _ => ⟨fun z => z, fun z => z, trivial⟩, fun z => z, ?_⟩
      refine ifP_and (fun k1 k2 => ?_) (fun k => bad (fun g => ?_))
      · have k1 := of_decide_eq_true k1
        have k2 : t = (80, t.2.1, 0, t.2.2.2.1, 20, 0, []) := of_decide_eq_true k2
        have hg : resetGood (srcOf b) (dstOf b) (b.drop 20) := by
          unfold resetGood
          rw [← ht, k2]; exact ⟨h1, rfl, rfl, rfl, rfl, rfl⟩
        rw [resetR, if_pos hg, ← ht] at er
        obtain ⟨u1, u2⟩ := good er k1
        rw [u1, ← u2]; exact ⟨rfl, rfl, rfl⟩
      · have g2 := g.2.1
        have g3 := g.2.2
        have hg : resetGood (srcOf b) (dstOf b) (b.drop 20) := Classical.byContradiction fun k => by
          rw [er, resetR, if_neg k] at g2; cases g2
        rw [er, resetR, if_pos hg, ← ht] at g3
        obtain ⟨-, q1, q2, q3, q4, q5⟩ := hg
        rw [← ht] at q1 q2 q3 q4 q5
        rcases k with k | k
        · exact of_decide_eq_false k g3
        · refine of_decide_eq_false (show decide (t = _) = false from k) ?_
          simp only [Prod.ext_iff]
          exact ⟨q1, trivial, q2, trivial, q3, q4, q5⟩
    · by_cases h1 : protoOf b = 1
      · exact hicmp h1 g
      · have g2 := g.2.1
        by_cases h6 : protoOf b = 6
        · rw [partR, if_neg (by omega), if_neg h1, if_pos h6] at g2
          have hg : resetGood (srcOf b) (dstOf b) (b.drop 20) := Classical.byContradiction fun k => by
            rw [resetR, if_neg k] at g2; cases g2
          rcases hn6 with k | k
          · exact of_decide_eq_false k hg.1
          · exact of_decide_eq_false k h6
        · rw [partR, if_neg (by omega), if_neg h1, if_neg h6] at g2; cases g2
  have icmp : (¬ (echoGood (b.drop 20) ∧ probeErr (noT (echoR (srcOf b) (dstOf b) (b.drop 20)).1 1) = 0)) → protoOf b = 1 → ¬ readGood b := by
    intro hne h1 g
    have g2 := g.2.1
    have g3 := g.2.2
    by_cases hc : 0 < (b.drop 20).length ∧ (b.drop 20).getD 0 default = 0
    · rw [partR, if_pos ⟨h1, hc⟩] at g2 g3
      refine hne ⟨Classical.byContradiction fun k => ?_, g3⟩
      rw [echoR, if_neg k] at g2; cases g2
    · rw [partR, if_neg (fun k => hc k.2), if_pos h1, noticeR, if_neg (fun k => hno ⟨h1, k⟩)] at g2
      cases g2
  have eqE : echoGood (b.drop 20) ↔ (unEchoErr (b.drop 20) = 0 ∧ r = true ∧ id = 21075 ∧ dt.length = 2) := by
    unfold echoGood; rw [← hu]
  (repeat (intro (b_ : Bool) (hb_ : b_ = _); (repeat refine ⟨(by first | (simp +contextual; done) | (rw [hb_]; simp +contextual; done) | (rw [hb_]; simp; omega) | (rw [hb_]; simp; intros; omega) | (rw [hb_]; simp +contextual; intros; omega) | (intros; simp_all; done) | (intros; simp_all; omega)), ?_⟩))); subst_vars
  refine ifP_and (fun k1 k2 => ?_) (fun k => ?_)
  · simp [Bool.cond_eq_ite] at k1
    have hp : protoOf b = 1 := k1.1.1.2
    have hg : echoGood (b.drop 20) := eqE.2 ⟨k1.1.1.1, k1.1.2, k1.2, by have := of_decide_eq_true k2; omega⟩
    have h8 := echo_len8 hg.1
    have hw := bytes_word hdb 2
    have hz : (b.drop 20).getD 0 default = 0 := by
      have := hg.2.1
      rw [unEcho, if_pos hg.1] at this
      exact of_decide_eq_true this
    have er : partR b = echoR (srcOf b) (dstOf b) (b.drop 20) := by rw [partR, if_pos ⟨hp, by omega, hz⟩]
    refine ⟨by omega, ?_⟩
    rintro _ rfl
    rw [gV2 (by omega) (by omega), show Int.toNat 2 = 2 from rfl, w64 (n := wordAt (b.drop 20) 2 - 16384) (by omega) (by omega), w64 (by omega) (by omega), hp]
    have efl : wordAt (b.drop 20) 2 - 16384 - 2048 = wordAt (b.drop 20) 2 - 18432 := by omega
    rw [efl]
    have ee : echoR (srcOf b) (dstOf b) (b.drop 20) = ((dstOf b, srcOf b, 1, wordAt (b.drop 20) 2 - 18432, sq, 0), (0, 2, 0, 0, 0, 0), true) := by
      rw [echoR, if_pos hg, ← hu]
    refine ifP_split (fun hr => ?_) (fun hr => ⟨hdr, ?_⟩)
    · rw [ee] at er
      obtain ⟨u1, u2⟩ := good er (of_decide_eq_true hr)
      rw [u1, ← u2]; exact ⟨rfl, rfl, rfl⟩
    · rintro t x hx
      have := tcp (fun h1 => icmp (fun k => of_decide_eq_false hr (by have := k.2; rw [ee] at this; exact this)) h1) t x hx
      rw [hp] at this
      (repeat (intro (b_ : Bool) (hb_ : b_ = _); (repeat refine ⟨(by first | (simp; done) | (rw [hb_]; simp; done) | (rw [hb_]; simp; omega) | (rw [hb_]; simp; intros; omega) | (rw [hb_]; simp +contextual; done)), ?_⟩); subst hb_))
      exact this
  · refine ⟨hdr, ?_⟩
    rintro t x hx
    have := tcp (fun h1 => icmp (fun q => ?_) h1) t x hx
    · (repeat (intro (b_ : Bool) (hb_ : b_ = _); (repeat refine ⟨(by first | (simp; done) | (rw [hb_]; simp; done) | (rw [hb_]; simp; omega) | (rw [hb_]; simp; intros; omega) | (rw [hb_]; simp +contextual; done)), ?_⟩); subst hb_))
      exact this
    · have q := eqE.1 q.1
      rw [q.1, q.2.1, q.2.2.1, q.2.2.2] at k
      simp at k
      exact k h1
theorem ok_ref08_Read : SpecOK Tryz.prog GL 42 ct_ref08_Read.spec := Ct.ok' _ Tryz.func42 (by kernel_rfl) (withSpec_ok (withSpec_ok (withSpec_ok (withSpec_ok (withSpec_ok (withSpec_ok (withSpec_ok (withSpec_ok noSpecs_ok (Ct.named ok_ref05_Decode)) (Ct.named ok_ref06_DecodeNotice)) (Ct.named ok_ref08_quoted)) (Ct.named ok_ref06_DecodeEcho)) (Ct.named ok_ref04_At)) ok_ref08_right) (Ct.named ok_ref06_DecodeTCP)) ok_ref06_SameSegment) hmix an_ref08_Read (Eq.mpr (by kernel_rfl) vc_ref08_Read)
end Go.RS

