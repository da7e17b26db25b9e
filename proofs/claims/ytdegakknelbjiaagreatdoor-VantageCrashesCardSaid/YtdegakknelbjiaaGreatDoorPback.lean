/- Pback: probes read back from their packets. -/
import Derived.Test.YtdegakknelbjiaaGreatDoorProbe
namespace Go.RS
open Go.SX Go.Proofs
set_option maxRecDepth 100000
set_option linter.unusedVariables false

theorem okC_new (m : Int) (hm : 0 ≤ m) (l : List Int) : okC (if (l.length : Int) ≤ m then l else l.take (Int.toNat m), 0) := by
  split <;> simp [okC]
def u32 (n : Int) : Prop := 0 ≤ n ∧ n ≤ 4294967295
theorem pk_list (h : Header) (n : Int) (X : List Int) : hdrB h n ++ X = 69 :: h.1 :: n / 256 % 256 :: n % 256 :: h.2.1 / 256 % 256 :: h.2.1 % 256 :: (if h.2.2.2.2.1 then (16384 : Int) else 0) / 256 % 256 :: (if h.2.2.2.2.1 then (16384 : Int) else 0) % 256 :: h.2.2.1 :: h.2.2.2.1 ::
    csum (hdrBody h n) / 256 % 256 :: csum (hdrBody h n) % 256 :: h.2.2.2.2.2.1 / 16777216 % 256 :: h.2.2.2.2.2.1 / 65536 % 256 :: h.2.2.2.2.2.1 / 256 % 256 :: h.2.2.2.2.2.1 % 256 :: h.2.2.2.2.2.2 / 16777216 % 256 :: h.2.2.2.2.2.2 / 65536 % 256 :: h.2.2.2.2.2.2 / 256 % 256 :: h.2.2.2.2.2.2 % 256 :: X := rfl
theorem num4_back {n : Int} (h : u32 n) : ((n / 16777216 % 256 * 256 + n / 65536 % 256) * 256 + n / 256 % 256) * 256 + n % 256 = n := by
  obtain ⟨h0, h1⟩ := h; omega
/-- A packet is read back from its bytes. -/
theorem pk_back {h : Header} {X : List Int} (hk : hdrOK h) (hs : u32 h.2.2.2.2.2.1) (hd : u32 h.2.2.2.2.2.2) (hl : (X.length : Int) ≤ 1480) (hX : bytes X) :
    pkHdrF (hdrB h (20 + X.length) ++ X) = h ∧ decErr (hdrB h (20 + X.length) ++ X) = 0 ∧ (hdrB h (20 + X.length) ++ X).drop 20 = X := by
  have hbb : bytes (hdrB h (20 + X.length) ++ X) := bytes_app (hdrB_bytes hk) hX
  have hlen : (hdrB h (20 + X.length) ++ X).length = 20 + X.length := by rw [List.length_append, hdrB_len]
  have hc := csum_range (hdr_bytes (n := 20 + X.length) hk)
  obtain ⟨tos, id, ttl, pr, kp, s, d⟩ := h
  obtain ⟨h1, h2, h3, h4, h5⟩ := hk
  simp only at h1 h2 h3 h4 h5 hs hd
  have E := pk_list (tos, id, ttl, pr, kp, s, d) (20 + X.length) X
  simp only at E
  have w2e : wordAt (hdrB (tos, id, ttl, pr, kp, s, d) (20 + X.length) ++ X) 2 = 20 + X.length := by
    rw [E]; show wordAt (_ :: _ :: _) 0 = _; rw [wordAt0]; exact word_w2 (by omega) (by omega)
  have w4e : wordAt (hdrB (tos, id, ttl, pr, kp, s, d) (20 + X.length) ++ X) 4 = id := by
    rw [E]; show wordAt (_ :: _ :: _) 0 = _; rw [wordAt0]; exact word_w2 h4 h5
  have w6e : wordAt (hdrB (tos, id, ttl, pr, kp, s, d) (20 + X.length) ++ X) 6 = if kp then 16384 else 0 := by
    rw [E]; show wordAt (_ :: _ :: _) 0 = _; rw [wordAt0]; cases kp <;> rfl
  have w10e : wordAt (hdrB (tos, id, ttl, pr, kp, s, d) (20 + X.length) ++ X) 10 = csum (hdrBody (tos, id, ttl, pr, kp, s, d) (20 + X.length)) := by
    rw [E]; show wordAt (_ :: _ :: _) 0 = _; rw [wordAt0]; exact word_w2 hc.1 hc.2
  have hF : pkHdrF (hdrB (tos, id, ttl, pr, kp, s, d) (20 + X.length) ++ X) = (tos, id, ttl, pr, kp, s, d) := by
    unfold pkHdrF
    rw [w4e, w6e, E]
    have e1 : decide ((if kp = true then (16384 : Int) else 0) = 16384) = kp := by cases kp <;> rfl
    rw [e1]
    have e2 := num4_back hs
    have e3 := num4_back hd
    show (tos, id, ttl, pr, kp, numB [_, _, _, _], numB [_, _, _, _]) = _
    rw [numB4, numB4, e2, e3]
  refine ⟨hF, ?_, ?_⟩
  · have hb := hdr_body hbb (by omega) (by rw [E]; rfl) (by rw [w6e]; cases kp <;> simp)
    rw [hF, w2e, w10e] at hb
    have ht : (hdrB (tos, id, ttl, pr, kp, s, d) (20 + X.length) ++ X).take 20 = hdrB (tos, id, ttl, pr, kp, s, d) (20 + X.length) := by
      rw [List.take_append_of_le_length (by rw [hdrB_len]; omega), List.take_of_length_le (by rw [hdrB_len]; omega)]
    have hp : pkErr (hdrB (tos, id, ttl, pr, kp, s, d) (20 + X.length) ++ X) = 0 := by
      rw [pkErr, if_neg (by omega), if_neg, if_neg]
      · rw [Decidable.not_not, w10e, ← hb.1]
      · rw [Decidable.not_not]
        refine ⟨by rw [E]; rfl, by rw [w6e]; cases kp <;> simp, by rw [w2e]; omega⟩
    rw [decErr, if_neg (fun k => k hp), if_neg (by rw [w2e, hlen]; omega), if_neg (by rw [w2e]; omega)]
  · rw [List.drop_append, hdrB_len, List.drop_of_length_le (by rw [hdrB_len]; omega)]; simp
theorem dec_build {p : Probe} (h : probeErr p = 0) (hs : u32 p.1) (hd : u32 p.2.1) : pkHdrF (build p) = hdrP p ∧ decErr (build p) = 0 ∧ (build p).drop 20 = conP p := by
  rw [build_eq h]
  refine pk_back (hdrP_ok h) hs hd ?_ (con_bytes h)
  rcases con_len h with h | h <;> omega
theorem sumF_echo (t n : Int) : sumF true (echoBody (false, 21075, t, w2 n)) = sumF true (echoBody (false, 21075, t, [0, 0])) + (n / 256 % 256 * 256 + n % 256) := by
  simp [echoBody, w2, sumF]; omega
theorem sumF_udp (f n : Int) : sumF true (udpBody (20000 + f, 33434, w2 n)) = sumF true (udpBody (20000 + f, 33434, [0, 0])) + (n / 256 % 256 * 256 + n % 256) := by
  simp [udpBody, w2, sumF]; omega
theorem sum_echo_pos (t : Int) : 2048 ≤ sumF true (echoBody (false, 21075, t, [0, 0])) := by
  simp [echoBody, w2, sumF]; omega
/-- The ICMP checksum is the flow's. -/
theorem echo_sum {p : Probe} (h : rangeOK p) : csum (echoBody (conEcho p)) = 16384 + p.2.2.2.1 := by
  have hn := icmpN_pos h
  obtain ⟨⟨f0, f1⟩, -⟩ := h
  have e : icmpN p = oc (65535 - (16384 + p.2.2.2.1) + csum (echoBody (false, 21075, p.2.2.2.2.1, [0, 0]))) := rfl
  have hp := sum_echo_pos p.2.2.2.2.1
  unfold conEcho csum
  rw [sumF_echo, word_w2 (by omega) hn.2, e]
  unfold csum
  generalize sumF true (echoBody (false, 21075, p.2.2.2.2.1, [0, 0])) = S at hp ⊢
  unfold oc
  rw [if_neg (by omega : ¬ S = 0)]
  rw [if_neg (by omega), if_neg (by omega)]
  omega
theorem udp_sum {p : Probe} (h : rangeOK p) : sumU p.1 p.2.1 (udpBody (conDgram p)) = p.2.2.2.2.1 + 1 := by
  have hn := udpN_pos h
  obtain ⟨-, ⟨t0, t1⟩, -⟩ := h
  have l0 : (udpBody (20000 + p.2.2.2.1, 33434, [0, 0])).length = 10 := rfl
  have l1 : (udpBody (conDgram p)).length = 10 := rfl
  have eX : udpX p = oc (65535 - (p.2.2.2.2.1 + 1) + pseudo p.1 p.2.1 17 (udpBody (20000 + p.2.2.2.1, 33434, [0, 0]))) := rfl
  have eN : udpN p = if udpX p = 0 then 65535 else udpX p := rfl
  have hp := head_nonneg p.1 p.2.1 17 10
  have h2 := (sumF_range true (udpBody (20000 + p.2.2.2.1, 33434, [0, 0])) (bytes_udp0 _)).1
  have eP : pseudo p.1 p.2.1 17 (udpBody (20000 + p.2.2.2.1, 33434, [0, 0])) = 65535 - oc (sumF true (headP p.1 p.2.1 17 10) + sumF true (udpBody (20000 + p.2.2.2.1, 33434, [0, 0]))) := by
    rw [pseudo, if_neg (by rw [l0]; omega), csum, pseudo_sum, l0]; rfl
  have eQ : pseudo p.1 p.2.1 17 (udpBody (conDgram p)) = 65535 - oc (sumF true (headP p.1 p.2.1 17 10) + (sumF true (udpBody (20000 + p.2.2.2.1, 33434, [0, 0])) + udpN p)) := by
    rw [pseudo, if_neg (by rw [l1]; omega), csum, pseudo_sum, l1]
    unfold conDgram
    rw [sumF_udp, word_w2 (by omega) hn.2]; rfl
  rw [sumU, eQ]
  rw [eP] at eX
  generalize sumF true (headP p.1 p.2.1 17 10) = H at *
  generalize sumF true (udpBody (20000 + p.2.2.2.1, 33434, [0, 0])) = S at *
  generalize udpN p = N at *
  generalize udpX p = X at *
  generalize p.2.2.2.2.1 = t at *
  have hH : (17 : Int) % 256 = 17 := rfl
  rw [hH] at hp
  clear eP eQ l0 l1 hH
  have hN : (N - (65535 - (t + 1) + (65535 - (H + S)))) % 65535 = 0 := by
    unfold oc at eX
    rw [if_neg (by omega : ¬ H + S = 0)] at eX
    split at eX <;> split at eN <;> omega
  unfold oc
  rw [if_neg (by omega : ¬ H + (S + N) = 0)]
  split <;> omega
def keyA (p : Probe) : Int := if p.2.2.1 = 1 then 2048 else 20000 + p.2.2.2.1
def keyC (p : Probe) : Int := if p.2.2.1 = 1 then 16384 + p.2.2.2.1 else if p.2.2.1 = 17 then 33434 else 80
theorem con_words {p : Probe} (h : probeErr p = 0) : wordAt (conP p) 0 = keyA p ∧ wordAt (conP p) 2 = keyC p := by
  obtain ⟨h1 | h1 | h1, h2⟩ := probe_ok.1 h
  · have hs := echo_sum h2
    have hf := h2.1
    rw [con_echo h2 h1, keyA, keyC, if_pos h1, if_pos h1, word_setW_ne (by show 0 + 2 ≤ 10; omega) (by omega), word_setW (by show 2 + 2 ≤ 10; omega) (by omega) (by omega), hs]
    exact ⟨rfl, rfl⟩
  · have hf := h2.1
    rw [con_tcp h2 h1, keyA, keyC, if_neg (by omega), if_neg (by omega), if_neg (by omega), word_setW_ne (by show 0 + 2 ≤ 20; omega) (by omega), word_setW_ne (by show 2 + 2 ≤ 20; omega) (by omega)]
    constructor
    · show wordAt (_ :: _ :: _) 0 = _; rw [wordAt0]; exact word_w2 (n := 20000 + p.2.2.2.1) (by omega) (by omega)
    · rfl
  · have hf := h2.1
    rw [con_udp h2 h1, keyA, keyC, if_neg (by omega), if_neg (by omega), if_pos h1, word_setW_ne (by show 0 + 2 ≤ 10; omega) (by omega), word_setW_ne (by show 2 + 2 ≤ 10; omega) (by omega)]
    constructor
    · show wordAt (_ :: _ :: _) 0 = _; rw [wordAt0]; exact word_w2 (n := 20000 + p.2.2.2.1) (by omega) (by omega)
    · rfl
theorem key_build {p : Probe} (h : probeErr p = 0) (hs : u32 p.1) (hd : u32 p.2.1) : keyB (build p) = (p.1, p.2.1, p.2.2.1, keyA p, keyC p) := by
  obtain ⟨e1, e2, e3⟩ := dec_build h hs hd
  have hp := (probe_ok.1 h).1
  have hw := con_words h
  rw [key_proto e2, e1, e3, keyPkt]
  have hl : protoOK (hdrP p).2.2.2.1 ∧ 4 ≤ (conP p).length := ⟨hp, by rcases con_len h with h | h <;> omega⟩
  simp only
  rw [if_pos hl, if_pos hl, hw.1, hw.2]; rfl
theorem keyOf_eq {p : Probe} (h : probeErr p = 0) (hs : u32 p.1) (hd : u32 p.2.1) : keyOf p = (p.1, p.2.1, p.2.2.1, keyA p, keyC p) ∧ keyOfE p = 0 := by
  rw [keyOf, keyOfE, if_pos h, if_pos h]
  exact ⟨key_build h hs hd, (dec_build h hs hd).2.1⟩
theorem cand_build {p : Probe} (h : probeErr p = 0) (hs : u32 p.1) (hd : u32 p.2.1) : cand (build p) = p := by
  obtain ⟨e1, e2, e3⟩ := dec_build h hs hd
  rw [cand, key_build h hs hd, e1]
  obtain ⟨s, d, pr, f, t, l⟩ := p
  obtain ⟨hp, -⟩ := probe_ok.1 h
  simp only [hdrP, keyA, keyC] at hp ⊢
  rcases hp with rfl | rfl | rfl
  · rw [if_pos rfl, if_pos rfl]; simp; omega
  · rw [if_neg (by omega), if_neg (by omega)]; simp; omega
  · rw [if_neg (by omega), if_neg (by omega)]; simp; omega
theorem read_build {p : Probe} (h : probeErr p = 0) (hs : u32 p.1) (hd : u32 p.2.1) : readP (build p) = p ∧ readE (build p) = 0 := by
  have hc := cand_build h hs hd
  have hk : readOK (build p) := ⟨(dec_build h hs hd).2.1, by rw [hc]; exact h, by rw [hc]⟩
  rw [readP, readE, if_pos hk, if_pos hk]; exact ⟨hc, rfl⟩
theorem build_inj {p q : Probe} (h : probeErr p = 0) (hs : u32 p.1) (hd : u32 p.2.1) (h' : probeErr q = 0) (hs' : u32 q.1) (hd' : u32 q.2.1) : build p = build q ↔ p = q := by
  constructor
  · intro e
    have := cand_build h hs hd
    rw [e, cand_build h' hs' hd'] at this; exact this.symm
  · rintro rfl; rfl
theorem low_build {p : Probe} (h : probeErr p = 0) (hs : u32 p.1) (hd : u32 p.2.1) :
    (p.2.2.2.2.2 < 2 → lowErr (build p) = 7) ∧ (2 ≤ p.2.2.2.2.2 → lowErr (build p) = 0 ∧ lowB (build p) = build (p.1, p.2.1, p.2.2.1, p.2.2.2.1, p.2.2.2.2.1, p.2.2.2.2.2 - 1) ∧ probeErr (p.1, p.2.1, p.2.2.1, p.2.2.2.1, p.2.2.2.2.1, p.2.2.2.2.2 - 1) = 0) := by
  obtain ⟨e1, e2, e3⟩ := dec_build h hs hd
  constructor
  · intro hl
    rw [lowErr, if_neg (fun k => k e2), e1]; exact if_pos hl
  · intro hl
    have l0 : lowErr (build p) = 0 := by rw [lowErr, if_neg (fun k => k e2), e1, if_neg (by show ¬ p.2.2.2.2.2 < 2; omega)]
    have hq : probeErr (p.1, p.2.1, p.2.2.1, p.2.2.2.1, p.2.2.2.2.1, p.2.2.2.2.2 - 1) = 0 := by
      obtain ⟨k1, k2, k3, k4, k5⟩ := probe_ok.1 h
      exact probe_ok.2 ⟨k1, k2, k3, by simp only; omega, by simp only; omega⟩
    refine ⟨l0, ?_, hq⟩
    rw [lowB, if_pos l0, e1, e3, build, if_pos hq]; rfl

def ct_draw_Codes_Probe : Cn := ⟨[.box 69 cCodes], [.agg cProbe], fun d => [okC d.1], fun d y => okC y.2.1 ∧ u32 y.1.1.1 ∧ u32 y.1.1.2.1, fun d h => ⟨((probe0, ()), (d.1, ())), h.1, by simp [u32, probe0], by simp [u32, probe0]⟩⟩
def an_draw_Codes_Probe : PDs ct_draw_Codes_Probe.ps → Anns := (fun _ => {})
theorem vc_draw_Codes_Probe :
    ∀ (x : List Int) (x_1 : Int), ((List.length x ≤ maxLen ∧ ∀ (x_2 : Int), x_2 ∈ x → (0 : Int) ≤ x_2 ∧ x_2 ≤ (255 : Int)) ∧ (-9223372036854775808 : Int) ≤ x_1 ∧ x_1 ≤ (9223372036854775807 : Int)) ∧ True
     → (0 : Int) ≤ x_1 ∧ x_1 ≤ (↑(List.length x) : Int) → okC (x, x_1) ∧ ∀ (x : Int) (x_2 : List Int) (x_3 : Int), okC (x_2, x_3) ∧ (0 : Int) ≤ x ∧ x ≤ (4294967295 : Int) → okC (x_2, x_3) ∧ ∀ (x_4 : Int)
     (x_5 : List Int) (x_6 : Int), okC (x_5, x_6) ∧ (0 : Int) ≤ x_4 ∧ x_4 ≤ (4294967295 : Int) → okC (x_5, x_6) ∧ ∀ (x_7 : Int) (x_8 : List Int) (x_9 : Int), okC (x_8, x_9) ∧ (x_7 = (17 : Int) ∨ x_7 = (1 :
     Int) ∨ x_7 = (6 : Int)) → okC (x_8, x_9) ∧ ∀ (x_10 : Int) (x_11 : List Int) (x_12 : Int), (0 : Int) ≤ x_10 ∧ (x_10 < (6 : Int) ∨ x_10 = (0 : Int)) ∧ okC (x_11, x_12) → okC (x_11, x_12) ∧ ∀ (x_13 :
     Int) (x_14 : List Int) (x_15 : Int), (0 : Int) ≤ x_13 ∧ (x_13 < (2000 : Int) ∨ x_13 = (0 : Int)) ∧ okC (x_14, x_15) → okC (x_14, x_15) ∧ ∀ (x_16 : Int) (x_17 : List Int) (x_18 : Int), (0 : Int) ≤ x_16
     ∧ (x_16 < (6 : Int) ∨ x_16 = (0 : Int)) ∧ okC (x_17, x_18) → okC (x_17, x_18) ∧ ∀ (x_19 : Int) (x_20 : List Int) (x_21 : Int), (0 : Int) ≤ x_19 ∧ (x_19 < (12 : Int) ∨ x_19 = (0 : Int)) ∧ okC (x_20,
     x_21) → ifP (decide (x_19 = (8 : Int))) (okC (x_20, x_21) ∧ u32 x ∧ u32 x_4) (ifP (decide (x_19 = (9 : Int))) (okC (x_20, x_21) ∧ ∀ (x_22 : Int) (x_23 : List Int) (x_24 : Int), okC (x_23, x_24) ∧
     (-9223372036854775808 : Int) ≤ x_22 ∧ x_22 ≤ (9223372036854775807 : Int) → okC (x_23, x_24) ∧ ∀ (x_25 : Int) (x_26 : List Int) (x_27 : Int), okC (x_26, x_27) ∧ (-9223372036854775808 : Int) ≤ x_25 ∧
     x_25 ≤ (9223372036854775807 : Int) → okC (x_26, x_27) ∧ u32 x ∧ u32 x_4) (ifP (decide (x_19 = (10 : Int))) (okC (x_20, x_21) ∧ ∀ (x_22 : Int) (x_23 : List Int) (x_24 : Int), okC (x_23, x_24) ∧
     (-9223372036854775808 : Int) ≤ x_22 ∧ x_22 ≤ (9223372036854775807 : Int) → okC (x_23, x_24) ∧ u32 x ∧ u32 x_4) (ifP (decide (x_19 = (11 : Int))) (okC (x_20, x_21) ∧ ∀ (x_22 : Int) (x_23 : List Int)
     (x_24 : Int), okC (x_23, x_24) ∧ (-9223372036854775808 : Int) ≤ x_22 ∧ x_22 ≤ (9223372036854775807 : Int) → okC (x_23, x_24) ∧ u32 x ∧ u32 x_4) (okC (x_20, x_21) ∧ u32 x ∧ u32 x_4)))) := by
  rintro l p - h
  refine ⟨h, ?_⟩
  rintro s _ _ ⟨hc, s0, s1⟩
  refine ⟨hc, ?_⟩
  rintro d _ _ ⟨hc, d0, d1⟩
  refine ⟨hc, ?_⟩
  rintro _ _ _ ⟨hc, -⟩
  refine ⟨hc, ?_⟩
  rintro _ _ _ ⟨-, -, hc⟩
  refine ⟨hc, ?_⟩
  rintro _ _ _ ⟨-, -, hc⟩
  refine ⟨hc, ?_⟩
  rintro _ _ _ ⟨-, -, hc⟩
  refine ⟨hc, ?_⟩
  rintro _ _ _ ⟨-, -, hc⟩
  have fin : ∀ q, okC q → okC q ∧ u32 s ∧ u32 d := fun q hq => ⟨hq, ⟨s0, s1⟩, d0, d1⟩
  refine ifP_split (fun _ => fin _ hc) (fun _ => ifP_split (fun _ => ⟨hc, ?_⟩) (fun _ => ifP_split (fun _ => ⟨hc, ?_⟩) (fun _ => ifP_split (fun _ => ⟨hc, ?_⟩) (fun _ => fin _ hc))))
  · rintro _ _ _ ⟨hc, -⟩
    refine ⟨hc, ?_⟩
    rintro _ _ _ ⟨hc, -⟩
    exact fin _ hc
  · rintro _ _ _ ⟨hc, -⟩
    exact fin _ hc
  · rintro _ _ _ ⟨hc, -⟩
    exact fin _ hc
theorem ok_draw_Codes_Probe : SpecOK Tryz.prog GL 24 ct_draw_Codes_Probe.spec := Cn.ok' _ Tryz.func24 (by kernel_rfl) (withSpec_ok (withSpec_ok (withSpec_ok (withSpec_ok noSpecs_ok ok_draw_Codes_Address) ok_draw_Codes_Proto) ok_Next) ok_draw_Codes_Int) hmix an_draw_Codes_Probe (Eq.mpr (by kernel_rfl) vc_draw_Codes_Probe)

def ct_draw_Codes_Right : Cn := ⟨[.box 69 cCodes], [.agg cProbe], fun d => [okC d.1], fun d y => okC y.2.1 ∧ u32 y.1.1.1 ∧ u32 y.1.1.2.1 ∧ probeErr y.1.1 = 0, fun d h => ⟨(((0, 0, 1, 0, 0, 1), ()), (d.1, ())), h.1, by simp [u32], by simp [u32], rfl⟩⟩
def an_draw_Codes_Right : PDs ct_draw_Codes_Right.ps → Anns := (fun _ => {})
theorem vc_draw_Codes_Right :
    ∀ (x : List Int) (x_1 : Int), ((List.length x ≤ maxLen ∧ ∀ (x_2 : Int), x_2 ∈ x → (0 : Int) ≤ x_2 ∧ x_2 ≤ (255 : Int)) ∧ (-9223372036854775808 : Int) ≤ x_1 ∧ x_1 ≤ (9223372036854775807 : Int)) ∧ True
     → (0 : Int) ≤ x_1 ∧ x_1 ≤ (↑(List.length x) : Int) → okC (x, x_1) ∧ ∀ (x x_2 x_3 x_4 x_5 x_6 : Int) (x_7 : List Int) (x_8 : Int), okC (x_7, x_8) ∧ u32 x ∧ u32 x_2 → ifP (!decide (probeErr (x, x_2,
     x_3, x_4, x_5, x_6) = (0 : Int))) (okC (x_7, x_8) ∧ ∀ (x_9 : Int) (x_10 : List Int) (x_11 : Int), okC (x_10, x_11) ∧ (x_9 = (17 : Int) ∨ x_9 = (1 : Int) ∨ x_9 = (6 : Int)) → okC (x_10, x_11) ∧ ∀ (x_12
     : Int) (x_13 : List Int) (x_14 : Int), (0 : Int) ≤ x_12 ∧ (x_12 < (4 : Int) ∨ x_12 = (0 : Int)) ∧ okC (x_13, x_14) → okC (x_13, x_14) ∧ ∀ (x_15 : Int) (x_16 : List Int) (x_17 : Int), (0 : Int) ≤ x_15
     ∧ (x_15 < (100 : Int) ∨ x_15 = (0 : Int)) ∧ okC (x_16, x_17) → okC (x_16, x_17) ∧ ∀ (x_18 : Int) (x_19 : List Int) (x_20 : Int), (0 : Int) ≤ x_18 ∧ (x_18 < (5 : Int) ∨ x_18 = (0 : Int)) ∧ okC (x_19,
     x_20) → okC (x_19, x_20) ∧ u32 x ∧ u32 x_2 ∧ probeErr (x, x_2, x_9, x_12, x_15, IntKind.wrap IntKind.i64 ((1 : Int) + x_18)) = (0 : Int)) (okC (x_7, x_8) ∧ u32 x ∧ u32 x_2 ∧ probeErr (x, x_2, x_3,
     x_4, x_5, x_6) = (0 : Int)) := by
  rintro l p - h
  refine ⟨h, ?_⟩
  rintro s d pr f t l _ _ ⟨hc, hs, hd⟩
  refine ifP_split (fun _ => ⟨hc, ?_⟩) (fun hn => ⟨hc, hs, hd, by simpa using hn⟩)
  rintro pr _ _ ⟨hc, hp⟩
  refine ⟨hc, ?_⟩
  rintro f _ _ ⟨f0, f1, hc⟩
  refine ⟨hc, ?_⟩
  rintro t _ _ ⟨t0, t1, hc⟩
  refine ⟨hc, ?_⟩
  rintro l _ _ ⟨l0, l1, hc⟩
  rw [w64 (n := 1 + l) (by omega) (by omega)]
  refine ⟨hc, hs, hd, probe_ok.2 ⟨?_, ⟨?_, ?_⟩, ⟨?_, ?_⟩, ?_, ?_⟩⟩ <;> simp only [protoOK] <;> omega
theorem ok_draw_Codes_Right : SpecOK Tryz.prog GL 19 ct_draw_Codes_Right.spec := Cn.ok' _ Tryz.func19 (by kernel_rfl) (withSpec_ok (withSpec_ok (withSpec_ok (withSpec_ok noSpecs_ok ok_draw_Codes_Probe) ok_ref07_Check) ok_draw_Codes_Proto) ok_Next) hmix an_draw_Codes_Right (Eq.mpr (by kernel_rfl) vc_draw_Codes_Right)
end Go.RS

