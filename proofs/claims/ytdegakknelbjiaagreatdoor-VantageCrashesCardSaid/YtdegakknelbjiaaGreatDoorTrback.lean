/- Trback: messages are decoded from their encodings; what damage does. -/
import Derived.Test.YtdegakknelbjiaaGreatDoorTrdec
namespace Go.RS
open Go.SX Go.Proofs
set_option maxRecDepth 100000
set_option linter.unusedVariables false

def okEcho (data : List Int) (e : Echo) : Prop := (word16 e.2.1 = true ∧ word16 e.2.2.1 = true) ∧ e.2.2.2 = data
def okNotice (data : List Int) (n : Notice) : Prop := ((n.1 = 3 ∨ n.1 = 11) ∧ 0 ≤ n.2.1 ∧ n.2.1 ≤ 255) ∧ n.2.2 = List.replicate 28 0 ++ data
def okDgram (data : List Int) (u : Dgram) : Prop := (word16 u.1 = true ∧ word16 u.2.1 = true) ∧ u.2.2 = data
def okSeg (data : List Int) (s : Seg) : Prop := tcpOK s ∧ s.2.2.2.2.2.2 = data
theorem word_w2 {n : Int} (h0 : 0 ≤ n) (h1 : n ≤ 65535) : n / 256 % 256 * 256 + n % 256 = n := by omega
theorem echo_shape {e : Echo} (h : echoErr e = 0) : echoEnc e = (if e.1 then 0 else 8) :: 0 :: (csum (echoBody e) / 256 % 256) :: (csum (echoBody e) % 256) :: (e.2.1 / 256 % 256) :: (e.2.1 % 256) :: (e.2.2.1 / 256 % 256) :: (e.2.2.1 % 256) :: e.2.2.2 := by
  rw [echoEnc, if_pos h]; rfl
theorem echo_good {data : List Int} {e : Echo} (h : okEcho data e) (hl : (data.length : Int) ≤ 1472) : echoErr e = 0 := by
  rw [echoErr, if_neg (fun k => k h.1), if_neg (by rw [h.2]; omega)]
theorem un_echo {data : List Int} {e : Echo} (h : okEcho data e) (hd : bytes data) (hl : (data.length : Int) ≤ 1472) : unEchoErr (echoEnc e) = 0 ∧ unEcho (echoEnc e) = e := by
  have h0 := echo_good h hl
  rw [echo_shape h0]
  obtain ⟨⟨h1, h2⟩, h3⟩ := h
  rw [word16_iff] at h1 h2
  have hc := csum_range (echo_bytes (e := e) (by rw [h3]; exact hd))
  have hb : echoBody e = (if e.1 then 0 else 8) :: 0 :: 0 :: 0 :: (e.2.1 / 256 % 256) :: (e.2.1 % 256) :: (e.2.2.1 / 256 % 256) :: (e.2.2.1 % 256) :: e.2.2.2 := rfl
  obtain ⟨r, i, q, l⟩ := e
  simp only at h1 h2 h3 hc hb ⊢
  subst h3
  have he : unEchoErr ((if r then 0 else 8) :: 0 :: (csum (echoBody (r, i, q, l)) / 256 % 256) :: (csum (echoBody (r, i, q, l)) % 256) :: (i / 256 % 256) :: (i % 256) :: (q / 256 % 256) :: (q % 256) :: l) = 0 := by
    rw [unEchoErr, if_neg (by simp only [List.length_cons]; omega), if_neg, if_neg (by simp only [List.length_cons]; omega), if_neg]
    · have e2 : wordAt ((if r then 0 else 8) :: 0 :: (csum (echoBody (r, i, q, l)) / 256 % 256) :: (csum (echoBody (r, i, q, l)) % 256) :: (i / 256 % 256) :: (i % 256) :: (q / 256 % 256) :: (q % 256) :: l) (Int.toNat 2) = csum (echoBody (r, i, q, l)) / 256 % 256 * 256 + csum (echoBody (r, i, q, l)) % 256 := wordAt0 _ _ _
      rw [e2, word_w2 hc.1 hc.2]
      have e3 : setW ((if r then 0 else 8) :: 0 :: (csum (echoBody (r, i, q, l)) / 256 % 256) :: (csum (echoBody (r, i, q, l)) % 256) :: (i / 256 % 256) :: (i % 256) :: (q / 256 % 256) :: (q % 256) :: l) (Int.toNat 2) 0 = echoBody (r, i, q, l) := rfl
      rw [e3]; exact fun k => k rfl
    · intro k; apply k
      refine ⟨?_, rfl⟩
      cases r
      · exact .inl rfl
      · exact .inr rfl
  refine ⟨he, ?_⟩
  rw [unEcho, if_pos he]
  have e4 : wordAt ((if r then 0 else 8) :: 0 :: (csum (echoBody (r, i, q, l)) / 256 % 256) :: (csum (echoBody (r, i, q, l)) % 256) :: (i / 256 % 256) :: (i % 256) :: (q / 256 % 256) :: (q % 256) :: l) (Int.toNat 4) = i / 256 % 256 * 256 + i % 256 := wordAt0 _ _ _
  have e6 : wordAt ((if r then 0 else 8) :: 0 :: (csum (echoBody (r, i, q, l)) / 256 % 256) :: (csum (echoBody (r, i, q, l)) % 256) :: (i / 256 % 256) :: (i % 256) :: (q / 256 % 256) :: (q % 256) :: l) (Int.toNat 6) = q / 256 % 256 * 256 + q % 256 := wordAt0 _ _ _
  rw [e4, e6, word_w2 h1.1 h1.2, word_w2 h2.1 h2.2]
  cases r <;> rfl
theorem notice_good {data : List Int} {n : Notice} (h : okNotice data n) (hl : (data.length : Int) ≤ 1400) : noticeErr n = 0 := by
  have hq : (n.2.2.length : Int) = 28 + data.length := by rw [h.2, List.length_append, List.length_replicate]; omega
  rw [noticeErr, if_neg (fun k => k h.1), if_neg (by omega), if_neg (by omega)]
theorem un_notice {data : List Int} {n : Notice} (h : okNotice data n) (hd : bytes data) (hl : (data.length : Int) ≤ 1400) : unNoticeErr (noticeEnc n) = 0 ∧ unNotice (noticeEnc n) = n := by
  have h0 := notice_good h hl
  have hq : (n.2.2.length : Int) = 28 + data.length := by rw [h.2, List.length_append, List.length_replicate]; omega
  obtain ⟨h1, h3⟩ := h
  have hb : bytes n.2.2 := by
    rw [h3]; refine bytes_app (fun x hx => ?_) hd
    have := List.eq_of_mem_replicate hx; omega
  have hc := csum_range (notice_bytes (e := n) h1 hb)
  obtain ⟨t, k, l⟩ := n
  simp only at h1 h3 hb hc hq
  generalize hB : noticeEnc (t, k, l) = B
  have hs : B = t :: k :: (csum (noticeBody (t, k, l)) / 256 % 256) :: (csum (noticeBody (t, k, l)) % 256) :: 0 :: 0 :: 0 :: 0 :: l := by rw [← hB, noticeEnc, if_pos h0]; rfl
  have i2 : wordAt B (Int.toNat 2) = csum (noticeBody (t, k, l)) / 256 % 256 * 256 + csum (noticeBody (t, k, l)) % 256 := by rw [hs]; exact wordAt0 _ _ _
  have i4 : wordAt B (Int.toNat 4) = 0 := by rw [hs]; exact (wordAt0 0 0 _)
  have i6 : wordAt B (Int.toNat 6) = 0 := by rw [hs]; exact (wordAt0 0 0 _)
  have hset : setW B (Int.toNat 2) 0 = noticeBody (t, k, l) := by rw [hs]; rfl
  have hlen : (B.length : Int) = 8 + l.length := by rw [hs]; simp only [List.length_cons]; omega
  have g0 : B.getD (Int.toNat 0) default = t := by rw [hs]; rfl
  have g1 : B.getD (Int.toNat 1) default = k := by rw [hs]; rfl
  have g8 : B.drop 8 = l := by rw [hs]; rfl
  have he : unNoticeErr B = 0 := by
    rw [unNoticeErr, if_neg (by omega), if_neg (fun q => q ⟨by rw [g0]; exact h1.1, i4, i6⟩), if_neg (by omega), if_neg]
    rw [hset, i2, word_w2 hc.1 hc.2]; exact fun q => q rfl
  refine ⟨he, ?_⟩
  rw [unNotice, if_pos he, g0, g1, g8]
theorem udp_good {data : List Int} {u : Dgram} (h : okDgram data u) (hl : (data.length : Int) ≤ 1472) : udpErr u = 0 := by
  rw [udpErr, if_neg (fun k => k h.1), if_neg (by rw [h.2]; omega)]
theorem un_udp {s d : Int} {data : List Int} {u : Dgram} (h : okDgram data u) (hd : bytes data) (hl : (data.length : Int) ≤ 1472) : unUDPErr s d (udpEnc s d u) = 0 ∧ unUDP s d (udpEnc s d u) = u := by
  have h0 := udp_good h hl
  obtain ⟨⟨h1, h2⟩, h3⟩ := h
  rw [word16_iff] at h1 h2
  have hc := sumU_range (a := s) (b := d) (udp_bytes (e := u) (by rw [h3]; exact hd))
  obtain ⟨sp, dp, l⟩ := u
  simp only at h1 h2 h3 hc
  subst h3
  generalize hB : udpEnc s d (sp, dp, l) = B
  have hs : B = (sp / 256 % 256) :: (sp % 256) :: (dp / 256 % 256) :: (dp % 256) :: ((8 + l.length : Int) / 256 % 256) :: ((8 + l.length : Int) % 256) :: (sumU s d (udpBody (sp, dp, l)) / 256 % 256) :: (sumU s d (udpBody (sp, dp, l)) % 256) :: l := by rw [← hB, udpEnc, if_pos h0]; rfl
  have i0 : wordAt B (Int.toNat 0) = sp / 256 % 256 * 256 + sp % 256 := by rw [hs]; exact wordAt0 _ _ _
  have i2 : wordAt B (Int.toNat 2) = dp / 256 % 256 * 256 + dp % 256 := by rw [hs]; exact wordAt0 _ _ _
  have i4 : wordAt B (Int.toNat 4) = (8 + l.length : Int) / 256 % 256 * 256 + (8 + l.length : Int) % 256 := by rw [hs]; exact wordAt0 _ _ _
  have i6 : wordAt B (Int.toNat 6) = sumU s d (udpBody (sp, dp, l)) / 256 % 256 * 256 + sumU s d (udpBody (sp, dp, l)) % 256 := by rw [hs]; exact wordAt0 _ _ _
  have hset : setW B (Int.toNat 6) 0 = udpBody (sp, dp, l) := by rw [hs]; rfl
  have hlen : (B.length : Int) = 8 + l.length := by rw [hs]; simp only [List.length_cons]; omega
  have g8 : B.drop 8 = l := by rw [hs]; rfl
  have he : unUDPErr s d B = 0 := by
    rw [unUDPErr, if_neg (by omega), if_neg (fun q => q (by rw [i4]; omega)), if_neg (by omega), if_neg]
    rw [hset, i6, word_w2 hc.1 hc.2]; exact fun q => q rfl
  refine ⟨he, ?_⟩
  rw [unUDP, if_pos he, i0, i2, g8, word_w2 h1.1 h1.2, word_w2 h2.1 h2.2]
theorem tcp_good {data : List Int} {s : Seg} (h : okSeg data s) (hl : (data.length : Int) ≤ 1460) : tcpErr s = 0 := by
  rw [tcpErr, if_neg (fun k => k h.1), if_neg (by rw [h.2]; omega)]
theorem word_w4 {n : Int} (h0 : 0 ≤ n) (h1 : n ≤ 4294967295) : (n / 16777216 % 256 * 256 + n / 65536 % 256) * 65536 + (n / 256 % 256 * 256 + n % 256) = n := by omega
theorem un_tcp {s d : Int} {data : List Int} {u : Seg} (h : okSeg data u) (hd : bytes data) (hl : (data.length : Int) ≤ 1460) : unTCPErr s d (tcpEnc s d u) = 0 ∧ unTCP s d (tcpEnc s d u) = u := by
  have h0 := tcp_good h hl
  obtain ⟨hok, h3⟩ := h
  have hc := pseudo_range (a := s) (b := d) (p := 6) (tcp_bytes hok (by rw [h3]; exact hd))
  obtain ⟨h1, h2, k3, k4, k5, k6⟩ := hok
  rw [word16_iff] at h1 h2 k6
  obtain ⟨sp, dp, sq, ak, fl, wi, l⟩ := u
  simp only at h1 h2 h3 hc k3 k4 k5 k6
  subst h3
  generalize hC : pseudo s d 6 (tcpBody (sp, dp, sq, ak, fl, wi, l)) = c at hc
  generalize hB : tcpEnc s d (sp, dp, sq, ak, fl, wi, l) = B
  have hs : B = (sp / 256 % 256) :: (sp % 256) :: (dp / 256 % 256) :: (dp % 256) :: (sq / 16777216 % 256) :: (sq / 65536 % 256) :: (sq / 256 % 256) :: (sq % 256) :: (ak / 16777216 % 256) :: (ak / 65536 % 256) :: (ak / 256 % 256) :: (ak % 256) :: 80 :: fl :: (wi / 256 % 256) :: (wi % 256) :: (c / 256 % 256) :: (c % 256) :: 0 :: 0 :: l := by rw [← hB, tcpEnc, if_pos h0, hC]; rfl
  have i0 : wordAt B (Int.toNat 0) = sp / 256 % 256 * 256 + sp % 256 := by rw [hs]; exact wordAt0 _ _ _
  have i2 : wordAt B (Int.toNat 2) = dp / 256 % 256 * 256 + dp % 256 := by rw [hs]; exact wordAt0 _ _ _
  have i4 : wordAt B (Int.toNat 4) = sq / 16777216 % 256 * 256 + sq / 65536 % 256 := by rw [hs]; exact wordAt0 _ _ _
  have i6 : wordAt B (Int.toNat 6) = sq / 256 % 256 * 256 + sq % 256 := by rw [hs]; exact wordAt0 _ _ _
  have i8 : wordAt B (Int.toNat 8) = ak / 16777216 % 256 * 256 + ak / 65536 % 256 := by rw [hs]; exact wordAt0 _ _ _
  have i10 : wordAt B (Int.toNat 10) = ak / 256 % 256 * 256 + ak % 256 := by rw [hs]; exact wordAt0 _ _ _
  have i14 : wordAt B (Int.toNat 14) = wi / 256 % 256 * 256 + wi % 256 := by rw [hs]; exact wordAt0 _ _ _
  have i16 : wordAt B (Int.toNat 16) = c / 256 % 256 * 256 + c % 256 := by rw [hs]; exact wordAt0 _ _ _
  have i18 : wordAt B (Int.toNat 18) = 0 := by rw [hs]; exact wordAt0 0 0 _
  have hset : setW B (Int.toNat 16) 0 = tcpBody (sp, dp, sq, ak, fl, wi, l) := by rw [hs]; rfl
  have hlen : (B.length : Int) = 20 + l.length := by rw [hs]; simp only [List.length_cons]; omega
  have g12 : B.getD (Int.toNat 12) default = 80 := by rw [hs]; rfl
  have g13 : B.getD (Int.toNat 13) default = fl := by rw [hs]; rfl
  have g20 : B.drop 20 = l := by rw [hs]; rfl
  have he : unTCPErr s d B = 0 := by
    rw [unTCPErr, if_neg (by omega), if_neg (fun q => q ⟨g12, i18⟩), if_neg (by omega), if_neg]
    rw [hset, hC, i16, word_w2 hc.1 hc.2]; exact fun q => q rfl
  refine ⟨he, ?_⟩
  rw [unTCP, if_pos he, i0, i2, i4, i6, i8, i10, g13, i14, g20, word_w2 h1.1 h1.2, word_w2 h2.1 h2.2, word_w2 k6.1 k6.2, word_w4 k3.1 k3.2, word_w4 k4.1 k4.2]
/-- The head of a pseudo packet. -/
def headP (s d p n : Int) : List Int := w4 s ++ (w4 d ++ (w2 p ++ w2 n))
theorem pseudo_sum (s d p : Int) (X : List Int) : sumF true (pseudoB s d p X) = sumF true (headP s d p X.length) + sumF true X := by
  have e : pseudoB s d p X = headP s d p X.length ++ X := by simp [pseudoB, headP]
  have hl : (headP s d p X.length).length = 12 := by simp [headP, w4, w2]
  rw [e, sumF_append, hl]; rfl
theorem head_sum (s d p n : Int) : sumF true (headP s d p n) = sumF true (w4 s) + sumF true (w4 d) + sumF true (w2 p) + sumF true (w2 n) := by
  have h4 : ∀ n r, sumF true (w4 n ++ r) = sumF true (w4 n) + sumF true r := fun n r => by rw [sumF_append, show (w4 n).length = 4 from rfl]; rfl
  have h2 : ∀ n r, sumF true (w2 n ++ r) = sumF true (w2 n) + sumF true r := fun n r => by rw [sumF_append, show (w2 n).length = 2 from rfl]; rfl
  rw [headP, h4, h4, h2]
  omega
theorem pseudo_swap (s d p : Int) (X : List Int) : pseudo s d p X = pseudo d s p X := by
  unfold pseudo csum
  rw [pseudo_sum, pseudo_sum, head_sum, head_sum, Int.add_comm (sumF true (w4 s))]
theorem sumU_swap (s d : Int) (X : List Int) : sumU s d X = sumU d s X := by unfold sumU; rw [pseudo_swap]
theorem unUDPErr_swap (s d : Int) (b : List Int) : unUDPErr s d b = unUDPErr d s b := by unfold unUDPErr; rw [sumU_swap]
theorem unTCPErr_swap (s d : Int) (b : List Int) : unTCPErr s d b = unTCPErr d s b := by unfold unTCPErr; rw [pseudo_swap]
theorem unUDP_swap (s d : Int) (b : List Int) : unUDP s d b = unUDP d s b := by unfold unUDP; rw [unUDPErr_swap]
theorem unTCP_swap (s d : Int) (b : List Int) : unTCP s d b = unTCP d s b := by unfold unTCP; rw [unTCPErr_swap]
theorem enc_len (e : Echo) : ((echoEnc e).length : Int) ≤ 1480 := by
  unfold echoEnc
  split
  · rename_i h
    rw [setW_len, echo_len]
    unfold echoErr at h
    split at h
    · cases h
    · split at h
      · cases h
      · omega
  · simp
theorem notice_enc_len (e : Notice) : ((noticeEnc e).length : Int) ≤ 1480 := by
  unfold noticeEnc
  split
  · rename_i h
    rw [setW_len, notice_len]
    unfold noticeErr at h
    split at h
    · cases h
    · split at h
      · cases h
      · split at h
        · cases h
        · omega
  · simp
theorem udp_enc_len (s d : Int) (e : Dgram) : ((udpEnc s d e).length : Int) ≤ 1480 := by
  unfold udpEnc
  split
  · rename_i h
    rw [setW_len, udp_len]
    unfold udpErr at h
    split at h
    · cases h
    · split at h
      · cases h
      · omega
  · simp
theorem tcp_enc_len (s d : Int) (e : Seg) : ((tcpEnc s d e).length : Int) ≤ 1480 := by
  unfold tcpEnc
  split
  · rename_i h
    rw [setW_len, tcp_len]
    unfold tcpErr at h
    split at h
    · cases h
    · split at h
      · cases h
      · omega
  · simp
theorem sumF_set (hi : Bool) (l : List Int) (i : Nat) (v : Int) (h : i < l.length) : ∃ w : Int, (w = 1 ∨ w = 256) ∧ sumF hi (l.set i v) = sumF hi l + (v - l.getD i default) * w := by
  induction l generalizing hi i with
  | nil => simp at h
  | cons x l ih =>
    cases i with
    | zero =>
      cases hi
      · exact ⟨1, .inl rfl, by simp [sumF]; omega⟩
      · exact ⟨256, .inr rfl, by simp [sumF]; omega⟩
    | succ i =>
      obtain ⟨w, hw, e⟩ := ih (!hi) i (by simpa using h)
      refine ⟨w, hw, ?_⟩
      rw [List.set_cons_succ, sumF, sumF, e]
      show _ = _ + (v - l.getD i default) * w
      omega
theorem getD_same {l : List Int} {i : Nat} {v : Int} (h : i < l.length) : (l.set i v).getD i default = v := by
  rw [List.getD_eq_getElem?_getD, List.getElem?_set_self h, Option.getD_some]
theorem getD_ne {l : List Int} {i j : Nat} {v : Int} (h : i ≠ j) : (l.set i v).getD j default = l.getD j default := by
  rw [List.getD_eq_getElem?_getD, List.getElem?_set_ne h, ← List.getD_eq_getElem?_getD]
theorem dmg {G : Int → Int} {pre : Int} (hp : 0 ≤ pre) (hG : ∀ m n, pre ≤ m → pre ≤ n → G m = G n → m % 65535 = n % 65535) {b : List Int} {k i : Nat} {v : Int} (hb : bytes b) (hk : k + 2 ≤ b.length) (hi : i < b.length) (v0 : 0 ≤ v) (v1 : v ≤ 255)
    (h1 : G (pre + sumF true (setW b k 0)) = wordAt b k) (h2 : G (pre + sumF true (setW (b.set i v) k 0)) = wordAt (b.set i v) k) : v = b.getD i default := by
  have hbi : 0 ≤ b.getD i default ∧ b.getD i default ≤ 255 := by
    have := getD_mem (xs := b) (i := (i : Int)) (by omega) (by omega)
    exact hb _ this
  have w1 := wordAt_get (b := b) (k := k) hk
  have w2' := wordAt_get (b := b.set i v) (k := k) (by rw [List.length_set]; exact hk)
  by_cases e0 : i = k
  · subst e0
    have hs : setW (b.set i v) i 0 = setW b i 0 := by unfold setW; rw [List.set_set]
    rw [hs, h1, w1, w2', getD_same hi, getD_ne (by omega)] at h2
    omega
  · by_cases e1 : i = k + 1
    · subst e1
      have hs : setW (b.set (k + 1) v) k 0 = setW b k 0 := by
        unfold setW
        rw [List.set_comm _ _ (by omega : k + 1 ≠ k), List.set_set]
      rw [hs, h1, w1, w2', getD_same hi, getD_ne (by omega)] at h2
      omega
    · have hs : setW (b.set i v) k 0 = (setW b k 0).set i v := by
        unfold setW
        rw [List.set_comm _ _ e0, List.set_comm _ _ e1]
      have hw : wordAt (b.set i v) k = wordAt b k := by rw [w1, w2', getD_ne e0, getD_ne e1]
      have hbs := bytes_setW (i := k) (v := 0) hb
      obtain ⟨w, hw1, hsum⟩ := sumF_set true (setW b k 0) i v (by rw [setW_len]; exact hi)
      have hget : (setW b k 0).getD i default = b.getD i default := by unfold setW; rw [getD_ne (Ne.symm e1), getD_ne (Ne.symm e0)]
      rw [hget] at hsum
      have r1 := (sumF_range true (setW b k 0) hbs).1
      have r2 := (sumF_range true ((setW b k 0).set i v) (bytes_set hbs v0 v1)).1
      rw [hs, hw, ← h1] at h2
      have hm := hG _ _ (by omega) (by omega) h2
      rw [hsum] at hm
      rcases hw1 with rfl | rfl <;> omega
theorem oc_mod {m n : Int} (hm : 0 ≤ m) (hn : 0 ≤ n) (h : 65535 - oc m = 65535 - oc n) : m % 65535 = n % 65535 := by
  unfold oc at h
  split at h <;> split at h <;> omega
theorem xor_ne {a b : Int} (a0 : 0 ≤ a) (a1 : a ≤ 255) (b0 : 0 < b) (b1 : b ≤ 255) : bits .xor .u8 a b ≠ a ∧ 0 ≤ bits .xor .u8 a b ∧ bits .xor .u8 a b ≤ 255 := by
  rw [u8_xor a b a0 (by omega) (by omega) (by omega)]
  have hlt : a.toNat ^^^ b.toNat < 2 ^ 8 := Nat.xor_lt_two_pow (by omega) (by omega)
  refine ⟨fun h => ?_, by omega, by omega⟩
  have h : a.toNat ^^^ b.toNat = a.toNat := by omega
  have : b.toNat = 0 := by
    have h2 := congrArg (fun x => a.toNat ^^^ x) h
    simp only [← Nat.xor_assoc, Nat.xor_self, Nat.zero_xor] at h2
    exact h2
  omega
theorem echo_zero {b : List Int} (h : unEchoErr b = 0) : 8 ≤ b.length ∧ csum (setW b 2 0) = wordAt b 2 := by
  unfold unEchoErr at h
  split at h
  · cases h
  · split at h
    · cases h
    · split at h
      · cases h
      · split at h
        · cases h
        · rename_i h1 _ _ h4
          exact ⟨by omega, Decidable.not_not.1 h4⟩
theorem notice_zero {b : List Int} (h : unNoticeErr b = 0) : 8 ≤ b.length ∧ csum (setW b 2 0) = wordAt b 2 := by
  unfold unNoticeErr at h
  split at h
  · cases h
  · split at h
    · cases h
    · split at h
      · cases h
      · split at h
        · cases h
        · rename_i h1 _ _ h4
          exact ⟨by omega, Decidable.not_not.1 h4⟩
theorem udp_zero {s d : Int} {b : List Int} (h : unUDPErr s d b = 0) : 8 ≤ b.length ∧ b.length ≤ 1480 ∧ sumU s d (setW b 6 0) = wordAt b 6 := by
  unfold unUDPErr at h
  split at h
  · cases h
  · split at h
    · cases h
    · split at h
      · cases h
      · split at h
        · cases h
        · rename_i h1 _ h3 h4
          exact ⟨by omega, by omega, Decidable.not_not.1 h4⟩
theorem tcp_zero {s d : Int} {b : List Int} (h : unTCPErr s d b = 0) : 20 ≤ b.length ∧ b.length ≤ 1480 ∧ pseudo s d 6 (setW b 16 0) = wordAt b 16 := by
  unfold unTCPErr at h
  split at h
  · cases h
  · split at h
    · cases h
    · split at h
      · cases h
      · split at h
        · cases h
        · rename_i h1 _ h3 h4
          exact ⟨by omega, by omega, Decidable.not_not.1 h4⟩
theorem dmg_echo {b : List Int} {i : Nat} {v : Int} (hb : bytes b) (hi : i < b.length) (v0 : 0 ≤ v) (v1 : v ≤ 255) (hv : v ≠ b.getD i default) (h : unEchoErr b = 0) : unEchoErr (b.set i v) ≠ 0 := by
  intro k
  obtain ⟨l, h1⟩ := echo_zero h
  obtain ⟨-, h2⟩ := echo_zero k
  exact hv (dmg (G := fun m => 65535 - oc m) (pre := 0) (k := 2) (by omega) (fun m n hm hn e => oc_mod hm hn e) hb (by omega) hi v0 v1 (by simpa [csum] using h1) (by simpa [csum] using h2))
theorem dmg_notice {b : List Int} {i : Nat} {v : Int} (hb : bytes b) (hi : i < b.length) (v0 : 0 ≤ v) (v1 : v ≤ 255) (hv : v ≠ b.getD i default) (h : unNoticeErr b = 0) : unNoticeErr (b.set i v) ≠ 0 := by
  intro k
  obtain ⟨l, h1⟩ := notice_zero h
  obtain ⟨-, h2⟩ := notice_zero k
  exact hv (dmg (G := fun m => 65535 - oc m) (pre := 0) (k := 2) (by omega) (fun m n hm hn e => oc_mod hm hn e) hb (by omega) hi v0 v1 (by simpa [csum] using h1) (by simpa [csum] using h2))
theorem head_nonneg (s d p n : Int) : p % 256 ≤ sumF true (headP s d p n) := by
  rw [head_sum]; simp [sumF, w4, w2]; omega
theorem dmg_tcp {s d : Int} {b : List Int} {i : Nat} {v : Int} (hb : bytes b) (hi : i < b.length) (v0 : 0 ≤ v) (v1 : v ≤ 255) (hv : v ≠ b.getD i default) (h : unTCPErr s d b = 0) : unTCPErr s d (b.set i v) ≠ 0 := by
  intro k
  obtain ⟨l, l2, h1⟩ := tcp_zero h
  obtain ⟨-, -, h2⟩ := tcp_zero k
  have hp := head_nonneg s d 6 b.length
  rw [pseudo, if_neg (by rw [setW_len]; omega), csum, pseudo_sum, setW_len] at h1
  rw [pseudo, if_neg (by rw [setW_len, List.length_set]; omega), csum, pseudo_sum, setW_len, List.length_set] at h2
  exact hv (dmg (G := fun m => 65535 - oc m) (pre := sumF true (headP s d 6 b.length)) (by omega) (fun m n hm hn e => oc_mod (by omega) (by omega) e) hb (by omega) hi v0 v1 h1 h2)
theorem dmg_udp {s d : Int} {b : List Int} {i : Nat} {v : Int} (hb : bytes b) (hi : i < b.length) (v0 : 0 ≤ v) (v1 : v ≤ 255) (hv : v ≠ b.getD i default) (h : unUDPErr s d b = 0) : unUDPErr s d (b.set i v) ≠ 0 := by
  intro k
  obtain ⟨l, l2, h1⟩ := udp_zero h
  obtain ⟨-, -, h2⟩ := udp_zero k
  have hp := head_nonneg s d 17 b.length
  have p1 : pseudo s d 17 (setW b 6 0) = 65535 - oc (sumF true (headP s d 17 b.length) + sumF true (setW b 6 0)) := by
    rw [pseudo, if_neg (by rw [setW_len]; omega), csum, pseudo_sum, setW_len]
  have p2 : pseudo s d 17 (setW (b.set i v) 6 0) = 65535 - oc (sumF true (headP s d 17 b.length) + sumF true (setW (b.set i v) 6 0)) := by
    rw [pseudo, if_neg (by rw [setW_len, List.length_set]; omega), csum, pseudo_sum, setW_len, List.length_set]
  rw [sumU, p1] at h1
  rw [sumU, p2] at h2
  refine hv (dmg (G := fun m => if 65535 - oc m = 0 then 65535 else 65535 - oc m) (pre := sumF true (headP s d 17 b.length)) (by omega) (fun m n hm hn e => ?_) hb (by omega) hi v0 v1 h1 h2)
  unfold oc at e
  rw [if_neg (show ¬ m = 0 by omega), if_neg (show ¬ n = 0 by omega)] at e
  split at e <;> split at e <;> omega
end Go.RS

