/- Law08: the laws of answers. -/
import Derived.Test.YtdegakknelbjiaaGreatDoorReply
namespace Go.RS
open Go.SX Go.Proofs
set_option maxRecDepth 100000
set_option linter.unusedVariables false

theorem un_notice' {n : Notice} (h0 : noticeErr n = 0) (hb : bytes n.2.2) : unNoticeErr (noticeEnc n) = 0 ∧ unNotice (noticeEnc n) = n := by
  have h1 : (n.1 = 3 ∨ n.1 = 11) ∧ 0 ≤ n.2.1 ∧ n.2.1 ≤ 255 := Classical.byContradiction fun k => by rw [noticeErr, if_pos k] at h0; cases h0
  have h2 : ¬ (n.2.2.length : Int) < 28 := fun k => by rw [noticeErr, if_neg (fun q => q h1), if_pos k] at h0; cases h0
  have h3 : ¬ (1472 : Int) < n.2.2.length := fun k => by rw [noticeErr, if_neg (fun q => q h1), if_neg h2, if_pos k] at h0; cases h0
  have hc := csum_range (notice_bytes (e := n) h1 hb)
  obtain ⟨t, k, l⟩ := n
  simp only at h1 h3 hb hc h2
  generalize hB : noticeEnc (t, k, l) = B
  have hs : B = t :: k :: (csum (noticeBody (t, k, l)) / 256 % 256) :: (csum (noticeBody (t, k, l)) % 256) :: 0 :: 0 :: 0 :: 0 :: l := by rw [← hB, noticeEnc, if_pos h0]; rfl
  have i2 : wordAt B (Int.toNat 2) = csum (noticeBody (t, k, l)) / 256 % 256 * 256 + csum (noticeBody (t, k, l)) % 256 := by rw [hs]; exact wordAt0 _ _ _
  have i4 : wordAt B (Int.toNat 4) = 0 := by rw [hs]; exact (wordAt0 0 0 _)
  have i6 : wordAt B (Int.toNat 6) = 0 := by rw [hs]; exact (wordAt0 0 0 _)
  have hset : setW B (Int.toNat 2) 0 = noticeBody (t, k, l) := by rw [hs]; rfl
  have hlen : (B.length : Int) = 8 + l.length := by rw [hs]; simp only [List.length_cons]; omega
  have g0 : B.getD (Int.toNat 0) default = t := by rw [hs]; rfl
  have g1 : B.getD (Int.toNat 1) default = k := by rw [hs]; rfl
  have g8 : B.drop 8 = l := by rw [hs]; rfl
  have he : unNoticeErr B = 0 := by
    rw [unNoticeErr, if_neg (by omega), if_neg (fun q => q ⟨by rw [g0]; exact h1.1, i4, i6⟩), if_neg (by omega), if_neg]
    rw [hset, i2, word_w2 hc.1 hc.2]; exact fun q => q rfl
  refine ⟨he, ?_⟩
  rw [unNotice, if_pos he, g0, g1, g8]
theorem notice_first {n : Notice} (h0 : noticeErr n = 0) : (noticeEnc n).getD 0 default = n.1 ∧ (noticeEnc n).length = 8 + n.2.2.length := by
  rw [noticeEnc, if_pos h0]; exact ⟨rfl, by rw [setW_len, notice_len]⟩
theorem notice_enc_bytes {n : Notice} (h0 : noticeErr n = 0) (hb : bytes n.2.2) : bytes (noticeEnc n) := by
  have h1 : (n.1 = 3 ∨ n.1 = 11) ∧ 0 ≤ n.2.1 ∧ n.2.1 ≤ 255 := Classical.byContradiction fun k => by rw [noticeErr, if_pos k] at h0; cases h0
  rw [noticeEnc, if_pos h0]; exact bytes_setW (notice_bytes h1 hb)
/-- What holds of a probe that can be sent. -/
structure Good (p : Probe) : Prop where
  ok : probeErr p = 0
  s : u32 p.1
  d : u32 p.2.1
theorem Good.dec {p : Probe} (g : Good p) : pkHdrF (build p) = hdrP p ∧ decErr (build p) = 0 ∧ (build p).drop 20 = conP p := dec_build g.ok g.s g.d
theorem Good.len {p : Probe} (g : Good p) : ((p.2.2.1 ≠ 6 ∧ (build p).length = 30) ∨ (p.2.2.1 = 6 ∧ (build p).length = 40)) := by
  rw [build_eq g.ok, List.length_append, hdrB_len]
  rcases con_len g.ok with h | h
  · exact .inl ⟨h.1, by rw [h.2]⟩
  · exact .inr ⟨h.1, by rw [h.2]⟩
theorem con_first {p : Probe} (g : Good p) : (p.2.2.1 = 1 → (conP p).getD 0 default = 8) ∧ (p.2.2.1 = 6 → (conP p).getD 13 default = 2) := by
  have hr := (probe_ok.1 g.ok).2
  constructor
  · intro h; rw [con_echo hr h]; rfl
  · intro h; rw [con_tcp hr h]; rfl
theorem ans_build {p : Probe} (g : Good p) : ansOK (build p) ↔ usable p.1 := by
  obtain ⟨e1, e2, e3⟩ := g.dec
  have hs : srcOf (build p) = p.1 := by rw [srcOf, e1]; rfl
  constructor
  · intro h; rw [← hs]; exact (ans_facts h).2.2.2.2
  · intro hu
    refine ans_mk e2 (by rcases g.len with h | h <;> omega) ?_ ?_ (by rw [hs]; exact hu)
    · rw [e3]; intro h; exact (con_first g).1 (by rw [protoOf, e1] at h; exact h)
    · rw [e3]; intro h _; rw [(con_first g).2 (by rw [protoOf, e1] at h; exact h)]; decide
theorem con_more {p : Probe} (g : Good p) : (p.2.2.1 = 1 → wordAt (conP p) 4 = 21075 ∧ wordAt (conP p) 6 = p.2.2.2.2.1) ∧ (p.2.2.1 = 17 → wordAt (conP p) 4 = 10 ∧ wordAt (conP p) 6 = p.2.2.2.2.1 + 1) ∧ (p.2.2.1 = 6 → numB (((conP p).drop 4).take 4) = p.2.2.2.2.1) := by
  have hr := (probe_ok.1 g.ok).2
  obtain ⟨hf, ht, -⟩ := id hr
  refine ⟨fun h => ?_, fun h => ?_, fun h => ?_⟩
  · rw [con_echo hr h, word_setW_ne (by show 4 + 2 ≤ 10; omega) (by omega), word_setW_ne (by show 6 + 2 ≤ 10; omega) (by omega)]
    refine ⟨rfl, ?_⟩
    show wordAt (_ :: _ :: _) 0 = _
    rw [wordAt0]; exact word_w2 (n := p.2.2.2.2.1) (by omega) (by omega)
  · have hs := udp_sum hr
    rw [con_udp hr h, word_setW_ne (by show 4 + 2 ≤ 10; omega) (by omega), word_setW (by show 6 + 2 ≤ 10; omega) (by omega) (by omega)]
    refine ⟨?_, hs⟩
    show wordAt (_ :: _ :: _) 0 = 10
    rw [wordAt0]
    have : ((conDgram p).2.2.length : Int) = 2 := rfl
    rw [this]; decide
  · rw [con_tcp hr h]
    show numB [_, _, _, _] = _
    rw [numB4]; exact num4_back (n := p.2.2.2.2.1) ⟨by omega, by omega⟩
theorem quote_facts {p : Probe} (g : Good p) : ((build p).take 28).length = 28 ∧ bytes ((build p).take 28) ∧ quV ((build p).take 28) = (p, true) := by
  obtain ⟨e1, e2, e3⟩ := g.dec
  have hl28 : ((build p).take 28).length = 28 := by rw [List.length_take]; rcases g.len with h | h <;> omega
  refine ⟨hl28, bytes_take (build_bytes p), ?_⟩
  have hF : pkHdrF ((build p).take 28) = hdrP p := by
    rw [← e1]; unfold pkHdrF
    rw [take_get (by omega), take_get (by omega), take_get (by omega), take_word (by omega), take_word (by omega), take_drop_take (by omega), take_drop_take (by omega)]
  have hpk : pkErr ((build p).take 28) = 0 := by
    have h0 := dec_pk e2
    have hlen : 20 ≤ (build p).length := by rcases g.len with h | h <;> omega
    rw [pkErr, if_neg (by omega)] at h0 ⊢
    rw [take_get (by omega), take_word (by omega), take_word (by omega), take_word (by omega), List.take_take]
    exact h0
  have wq : ∀ i, i + 2 ≤ 8 → wordAt ((build p).take 28) (20 + i) = wordAt (conP p) i := fun i hi => by
    rw [take_word (by omega), ← e3]; unfold wordAt; rw [List.drop_drop]
  have w0 := wq 0 (by omega)
  have w2 := wq 2 (by omega)
  have w4 := wq 4 (by omega)
  have w6 := wq 6 (by omega)
  have n4 : numB ((((build p).take 28).drop 24).take 4) = numB (((conP p).drop 4).take 4) := by rw [take_drop_take (by omega), ← e3, List.drop_drop]
  have cw := con_words g.ok
  have cm := con_more g
  have hlw : wordAt ((build p).take 28) 2 = (build p).length := by rw [take_word (by omega), (dec_len e2).2]
  have hq : quHead ((build p).take 28) := ⟨hpk, hl28, by rw [hF]; rfl, by rw [hF]; rfl⟩
  have hpr : protoOf ((build p).take 28) = p.2.2.1 := by rw [protoOf, hF]; rfl
  have hfl : quFlow ((build p).take 28) = p.2.2.2.1 := by
    rw [quFlow, hpr]
    have w0 : wordAt ((build p).take 28) 20 = wordAt (conP p) 0 := w0
    rw [w2, w0, cw.1, cw.2]
    rcases (probe_ok.1 g.ok).1 with h | h | h <;> simp [h, keyA, keyC] <;> omega
  have hP : quP ((build p).take 28) = p := by
    rw [quP, hfl, hpr, srcOf, dstOf, hF]; rfl
  rw [quV, if_pos hq, hP]
  have hR : quRight ((build p).take 28) := by
    unfold quRight
    rw [hpr, hF]
    have w0 : wordAt ((build p).take 28) 20 = wordAt (conP p) 0 := w0
    rw [w0, w2, w4, w6, n4, cw.1, cw.2, hlw]
    rcases (probe_ok.1 g.ok).1 with h | h | h
    · refine .inl ⟨h, ?_, by rw [keyA, if_pos h], (cm.1 h).1, (cm.1 h).2⟩
      rcases g.len with k | k <;> omega
    · refine .inr (.inr ⟨h, ?_, by rw [keyC, if_neg (by omega), if_neg (by omega)], cm.2.2 h⟩)
      rcases g.len with k | k <;> omega
    · refine .inr (.inl ⟨h, ?_, by rw [keyC, if_neg (by omega), if_pos h], ?_, (cm.2.1 h).2⟩)
      · rcases g.len with k | k <;> omega
      · rw [(cm.2.1 h).1]; rcases g.len with k | k <;> omega
  rw [decide_eq_true ⟨hR, g.ok⟩]
/-- What an answer's packet is read as. -/
theorem send_back {src dst proto id ttl : Int} {data : List Int} (hn : numOK id ttl) (hp : 0 ≤ proto ∧ proto ≤ 255) (hs : u32 src) (hd : u32 dst) (hl : (data.length : Int) ≤ 1480) (hb : bytes data) :
    decErr (ipEnc (sendP src dst proto id ttl data)) = 0 ∧ pkHdrF (ipEnc (sendP src dst proto id ttl data)) = (0, id, ttl, proto, false, src, dst) ∧ (ipEnc (sendP src dst proto id ttl data)).drop 20 = data ∧ (ipEnc (sendP src dst proto id ttl data)).length = 20 + data.length := by
  have h0 := ip_send (src := src) (dst := dst) hn hp hl
  obtain ⟨⟨a, b⟩, c, d⟩ := hn
  rw [ipEnc, if_pos h0]
  have := pk_back (h := (0, id, ttl, proto, false, src, dst)) (X := data) ⟨⟨Int.le_refl _, by simp only; omega⟩, ⟨c, d⟩, hp, a, b⟩ hs hd hl hb
  refine ⟨this.2.1, this.1, this.2.2, ?_⟩
  show (hdrB _ _ ++ data).length = _
  rw [List.length_append, hdrB_len]
/-- A packet that answers a probe: what it is read as; it is not answered. -/
structure IsAns (p : Probe) (a : Ans) (x : List Int) : Prop where
  no : ¬ ansOK x
  rd : readA x = (noT p 0, a)
  re : readAE x = 0
  len : x.length ≤ 1500
theorem Good.t1 {p : Probe} (g : Good p) (t : Int) (h : 1 ≤ t ∧ t ≤ 255) : probeErr (noT p t) = 0 := by
  obtain ⟨h1, h2, h3, -⟩ := probe_ok.1 g.ok
  exact probe_ok.2 ⟨h1, h2, h3, h⟩
theorem read_mk {p : Probe} {a : Ans} {x : List Int} (g : Good p) (hd : decErr x = 0) (hr : partR x = (noT p 0, (0, a.2.1, a.2.2.1, 0, 0, a.2.2.2.2.2), true)) (ha : a.1 = srcOf x) (hl : a.2.2.2.1 = (pkHdrF x).2.2.1) (hi : a.2.2.2.2.1 = (pkHdrF x).2.1) (hn : ¬ ansOK x) : IsAns p a x := by
  have hg : readGood x := ⟨hd, by rw [hr], by rw [hr]; exact g.t1 1 (by omega)⟩
  have := dec_len hd
  refine ⟨hn, ?_, by rw [readAE, if_pos hg], by omega⟩
  rw [readA, if_pos hg, hr, ← ha, ← hl, ← hi]
theorem is_notice {p : Probe} (g : Good p) (hu : usable p.1) {from' kind code id ttl : Int} (hf : u32 from') (hg : errGood kind code id ttl) :
    errE (build p) kind code id ttl = 0 ∧ IsAns p (from', kindN kind code, code, ttl, id, p.2.2.2.2.2) (errB (build p) from' kind code id ttl) ∧ (errB (build p) from' kind code id ttl).length = 56 := by
  have ha := (ans_build g).2 hu
  obtain ⟨e0, eB, en, -⟩ := err_good (src := from') hg ha
  obtain ⟨e1, -, -⟩ := g.dec
  obtain ⟨ql, qb, qv⟩ := quote_facts g
  have hs : srcOf (build p) = p.1 := by rw [srcOf, e1]; rfl
  have hk := hg.1
  refine ⟨e0, ?_⟩
  rw [eB, hs]
  generalize hD : noticeEnc (kind, code, (build p).take 28) = D
  have un := un_notice' en qb
  have nf := notice_first en
  have nb := notice_enc_bytes en qb
  rw [hD] at un nf nb
  rw [ql] at nf
  have sb := send_back (src := from') (dst := p.1) (proto := 1) (data := D) hg.2.2 (by omega) hf g.s (by omega) nb
  generalize ipEnc (sendP from' p.1 1 id ttl D) = x at sb
  obtain ⟨s1, s2, s3, s4⟩ := sb
  have hp1 : protoOf x = 1 := by rw [protoOf, s2]
  have hns : ¬ D.getD 0 default = 8 := by rw [nf.1]; simp only; omega
  refine ⟨read_mk g s1 ?_ (by rw [srcOf, s2]) (by rw [s2]) (by rw [s2]) (fun k => ?_), by rw [s4, nf.2]⟩
  · rw [partR, if_neg, if_pos hp1, s3, noticeR, if_pos un.1, un.2]
    · simp only
      rw [qv]
      simp [dstOf, s2, noT]
    · rw [s3]
      rintro ⟨-, -, k⟩
      rw [nf.1] at k; simp only at k; omega
  · exact hns (by have := (ans_facts k).2.2.1 hp1; rw [s3] at this; exact this)
theorem sumF_echoT (t n : Int) : sumF true (echoBody (true, 21075, t, w2 n)) = sumF true (echoBody (false, 21075, t, w2 n)) - 2048 := by
  simp [echoBody, w2, sumF]; omega
theorem sumF_echo_pos (t n : Int) : 23000 ≤ sumF true (echoBody (false, 21075, t, w2 n)) := by
  simp [echoBody, w2, sumF]; omega
def wantA (p : Probe) (id ttl : Int) : Ans := if p.2.2.1 = 6 then (p.2.1, 4, 0, ttl, id, 0) else if p.2.2.1 = 17 then (p.2.1, 3, 3, ttl, id, p.2.2.2.2.2) else (p.2.1, 2, 0, ttl, id, 0)
theorem is_host {p : Probe} (g : Good p) (hu : usable p.1) {id ttl : Int} (hn : numOK id ttl) :
    hostE (build p) id ttl = 0 ∧ IsAns p (wantA p id ttl) (hostB (build p) p.2.1 id ttl) := by
  have ha := (ans_build g).2 hu
  obtain ⟨e1, e2, e3⟩ := g.dec
  have hs : srcOf (build p) = p.1 := by rw [srcOf, e1]; rfl
  have hd : dstOf (build p) = p.2.1 := by rw [dstOf, e1]; rfl
  have hpr : protoOf (build p) = p.2.2.1 := by rw [protoOf, e1]; rfl
  have hr := (probe_ok.1 g.ok).2
  have hr' := hr
  obtain ⟨hf, ht, -⟩ := hr'
  rcases (probe_ok.1 g.ok).1 with h | h | h
  · have eE : conP p = echoEnc (conEcho p) := by rw [con_echo hr h, echoEnc, if_pos (echo_err0 hr)]
    have u := un_echo (okEchoP hr) (bytes_w2 _) (by rw [w2_bytes2]; omega)
    have hh := host_1 (src := p.2.1) hn ha (by rw [hpr]; exact h) (by rw [e3, eE]; exact u.1)
    refine ⟨hh.2, ?_⟩
    rw [hh.1, hs, e3, eE, u.2]
    have ok2 : okEcho (w2 (icmpN p)) (true, (conEcho p).2) := ⟨(okEchoP hr).1, rfl⟩
    have u2 := un_echo ok2 (bytes_w2 _) (by rw [w2_bytes2]; omega)
    have eg := echo_good ok2 (by rw [w2_bytes2]; omega)
    have esh : echoEnc (true, (conEcho p).2) = setW (echoBody (true, (conEcho p).2)) 2 (csum (echoBody (true, (conEcho p).2))) := by rw [echoEnc, if_pos eg]
    have bb : bytes (echoBody (true, (conEcho p).2)) := echo_bytes (bytes_w2 _)
    have hcs := csum_range bb
    have ecs : csum (echoBody (true, (conEcho p).2)) = 18432 + p.2.2.2.1 := by
      have h1 := echo_sum hr
      have h2 := sumF_echoT p.2.2.2.2.1 (icmpN p)
      have h3 := sumF_echo_pos p.2.2.2.2.1 (icmpN p)
      unfold csum at h1 ⊢
      have k1 : conEcho p = (false, 21075, p.2.2.2.2.1, w2 (icmpN p)) := rfl
      rw [k1] at h1 ⊢
      simp only
      rw [h2]
      generalize sumF true (echoBody (false, 21075, p.2.2.2.2.1, w2 (icmpN p))) = S at h1 h3 ⊢
      unfold oc at h1 ⊢
      rw [if_neg (by omega)] at h1 ⊢
      omega
    have w2c : wordAt (echoEnc (true, (conEcho p).2)) 2 = 18432 + p.2.2.2.1 := by
      rw [esh, word_setW (by show 2 + 2 ≤ 10; omega) hcs.1 hcs.2, ecs]
    have hl10 : (echoEnc (true, (conEcho p).2)).length = 10 := by rw [esh, setW_len]; rfl
    have hb : bytes (echoEnc (true, (conEcho p).2)) := by rw [esh]; exact bytes_setW bb
    have h0 : (echoEnc (true, (conEcho p).2)).getD 0 default = 0 := by rw [esh]; rfl
    generalize hD : echoEnc (true, (conEcho p).2) = D at *
    have sb := send_back (src := p.2.1) (dst := p.1) (proto := 1) (data := D) hn (by omega) g.d g.s (by omega) hb
    generalize ipEnc (sendP p.2.1 p.1 1 id ttl D) = x at sb
    obtain ⟨s1, s2, s3, s4⟩ := sb
    have hp1 : protoOf x = 1 := by rw [protoOf, s2]
    have hx : dstOf x = p.1 := by rw [dstOf, s2]
    have hy : srcOf x = p.2.1 := by rw [srcOf, s2]
    rw [wantA, if_neg (by omega), if_neg (by omega)]
    refine read_mk g s1 ?_ hy.symm (by rw [s2]) (by rw [s2]) (fun k => ?_)
    · have eg2 : echoGood D := ⟨u2.1, by rw [u2.2], by rw [u2.2]; rfl, by rw [u2.2]; rfl⟩
      rw [partR, if_pos ⟨hp1, by rw [s3]; omega, by rw [s3]; exact h0⟩, s3, echoR, if_pos eg2, hx, hy, w2c, u2.2]
      have e9 : 18432 + p.2.2.2.1 - 18432 = p.2.2.2.1 := by omega
      rw [e9, noT, h]; rfl
    · have := (ans_facts k).2.2.1 hp1
      rw [s3, h0] at this; cases this
  · have eE : conP p = tcpEnc p.1 p.2.1 (conSeg p) := by rw [con_tcp hr h, tcpEnc, if_pos (tcp_err0 hr)]
    have u := un_tcp (s := p.1) (d := p.2.1) (okSegP hr) bytes_nil (by simp)
    have hun : unTCP (srcOf (build p)) (dstOf (build p)) ((build p).drop 20) = conSeg p := by rw [hs, hd, e3, eE]; exact u.2
    have hh := host_6 (src := p.2.1) hn ha (by rw [hpr]; exact h) (by rw [hs, hd, e3, eE]; exact u.1) (by rw [hun]; show bits .and .i64 2 2 ≠ 0; decide) (by rw [hun]; show bits .and .i64 2 4 = 0; decide)
    refine ⟨hh.2, ?_⟩
    rw [hh.1, hun, hs]
    have eY : rstOf (conSeg p) = (80, 20000 + p.2.2.2.1, 0, p.2.2.2.2.1 + 1, 20, 0, []) := by
      have : (p.2.2.2.2.1 + 1) % 4294967296 = p.2.2.2.2.1 + 1 := by omega
      show (80, 20000 + p.2.2.2.1, 0, (p.2.2.2.2.1 + 1) % 4294967296, 20, 0, []) = _
      rw [this]
    have okY : okSeg [] (rstOf (conSeg p)) := by
      rw [eY]
      refine ⟨⟨(word16_iff _).2 ⟨?_, ?_⟩, (word16_iff _).2 ⟨?_, ?_⟩, ⟨?_, ?_⟩, ⟨?_, ?_⟩, ⟨?_, ?_⟩, (word16_iff _).2 ⟨?_, ?_⟩⟩, rfl⟩ <;> simp only <;> omega
    have u2 := un_tcp (s := p.2.1) (d := p.1) okY bytes_nil (by simp)
    have eg := tcp_good okY (by simp)
    have esh : tcpEnc p.2.1 p.1 (rstOf (conSeg p)) = setW (tcpBody (rstOf (conSeg p))) 16 (pseudo p.2.1 p.1 6 (tcpBody (rstOf (conSeg p)))) := by rw [tcpEnc, if_pos eg]
    have hb : bytes (tcpEnc p.2.1 p.1 (rstOf (conSeg p))) := by rw [esh]; exact bytes_setW (tcp_bytes okY.1 bytes_nil)
    have hl20 : (tcpEnc p.2.1 p.1 (rstOf (conSeg p))).length = 20 := by rw [esh, setW_len]; rfl
    have h13 : (tcpEnc p.2.1 p.1 (rstOf (conSeg p))).getD 13 default = 20 := by rw [esh]; rfl
    rw [eY] at u2
    generalize hD : tcpEnc p.2.1 p.1 (rstOf (conSeg p)) = D at *
    rw [← eY, hD] at u2
    have sb := send_back (src := p.2.1) (dst := p.1) (proto := 6) (data := D) hn (by omega) g.d g.s (by omega) hb
    generalize ipEnc (sendP p.2.1 p.1 6 id ttl D) = x at sb
    obtain ⟨s1, s2, s3, s4⟩ := sb
    have hp1 : protoOf x = 6 := by rw [protoOf, s2]
    have hx : dstOf x = p.1 := by rw [dstOf, s2]
    have hy : srcOf x = p.2.1 := by rw [srcOf, s2]
    rw [eY] at u2
    rw [wantA, if_pos h]
    refine read_mk g s1 ?_ hy.symm (by rw [s2]) (by rw [s2]) (fun k => ?_)
    · have eg2 : resetGood p.2.1 p.1 D := ⟨u2.1, by rw [u2.2], by rw [u2.2], by rw [u2.2], by rw [u2.2], by rw [u2.2]⟩
      rw [partR, if_neg (by rw [hp1]; omega), if_neg (by omega), if_pos hp1, s3, hx, hy, resetR, if_pos eg2, u2.2]
      have e9 : 20000 + p.2.2.2.1 - 20000 = p.2.2.2.1 := by omega
      have e8 : p.2.2.2.2.1 + 1 - 1 = p.2.2.2.2.1 := by omega
      simp only
      rw [e9, e8, noT, h]
    · have := (ans_facts k).2.2.2.1 hp1 (by rw [s3]; omega)
      rw [s3, h13] at this; exact absurd this (by decide)
  · have eE : conP p = udpEnc p.1 p.2.1 (conDgram p) := by rw [con_udp hr h, udpEnc, if_pos (udp_err0 hr)]
    have u := un_udp (s := p.1) (d := p.2.1) (okDgramP hr) (bytes_w2 _) (by rw [w2_bytes2]; omega)
    have hh := host_17 (src := p.2.1) hn ha (by rw [hpr]; exact h) (by rw [hs, hd, e3, eE]; exact u.1)
    refine ⟨hh.2, ?_⟩
    rw [hh.1, wantA, if_neg (by omega), if_pos h]
    exact (is_notice g hu g.d (kind := 3) (code := 3) ⟨.inr rfl, by omega, hn⟩).2.1
theorem bif3 {a b c : Bool} (h1 : a = true) (h2 : b = true) (h3 : c = true) : (bif (bif a then b else false) then c else false) = true := by rw [h1, h2, h3]; rfl
def answered (p : Probe) (x : List Int) : Prop := (¬ usable p.1 → x = []) ∧ (usable p.1 → ∃ a : Ans, 0 < a.2.1 ∧ IsAns p a x)
theorem no_err {p : Probe} (g : Good p) (hu : ¬ usable p.1) {f k c i t : Int} (hg : errGood k c i t) : errB (build p) f k c i t = [] ∧ errE (build p) k c i t = 17 := by
  have := err_bad (src := f) hg (fun k => hu ((ans_build g).1 k))
  exact ⟨this.1.symm, this.2.symm⟩
theorem no_host {p : Probe} (g : Good p) (hu : ¬ usable p.1) {f i t : Int} (hg : numOK i t) : hostB (build p) f i t = [] ∧ hostE (build p) i t = 17 := by
  have := host_bad (src := f) hg (fun k => hu ((ans_build g).1 k.1))
  exact ⟨this.1.symm, this.2.symm⟩
theorem answered_err {p : Probe} (g : Good p) {f k c i t : Int} (hf : u32 f) (hg : errGood k c i t) : answered p (errB (build p) f k c i t) :=
  ⟨fun hu => (no_err g hu hg).1, fun hu => ⟨_, by simp only [kindN]; split <;> (try split) <;> omega, (is_notice g hu hf hg).2.1⟩⟩
theorem answered_host {p : Probe} (g : Good p) {i t : Int} (hg : numOK i t) : answered p (hostB (build p) p.2.1 i t) :=
  ⟨fun hu => (no_host g hu hg).1, fun hu => ⟨_, by unfold wantA; split <;> (try split) <;> simp, (is_host g hu hg).2⟩⟩
theorem nil_no : ¬ ansOK [] := fun k => by have := (ans_facts k).2.1; simp at this
theorem nil_read : readAE [] = 17 ∧ readA [] = (probe0, ans0) := by
  have : ¬ readGood [] := fun k => by have := pk_long (dec_pk k.1); simp at this
  rw [readAE, readA, if_neg this, if_neg this]; exact ⟨rfl, rfl⟩
theorem answered_no {p : Probe} {x : List Int} (h : answered p x) : ¬ ansOK x ∧ x.length ≤ 1500 := by
  by_cases hu : usable p.1
  · obtain ⟨a, -, k⟩ := h.2 hu; exact ⟨k.no, k.len⟩
  · rw [h.1 hu]; exact ⟨nil_no, by simp⟩
def ct_draw_Codes_Answer : Cn := ⟨[.box 69 cCodes, .agg cProbe], [.own 5 cU8], fun d => [okC d.1, Good d.2.1], fun d y => okC y.2.1 ∧ answered d.2.1 y.1.1, fun d h => ⟨((hostB (build d.2.1) d.2.1.2.1 0 0, ()), (d.1, ())), h.1, answered_host h.2.1 ⟨by omega, by omega⟩⟩⟩
def an_draw_Codes_Answer : PDs ct_draw_Codes_Answer.ps → Anns := (fun _ => {})
theorem vc_draw_Codes_Answer :
    ∀ (x : List Int) (x_1 x_2 x_3 x_4 x_5 x_6 x_7 : Int), ((List.length x ≤ maxLen ∧ ∀ (x_8 : Int), x_8 ∈ x → (0 : Int) ≤ x_8 ∧ x_8 ≤ (255 : Int)) ∧ (-9223372036854775808 : Int) ≤ x_1 ∧ x_1 ≤
     (9223372036854775807 : Int)) ∧ (((0 : Int) ≤ x_2 ∧ x_2 ≤ (4294967295 : Int)) ∧ ((0 : Int) ≤ x_3 ∧ x_3 ≤ (4294967295 : Int)) ∧ ((-9223372036854775808 : Int) ≤ x_4 ∧ x_4 ≤ (9223372036854775807 : Int)) ∧
     ((-9223372036854775808 : Int) ≤ x_5 ∧ x_5 ≤ (9223372036854775807 : Int)) ∧ ((-9223372036854775808 : Int) ≤ x_6 ∧ x_6 ≤ (9223372036854775807 : Int)) ∧ (-9223372036854775808 : Int) ≤ x_7 ∧ x_7 ≤
     (9223372036854775807 : Int)) ∧ True → okC (x, x_1) ∧ Good (x_2, x_3, x_4, x_5, x_6, x_7) → okC (x, x_1) ∧ ∀ (x : Int) (x_8 : List Int) (x_9 : Int), okC (x_8, x_9) ∧ (0 : Int) ≤ x ∧ x ≤ (4294967295 :
     Int) → okC (x_8, x_9) ∧ ∀ (x_10 : Int) (x_11 : List Int) (x_12 : Int), (0 : Int) ≤ x_10 ∧ (x_10 < (65536 : Int) ∨ x_10 = (0 : Int)) ∧ okC (x_11, x_12) → okC (x_11, x_12) ∧ ∀ (x_13 : Int) (x_14 : List
     Int) (x_15 : Int), (0 : Int) ≤ x_13 ∧ (x_13 < (255 : Int) ∨ x_13 = (0 : Int)) ∧ okC (x_14, x_15) → okC (x_14, x_15) ∧ ∀ (x_16 : Int) (x_17 : List Int) (x_18 : Int), (0 : Int) ≤ x_16 ∧ (x_16 < (4 :
     Int) ∨ x_16 = (0 : Int)) ∧ okC (x_17, x_18) → ifP (decide (x_16 = (0 : Int))) ((↑(List.length (build (x_2, x_3, x_4, x_5, x_6, x_7))) : Int) ≤ (1099511627776 : Int) ∧ okC (x_17, x_18) ∧ answered (x_2,
     x_3, x_4, x_5, x_6, x_7) (hostB (build (x_2, x_3, x_4, x_5, x_6, x_7)) x_3 x_10 (IntKind.wrap IntKind.i64 ((1 : Int) + x_13)))) (ifP (decide (x_16 = (1 : Int))) (okC (x_17, x_18) ∧ ∀ (x_19 : Int)
     (x_20 : List Int) (x_21 : Int), (0 : Int) ≤ x_19 ∧ (x_19 < (4 : Int) ∨ x_19 = (0 : Int)) ∧ okC (x_20, x_21) → (0 : Int) ≤ x_19 ∧ x_19 < (↑(List.length [(0 : Int), (1 : Int), (3 : Int), (13 : Int)]) :
     Int) ∧ (↑(List.length (build (x_2, x_3, x_4, x_5, x_6, x_7))) : Int) ≤ (1099511627776 : Int) ∧ okC (x_20, x_21) ∧ answered (x_2, x_3, x_4, x_5, x_6, x_7) (errB (build (x_2, x_3, x_4, x_5, x_6, x_7)) x
     (3 : Int) (List.getD [(0 : Int), (1 : Int), (3 : Int), (13 : Int)] (Int.toNat x_19) default) x_10 (IntKind.wrap IntKind.i64 ((1 : Int) + x_13)))) ((↑(List.length (build (x_2, x_3, x_4, x_5, x_6,
     x_7))) : Int) ≤ (1099511627776 : Int) ∧ okC (x_17, x_18) ∧ answered (x_2, x_3, x_4, x_5, x_6, x_7) (errB (build (x_2, x_3, x_4, x_5, x_6, x_7)) x (11 : Int) (0 : Int) x_10 (IntKind.wrap IntKind.i64
     ((1 : Int) + x_13))))) := by
  rintro l p s d pr f t tl - ⟨hc, hg⟩
  have hl := build_len (s, d, pr, f, t, tl)
  refine ⟨hc, ?_⟩
  rintro from' _ _ ⟨hc, f0, f1⟩
  refine ⟨hc, ?_⟩
  rintro id _ _ ⟨i0, i1, hc⟩
  refine ⟨hc, ?_⟩
  rintro ttl _ _ ⟨u0, u1, hc⟩
  refine ⟨hc, ?_⟩
  rw [w64 (n := 1 + ttl) (by omega) (by omega)]
  have hn : numOK id (1 + ttl) := ⟨by omega, by omega⟩
  rintro k _ _ ⟨k0, k1, hc⟩
  refine ifP_split (fun _ => ?_) (fun _ => ifP_split (fun _ => ⟨hc, ?_⟩) (fun _ => ?_))
  · exact ⟨by omega, hc, answered_host hg hn⟩
  · rintro c _ _ ⟨c0, c1, hc⟩
    have hcd := getD_all (p := fun v : Int => 0 ≤ v ∧ v ≤ 255) (xs := [(0 : Int), 1, 3, 13]) (by simp) (i := c) c0 (by simp only [List.length_cons, List.length_nil]; omega)
    exact ⟨c0, by simp only [List.length_cons, List.length_nil]; omega, by omega, hc, answered_err hg ⟨f0, f1⟩ ⟨.inr rfl, hcd, hn⟩⟩
  · exact ⟨by omega, hc, answered_err hg ⟨f0, f1⟩ ⟨.inl rfl, by omega, hn⟩⟩
theorem ok_draw_Codes_Answer : SpecOK Tryz.prog GL 20 ct_draw_Codes_Answer.spec := Cn.ok' _ Tryz.func20 (by kernel_rfl) (withSpec_ok (withSpec_ok (withSpec_ok (withSpec_ok (withSpec_ok noSpecs_ok ok_draw_Codes_Address) ok_Next) ok_ref07_Build) ok_ref08_Host) ok_ref08_Error) hmix an_draw_Codes_Answer (Eq.mpr (by kernel_rfl) vc_draw_Codes_Answer)

def lpReadsE : LPs := [(false, .sl cU8), (false, cU32), (false, .int .u16), (false, cU8), (false, cU8)]
def lpReadsH : LPs := [(false, .sl cU8), (false, .int .u16), (false, cU8)]
def lpEnds : LPs := [(false, .sl cU8), (false, cU32)]
def lpDiffer : LPs := [(false, .sl cU8)]



end Go.RS

