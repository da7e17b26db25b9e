/- Probe: probes, their packets and keys. -/
import Derived.Test.YtdegakknelbjiaaGreatDoorIpv4
namespace Go.RS
open Go.SX Go.Proofs
set_option maxRecDepth 100000
set_option linter.unusedVariables false

abbrev cProbe : CT := .pair cU32 (.pair cU32 (.pair cI (.pair cI (.pair cI cI))))
abbrev Probe : Type := Int × Int × Int × Int × Int × Int
def protoOK (n : Int) : Prop := n = 1 ∨ n = 6 ∨ n = 17
instance (n : Int) : Decidable (protoOK n) := by unfold protoOK; infer_instance
/-- Src, Dst, Proto, Flow, Tag, TTL. -/
def rangeOK (p : Probe) : Prop := (0 ≤ p.2.2.2.1 ∧ p.2.2.2.1 ≤ 1023) ∧ (0 ≤ p.2.2.2.2.1 ∧ p.2.2.2.2.1 ≤ 65534) ∧ 1 ≤ p.2.2.2.2.2 ∧ p.2.2.2.2.2 ≤ 255
instance (p : Probe) : Decidable (rangeOK p) := by unfold rangeOK; infer_instance
def probeErr (p : Probe) : Int := if ¬ protoOK p.2.2.1 then 16 else if ¬ rangeOK p then 1 else 0
def icmpN (p : Probe) : Int := oc (65535 - (16384 + p.2.2.2.1) + csum (echoBody (false, 21075, p.2.2.2.2.1, [0, 0])))
def udpX (p : Probe) : Int := oc (65535 - (p.2.2.2.2.1 + 1) + pseudo p.1 p.2.1 17 (udpBody (20000 + p.2.2.2.1, 33434, [0, 0])))
def udpN (p : Probe) : Int := if udpX p = 0 then 65535 else udpX p
def conEcho (p : Probe) : Echo := (false, 21075, p.2.2.2.2.1, w2 (icmpN p))
def conDgram (p : Probe) : Dgram := (20000 + p.2.2.2.1, 33434, w2 (udpN p))
def conSeg (p : Probe) : Seg := (20000 + p.2.2.2.1, 80, p.2.2.2.2.1, 0, 2, 1024, [])
def conP (p : Probe) : List Int := if p.2.2.1 = 1 then echoEnc (conEcho p) else if p.2.2.1 = 17 then udpEnc p.1 p.2.1 (conDgram p) else tcpEnc p.1 p.2.1 (conSeg p)
def hdrP (p : Probe) : Header := (0, p.2.2.2.2.1, p.2.2.2.2.2, p.2.2.1, true, p.1, p.2.1)
def build (p : Probe) : List Int := if probeErr p = 0 then ipEnc (hdrP p, conP p) else []
def key0 : Key := (0, 0, 0, 0, 0)
def probe0 : Probe := (0, 0, 0, 0, 0, 0)
def keyPkt (x : Packet) : Key := (x.1.2.2.2.2.2.1, x.1.2.2.2.2.2.2, x.1.2.2.2.1, if protoOK x.1.2.2.2.1 ∧ 4 ≤ x.2.length then wordAt x.2 0 else 0, if protoOK x.1.2.2.2.1 ∧ 4 ≤ x.2.length then wordAt x.2 2 else 0)
def keyB (b : List Int) : Key := if decErr b = 0 then keyPkt (decPkt b) else key0
def keyOf (p : Probe) : Key := if probeErr p = 0 then keyB (build p) else key0
def keyOfE (p : Probe) : Int := if probeErr p = 0 then decErr (build p) else probeErr p
def cand (b : List Int) : Probe := ((pkHdrF b).2.2.2.2.2.1, (pkHdrF b).2.2.2.2.2.2, (pkHdrF b).2.2.2.1, if (pkHdrF b).2.2.2.1 = 1 then (keyB b).2.2.2.2 - 16384 else (keyB b).2.2.2.1 - 20000, (pkHdrF b).2.1, (pkHdrF b).2.2.1)
def readOK (b : List Int) : Prop := decErr b = 0 ∧ probeErr (cand b) = 0 ∧ build (cand b) = b
instance (b : List Int) : Decidable (readOK b) := by unfold readOK; infer_instance
def readP (b : List Int) : Probe := if readOK b then cand b else probe0
def readE (b : List Int) : Int := if readOK b then 0 else 17

theorem probe_ok {p : Probe} : probeErr p = 0 ↔ protoOK p.2.2.1 ∧ rangeOK p := by
  unfold probeErr
  constructor
  · intro h
    split at h
    · cases h
    · split at h
      · cases h
      · rename_i h1 h2; exact ⟨Decidable.not_not.1 h1, Decidable.not_not.1 h2⟩
  · rintro ⟨h1, h2⟩
    rw [if_neg (fun k => k h1), if_neg (fun k => k h2)]
theorem word_setW {b : List Int} {i : Nat} {c : Int} (h : i + 2 ≤ b.length) (c0 : 0 ≤ c) (c1 : c ≤ 65535) : wordAt (setW b i c) i = c := by
  rw [wordAt_get (by rw [setW_len]; exact h)]
  unfold setW
  rw [getD_ne (by omega), getD_same (by omega), getD_same (by rw [List.length_set]; omega)]
  omega
theorem word_setW_ne {b : List Int} {i j : Nat} {c : Int} (h : j + 2 ≤ b.length) (hn : j + 2 ≤ i ∨ i + 2 ≤ j) : wordAt (setW b i c) j = wordAt b j := by
  rw [wordAt_get (by rw [setW_len]; exact h), wordAt_get h]
  unfold setW
  rw [getD_ne (by omega), getD_ne (by omega), getD_ne (by omega), getD_ne (by omega)]
theorem pseudo_lt {s d : Int} {p : Int} {X : List Int} (hx : bytes X) (hp : 0 < p % 256) : 0 ≤ pseudo s d p X ∧ pseudo s d p X ≤ 65534 := by
  have h1 := (pseudo_range (a := s) (b := d) (p := p) hx).1
  refine ⟨h1, ?_⟩
  unfold pseudo at h1 ⊢
  split
  · omega
  · unfold csum
    rw [pseudo_sum]
    have h2 := head_nonneg s d p X.length
    have h3 := (sumF_range true X hx).1
    unfold oc
    rw [if_neg (by omega)]; omega
theorem bytes2 : bytes [0, 0] := bytes_cons (by omega) (by omega) (bytes_cons (by omega) (by omega) bytes_nil)
theorem bytes_echo0 (t : Int) : bytes (echoBody (false, 21075, t, [0, 0])) := echo_bytes bytes2
theorem bytes_udp0 (f : Int) : bytes (udpBody (20000 + f, 33434, [0, 0])) := udp_bytes bytes2
theorem icmpN_pos {p : Probe} (h : rangeOK p) : 1 ≤ icmpN p ∧ icmpN p ≤ 65535 := by
  have := csum_range (bytes_echo0 p.2.2.2.2.1)
  obtain ⟨⟨h1, h2⟩, -⟩ := h
  unfold icmpN oc
  rw [if_neg (by omega)]; omega
theorem udpX_range {p : Probe} (h : rangeOK p) : 0 ≤ udpX p ∧ udpX p ≤ 65535 := by
  have := pseudo_lt (s := p.1) (d := p.2.1) (p := 17) (bytes_udp0 p.2.2.2.1) (by decide)
  obtain ⟨-, ⟨h1, h2⟩, -⟩ := h
  exact oc_range (by omega)
theorem udpN_pos {p : Probe} (h : rangeOK p) : 1 ≤ udpN p ∧ udpN p ≤ 65535 := by
  have := udpX_range h
  unfold udpN; split <;> omega
theorem udp_prog {p : Probe} (h : rangeOK p) : oc (65535 - Int.tmod (p.2.2.2.2.1 + 1) 65535 + pseudo p.1 p.2.1 17 (udpBody (20000 + p.2.2.2.1, 33434, [0, 0]))) = udpN p := by
  have hs := pseudo_lt (s := p.1) (d := p.2.1) (p := 17) (bytes_udp0 p.2.2.2.1) (by decide)
  obtain ⟨-, ⟨h1, h2⟩, -⟩ := h
  unfold udpN udpX
  generalize pseudo p.1 p.2.1 17 (udpBody (20000 + p.2.2.2.1, 33434, [0, 0])) = s at hs
  rw [Int.tmod_eq_emod_of_nonneg (by omega)]
  by_cases ht : p.2.2.2.2.1 = 65534
  · rw [ht]
    unfold oc
    by_cases h0 : s = 0
    · subst h0; decide
    · rw [if_neg (by omega), if_neg (by omega), if_neg (by omega)]; omega
  · have e : (p.2.2.2.2.1 + 1) % 65535 = p.2.2.2.2.1 + 1 := Int.emod_eq_of_lt (by omega) (by omega)
    rw [e]
    have : 1 ≤ oc (65535 - (p.2.2.2.2.1 + 1) + s) := by unfold oc; rw [if_neg (by omega)]; omega
    rw [if_neg (by omega)]
theorem sumU_mod {s d : Int} {X : List Int} (hx : bytes X) : Int.tmod (sumU s d X) 65535 = pseudo s d 17 X := by
  have h := pseudo_lt (s := s) (d := d) (p := 17) hx (by decide)
  unfold sumU
  split
  · rename_i k; rw [k]; decide
  · rw [Int.tmod_eq_emod_of_nonneg (by omega)]; exact Int.emod_eq_of_lt (by omega) (by omega)
theorem w2_bytes2 (n : Int) : (w2 n).length = 2 := rfl
theorem okEchoP {p : Probe} (h : rangeOK p) : okEcho (w2 (icmpN p)) (conEcho p) := by
  obtain ⟨-, ⟨h1, h2⟩, -⟩ := h
  exact ⟨⟨(word16_iff _).2 ⟨by show (0 : Int) ≤ 21075; omega, by show (21075 : Int) ≤ _; omega⟩, (word16_iff _).2 ⟨h1, by show p.2.2.2.2.1 ≤ _; omega⟩⟩, rfl⟩
theorem okDgramP {p : Probe} (h : rangeOK p) : okDgram (w2 (udpN p)) (conDgram p) := by
  obtain ⟨⟨h1, h2⟩, -⟩ := h
  exact ⟨⟨(word16_iff _).2 ⟨by show (0 : Int) ≤ 20000 + p.2.2.2.1; omega, by show 20000 + p.2.2.2.1 ≤ _; omega⟩, (word16_iff _).2 ⟨by show (0 : Int) ≤ 33434; omega, by show (33434 : Int) ≤ _; omega⟩⟩, rfl⟩
theorem okSegP {p : Probe} (h : rangeOK p) : okSeg [] (conSeg p) := by
  obtain ⟨⟨h1, h2⟩, ⟨h3, h4⟩, -⟩ := h
  refine ⟨⟨(word16_iff _).2 ⟨?_, ?_⟩, (word16_iff _).2 ⟨?_, ?_⟩, ⟨?_, ?_⟩, ⟨?_, ?_⟩, ⟨?_, ?_⟩, (word16_iff _).2 ⟨?_, ?_⟩⟩, rfl⟩ <;> simp only [conSeg] <;> omega
theorem echo_err0 {p : Probe} (h : rangeOK p) : echoErr (conEcho p) = 0 := echo_good (okEchoP h) (by rw [w2_bytes2]; omega)
theorem udp_err0 {p : Probe} (h : rangeOK p) : udpErr (conDgram p) = 0 := udp_good (okDgramP h) (by rw [w2_bytes2]; omega)
theorem tcp_err0 {p : Probe} (h : rangeOK p) : tcpErr (conSeg p) = 0 := tcp_good (okSegP h) (by simp)
theorem con_echo {p : Probe} (h : rangeOK p) (h1 : p.2.2.1 = 1) : conP p = setW (echoBody (conEcho p)) 2 (csum (echoBody (conEcho p))) := by
  rw [conP, if_pos h1, echoEnc, if_pos (echo_err0 h)]
theorem con_udp {p : Probe} (h : rangeOK p) (h1 : p.2.2.1 = 17) : conP p = setW (udpBody (conDgram p)) 6 (sumU p.1 p.2.1 (udpBody (conDgram p))) := by
  rw [conP, if_neg (by omega), if_pos h1, udpEnc, if_pos (udp_err0 h)]
theorem con_tcp {p : Probe} (h : rangeOK p) (h1 : p.2.2.1 = 6) : conP p = setW (tcpBody (conSeg p)) 16 (pseudo p.1 p.2.1 6 (tcpBody (conSeg p))) := by
  rw [conP, if_neg (by omega), if_neg (by omega), tcpEnc, if_pos (tcp_err0 h)]
theorem con_len {p : Probe} (h : probeErr p = 0) : (p.2.2.1 ≠ 6 ∧ (conP p).length = 10) ∨ (p.2.2.1 = 6 ∧ (conP p).length = 20) := by
  obtain ⟨h1 | h1 | h1, h2⟩ := probe_ok.1 h
  · rw [con_echo h2 h1, setW_len]; exact .inl ⟨by omega, rfl⟩
  · rw [con_tcp h2 h1, setW_len]; exact .inr ⟨h1, rfl⟩
  · rw [con_udp h2 h1, setW_len]; exact .inl ⟨by omega, rfl⟩
theorem con_bytes {p : Probe} (h : probeErr p = 0) : bytes (conP p) := by
  obtain ⟨h1 | h1 | h1, h2⟩ := probe_ok.1 h
  · rw [con_echo h2 h1]; exact bytes_setW (echo_bytes (bytes_w2 _))
  · rw [con_tcp h2 h1]; exact bytes_setW (tcp_bytes (okSegP h2).1 bytes_nil)
  · rw [con_udp h2 h1]; exact bytes_setW (udp_bytes (bytes_w2 _))
theorem hdrP_ok {p : Probe} (h : probeErr p = 0) : hdrOK (hdrP p) := by
  obtain ⟨h1, ⟨-, ⟨h2, h3⟩, h4, h5⟩⟩ := probe_ok.1 h
  refine ⟨⟨?_, ?_⟩, ⟨?_, ?_⟩, ⟨?_, ?_⟩, ?_, ?_⟩ <;> simp only [hdrP] <;> unfold protoOK at h1 <;> omega
theorem ipErr0 {p : Probe} (h : probeErr p = 0) : ipErr (hdrP p, conP p) = 0 := by
  rw [ipErr, if_neg (fun k => k (hdrP_ok h)), if_neg]
  rcases con_len h with h | h <;> rw [h.2] <;> simp
theorem build_eq {p : Probe} (h : probeErr p = 0) : build p = hdrB (hdrP p) (20 + (conP p).length) ++ conP p := by
  rw [build, if_pos h, ipEnc, if_pos (ipErr0 h)]
theorem build_len (p : Probe) : (build p).length ≤ 40 := by
  by_cases h : probeErr p = 0
  · rw [build_eq h, List.length_append, hdrB_len]
    rcases con_len h with h | h <;> omega
  · rw [build, if_neg h]; simp
theorem build_bytes (p : Probe) : bytes (build p) := by
  by_cases h : probeErr p = 0
  · rw [build_eq h]; exact bytes_app (hdrB_bytes (hdrP_ok h)) (con_bytes h)
  · rw [build, if_neg h]; exact bytes_nil
theorem keyB_range {b : List Int} (hb : bytes b) : 0 ≤ (keyB b).2.2.2.1 ∧ (keyB b).2.2.2.1 ≤ 65535 ∧ 0 ≤ (keyB b).2.2.2.2 ∧ (keyB b).2.2.2.2 ≤ 65535 := by
  unfold keyB keyPkt
  split
  · rename_i h
    rw [decPkt, if_pos h]
    simp only
    have h1 := bytes_word (bytes_drop (n := 20) hb) 0
    have h2 := bytes_word (bytes_drop (n := 20) hb) 2
    split <;> omega
  · simp [key0]
theorem read_len {b : List Int} (h : readOK b) : 30 ≤ b.length := by
  obtain ⟨h1, h2, h3⟩ := h
  rw [← h3, build_eq h2, List.length_append, hdrB_len]
  rcases con_len h2 with h | h <;> omega
theorem key_proto {b : List Int} (h : decErr b = 0) : keyB b = keyPkt (pkHdrF b, b.drop 20) := by rw [keyB, if_pos h, decPkt, if_pos h]
def ct_probe_Check : Ct := ⟨[.agg cProbe], [.val cI], fun d => [], fun d => ((probeErr d.1, ()), ())⟩
def an_probe_Check : PDs ct_probe_Check.ps → Anns := (fun _ => {})
theorem vc_probe_Check :
    ∀ (x x_1 x_2 x_3 x_4 x_5 : Int), (((0 : Int) ≤ x ∧ x ≤ (4294967295 : Int)) ∧ ((0 : Int) ≤ x_1 ∧ x_1 ≤ (4294967295 : Int)) ∧ ((-9223372036854775808 : Int) ≤ x_2 ∧ x_2 ≤ (9223372036854775807 : Int)) ∧
     ((-9223372036854775808 : Int) ≤ x_3 ∧ x_3 ≤ (9223372036854775807 : Int)) ∧ ((-9223372036854775808 : Int) ≤ x_4 ∧ x_4 ≤ (9223372036854775807 : Int)) ∧ (-9223372036854775808 : Int) ≤ x_5 ∧ x_5 ≤
     (9223372036854775807 : Int)) ∧ True → True → ∀ (b : Bool), b = !decide (x_2 = (1 : Int)) → (b = true → (b = true → b = true) ∧ True) ∧ (b = true → (b = true → b = true) ∧ True) ∧ (b = true → b = true)
     ∧ ∀ (b_1 : Bool), (b_1 = bif b then !decide (x_2 = (6 : Int)) else false) → (b_1 = true → (b_1 = true → b_1 = true) ∧ True) ∧ (b_1 = true → (b_1 = true → b_1 = true) ∧ True) ∧ (b_1 = true → b_1 =
     true) ∧ ifP (bif b_1 then !decide (x_2 = (17 : Int)) else false) ((16 : Int) = probeErr (x, x_1, x_2, x_3, x_4, x_5)) (∀ (b : Bool), b = decide (x_3 < (0 : Int)) → ((!b) = true → ((!b) = true → (!b) =
     true) ∧ True) ∧ ((!b) = true → ((!b) = true → (!b) = true) ∧ True) ∧ (b = false → (!b) = true) ∧ ifP (bif b then true else decide ((1023 : Int) < x_3)) (ifP (bif b then true else decide ((1023 : Int)
     < x_3)) ((1 : Int) = probeErr (x, x_1, x_2, x_3, x_4, x_5)) ((0 : Int) = probeErr (x, x_1, x_2, x_3, x_4, x_5))) (∀ (b : Bool), b = decide (x_4 < (0 : Int)) → ((!b) = true → ((!b) = true → (!b) =
     true) ∧ True) ∧ ((!b) = true → ((!b) = true → (!b) = true) ∧ True) ∧ (b = false → (!b) = true) ∧ ifP (bif b then true else decide ((65534 : Int) < x_4)) (ifP (bif b then true else decide ((65534 :
     Int) < x_4)) ((1 : Int) = probeErr (x, x_1, x_2, x_3, x_4, x_5)) ((0 : Int) = probeErr (x, x_1, x_2, x_3, x_4, x_5))) (∀ (b : Bool), b = decide (x_5 < (1 : Int)) → ((!b) = true → ((!b) = true → (!b) =
     true) ∧ True) ∧ ((!b) = true → ((!b) = true → (!b) = true) ∧ True) ∧ (b = false → (!b) = true) ∧ ifP (bif b then true else decide ((255 : Int) < x_5)) ((1 : Int) = probeErr (x, x_1, x_2, x_3, x_4,
     x_5)) ((0 : Int) = probeErr (x, x_1, x_2, x_3, x_4, x_5))))) := by
  rintro s d pr f t l - -
  (repeat (intro (b_ : Bool) (hb_ : b_ = _); (repeat refine ⟨(by first | (simp; done) | (rw [hb_]; simp; done) | (rw [hb_]; simp; omega) | (rw [hb_]; simp; intros; omega) | (rw [hb_]; simp +contextual; done)), ?_⟩); subst hb_))
  refine ifP_split (fun hc => ?_) (fun hc => ?_)
  · rw [probeErr, if_pos]
    simp only [protoOK]
    intro k
    rcases k with rfl | rfl | rfl <;> simp at hc
  have hp : protoOK pr := by
    unfold protoOK
    by_cases h1 : pr = 1
    · exact .inl h1
    · by_cases h6 : pr = 6
      · exact .inr (.inl h6)
      · simp [h1, h6] at hc; exact .inr (.inr hc)
  have key : ∀ (v : Int), (v = if rangeOK (s, d, pr, f, t, l) then 0 else 1) → v = probeErr (s, d, pr, f, t, l) := by
    intro v hv
    rw [probeErr, if_neg (fun k => k hp), hv]
    by_cases k : rangeOK (s, d, pr, f, t, l)
    · rw [if_pos k, if_neg (fun q => q k)]
    · rw [if_neg k, if_pos k]
  (repeat (intro (b_ : Bool) (hb_ : b_ = _); (repeat refine ⟨(by first | (simp; done) | (rw [hb_]; simp; done) | (rw [hb_]; simp; omega) | (rw [hb_]; simp; intros; omega) | (rw [hb_]; simp +contextual; done)), ?_⟩); subst hb_))
  refine ifP_split (fun h1 => ?_) (fun h1 => ?_)
  · have hn : ¬ rangeOK (s, d, pr, f, t, l) := by
      rintro ⟨⟨a, b⟩, -⟩
      simp only at a b
      simp [Bool.cond_eq_ite] at h1; omega
    exact ifP_split (fun _ => key 1 (by rw [if_neg hn])) (fun h => by rw [h] at h1; cases h1)
  (repeat (intro (b_ : Bool) (hb_ : b_ = _); (repeat refine ⟨(by first | (simp; done) | (rw [hb_]; simp; done) | (rw [hb_]; simp; omega) | (rw [hb_]; simp; intros; omega) | (rw [hb_]; simp +contextual; done)), ?_⟩); subst hb_))
  refine ifP_split (fun h2 => ?_) (fun h2 => ?_)
  · have hn : ¬ rangeOK (s, d, pr, f, t, l) := by
      rintro ⟨-, ⟨a, b⟩, -⟩
      simp only at a b
      simp [Bool.cond_eq_ite] at h2; omega
    exact ifP_split (fun _ => key 1 (by rw [if_neg hn])) (fun h => by rw [h] at h2; cases h2)
  (repeat (intro (b_ : Bool) (hb_ : b_ = _); (repeat refine ⟨(by first | (simp; done) | (rw [hb_]; simp; done) | (rw [hb_]; simp; omega) | (rw [hb_]; simp; intros; omega) | (rw [hb_]; simp +contextual; done)), ?_⟩); subst hb_))
  simp [Bool.cond_eq_ite] at h1 h2
  refine ifP_split (fun h3 => ?_) (fun h3 => ?_)
  · have hn : ¬ rangeOK (s, d, pr, f, t, l) := by
      rintro ⟨-, -, a, b⟩
      simp only at a b
      simp [Bool.cond_eq_ite] at h3; omega
    exact key 1 (by rw [if_neg hn])
  · have hn : rangeOK (s, d, pr, f, t, l) := by
      simp [Bool.cond_eq_ite] at h3
      refine ⟨⟨?_, ?_⟩, ⟨?_, ?_⟩, ?_, ?_⟩ <;> simp only <;> omega
    exact key 0 (by rw [if_pos hn])
theorem ok_probe_Check : SpecOK Tryz.prog GL 49 ct_probe_Check.spec := Ct.ok' _ Tryz.func49 (by kernel_rfl) noSpecs_ok hmix an_probe_Check (Eq.mpr (by kernel_rfl) vc_probe_Check)

def ct_ref07_Check : Ct := ⟨[.agg cProbe], [.val cI], fun d => [], fun d => ((probeErr d.1, ()), ())⟩
def an_ref07_Check : PDs ct_ref07_Check.ps → Anns := (fun _ => {})
theorem vc_ref07_Check :
    ∀ (x x_1 x_2 x_3 x_4 x_5 : Int), (((0 : Int) ≤ x ∧ x ≤ (4294967295 : Int)) ∧ ((0 : Int) ≤ x_1 ∧ x_1 ≤ (4294967295 : Int)) ∧ ((-9223372036854775808 : Int) ≤ x_2 ∧ x_2 ≤ (9223372036854775807 : Int)) ∧
     ((-9223372036854775808 : Int) ≤ x_3 ∧ x_3 ≤ (9223372036854775807 : Int)) ∧ ((-9223372036854775808 : Int) ≤ x_4 ∧ x_4 ≤ (9223372036854775807 : Int)) ∧ (-9223372036854775808 : Int) ≤ x_5 ∧ x_5 ≤
     (9223372036854775807 : Int)) ∧ True → True → ∀ (b : Bool), b = !decide (x_2 = (1 : Int)) → (b = true → (b = true → b = true) ∧ True) ∧ (b = true → (b = true → b = true) ∧ True) ∧ (b = true → b = true)
     ∧ ∀ (b_1 : Bool), (b_1 = bif b then !decide (x_2 = (17 : Int)) else false) → (b_1 = true → (b_1 = true → b_1 = true) ∧ True) ∧ (b_1 = true → (b_1 = true → b_1 = true) ∧ True) ∧ (b_1 = true → b_1 =
     true) ∧ ifP (bif b_1 then !decide (x_2 = (6 : Int)) else false) ((16 : Int) = probeErr (x, x_1, x_2, x_3, x_4, x_5)) (∀ (b : Bool), b = decide (x_3 < (0 : Int)) → ((!b) = true → ((!b) = true → (!b) =
     true) ∧ True) ∧ ((!b) = true → ((!b) = true → (!b) = true) ∧ True) ∧ (b = false → (!b) = true) ∧ ∀ (b_2 : Bool), (b_2 = bif b then true else decide ((1023 : Int) < x_3)) → ((!b_2) = true → ((!b_2) =
     true → (!b_2) = true) ∧ True) ∧ ((!b_2) = true → ((!b_2) = true → (!b_2) = true) ∧ True) ∧ (b_2 = false → (!b_2) = true) ∧ ∀ (b : Bool), (b = bif b_2 then true else decide (x_4 < (0 : Int))) → ((!b) =
     true → ((!b) = true → (!b) = true) ∧ True) ∧ ((!b) = true → ((!b) = true → (!b) = true) ∧ True) ∧ (b = false → (!b) = true) ∧ ∀ (b_3 : Bool), (b_3 = bif b then true else decide ((65534 : Int) < x_4))
     → ((!b_3) = true → ((!b_3) = true → (!b_3) = true) ∧ True) ∧ ((!b_3) = true → ((!b_3) = true → (!b_3) = true) ∧ True) ∧ (b_3 = false → (!b_3) = true) ∧ ∀ (b : Bool), (b = bif b_3 then true else decide
     (x_5 < (1 : Int))) → ((!b) = true → ((!b) = true → (!b) = true) ∧ True) ∧ ((!b) = true → ((!b) = true → (!b) = true) ∧ True) ∧ (b = false → (!b) = true) ∧ ifP (bif b then true else decide ((255 : Int)
     < x_5)) ((1 : Int) = probeErr (x, x_1, x_2, x_3, x_4, x_5)) ((0 : Int) = probeErr (x, x_1, x_2, x_3, x_4, x_5))) := by
  rintro s d pr f t l - -
  (repeat (intro (b_ : Bool) (hb_ : b_ = _); (repeat refine ⟨(by first | (simp; done) | (rw [hb_]; simp; done) | (rw [hb_]; simp; omega) | (rw [hb_]; simp; intros; omega) | (rw [hb_]; simp +contextual; done)), ?_⟩); subst hb_))
  refine ifP_split (fun hc => ?_) (fun hc => ?_)
  · rw [probeErr, if_pos]
    simp only [protoOK]
    intro k
    rcases k with rfl | rfl | rfl <;> simp at hc
  have hp : protoOK pr := by
    unfold protoOK
    by_cases h1 : pr = 1
    · exact .inl h1
    · by_cases h6 : pr = 17
      · exact .inr (.inr h6)
      · simp [h1, h6] at hc; exact .inr (.inl hc)
  have key : ∀ (v : Int), (v = if rangeOK (s, d, pr, f, t, l) then 0 else 1) → v = probeErr (s, d, pr, f, t, l) := by
    intro v hv
    rw [probeErr, if_neg (fun k => k hp), hv]
    by_cases k : rangeOK (s, d, pr, f, t, l)
    · rw [if_pos k, if_neg (fun q => q k)]
    · rw [if_neg k, if_pos k]
  (repeat (intro (b_ : Bool) (hb_ : b_ = _); (repeat refine ⟨(by first | (simp; done) | (rw [hb_]; simp; done) | (rw [hb_]; simp; omega) | (rw [hb_]; simp; intros; omega) | (rw [hb_]; simp +contextual; done)), ?_⟩); subst hb_))
  refine ifP_split (fun h1 => ?_) (fun h1 => ?_)
  · have hn : ¬ rangeOK (s, d, pr, f, t, l) := by
      rintro ⟨⟨a, b⟩, ⟨a2, b2⟩, a3, b3⟩
      simp only at a b a2 b2 a3 b3
      simp [Bool.cond_eq_ite] at h1; omega
    exact key 1 (by rw [if_neg hn])
  · have hn : rangeOK (s, d, pr, f, t, l) := by
      simp [Bool.cond_eq_ite] at h1
      refine ⟨⟨?_, ?_⟩, ⟨?_, ?_⟩, ?_, ?_⟩ <;> simp only <;> omega
    exact key 0 (by rw [if_pos hn])
theorem ok_ref07_Check : SpecOK Tryz.prog GL 43 ct_ref07_Check.spec := Ct.ok' _ Tryz.func43 (by kernel_rfl) noSpecs_ok hmix an_ref07_Check (Eq.mpr (by kernel_rfl) vc_ref07_Check)

def ct_probe_balance : Ct := ⟨[.val cI, .val cI], [.own 5 cU8], fun d => [0 ≤ d.1, d.1 ≤ 65535, 0 ≤ d.2.1, d.2.1 ≤ 65535], fun d => ((w2 (oc (65535 - d.2.1 + d.1)), ()), ())⟩
def an_probe_balance : PDs ct_probe_balance.ps → Anns := (fun _ => {})
theorem vc_probe_balance :
    ∀ (x x_1 : Int), ((-9223372036854775808 : Int) ≤ x ∧ x ≤ (9223372036854775807 : Int)) ∧ ((-9223372036854775808 : Int) ≤ x_1 ∧ x_1 ≤ (9223372036854775807 : Int)) ∧ True → (0 : Int) ≤ x ∧ x ≤ (65535 :
     Int) ∧ (0 : Int) ≤ x_1 ∧ x_1 ≤ (65535 : Int) → (0 : Int) ≤ (8 : Int) ∧ [IntKind.wrap IntKind.u8 (shrI IntKind.i64 (if (word16 (IntKind.wrap IntKind.i64 ((65535 : Int) - x_1)) && word16 x) = true then
     oc (IntKind.wrap IntKind.i64 ((65535 : Int) - x_1) + x) else (0 : Int)) (8 : Int)), IntKind.wrap IntKind.u8 (if (word16 (IntKind.wrap IntKind.i64 ((65535 : Int) - x_1)) && word16 x) = true then oc
     (IntKind.wrap IntKind.i64 ((65535 : Int) - x_1) + x) else (0 : Int))] = w2 (oc ((65535 : Int) - x_1 + x)) := by
  rintro a b - ⟨a0, a1, b0, b1⟩
  rw [w64 (n := 65535 - b) (by omega) (by omega), if_pos (by simp only [Bool.and_eq_true, word16_iff]; omega)]
  have := oc_range (n := 65535 - b + a) (by omega)
  rw [shr8 this.1, IntKind.wrap_u8', IntKind.wrap_u8']
  exact ⟨by omega, rfl⟩
theorem ok_probe_balance : SpecOK Tryz.prog GL 109 ct_probe_balance.spec := Ct.ok' _ Tryz.func109 (by kernel_rfl) (withSpec_ok noSpecs_ok ok_wire_Add) hmix an_probe_balance (Eq.mpr (by kernel_rfl) vc_probe_balance)

def ct_probe_content : Ct := ⟨[.agg cProbe], [.own 5 cU8, .val cI], fun d => [probeErr d.1 = 0], fun d => ((conP d.1, 0, ()), ())⟩
def an_probe_content : PDs ct_probe_content.ps → Anns := (fun _ => {})
theorem vc_probe_content :
    ∀ (x x_1 x_2 x_3 x_4 x_5 : Int), (((0 : Int) ≤ x ∧ x ≤ (4294967295 : Int)) ∧ ((0 : Int) ≤ x_1 ∧ x_1 ≤ (4294967295 : Int)) ∧ ((-9223372036854775808 : Int) ≤ x_2 ∧ x_2 ≤ (9223372036854775807 : Int)) ∧
     ((-9223372036854775808 : Int) ≤ x_3 ∧ x_3 ≤ (9223372036854775807 : Int)) ∧ ((-9223372036854775808 : Int) ≤ x_4 ∧ x_4 ≤ (9223372036854775807 : Int)) ∧ (-9223372036854775808 : Int) ≤ x_5 ∧ x_5 ≤
     (9223372036854775807 : Int)) ∧ True → probeErr (x, x_1, x_2, x_3, x_4, x_5) = (0 : Int) → ifP (decide (x_2 = (1 : Int))) ((↑(List.length [(0 : Int), (0 : Int)]) : Int) ≤ (1073741824 : Int) ∧ ∀ (x_6 :
     List Int) (x_7 : Int), x_6 = echoEnc (false, (21075 : Int), x_4, [(0 : Int), (0 : Int)]) ∧ x_7 = echoErr (false, (21075 : Int), x_4, [(0 : Int), (0 : Int)]) → (↑(List.length x_6) : Int) ≤
     (1099511627776 : Int) ∧ ∀ (x_8 x_9 : Int), x_8 = getV x_6 (2 : Int) (2 : Int) ∧ x_9 = getE x_6 (2 : Int) (2 : Int) → (0 : Int) ≤ x_8 ∧ x_8 ≤ (65535 : Int) ∧ (0 : Int) ≤ IntKind.wrap IntKind.i64
     ((16384 : Int) + x_3) ∧ IntKind.wrap IntKind.i64 ((16384 : Int) + x_3) ≤ (65535 : Int) ∧ ∀ (x_10 : List Int), x_10 = w2 (oc ((65535 : Int) - IntKind.wrap IntKind.i64 ((16384 : Int) + x_3) + x_8)) →
     (↑(List.length x_10) : Int) ≤ (1073741824 : Int) ∧ ∀ (x_11 : List Int) (x_12 : Int), x_11 = echoEnc (false, (21075 : Int), x_4, x_10) ∧ x_12 = echoErr (false, (21075 : Int), x_4, x_10) → x_11 = conP
     (x, x_1, x_2, x_3, x_4, x_5) ∧ x_12 = (0 : Int)) (ifP (decide (x_2 = (17 : Int))) ((↑(List.length [(0 : Int), (0 : Int)]) : Int) ≤ (1073741824 : Int) ∧ ∀ (x_6 : List Int) (x_7 : Int), x_6 = udpEnc x
     x_1 (IntKind.wrap IntKind.i64 ((20000 : Int) + x_3), (33434 : Int), [(0 : Int), (0 : Int)]) ∧ x_7 = udpErr (IntKind.wrap IntKind.i64 ((20000 : Int) + x_3), (33434 : Int), [(0 : Int), (0 : Int)]) →
     (↑(List.length x_6) : Int) ≤ (1099511627776 : Int) ∧ ∀ (x_8 x_9 : Int), x_8 = getV x_6 (6 : Int) (2 : Int) ∧ x_9 = getE x_6 (6 : Int) (2 : Int) → (65535 : Int) ≠ (0 : Int) ∧ (65535 : Int) ≠ (0 : Int)
     ∧ (0 : Int) ≤ Int.tmod x_8 (65535 : Int) ∧ Int.tmod x_8 (65535 : Int) ≤ (65535 : Int) ∧ (0 : Int) ≤ Int.tmod (IntKind.wrap IntKind.i64 (x_4 + (1 : Int))) (65535 : Int) ∧ Int.tmod (IntKind.wrap
     IntKind.i64 (x_4 + (1 : Int))) (65535 : Int) ≤ (65535 : Int) ∧ ∀ (x_10 : List Int), x_10 = w2 (oc ((65535 : Int) - Int.tmod (IntKind.wrap IntKind.i64 (x_4 + (1 : Int))) (65535 : Int) + Int.tmod x_8
     (65535 : Int))) → (↑(List.length x_10) : Int) ≤ (1073741824 : Int) ∧ ∀ (x_11 : List Int) (x_12 : Int), x_11 = udpEnc x x_1 (IntKind.wrap IntKind.i64 ((20000 : Int) + x_3), (33434 : Int), x_10) ∧ x_12
     = udpErr (IntKind.wrap IntKind.i64 ((20000 : Int) + x_3), (33434 : Int), x_10) → x_11 = conP (x, x_1, x_2, x_3, x_4, x_5) ∧ x_12 = (0 : Int)) ((↑(0 : Nat) : Int) ≤ (1000000 : Int) ∧ tcpEnc x x_1
     (IntKind.wrap IntKind.i64 ((20000 : Int) + x_3), (80 : Int), x_4, (0 : Int), (2 : Int), (1024 : Int), ([] : List Int)) = conP (x, x_1, x_2, x_3, x_4, x_5) ∧ tcpErr (IntKind.wrap IntKind.i64 ((20000 :
     Int) + x_3), (80 : Int), x_4, (0 : Int), (2 : Int), (1024 : Int), ([] : List Int)) = (0 : Int))) := by
  rintro s d pr f t l - he
  obtain ⟨hp, hr⟩ := probe_ok.1 he
  have hr' := hr
  obtain ⟨⟨f0, f1⟩, ⟨t0, t1⟩, l0, l1⟩ := hr'
  simp only at f0 f1 t0 t1 l0 l1
  rw [w64 (n := 16384 + f) (by omega) (by omega), w64 (n := 20000 + f) (by omega) (by omega), w64 (n := t + 1) (by omega) (by omega)]
  refine ifP_split (fun h1 => ?_) (fun h1 => ifP_split (fun h17 => ?_) (fun h17 => ?_))
  · have h1 := of_decide_eq_true h1
    have e0 : echoErr (false, 21075, t, [0, 0]) = 0 := echo_good (data := [0, 0]) ⟨⟨(word16_iff _).2 ⟨by show (0 : Int) ≤ 21075; omega, by show (21075 : Int) ≤ _; omega⟩, (word16_iff _).2 ⟨t0, by show t ≤ _; omega⟩⟩, rfl⟩ (by simp)
    have hc := csum_range (bytes_echo0 t)
    refine ⟨by simp, ?_⟩
    rintro b _ ⟨rfl, -⟩
    rw [echoEnc, if_pos e0]
    have hl : (setW (echoBody (false, 21075, t, [0, 0])) 2 (csum (echoBody (false, 21075, t, [0, 0])))).length = 10 := by rw [setW_len]; rfl
    refine ⟨by omega, ?_⟩
    rw [gV2 (by omega) (by omega), show Int.toNat 2 = 2 from rfl, word_setW (by show 2 + 2 ≤ 10; omega) hc.1 hc.2]
    rintro _ _ ⟨rfl, -⟩
    refine ⟨hc.1, hc.2, by omega, by omega, ?_⟩
    rintro _ rfl
    refine ⟨by rw [w2_bytes2]; omega, ?_⟩
    rintro _ _ ⟨rfl, rfl⟩
    have e1 := echo_err0 hr
    rw [conP, if_pos h1]
    exact ⟨rfl, e1⟩
  · have h17 := of_decide_eq_true h17
    have e0 : udpErr (20000 + f, 33434, [0, 0]) = 0 := udp_good (data := [0, 0]) ⟨⟨(word16_iff _).2 ⟨by show (0 : Int) ≤ 20000 + f; omega, by show 20000 + f ≤ _; omega⟩, (word16_iff _).2 ⟨by show (0 : Int) ≤ 33434; omega, by show (33434 : Int) ≤ _; omega⟩⟩, rfl⟩ (by simp)
    have hc := sumU_range (a := s) (b := d) (bytes_udp0 f)
    have hm := sumU_mod (s := s) (d := d) (bytes_udp0 f)
    have hq := pseudo_lt (s := s) (d := d) (p := 17) (bytes_udp0 f) (by decide)
    refine ⟨by simp, ?_⟩
    rintro b _ ⟨rfl, -⟩
    rw [udpEnc, if_pos e0]
    have hl : (setW (udpBody (20000 + f, 33434, [0, 0])) 6 (sumU s d (udpBody (20000 + f, 33434, [0, 0])))).length = 10 := by rw [setW_len]; rfl
    refine ⟨by omega, ?_⟩
    rw [gV2 (by omega) (by omega), show Int.toNat 6 = 6 from rfl, word_setW (by show 6 + 2 ≤ 10; omega) hc.1 hc.2]
    rintro _ _ ⟨rfl, -⟩
    rw [hm]
    have m0 := tmod_lo (a := t + 1) (b := 65535) (by omega)
    have m1 := tmod_hi (a := t + 1) (b := 65535) (by omega) (by omega)
    refine ⟨by omega, by omega, hq.1, by omega, m0, by omega, ?_⟩
    have hu := udp_prog (p := (s, d, pr, f, t, l)) hr
    simp only at hu
    rw [hu]
    rintro _ rfl
    refine ⟨by rw [w2_bytes2]; omega, ?_⟩
    rintro _ _ ⟨rfl, rfl⟩
    have e1 := udp_err0 hr
    rw [conP, if_neg (by simp only; omega), if_pos h17]
    exact ⟨rfl, e1⟩
  · have h1 := of_decide_eq_false h1
    have h17 := of_decide_eq_false h17
    have e1 := tcp_err0 hr
    rw [conP, if_neg h1, if_neg h17]
    exact ⟨by omega, rfl, e1⟩
theorem ok_probe_content : SpecOK Tryz.prog GL 82 ct_probe_content.spec := Ct.ok' _ Tryz.func82 (by kernel_rfl) (withSpec_ok (withSpec_ok (withSpec_ok (withSpec_ok (withSpec_ok noSpecs_ok (Ct.named ok_transport_EncodeEcho)) (Ct.named ok_wire_Get)) (Ct.named ok_probe_balance)) (Ct.named ok_transport_EncodeUDP)) ok_transport_EncodeTCP) hmix an_probe_content (Eq.mpr (by kernel_rfl) vc_probe_content)

def ct_probe_Build : Ct := ⟨[.agg cProbe], [.own 5 cU8, .val cI], fun d => [], fun d => ((build d.1, probeErr d.1, ()), ())⟩
def an_probe_Build : PDs ct_probe_Build.ps → Anns := (fun _ => {})
theorem vc_probe_Build :
    ∀ (x x_1 x_2 x_3 x_4 x_5 : Int), (((0 : Int) ≤ x ∧ x ≤ (4294967295 : Int)) ∧ ((0 : Int) ≤ x_1 ∧ x_1 ≤ (4294967295 : Int)) ∧ ((-9223372036854775808 : Int) ≤ x_2 ∧ x_2 ≤ (9223372036854775807 : Int)) ∧
     ((-9223372036854775808 : Int) ≤ x_3 ∧ x_3 ≤ (9223372036854775807 : Int)) ∧ ((-9223372036854775808 : Int) ≤ x_4 ∧ x_4 ≤ (9223372036854775807 : Int)) ∧ (-9223372036854775808 : Int) ≤ x_5 ∧ x_5 ≤
     (9223372036854775807 : Int)) ∧ True → True → ifP (!decide (probeErr (x, x_1, x_2, x_3, x_4, x_5) = (0 : Int))) (([] : List Int) = build (x, x_1, x_2, x_3, x_4, x_5) ∧ probeErr (x, x_1, x_2, x_3, x_4,
     x_5) = probeErr (x, x_1, x_2, x_3, x_4, x_5)) (probeErr (x, x_1, x_2, x_3, x_4, x_5) = (0 : Int) ∧ (↑(List.length (conP (x, x_1, x_2, x_3, x_4, x_5))) : Int) ≤ (1073741824 : Int) ∧ ipEnc (((0 : Int),
     x_4, x_5, x_2, true, x, x_1), conP (x, x_1, x_2, x_3, x_4, x_5)) = build (x, x_1, x_2, x_3, x_4, x_5) ∧ ipErr (((0 : Int), x_4, x_5, x_2, true, x, x_1), conP (x, x_1, x_2, x_3, x_4, x_5)) = probeErr
     (x, x_1, x_2, x_3, x_4, x_5)) := by
  rintro s d pr f t l - -
  refine ifP_split (fun h => ?_) (fun h => ?_)
  · have h : ¬ probeErr (s, d, pr, f, t, l) = 0 := by simpa using h
    rw [build, if_neg h]; exact ⟨rfl, rfl⟩
  have h : probeErr (s, d, pr, f, t, l) = 0 := by simpa using h
  have e0 := ipErr0 h
  have hl := con_len h
  refine ⟨h, by omega, ?_⟩
  rw [build, if_pos h, h]
  exact ⟨rfl, e0⟩
theorem ok_probe_Build : SpecOK Tryz.prog GL 51 ct_probe_Build.spec := Ct.ok' _ Tryz.func51 (by kernel_rfl) (withSpec_ok (withSpec_ok (withSpec_ok noSpecs_ok ok_probe_Check) ok_probe_content) ok_ipv4_Encode) hmix an_probe_Build (Eq.mpr (by kernel_rfl) vc_probe_Build)

def ct_probe_Key : Ct := ⟨[.val (.sl cU8)], [.agg cKey, .val cI], fun d => [(d.1.length : Int) ≤ 1099511627776], fun d => ((keyB d.1, decErr d.1, ()), ())⟩
def an_probe_Key : PDs ct_probe_Key.ps → Anns := (fun _ => {})
theorem vc_probe_Key :
    ∀ (x : List Int), (List.length x ≤ maxLen ∧ ∀ (x_1 : Int), x_1 ∈ x → (0 : Int) ≤ x_1 ∧ x_1 ≤ (255 : Int)) ∧ True → (↑(List.length x) : Int) ≤ (1099511627776 : Int) → (↑(List.length x) : Int) ≤
     (1099511627776 : Int) ∧ ∀ (d : (Int × Int × Int × Int × Bool × Int × Int) × List Int) (x_1 : Int), d = decPkt x ∧ x_1 = decErr x → ifP (!decide (x_1 = (0 : Int))) (((0 : Int), (0 : Int), (0 : Int), (0
     : Int), (0 : Int)) = keyB x ∧ x_1 = decErr x) (ifP (decide (d.1.2.2.2.1 = (1 : Int))) (ifP (decide (d.1.2.2.2.1 = (1 : Int))) (ifP (decide ((4 : Int) ≤ (↑(List.length d.2) : Int))) ((↑(List.length
     d.2) : Int) ≤ (1099511627776 : Int) ∧ (↑(List.length d.2) : Int) ≤ (1099511627776 : Int) ∧ (d.1.2.2.2.2.2.1, d.1.2.2.2.2.2.2, d.1.2.2.2.1, getV d.2 (0 : Int) (2 : Int), getV d.2 (2 : Int) (2 : Int)) =
     keyB x ∧ (0 : Int) = decErr x) ((d.1.2.2.2.2.2.1, d.1.2.2.2.2.2.2, d.1.2.2.2.1, (0 : Int), (0 : Int)) = keyB x ∧ (0 : Int) = decErr x)) ((d.1.2.2.2.2.2.1, d.1.2.2.2.2.2.2, d.1.2.2.2.1, (0 : Int), (0 :
     Int)) = keyB x ∧ (0 : Int) = decErr x)) (ifP (decide (d.1.2.2.2.1 = (6 : Int))) (ifP (decide (d.1.2.2.2.1 = (6 : Int))) (ifP (decide ((4 : Int) ≤ (↑(List.length d.2) : Int))) ((↑(List.length d.2) :
     Int) ≤ (1099511627776 : Int) ∧ (↑(List.length d.2) : Int) ≤ (1099511627776 : Int) ∧ (d.1.2.2.2.2.2.1, d.1.2.2.2.2.2.2, d.1.2.2.2.1, getV d.2 (0 : Int) (2 : Int), getV d.2 (2 : Int) (2 : Int)) = keyB x
     ∧ (0 : Int) = decErr x) ((d.1.2.2.2.2.2.1, d.1.2.2.2.2.2.2, d.1.2.2.2.1, (0 : Int), (0 : Int)) = keyB x ∧ (0 : Int) = decErr x)) ((d.1.2.2.2.2.2.1, d.1.2.2.2.2.2.2, d.1.2.2.2.1, (0 : Int), (0 : Int))
     = keyB x ∧ (0 : Int) = decErr x)) (ifP (decide (d.1.2.2.2.1 = (17 : Int))) (ifP (decide ((4 : Int) ≤ (↑(List.length d.2) : Int))) ((↑(List.length d.2) : Int) ≤ (1099511627776 : Int) ∧ (↑(List.length
     d.2) : Int) ≤ (1099511627776 : Int) ∧ (d.1.2.2.2.2.2.1, d.1.2.2.2.2.2.2, d.1.2.2.2.1, getV d.2 (0 : Int) (2 : Int), getV d.2 (2 : Int) (2 : Int)) = keyB x ∧ (0 : Int) = decErr x) ((d.1.2.2.2.2.2.1,
     d.1.2.2.2.2.2.2, d.1.2.2.2.1, (0 : Int), (0 : Int)) = keyB x ∧ (0 : Int) = decErr x)) ((d.1.2.2.2.2.2.1, d.1.2.2.2.2.2.2, d.1.2.2.2.1, (0 : Int), (0 : Int)) = keyB x ∧ (0 : Int) = decErr x)))) := by
  rintro b ⟨⟨-, hb⟩, -⟩ hl
  refine ⟨hl, ?_⟩
  rintro d e ⟨rfl, rfl⟩
  refine ifP_split (fun h => ?_) (fun h => ?_)
  · have h : ¬ decErr b = 0 := by simpa using h
    rw [keyB, if_neg h]; exact ⟨rfl, rfl⟩
  have h : decErr b = 0 := by simpa using h
  have hdl := dec_len h
  have hk : keyB b = keyPkt (decPkt b) := by rw [keyB, if_pos h]
  rw [hk, h]
  have hpl : ((decPkt b).2.length : Int) ≤ 1500 := by rw [decPkt, if_pos h]; simp only [List.length_drop]; omega
  generalize decPkt b = x at *
  have yes : protoOK x.1.2.2.2.1 → (4 : Int) ≤ x.2.length → ((x.2.length : Int) ≤ 1099511627776 ∧ (x.2.length : Int) ≤ 1099511627776 ∧ (x.1.2.2.2.2.2.1, x.1.2.2.2.2.2.2, x.1.2.2.2.1, getV x.2 0 2, getV x.2 2 2) = keyPkt x ∧ (0 : Int) = 0) := by
    intro h1 h2
    refine ⟨by omega, by omega, ?_, rfl⟩
    rw [gV2 (by omega) (by omega), gV2 (by omega) (by omega), keyPkt, if_pos ⟨h1, by omega⟩, if_pos ⟨h1, by omega⟩]; rfl
  have no : ¬ (protoOK x.1.2.2.2.1 ∧ (4 : Int) ≤ x.2.length) → ((x.1.2.2.2.2.2.1, x.1.2.2.2.2.2.2, x.1.2.2.2.1, (0 : Int), (0 : Int)) = keyPkt x ∧ (0 : Int) = 0) := by
    intro h1
    rw [keyPkt, if_neg (fun k => h1 ⟨k.1, by omega⟩), if_neg (fun k => h1 ⟨k.1, by omega⟩)]; exact ⟨rfl, rfl⟩
  refine ifP_split (fun h1 => ?_) (fun h1 => ?_)
  · refine ifP_split (fun _ => ?_) (fun k => by rw [h1] at k; cases k)
    have h1 := of_decide_eq_true h1
    exact ifP_split (fun h4 => yes (.inl h1) (of_decide_eq_true h4)) (fun h4 => no (fun k => (of_decide_eq_false h4) k.2))
  refine ifP_split (fun h6 => ?_) (fun h6 => ?_)
  · refine ifP_split (fun _ => ?_) (fun k => by rw [h6] at k; cases k)
    have h6 := of_decide_eq_true h6
    exact ifP_split (fun h4 => yes (.inr (.inl h6)) (of_decide_eq_true h4)) (fun h4 => no (fun k => (of_decide_eq_false h4) k.2))
  refine ifP_split (fun h17 => ?_) (fun h17 => ?_)
  · have h17 := of_decide_eq_true h17
    exact ifP_split (fun h4 => yes (.inr (.inr h17)) (of_decide_eq_true h4)) (fun h4 => no (fun k => (of_decide_eq_false h4) k.2))
  · have h1 := of_decide_eq_false h1
    have h6 := of_decide_eq_false h6
    have h17 := of_decide_eq_false h17
    exact no (fun k => by rcases k.1 with k | k | k <;> contradiction)
theorem ok_probe_Key : SpecOK Tryz.prog GL 55 ct_probe_Key.spec := Ct.ok' _ Tryz.func55 (by kernel_rfl) (withSpec_ok (withSpec_ok noSpecs_ok (Ct.named ok_ipv4_Decode)) ok_wire_Get) hmix an_probe_Key (Eq.mpr (by kernel_rfl) vc_probe_Key)


def ct_probe_Read : Ct := ⟨[.val (.sl cU8)], [.agg cProbe, .val cI], fun d => [(d.1.length : Int) ≤ 1099511627776], fun d => ((readP d.1, readE d.1, ()), ())⟩
def an_probe_Read : PDs ct_probe_Read.ps → Anns := (fun _ => {})
theorem vc_probe_Read :
    ∀ (x : List Int), (List.length x ≤ maxLen ∧ ∀ (x_1 : Int), x_1 ∈ x → (0 : Int) ≤ x_1 ∧ x_1 ≤ (255 : Int)) ∧ True → (↑(List.length x) : Int) ≤ (1099511627776 : Int) → (↑(List.length x) : Int) ≤
     (1099511627776 : Int) ∧ ∀ (x_1 x_2 x_3 x_4 x_5 x_6 : Int), (x_1, x_2, x_3, x_4, x_5) = keyB x ∧ x_6 = decErr x → ifP (!decide (x_6 = (0 : Int))) (((0 : Int), (0 : Int), (0 : Int), (0 : Int), (0 :
     Int), (0 : Int)) = readP x ∧ (17 : Int) = readE x) ((↑(List.length x) : Int) ≤ (1099511627776 : Int) ∧ ∀ (d : Int × Int × Int × Int × Bool × Int × Int) (x_7 x_8 : Int), d = pkHdr x ∧ x_7 = pkLen x ∧
     x_8 = pkErr x → ifP (decide (d.2.2.2.1 = (1 : Int))) (∀ (b : Bool), b = !decide (probeErr (d.2.2.2.2.2.1, d.2.2.2.2.2.2, d.2.2.2.1, IntKind.wrap IntKind.i64 (x_5 - (16384 : Int)), d.2.1, d.2.2.1) = (0
     : Int)) → ((!b) = true → ((!b) = true → (!b) = true) ∧ ((!b) = true → (!b) = true) ∧ True) ∧ ((!b) = true → ((!b) = true → (!b) = true) ∧ True) ∧ (b = false → (!b) = true) ∧ ifP (bif b then true else
     !decide (build (d.2.2.2.2.2.1, d.2.2.2.2.2.2, d.2.2.2.1, IntKind.wrap IntKind.i64 (x_5 - (16384 : Int)), d.2.1, d.2.2.1) = x)) (((0 : Int), (0 : Int), (0 : Int), (0 : Int), (0 : Int), (0 : Int)) =
     readP x ∧ (17 : Int) = readE x) ((d.2.2.2.2.2.1, d.2.2.2.2.2.2, d.2.2.2.1, IntKind.wrap IntKind.i64 (x_5 - (16384 : Int)), d.2.1, d.2.2.1) = readP x ∧ (0 : Int) = readE x)) (∀ (b : Bool), b = !decide
     (probeErr (d.2.2.2.2.2.1, d.2.2.2.2.2.2, d.2.2.2.1, IntKind.wrap IntKind.i64 (x_4 - (20000 : Int)), d.2.1, d.2.2.1) = (0 : Int)) → ((!b) = true → ((!b) = true → (!b) = true) ∧ ((!b) = true → (!b) =
     true) ∧ True) ∧ ((!b) = true → ((!b) = true → (!b) = true) ∧ True) ∧ (b = false → (!b) = true) ∧ ifP (bif b then true else !decide (build (d.2.2.2.2.2.1, d.2.2.2.2.2.2, d.2.2.2.1, IntKind.wrap
     IntKind.i64 (x_4 - (20000 : Int)), d.2.1, d.2.2.1) = x)) (((0 : Int), (0 : Int), (0 : Int), (0 : Int), (0 : Int), (0 : Int)) = readP x ∧ (17 : Int) = readE x) ((d.2.2.2.2.2.1, d.2.2.2.2.2.2,
     d.2.2.2.1, IntKind.wrap IntKind.i64 (x_4 - (20000 : Int)), d.2.1, d.2.2.1) = readP x ∧ (0 : Int) = readE x))) := by
  rintro b ⟨⟨-, hb⟩, -⟩ hl
  refine ⟨hl, ?_⟩
  rintro k1 k2 k3 k4 k5 e ⟨hk, rfl⟩
  refine ifP_split (fun h => ?_) (fun h => ?_)
  · have h : ¬ decErr b = 0 := by simpa using h
    have hn : ¬ readOK b := fun k => h k.1
    rw [readP, readE, if_neg hn, if_neg hn]; exact ⟨rfl, rfl⟩
  have h : decErr b = 0 := by simpa using h
  refine ⟨hl, ?_⟩
  rintro d _ _ ⟨rfl, -, -⟩
  have hpk := dec_pk h
  rw [pkHdr, if_pos hpk]
  have hr := keyB_range hb
  have e4 : k4 = (keyB b).2.2.2.1 := by rw [← hk]
  have e5 : k5 = (keyB b).2.2.2.2 := by rw [← hk]
  rw [w64 (n := k5 - 16384) (by omega) (by omega), w64 (n := k4 - 20000) (by omega) (by omega)]
  have fin : ∀ q, q = cand b → ∀ b0 : Bool, (b0 = !decide (probeErr q = 0)) → ifP (bif b0 then true else !decide (build q = b)) (((0 : Int), (0 : Int), (0 : Int), (0 : Int), (0 : Int), (0 : Int)) = readP b ∧ (17 : Int) = readE b) (q = readP b ∧ (0 : Int) = readE b) := by
    rintro q rfl b0 rfl
    refine ifP_split (fun hc => ?_) (fun hc => ?_)
    · have hn : ¬ readOK b := fun k => by rw [k.2.1, k.2.2] at hc; simp at hc
      rw [readP, readE, if_neg hn, if_neg hn]; exact ⟨rfl, rfl⟩
    · have hy : readOK b := by
        refine ⟨h, ?_, ?_⟩
        · exact Classical.byContradiction fun k => by simp [k] at hc
        · exact Classical.byContradiction fun k => by simp [k, Bool.cond_eq_ite] at hc
      rw [readP, readE, if_pos hy, if_pos hy]; exact ⟨rfl, rfl⟩
  refine ifP_split (fun h1 => ?_) (fun h1 => ?_)
  · have h1 := of_decide_eq_true h1
    have hq : ((pkHdrF b).2.2.2.2.2.1, (pkHdrF b).2.2.2.2.2.2, (pkHdrF b).2.2.2.1, k5 - 16384, (pkHdrF b).2.1, (pkHdrF b).2.2.1) = cand b := by
      rw [cand, if_pos h1, e5]
    have := fin _ hq
    (repeat (intro (b_ : Bool) (hb_ : b_ = _); (repeat refine ⟨(by first | (simp; done) | (rw [hb_]; simp; done) | (rw [hb_]; simp; omega) | (rw [hb_]; simp; intros; omega) | (rw [hb_]; simp +contextual; done)), ?_⟩); subst hb_))
    exact this _ rfl
  · have h1 := of_decide_eq_false h1
    have hq : ((pkHdrF b).2.2.2.2.2.1, (pkHdrF b).2.2.2.2.2.2, (pkHdrF b).2.2.2.1, k4 - 20000, (pkHdrF b).2.1, (pkHdrF b).2.2.1) = cand b := by
      rw [cand, if_neg h1, e4]
    have := fin _ hq
    (repeat (intro (b_ : Bool) (hb_ : b_ = _); (repeat refine ⟨(by first | (simp; done) | (rw [hb_]; simp; done) | (rw [hb_]; simp; omega) | (rw [hb_]; simp; intros; omega) | (rw [hb_]; simp +contextual; done)), ?_⟩); subst hb_))
    exact this _ rfl
theorem ok_probe_Read : SpecOK Tryz.prog GL 31 ct_probe_Read.spec := Ct.ok' _ Tryz.func31 (by kernel_rfl) (withSpec_ok (withSpec_ok (withSpec_ok (withSpec_ok noSpecs_ok (Ct.named ok_probe_Key)) (Ct.named ok_ipv4_Peek)) ok_probe_Build) ok_wire_Equal) hmix an_probe_Read (Eq.mpr (by kernel_rfl) vc_probe_Read)

def ct_ref07_balanced : Ct := ⟨[.val cI, .val cI], [.val cI], fun d => [0 ≤ d.1, d.1 ≤ 65535, 0 ≤ d.2.1, d.2.1 ≤ 65535], fun d => ((if oc (65535 - d.2.1 + d.1) = 0 then 65535 else oc (65535 - d.2.1 + d.1), ()), ())⟩
def an_ref07_balanced : PDs ct_ref07_balanced.ps → Anns := (fun _ => {})
theorem vc_ref07_balanced :
    ∀ (x x_1 : Int), ((-9223372036854775808 : Int) ≤ x ∧ x ≤ (9223372036854775807 : Int)) ∧ ((-9223372036854775808 : Int) ≤ x_1 ∧ x_1 ≤ (9223372036854775807 : Int)) ∧ True → (0 : Int) ≤ x ∧ x ≤ (65535 :
     Int) ∧ (0 : Int) ≤ x_1 ∧ x_1 ≤ (65535 : Int) → ifP (decide ((if (word16 (IntKind.wrap IntKind.i64 ((65535 : Int) - x_1)) && word16 x) = true then oc (IntKind.wrap IntKind.i64 ((65535 : Int) - x_1) +
     x) else (0 : Int)) = (0 : Int))) ((65535 : Int) = if oc ((65535 : Int) - x_1 + x) = (0 : Int) then (65535 : Int) else oc ((65535 : Int) - x_1 + x)) ((if (word16 (IntKind.wrap IntKind.i64 ((65535 :
     Int) - x_1)) && word16 x) = true then oc (IntKind.wrap IntKind.i64 ((65535 : Int) - x_1) + x) else (0 : Int)) = if oc ((65535 : Int) - x_1 + x) = (0 : Int) then (65535 : Int) else oc ((65535 : Int) -
     x_1 + x)) := by
  rintro a b - ⟨a0, a1, b0, b1⟩
  rw [w64 (n := 65535 - b) (by omega) (by omega), if_pos (by simp only [Bool.and_eq_true, word16_iff]; omega)]
  refine ifP_split (fun h => ?_) (fun h => ?_)
  · rw [if_pos (of_decide_eq_true h)]
  · rw [if_neg (of_decide_eq_false h)]
theorem ok_ref07_balanced : SpecOK Tryz.prog GL 103 ct_ref07_balanced.spec := Ct.ok' _ Tryz.func103 (by kernel_rfl) (withSpec_ok noSpecs_ok ok_ref04_Add) hmix an_ref07_balanced (Eq.mpr (by kernel_rfl) vc_ref07_balanced)

def ct_ref07_data : Ct := ⟨[.agg cProbe], [.own 5 cU8], fun d => [probeErr d.1 = 0], fun d => ((conP d.1, ()), ())⟩
def an_ref07_data : PDs ct_ref07_data.ps → Anns := (fun _ => {})
theorem vc_ref07_data :
    ∀ (x x_1 x_2 x_3 x_4 x_5 : Int), (((0 : Int) ≤ x ∧ x ≤ (4294967295 : Int)) ∧ ((0 : Int) ≤ x_1 ∧ x_1 ≤ (4294967295 : Int)) ∧ ((-9223372036854775808 : Int) ≤ x_2 ∧ x_2 ≤ (9223372036854775807 : Int)) ∧
     ((-9223372036854775808 : Int) ≤ x_3 ∧ x_3 ≤ (9223372036854775807 : Int)) ∧ ((-9223372036854775808 : Int) ≤ x_4 ∧ x_4 ≤ (9223372036854775807 : Int)) ∧ (-9223372036854775808 : Int) ≤ x_5 ∧ x_5 ≤
     (9223372036854775807 : Int)) ∧ True → probeErr (x, x_1, x_2, x_3, x_4, x_5) = (0 : Int) → ifP (decide (x_2 = (1 : Int))) ((↑(List.length [(0 : Int), (0 : Int)]) : Int) ≤ (1073741824 : Int) ∧ ∀ (x_6 :
     List Int) (x_7 : Int), x_6 = echoEnc (false, (21075 : Int), x_4, [(0 : Int), (0 : Int)]) ∧ x_7 = echoErr (false, (21075 : Int), x_4, [(0 : Int), (0 : Int)]) → (↑(List.length x_6) : Int) ≤
     (1099511627776 : Int) ∧ ∀ (x_8 : Int), x_8 = getV x_6 (2 : Int) (2 : Int) → (0 : Int) ≤ x_8 ∧ x_8 ≤ (65535 : Int) ∧ (0 : Int) ≤ IntKind.wrap IntKind.i64 ((16384 : Int) + x_3) ∧ IntKind.wrap
     IntKind.i64 ((16384 : Int) + x_3) ≤ (65535 : Int) ∧ ∀ (x_9 : Int), (x_9 = if oc ((65535 : Int) - IntKind.wrap IntKind.i64 ((16384 : Int) + x_3) + x_8) = (0 : Int) then (65535 : Int) else oc ((65535 :
     Int) - IntKind.wrap IntKind.i64 ((16384 : Int) + x_3) + x_8)) → (↑(0 : Nat) : Int) ≤ (1099511627776 : Int) ∧ ∀ (x_10 : List Int), x_10 = putB ([] : List Int) x_9 (2 : Int) → (↑(List.length x_10) :
     Int) ≤ (1073741824 : Int) ∧ ∀ (x_11 : List Int) (x_12 : Int), x_11 = echoEnc (false, (21075 : Int), x_4, x_10) ∧ x_12 = echoErr (false, (21075 : Int), x_4, x_10) → x_11 = conP (x, x_1, x_2, x_3, x_4,
     x_5)) (ifP (decide (x_2 = (17 : Int))) ((↑(0 : Nat) : Int) ≤ (1099511627776 : Int) ∧ ∀ (x_6 : List Int), x_6 = putB ([] : List Int) (IntKind.wrap IntKind.i64 ((20000 : Int) + x_3)) (2 : Int) →
     (↑(List.length x_6) : Int) ≤ (1099511627776 : Int) ∧ ∀ (x_7 : List Int), x_7 = putB x_6 (33434 : Int) (2 : Int) → (List.length x_7 + List.length [(0 : Int), (10 : Int), (0 : Int), (0 : Int), (0 :
     Int), (0 : Int)]) * (1 : Nat) ≤ (140737488355328 : Nat) ∧ (↑(List.length (x_7 ++ [(0 : Int), (10 : Int), (0 : Int), (0 : Int), (0 : Int), (0 : Int)])) : Int) ≤ (1073741824 : Int) ∧ ∀ (x_8 : Int), x_8
     = pseudo x x_1 (17 : Int) (x_7 ++ [(0 : Int), (10 : Int), (0 : Int), (0 : Int), (0 : Int), (0 : Int)]) → (0 : Int) ≤ x_8 ∧ x_8 ≤ (65535 : Int) ∧ (0 : Int) ≤ IntKind.wrap IntKind.i64 (x_4 + (1 : Int))
     ∧ IntKind.wrap IntKind.i64 (x_4 + (1 : Int)) ≤ (65535 : Int) ∧ ∀ (x_9 : Int), (x_9 = if oc ((65535 : Int) - IntKind.wrap IntKind.i64 (x_4 + (1 : Int)) + x_8) = (0 : Int) then (65535 : Int) else oc
     ((65535 : Int) - IntKind.wrap IntKind.i64 (x_4 + (1 : Int)) + x_8)) → (↑(0 : Nat) : Int) ≤ (1099511627776 : Int) ∧ ∀ (x_10 : List Int), x_10 = putB ([] : List Int) x_9 (2 : Int) → (↑(List.length x_10)
     : Int) ≤ (1073741824 : Int) ∧ udpEnc x x_1 (IntKind.wrap IntKind.i64 ((20000 : Int) + x_3), (33434 : Int), x_10) = conP (x, x_1, x_2, x_3, x_4, x_5)) ((↑(0 : Nat) : Int) ≤ (1000000 : Int) ∧ tcpEnc x
     x_1 (IntKind.wrap IntKind.i64 ((20000 : Int) + x_3), (80 : Int), x_4, (0 : Int), (2 : Int), (1024 : Int), ([] : List Int)) = conP (x, x_1, x_2, x_3, x_4, x_5))) := by
  rintro s d pr f t l - he
  obtain ⟨hp, hr⟩ := probe_ok.1 he
  have hr' := hr
  obtain ⟨⟨f0, f1⟩, ⟨t0, t1⟩, l0, l1⟩ := hr'
  simp only at f0 f1 t0 t1 l0 l1
  rw [w64 (n := 16384 + f) (by omega) (by omega), w64 (n := 20000 + f) (by omega) (by omega), w64 (n := t + 1) (by omega) (by omega)]
  refine ifP_split (fun h1 => ?_) (fun h1 => ifP_split (fun h17 => ?_) (fun h17 => ?_))
  · have h1 := of_decide_eq_true h1
    have e0 : echoErr (false, 21075, t, [0, 0]) = 0 := echo_good (data := [0, 0]) ⟨⟨(word16_iff _).2 ⟨by show (0 : Int) ≤ 21075; omega, by show (21075 : Int) ≤ _; omega⟩, (word16_iff _).2 ⟨t0, by show t ≤ _; omega⟩⟩, rfl⟩ (by simp)
    have hc := csum_range (bytes_echo0 t)
    refine ⟨by simp, ?_⟩
    rintro b _ ⟨rfl, -⟩
    rw [echoEnc, if_pos e0]
    have hl : (setW (echoBody (false, 21075, t, [0, 0])) 2 (csum (echoBody (false, 21075, t, [0, 0])))).length = 10 := by rw [setW_len]; rfl
    refine ⟨by omega, ?_⟩
    rw [gV2 (by omega) (by omega), show Int.toNat 2 = 2 from rfl, word_setW (by show 2 + 2 ≤ 10; omega) hc.1 hc.2]
    rintro _ rfl
    refine ⟨hc.1, hc.2, by omega, by omega, ?_⟩
    have hi := icmpN_pos hr
    have ei : oc (65535 - (16384 + f) + csum (echoBody (false, 21075, t, [0, 0]))) = icmpN (s, d, pr, f, t, l) := rfl
    rw [ei, if_neg (by omega)]
    rintro _ rfl
    refine ⟨by omega, ?_⟩
    rw [putB_2 (by omega) (by omega)]
    rintro _ rfl
    refine ⟨by simp [w2], ?_⟩
    rintro _ _ ⟨rfl, -⟩
    rw [conP, if_pos h1]; rfl
  · have h17 := of_decide_eq_true h17
    refine ⟨by omega, ?_⟩
    rw [putB_2 (by omega) (by omega)]
    rintro _ rfl
    refine ⟨by simp [w2], ?_⟩
    rw [putB_2 (by omega) (by omega)]
    rintro _ rfl
    have eb : [] ++ w2 (20000 + f) ++ w2 33434 ++ [0, 10, 0, 0, 0, 0] = udpBody (20000 + f, 33434, [0, 0]) := by simp [udpBody, w2]
    rw [eb]
    refine ⟨by simp [w2], by show ((10 : Nat) : Int) ≤ _; omega, ?_⟩
    have hq := pseudo_lt (s := s) (d := d) (p := 17) (bytes_udp0 f) (by decide)
    rintro _ rfl
    refine ⟨hq.1, by omega, by omega, by omega, ?_⟩
    have hu := udpN_pos hr
    have eu : (if oc (65535 - (t + 1) + pseudo s d 17 (udpBody (20000 + f, 33434, [0, 0]))) = 0 then 65535 else oc (65535 - (t + 1) + pseudo s d 17 (udpBody (20000 + f, 33434, [0, 0])))) = udpN (s, d, pr, f, t, l) := rfl
    rw [eu]
    rintro _ rfl
    refine ⟨by omega, ?_⟩
    rw [putB_2 (by omega) (by omega)]
    rintro _ rfl
    refine ⟨by simp [w2], ?_⟩
    rw [conP, if_neg (by simp only; omega), if_pos h17]; rfl
  · have h1 := of_decide_eq_false h1
    have h17 := of_decide_eq_false h17
    rw [conP, if_neg h1, if_neg h17]
    exact ⟨by omega, rfl⟩
theorem ok_ref07_data : SpecOK Tryz.prog GL 76 ct_ref07_data.spec := Ct.ok' _ Tryz.func76 (by kernel_rfl) (withSpec_ok (withSpec_ok (withSpec_ok (withSpec_ok (withSpec_ok (withSpec_ok (withSpec_ok noSpecs_ok (Ct.named ok_ref06_EncodeEcho)) (Ct.named ok_ref04_At)) (Ct.named ok_ref07_balanced)) (Ct.named ok_ref04_Push)) (Ct.named ok_ref06_Pseudo)) ok_ref06_EncodeUDP) ok_ref06_EncodeTCP) hmix an_ref07_data (Eq.mpr (by kernel_rfl) vc_ref07_data)

def ct_ref07_Build : Ct := ⟨[.agg cProbe], [.own 5 cU8, .val cI], fun d => [], fun d => ((build d.1, probeErr d.1, ()), ())⟩
def an_ref07_Build : PDs ct_ref07_Build.ps → Anns := (fun _ => {})
theorem vc_ref07_Build :
    ∀ (x x_1 x_2 x_3 x_4 x_5 : Int), (((0 : Int) ≤ x ∧ x ≤ (4294967295 : Int)) ∧ ((0 : Int) ≤ x_1 ∧ x_1 ≤ (4294967295 : Int)) ∧ ((-9223372036854775808 : Int) ≤ x_2 ∧ x_2 ≤ (9223372036854775807 : Int)) ∧
     ((-9223372036854775808 : Int) ≤ x_3 ∧ x_3 ≤ (9223372036854775807 : Int)) ∧ ((-9223372036854775808 : Int) ≤ x_4 ∧ x_4 ≤ (9223372036854775807 : Int)) ∧ (-9223372036854775808 : Int) ≤ x_5 ∧ x_5 ≤
     (9223372036854775807 : Int)) ∧ True → True → ifP (!decide (probeErr (x, x_1, x_2, x_3, x_4, x_5) = (0 : Int))) (([] : List Int) = build (x, x_1, x_2, x_3, x_4, x_5) ∧ probeErr (x, x_1, x_2, x_3, x_4,
     x_5) = probeErr (x, x_1, x_2, x_3, x_4, x_5)) (probeErr (x, x_1, x_2, x_3, x_4, x_5) = (0 : Int) ∧ (↑(List.length (conP (x, x_1, x_2, x_3, x_4, x_5))) : Int) ≤ (1073741824 : Int) ∧ ipEnc (((0 : Int),
     x_4, x_5, x_2, true, x, x_1), conP (x, x_1, x_2, x_3, x_4, x_5)) = build (x, x_1, x_2, x_3, x_4, x_5) ∧ ipErr (((0 : Int), x_4, x_5, x_2, true, x, x_1), conP (x, x_1, x_2, x_3, x_4, x_5)) = probeErr
     (x, x_1, x_2, x_3, x_4, x_5)) := by
  rintro s d pr f t l - -
  refine ifP_split (fun h => ?_) (fun h => ?_)
  · have h : ¬ probeErr (s, d, pr, f, t, l) = 0 := by simpa using h
    rw [build, if_neg h]; exact ⟨rfl, rfl⟩
  have h : probeErr (s, d, pr, f, t, l) = 0 := by simpa using h
  have e0 := ipErr0 h
  have hl := con_len h
  refine ⟨h, by omega, ?_⟩
  rw [build, if_pos h, h]
  exact ⟨rfl, e0⟩
theorem ok_ref07_Build : SpecOK Tryz.prog GL 45 ct_ref07_Build.spec := Ct.ok' _ Tryz.func45 (by kernel_rfl) (withSpec_ok (withSpec_ok (withSpec_ok noSpecs_ok ok_ref07_Check) ok_ref07_data) ok_ref05_Encode) hmix an_ref07_Build (Eq.mpr (by kernel_rfl) vc_ref07_Build)




end Go.RS

