/- Reply: answers. -/
import Derived.Test.YtdegakknelbjiaaGreatDoorPback
import Derived.Test.YtdegakknelbjiaaGreatDoorAddr
namespace Go.RS
open Go.SX Go.Proofs
set_option maxRecDepth 100000
set_option linter.unusedVariables false

abbrev cAns : CT := .pair cU32 (.pair cI (.pair cI (.pair cI (.pair cI cI))))
/-- From, Kind, Code, Left, ID, Quoted. -/
abbrev Ans : Type := Int × Int × Int × Int × Int × Int
def ans0 : Ans := (0, 0, 0, 0, 0, 0)
def special (a : Int) : Int :=
  if a / 16777216 = 0 then 1 else if a / 16777216 = 127 then 2
  else if a / 16777216 = 10 ∨ (a / 16777216 = 172 ∧ 16 ≤ a / 65536 % 256 ∧ a / 65536 % 256 < 32) ∨ (a / 16777216 = 192 ∧ a / 65536 % 256 = 168) then 3
  else if a / 16777216 = 169 ∧ a / 65536 % 256 = 254 then 4
  else if 224 ≤ a / 16777216 ∧ a / 16777216 < 240 then 5 else if 240 ≤ a / 16777216 then 6 else 0
def usable (a : Int) : Prop := special a = 0 ∨ special a = 3
instance (a : Int) : Decidable (usable a) := by unfold usable; infer_instance
def protoP (x : Packet) : Int := x.1.2.2.2.1
def pktAns (x : Packet) : Prop := 8 ≤ x.2.length ∧ (x.1.2.2.2.1 = 1 → x.2.getD 0 default = 8) ∧ (x.1.2.2.2.1 = 6 → 14 ≤ x.2.length → bits .and .u8 (x.2.getD 13 default) 4 = 0) ∧ usable x.1.2.2.2.2.2.1
instance (x : Packet) : Decidable (pktAns x) := by unfold pktAns; infer_instance
def ansOK (b : List Int) : Prop := decErr b = 0 ∧ pktAns (decPkt b)
instance (b : List Int) : Decidable (ansOK b) := by unfold ansOK; infer_instance
def ansP (b : List Int) : Packet := if ansOK b then decPkt b else (hdr0, [])
def preAns (b : List Int) : Prop := decErr b = 0 ∧ 8 ≤ (decPkt b).2.length ∧ (protoP (decPkt b) = 1 → (decPkt b).2.getD 0 default = 8) ∧ (protoP (decPkt b) = 6 → 14 ≤ (decPkt b).2.length → bits .and .u8 ((decPkt b).2.getD 13 default) 4 = 0)
instance (b : List Int) : Decidable (preAns b) := by unfold preAns; infer_instance
def ansP' (b : List Int) : Packet := if preAns b then decPkt b else (hdr0, [])
def numOK (id ttl : Int) : Prop := (0 ≤ id ∧ id ≤ 65535) ∧ 0 ≤ ttl ∧ ttl ≤ 255
instance (i t : Int) : Decidable (numOK i t) := by unfold numOK; infer_instance
def sendP (src dst proto id ttl : Int) (data : List Int) : Packet := ((0, id, ttl, proto, false, src, dst), data)
def srcOf (b : List Int) : Int := (pkHdrF b).2.2.2.2.2.1
def dstOf (b : List Int) : Int := (pkHdrF b).2.2.2.2.2.2
def protoOf (b : List Int) : Int := (pkHdrF b).2.2.2.1
def errGood (kind code id ttl : Int) : Prop := (kind = 11 ∨ kind = 3) ∧ (0 ≤ code ∧ code ≤ 255) ∧ numOK id ttl
instance (k c i t : Int) : Decidable (errGood k c i t) := by unfold errGood; infer_instance
def errE (b : List Int) (kind code id ttl : Int) : Int := if ¬ errGood kind code id ttl then 1 else if ansOK b then 0 else 17
def errB (b : List Int) (src kind code id ttl : Int) : List Int := if errE b kind code id ttl = 0 then ipEnc (sendP src (srcOf b) 1 id ttl (noticeEnc (kind, code, b.take 28))) else []
def rstOf (s : Seg) : Seg := (s.2.1, s.1, 0, (s.2.2.1 + 1) % 4294967296, 20, 0, [])
def hostGood (b : List Int) : Prop := ansOK b ∧ ((protoOf b = 1 ∧ unEchoErr (b.drop 20) = 0) ∨ (protoOf b = 17 ∧ unUDPErr (srcOf b) (dstOf b) (b.drop 20) = 0) ∨
  (protoOf b = 6 ∧ unTCPErr (srcOf b) (dstOf b) (b.drop 20) = 0 ∧ bits .and .i64 (unTCP (srcOf b) (dstOf b) (b.drop 20)).2.2.2.2.1 2 ≠ 0 ∧ bits .and .i64 (unTCP (srcOf b) (dstOf b) (b.drop 20)).2.2.2.2.1 4 = 0))
instance (b : List Int) : Decidable (hostGood b) := by unfold hostGood; infer_instance
def hostE (b : List Int) (id ttl : Int) : Int := if ¬ numOK id ttl then 1 else if hostGood b then 0 else 17
def hostB (b : List Int) (src id ttl : Int) : List Int :=
  if hostE b id ttl = 0 then
    if protoOf b = 1 then ipEnc (sendP src (srcOf b) 1 id ttl (echoEnc (true, (unEcho (b.drop 20)).2)))
    else if protoOf b = 17 then errB b src 3 3 id ttl
    else ipEnc (sendP src (srcOf b) 6 id ttl (tcpEnc src (srcOf b) (rstOf (unTCP (srcOf b) (dstOf b) (b.drop 20)))))
  else []
def quHead (b : List Int) : Prop := pkErr b = 0 ∧ b.length = 28 ∧ (pkHdrF b).1 = 0 ∧ (pkHdrF b).2.2.2.2.1 = true
instance (b : List Int) : Decidable (quHead b) := by unfold quHead; infer_instance
def quFlow (b : List Int) : Int := if protoOf b = 1 then wordAt b 22 - 16384 else if protoOf b = 17 ∨ protoOf b = 6 then wordAt b 20 - 20000 else 0
def quP (b : List Int) : Probe := (srcOf b, dstOf b, protoOf b, quFlow b, (pkHdrF b).2.1, (pkHdrF b).2.2.1)
def quRight (b : List Int) : Prop :=
  (protoOf b = 1 ∧ wordAt b 2 = 30 ∧ wordAt b 20 = 2048 ∧ wordAt b 24 = 21075 ∧ wordAt b 26 = (pkHdrF b).2.1) ∨
  (protoOf b = 17 ∧ wordAt b 2 = 30 ∧ wordAt b 22 = 33434 ∧ wordAt b 24 = wordAt b 2 - 20 ∧ wordAt b 26 = (pkHdrF b).2.1 + 1) ∨
  (protoOf b = 6 ∧ wordAt b 2 = 40 ∧ wordAt b 22 = 80 ∧ numB ((b.drop 24).take 4) = (pkHdrF b).2.1)
instance (b : List Int) : Decidable (quRight b) := by unfold quRight; infer_instance
def quV (b : List Int) : Probe × Bool := if quHead b then (quP b, decide (quRight b ∧ probeErr (quP b) = 0)) else (probe0, false)
def noT (p : Probe) (t : Int) : Probe := (p.1, p.2.1, p.2.2.1, p.2.2.2.1, p.2.2.2.2.1, t)
def kindN (ty code : Int) : Int := if ty = 11 then 1 else if code = 3 then 3 else 5
abbrev RdR : Type := Probe × Ans × Bool
def noR : RdR := (probe0, ans0, false)
def noticeR (dst : Int) (b : List Int) : RdR :=
  if unNoticeErr b = 0 then (noT (quV (unNotice b).2.2).1 0, (0, kindN (unNotice b).1 (unNotice b).2.1, (unNotice b).2.1, 0, 0, (quV (unNotice b).2.2).1.2.2.2.2.2), (quV (unNotice b).2.2).2 && decide ((quV (unNotice b).2.2).1.1 = dst)) else noR
def echoGood (b : List Int) : Prop := unEchoErr b = 0 ∧ (unEcho b).1 = true ∧ (unEcho b).2.1 = 21075 ∧ (unEcho b).2.2.2.length = 2
instance (b : List Int) : Decidable (echoGood b) := by unfold echoGood; infer_instance
def echoR (src dst : Int) (b : List Int) : RdR := if echoGood b then ((dst, src, 1, wordAt b 2 - 18432, (unEcho b).2.2.1, 0), (0, 2, 0, 0, 0, 0), true) else noR
def resetGood (src dst : Int) (b : List Int) : Prop := unTCPErr src dst b = 0 ∧ (unTCP src dst b).1 = 80 ∧ (unTCP src dst b).2.2.1 = 0 ∧ (unTCP src dst b).2.2.2.2.1 = 20 ∧ (unTCP src dst b).2.2.2.2.2.1 = 0 ∧ (unTCP src dst b).2.2.2.2.2.2 = []
instance (s d : Int) (b : List Int) : Decidable (resetGood s d b) := by unfold resetGood; infer_instance
def resetR (src dst : Int) (b : List Int) : RdR := if resetGood src dst b then ((dst, src, 6, (unTCP src dst b).2.1 - 20000, (unTCP src dst b).2.2.2.1 - 1, 0), (0, 4, 0, 0, 0, 0), true) else noR
def partR (b : List Int) : RdR :=
  if protoOf b = 1 ∧ 0 < (b.drop 20).length ∧ (b.drop 20).getD 0 default = 0 then echoR (srcOf b) (dstOf b) (b.drop 20)
  else if protoOf b = 1 then noticeR (dstOf b) (b.drop 20) else if protoOf b = 6 then resetR (srcOf b) (dstOf b) (b.drop 20) else noR
def readGood (b : List Int) : Prop := decErr b = 0 ∧ (partR b).2.2 = true ∧ probeErr (noT (partR b).1 1) = 0
instance (b : List Int) : Decidable (readGood b) := by unfold readGood; infer_instance
def readA (b : List Int) : Probe × Ans := if readGood b then ((partR b).1, (srcOf b, (partR b).2.1.2.1, (partR b).2.1.2.2.1, (pkHdrF b).2.2.1, (pkHdrF b).2.1, (partR b).2.1.2.2.2.2.2)) else (probe0, ans0)
def readAE (b : List Int) : Int := if readGood b then 0 else 17
theorem shr24 {n : Int} (h0 : 0 ≤ n) : shrI .i64 n 24 = n / 16777216 := by
  have e := shr_pow (n := n) (k := 3) h0 (by omega)
  exact e
theorem i64_and255 (n : Int) : bits .and .i64 n 255 = n % 256 := by
  have h127 : (BitVec.ofInt 64 255).toNat = 2 ^ 8 - 1 := by decide
  have key : (BitVec.ofInt 64 n &&& BitVec.ofInt 64 255).toNat = (n % ((2 ^ 64 : Nat) : Int)).toNat % 2 ^ 8 := by
    rw [BitVec.toNat_and, BitVec.toNat_ofInt, h127, Nat.and_two_pow_sub_one_eq_mod]
  show IntKind.i64.wrap ((BitVec.ofInt 64 n &&& BitVec.ofInt 64 255).toNat : Nat) = n % 256
  rw [key, IntKind.wrap_i64]
  omega
theorem i64_and32 (n : Int) : bits .and .i64 n 4294967295 = n % 4294967296 := by
  have h127 : (BitVec.ofInt 64 4294967295).toNat = 2 ^ 32 - 1 := by decide
  have key : (BitVec.ofInt 64 n &&& BitVec.ofInt 64 4294967295).toNat = (n % ((2 ^ 64 : Nat) : Int)).toNat % 2 ^ 32 := by
    rw [BitVec.toNat_and, BitVec.toNat_ofInt, h127, Nat.and_two_pow_sub_one_eq_mod]
  show IntKind.i64.wrap ((BitVec.ofInt 64 n &&& BitVec.ofInt 64 4294967295).toNat : Nat) = n % 4294967296
  rw [key, IntKind.wrap_i64]
  omega
theorem ct_num {p n a s : Int} (hs : sz n = s) (hn : 0 ≤ n ∧ n ≤ 32) (hp : p % s = 0) : contains (p, n) a = decide (p ≤ a ∧ a < p + s) := by
  unfold contains pValid
  simp only
  rw [hs, decide_eq_true ⟨hn.1, hn.2, hp⟩, Bool.true_and]
theorem ansP_eq {b : List Int} (h : ansOK b) : ansP b = (pkHdrF b, b.drop 20) := by rw [ansP, if_pos h, decPkt, if_pos h.1]
theorem ans_pre {b : List Int} : ansOK b ↔ preAns b ∧ usable (decPkt b).1.2.2.2.2.2.1 := ⟨fun h => ⟨⟨h.1, h.2.1, h.2.2.1, h.2.2.2.1⟩, h.2.2.2.2⟩, fun h => ⟨h.1.1, h.1.2.1, h.1.2.2.1, h.1.2.2.2, h.2⟩⟩
theorem ansP'_eq {b : List Int} (h : ansOK b) : ansP' b = (pkHdrF b, b.drop 20) := by rw [ansP', if_pos (ans_pre.1 h).1, decPkt, if_pos h.1]
theorem ans_facts {b : List Int} (h : ansOK b) : decErr b = 0 ∧ 28 ≤ b.length ∧ (protoOf b = 1 → (b.drop 20).getD 0 default = 8) ∧ (protoOf b = 6 → 14 ≤ (b.drop 20).length → bits .and .u8 ((b.drop 20).getD 13 default) 4 = 0) ∧ usable (srcOf b) := by
  obtain ⟨h1, h2⟩ := h
  rw [decPkt, if_pos h1] at h2
  obtain ⟨k1, k2, k3, k4⟩ := h2
  simp only [List.length_drop] at k1
  exact ⟨h1, by omega, k2, k3, k4⟩
theorem ans_mk {b : List Int} (h1 : decErr b = 0) (h2 : 28 ≤ b.length) (h3 : protoOf b = 1 → (b.drop 20).getD 0 default = 8) (h4 : protoOf b = 6 → 14 ≤ (b.drop 20).length → bits .and .u8 ((b.drop 20).getD 13 default) 4 = 0) (h5 : usable (srcOf b)) : ansOK b := by
  refine ⟨h1, ?_⟩
  rw [decPkt, if_pos h1]
  exact ⟨by simp only [List.length_drop]; omega, h3, h4, h5⟩
theorem ip_send {src dst proto id ttl : Int} {data : List Int} (hn : numOK id ttl) (hp : 0 ≤ proto ∧ proto ≤ 255) (hl : (data.length : Int) ≤ 1480) : ipErr (sendP src dst proto id ttl data) = 0 := by
  obtain ⟨⟨a, b⟩, c, d⟩ := hn
  rw [ipErr, if_neg, if_neg (by simp only [sendP]; omega)]
  rw [Decidable.not_not]
  exact ⟨⟨Int.le_refl _, by simp only [sendP]; omega⟩, ⟨c, d⟩, hp, a, b⟩
theorem err_good {b : List Int} {src kind code id ttl : Int} (hg : errGood kind code id ttl) (ha : ansOK b) :
    errE b kind code id ttl = 0 ∧ errB b src kind code id ttl = ipEnc (sendP src (srcOf b) 1 id ttl (noticeEnc (kind, code, b.take 28))) ∧ noticeErr (kind, code, b.take 28) = 0 ∧ ipErr (sendP src (srcOf b) 1 id ttl (noticeEnc (kind, code, b.take 28))) = 0 := by
  have he : errE b kind code id ttl = 0 := by rw [errE, if_neg (fun k => k hg), if_pos ha]
  obtain ⟨-, hl, -⟩ := ans_facts ha
  obtain ⟨h1, h2, h3⟩ := hg
  refine ⟨he, by rw [errB, if_pos he], ?_, ip_send h3 (by omega) (notice_enc_len _)⟩
  have ht : (b.take 28).length = 28 := by rw [List.length_take]; omega
  rw [noticeErr, if_neg, if_neg, if_neg]
  · simp only; rw [ht]; omega
  · simp only; rw [ht]; omega
  · rw [Decidable.not_not]; exact ⟨h1.symm, h2⟩
theorem err_range {b : List Int} {src kind code id ttl : Int} (hg : ¬ errGood kind code id ttl) : ([] : List Int) = errB b src kind code id ttl ∧ 1 = errE b kind code id ttl := by
  have he : errE b kind code id ttl = 1 := by rw [errE, if_pos hg]
  rw [errB, he]; exact ⟨rfl, rfl⟩
theorem err_bad {b : List Int} {src kind code id ttl : Int} (hg : errGood kind code id ttl) (ha : ¬ ansOK b) : ([] : List Int) = errB b src kind code id ttl ∧ 17 = errE b kind code id ttl := by
  have he : errE b kind code id ttl = 17 := by rw [errE, if_neg (fun k => k hg), if_neg ha]
  rw [errB, he]; exact ⟨rfl, rfl⟩
theorem sub28 (b : List Int) : subL b (Int.toNat 0) (Int.toNat 28) = b.take 28 := by
  show subL b 0 28 = _
  simp [subL]
theorem host_range {b : List Int} {src id ttl : Int} (hn : ¬ numOK id ttl) : ([] : List Int) = hostB b src id ttl ∧ 1 = hostE b id ttl := by
  have he : hostE b id ttl = 1 := by rw [hostE, if_pos hn]
  rw [hostB, he]; exact ⟨rfl, rfl⟩
theorem host_bad {b : List Int} {src id ttl : Int} (hn : numOK id ttl) (ha : ¬ hostGood b) : ([] : List Int) = hostB b src id ttl ∧ 17 = hostE b id ttl := by
  have he : hostE b id ttl = 17 := by rw [hostE, if_neg (fun k => k hn), if_neg ha]
  rw [hostB, he]; exact ⟨rfl, rfl⟩
theorem host_zero {b : List Int} {id ttl : Int} (hn : numOK id ttl) (ha : hostGood b) : hostE b id ttl = 0 := by rw [hostE, if_neg (fun k => k hn), if_pos ha]
theorem host_1 {b : List Int} {src id ttl : Int} (hn : numOK id ttl) (ha : ansOK b) (h : protoOf b = 1) (he : unEchoErr (b.drop 20) = 0) :
    hostB b src id ttl = ipEnc (sendP src (srcOf b) 1 id ttl (echoEnc (true, (unEcho (b.drop 20)).2))) ∧ hostE b id ttl = 0 := by
  have h0 := host_zero hn (b := b) ⟨ha, .inl ⟨h, he⟩⟩
  rw [hostB, if_pos h0, if_pos h]; exact ⟨rfl, h0⟩
theorem host_17 {b : List Int} {src id ttl : Int} (hn : numOK id ttl) (ha : ansOK b) (h : protoOf b = 17) (he : unUDPErr (srcOf b) (dstOf b) (b.drop 20) = 0) :
    hostB b src id ttl = errB b src 3 3 id ttl ∧ hostE b id ttl = 0 := by
  have h0 := host_zero hn (b := b) ⟨ha, .inr (.inl ⟨h, he⟩)⟩
  rw [hostB, if_pos h0, if_neg (by omega), if_pos h]; exact ⟨rfl, h0⟩
theorem host_6 {b : List Int} {src id ttl : Int} (hn : numOK id ttl) (ha : ansOK b) (h : protoOf b = 6) (he : unTCPErr (srcOf b) (dstOf b) (b.drop 20) = 0)
    (h2 : bits .and .i64 (unTCP (srcOf b) (dstOf b) (b.drop 20)).2.2.2.2.1 2 ≠ 0) (h4 : bits .and .i64 (unTCP (srcOf b) (dstOf b) (b.drop 20)).2.2.2.2.1 4 = 0) :
    hostB b src id ttl = ipEnc (sendP src (srcOf b) 6 id ttl (tcpEnc src (srcOf b) (rstOf (unTCP (srcOf b) (dstOf b) (b.drop 20))))) ∧ hostE b id ttl = 0 := by
  have h0 := host_zero hn (b := b) ⟨ha, .inr (.inr ⟨h, he, h2, h4⟩)⟩
  rw [hostB, if_pos h0, if_neg (by omega), if_neg (by omega)]; exact ⟨rfl, h0⟩
theorem err_port {b : List Int} {id ttl : Int} (hn : numOK id ttl) (ha : ansOK b) : errE b 3 3 id ttl = 0 := by
  rw [errE, if_neg (fun k => k ⟨.inr rfl, ⟨by omega, by omega⟩, hn⟩), if_pos ha]
theorem un_echo_len (b : List Int) : (unEcho b).2.2.2.length ≤ b.length := by
  unfold unEcho; split
  · simp only [List.length_drop]; omega
  · simp
theorem un_notice_len (b : List Int) : (unNotice b).2.2.length ≤ b.length := by
  unfold unNotice; split
  · simp only [List.length_drop]; omega
  · simp
theorem un_tcp_rng {s d : Int} {b : List Int} (hb : bytes b) : (0 ≤ (unTCP s d b).2.1 ∧ (unTCP s d b).2.1 ≤ 65535) ∧ (0 ≤ (unTCP s d b).2.2.1 ∧ (unTCP s d b).2.2.1 ≤ 4294967295) ∧ 0 ≤ (unTCP s d b).2.2.2.1 ∧ (unTCP s d b).2.2.2.1 ≤ 4294967295 := by
  unfold unTCP; split
  · have h1 := bytes_word hb (Int.toNat 2)
    have h2 := bytes_word hb (Int.toNat 4)
    have h3 := bytes_word hb (Int.toNat 6)
    have h4 := bytes_word hb (Int.toNat 8)
    have h5 := bytes_word hb (Int.toNat 10)
    simp only
    omega
  · simp
theorem un_echo_flag {b : List Int} (h : b.getD 0 default = 8) : (unEcho b).1 = false := by
  unfold unEcho; split
  · exact decide_eq_false (by show ¬ b.getD 0 default = 0; omega)
  · rfl
theorem noR_eq : noR = ((0, 0, 0, 0, 0, 0), (0, 0, 0, 0, 0, 0), false) := rfl
def blkP (k : Int) : Pfx := ([(0, 8), (2130706432, 8), (167772160, 8), (2886729728, 12), (3232235520, 16), (2851995648, 16), (3758096384, 4), (4026531840, 4)] : List Pfx).getD k.toNat (0, 0)
def ct_address_Special : Ct := ⟨[.val cU32], [.val cI], fun d => [], fun d => ((special d.1, ()), ())⟩
def an_address_Special : PDs ct_address_Special.ps → Anns := (fun d => { cuts := (fun n => match n with | 6 => some (fun S => { ι := Unit, inv := fun i => contains (blkP (S.i 6)) d.1 = false, keep := [0, 5, 6], slots := fun i => [], names := fun i => [] }) | _ => none), unr := fun n => match n with | 2 => 9 | _ => 0 })
theorem vc_address_Special :
    ∀ (x : Int), ((0 : Int) ≤ x ∧ x ≤ (4294967295 : Int)) ∧ True → True → ifP (contains ((0 : Int), (8 : Int)) x) ((1 : Int) = special x) (∃ (x_1 : Unit), contains (blkP (0 : Int)) x = false ∧ x = x ∧ (0
     : Int) = (0 : Int) ∧ (8 : Int) = (8 : Int) ∧ (1 : Int) = (1 : Int) ∧ (2130706432 : Int) = (2130706432 : Int) ∧ (8 : Int) = (8 : Int) ∧ (2 : Int) = (2 : Int) ∧ (167772160 : Int) = (167772160 : Int) ∧
     (8 : Int) = (8 : Int) ∧ (3 : Int) = (3 : Int) ∧ (2886729728 : Int) = (2886729728 : Int) ∧ (12 : Int) = (12 : Int) ∧ (3 : Int) = (3 : Int) ∧ (3232235520 : Int) = (3232235520 : Int) ∧ (16 : Int) = (16 :
     Int) ∧ (3 : Int) = (3 : Int) ∧ (2851995648 : Int) = (2851995648 : Int) ∧ (16 : Int) = (16 : Int) ∧ (4 : Int) = (4 : Int) ∧ (3758096384 : Int) = (3758096384 : Int) ∧ (4 : Int) = (4 : Int) ∧ (5 : Int) =
     (5 : Int) ∧ (4026531840 : Int) = (4026531840 : Int) ∧ (4 : Int) = (4 : Int) ∧ (6 : Int) = (6 : Int) ∧ (0 : Int) = (0 : Int) ∧ True) ∧ ∀ (x_1 : Unit), contains (blkP (0 : Int)) x = false → ifP
     (contains ((2130706432 : Int), (8 : Int)) x) ((2 : Int) = special x) (∃ (x_2 : Unit), contains (blkP (Int.ofNat ((nat_lit 0 + nat_lit 1) % Int.natAbs ((2 : Int) ^ IntKind.bits IntKind.i64)))) x =
     false ∧ x = x ∧ (0 : Int) = (0 : Int) ∧ (8 : Int) = (8 : Int) ∧ (1 : Int) = (1 : Int) ∧ (2130706432 : Int) = (2130706432 : Int) ∧ (8 : Int) = (8 : Int) ∧ (2 : Int) = (2 : Int) ∧ (167772160 : Int) =
     (167772160 : Int) ∧ (8 : Int) = (8 : Int) ∧ (3 : Int) = (3 : Int) ∧ (2886729728 : Int) = (2886729728 : Int) ∧ (12 : Int) = (12 : Int) ∧ (3 : Int) = (3 : Int) ∧ (3232235520 : Int) = (3232235520 : Int)
     ∧ (16 : Int) = (16 : Int) ∧ (3 : Int) = (3 : Int) ∧ (2851995648 : Int) = (2851995648 : Int) ∧ (16 : Int) = (16 : Int) ∧ (4 : Int) = (4 : Int) ∧ (3758096384 : Int) = (3758096384 : Int) ∧ (4 : Int) = (4
     : Int) ∧ (5 : Int) = (5 : Int) ∧ (4026531840 : Int) = (4026531840 : Int) ∧ (4 : Int) = (4 : Int) ∧ (6 : Int) = (6 : Int) ∧ IntKind.wrap IntKind.i64 ((0 : Int) + (1 : Int)) = IntKind.wrap IntKind.i64
     ((0 : Int) + (1 : Int)) ∧ True) ∧ ∀ (x_2 : Unit), contains (blkP (Int.ofNat ((nat_lit 0 + nat_lit 1) % Int.natAbs ((2 : Int) ^ IntKind.bits IntKind.i64)))) x = false → ifP (contains ((167772160 :
     Int), (8 : Int)) x) ((3 : Int) = special x) (∃ (x_3 : Unit), contains (blkP (Int.ofNat (((nat_lit 0 + nat_lit 1) % Int.natAbs ((2 : Int) ^ IntKind.bits IntKind.i64) + nat_lit 1) % Int.natAbs ((2 :
     Int) ^ IntKind.bits IntKind.i64)))) x = false ∧ x = x ∧ (0 : Int) = (0 : Int) ∧ (8 : Int) = (8 : Int) ∧ (1 : Int) = (1 : Int) ∧ (2130706432 : Int) = (2130706432 : Int) ∧ (8 : Int) = (8 : Int) ∧ (2 :
     Int) = (2 : Int) ∧ (167772160 : Int) = (167772160 : Int) ∧ (8 : Int) = (8 : Int) ∧ (3 : Int) = (3 : Int) ∧ (2886729728 : Int) = (2886729728 : Int) ∧ (12 : Int) = (12 : Int) ∧ (3 : Int) = (3 : Int) ∧
     (3232235520 : Int) = (3232235520 : Int) ∧ (16 : Int) = (16 : Int) ∧ (3 : Int) = (3 : Int) ∧ (2851995648 : Int) = (2851995648 : Int) ∧ (16 : Int) = (16 : Int) ∧ (4 : Int) = (4 : Int) ∧ (3758096384 :
     Int) = (3758096384 : Int) ∧ (4 : Int) = (4 : Int) ∧ (5 : Int) = (5 : Int) ∧ (4026531840 : Int) = (4026531840 : Int) ∧ (4 : Int) = (4 : Int) ∧ (6 : Int) = (6 : Int) ∧ IntKind.wrap IntKind.i64
     (IntKind.wrap IntKind.i64 ((0 : Int) + (1 : Int)) + (1 : Int)) = IntKind.wrap IntKind.i64 (IntKind.wrap IntKind.i64 ((0 : Int) + (1 : Int)) + (1 : Int)) ∧ True) ∧ ∀ (x_3 : Unit), contains (blkP
     (Int.ofNat (((nat_lit 0 + nat_lit 1) % Int.natAbs ((2 : Int) ^ IntKind.bits IntKind.i64) + nat_lit 1) % Int.natAbs ((2 : Int) ^ IntKind.bits IntKind.i64)))) x = false → ifP (contains ((2886729728 :
     Int), (12 : Int)) x) ((3 : Int) = special x) (∃ (x_4 : Unit), contains (blkP (Int.ofNat ((((nat_lit 0 + nat_lit 1) % Int.natAbs ((2 : Int) ^ IntKind.bits IntKind.i64) + nat_lit 1) % Int.natAbs ((2 :
     Int) ^ IntKind.bits IntKind.i64) + nat_lit 1) % Int.natAbs ((2 : Int) ^ IntKind.bits IntKind.i64)))) x = false ∧ x = x ∧ (0 : Int) = (0 : Int) ∧ (8 : Int) = (8 : Int) ∧ (1 : Int) = (1 : Int) ∧
     (2130706432 : Int) = (2130706432 : Int) ∧ (8 : Int) = (8 : Int) ∧ (2 : Int) = (2 : Int) ∧ (167772160 : Int) = (167772160 : Int) ∧ (8 : Int) = (8 : Int) ∧ (3 : Int) = (3 : Int) ∧ (2886729728 : Int) =
     (2886729728 : Int) ∧ (12 : Int) = (12 : Int) ∧ (3 : Int) = (3 : Int) ∧ (3232235520 : Int) = (3232235520 : Int) ∧ (16 : Int) = (16 : Int) ∧ (3 : Int) = (3 : Int) ∧ (2851995648 : Int) = (2851995648 :
     Int) ∧ (16 : Int) = (16 : Int) ∧ (4 : Int) = (4 : Int) ∧ (3758096384 : Int) = (3758096384 : Int) ∧ (4 : Int) = (4 : Int) ∧ (5 : Int) = (5 : Int) ∧ (4026531840 : Int) = (4026531840 : Int) ∧ (4 : Int) =
     (4 : Int) ∧ (6 : Int) = (6 : Int) ∧ IntKind.wrap IntKind.i64 (IntKind.wrap IntKind.i64 (IntKind.wrap IntKind.i64 ((0 : Int) + (1 : Int)) + (1 : Int)) + (1 : Int)) = IntKind.wrap IntKind.i64
     (IntKind.wrap IntKind.i64 (IntKind.wrap IntKind.i64 ((0 : Int) + (1 : Int)) + (1 : Int)) + (1 : Int)) ∧ True) ∧ ∀ (x_4 : Unit), contains (blkP (Int.ofNat ((((nat_lit 0 + nat_lit 1) % Int.natAbs ((2 :
     Int) ^ IntKind.bits IntKind.i64) + nat_lit 1) % Int.natAbs ((2 : Int) ^ IntKind.bits IntKind.i64) + nat_lit 1) % Int.natAbs ((2 : Int) ^ IntKind.bits IntKind.i64)))) x = false → ifP (contains
     ((3232235520 : Int), (16 : Int)) x) ((3 : Int) = special x) (∃ (x_5 : Unit), contains (blkP (Int.ofNat (((((nat_lit 0 + nat_lit 1) % Int.natAbs ((2 : Int) ^ IntKind.bits IntKind.i64) + nat_lit 1) %
     Int.natAbs ((2 : Int) ^ IntKind.bits IntKind.i64) + nat_lit 1) % Int.natAbs ((2 : Int) ^ IntKind.bits IntKind.i64) + nat_lit 1) % Int.natAbs ((2 : Int) ^ IntKind.bits IntKind.i64)))) x = false ∧ x = x
     ∧ (0 : Int) = (0 : Int) ∧ (8 : Int) = (8 : Int) ∧ (1 : Int) = (1 : Int) ∧ (2130706432 : Int) = (2130706432 : Int) ∧ (8 : Int) = (8 : Int) ∧ (2 : Int) = (2 : Int) ∧ (167772160 : Int) = (167772160 :
     Int) ∧ (8 : Int) = (8 : Int) ∧ (3 : Int) = (3 : Int) ∧ (2886729728 : Int) = (2886729728 : Int) ∧ (12 : Int) = (12 : Int) ∧ (3 : Int) = (3 : Int) ∧ (3232235520 : Int) = (3232235520 : Int) ∧ (16 : Int)
     = (16 : Int) ∧ (3 : Int) = (3 : Int) ∧ (2851995648 : Int) = (2851995648 : Int) ∧ (16 : Int) = (16 : Int) ∧ (4 : Int) = (4 : Int) ∧ (3758096384 : Int) = (3758096384 : Int) ∧ (4 : Int) = (4 : Int) ∧ (5
     : Int) = (5 : Int) ∧ (4026531840 : Int) = (4026531840 : Int) ∧ (4 : Int) = (4 : Int) ∧ (6 : Int) = (6 : Int) ∧ IntKind.wrap IntKind.i64 (IntKind.wrap IntKind.i64 (IntKind.wrap IntKind.i64
     (IntKind.wrap IntKind.i64 ((0 : Int) + (1 : Int)) + (1 : Int)) + (1 : Int)) + (1 : Int)) = IntKind.wrap IntKind.i64 (IntKind.wrap IntKind.i64 (IntKind.wrap IntKind.i64 (IntKind.wrap IntKind.i64 ((0 :
     Int) + (1 : Int)) + (1 : Int)) + (1 : Int)) + (1 : Int)) ∧ True) ∧ ∀ (x_5 : Unit), contains (blkP (Int.ofNat (((((nat_lit 0 + nat_lit 1) % Int.natAbs ((2 : Int) ^ IntKind.bits IntKind.i64) + nat_lit
     1) % Int.natAbs ((2 : Int) ^ IntKind.bits IntKind.i64) + nat_lit 1) % Int.natAbs ((2 : Int) ^ IntKind.bits IntKind.i64) + nat_lit 1) % Int.natAbs ((2 : Int) ^ IntKind.bits IntKind.i64)))) x = false →
     ifP (contains ((2851995648 : Int), (16 : Int)) x) ((4 : Int) = special x) (∃ (x_6 : Unit), contains (blkP (Int.ofNat ((((((nat_lit 0 + nat_lit 1) % Int.natAbs ((2 : Int) ^ IntKind.bits IntKind.i64) +
     nat_lit 1) % Int.natAbs ((2 : Int) ^ IntKind.bits IntKind.i64) + nat_lit 1) % Int.natAbs ((2 : Int) ^ IntKind.bits IntKind.i64) + nat_lit 1) % Int.natAbs ((2 : Int) ^ IntKind.bits IntKind.i64) +
     nat_lit 1) % Int.natAbs ((2 : Int) ^ IntKind.bits IntKind.i64)))) x = false ∧ x = x ∧ (0 : Int) = (0 : Int) ∧ (8 : Int) = (8 : Int) ∧ (1 : Int) = (1 : Int) ∧ (2130706432 : Int) = (2130706432 : Int) ∧
     (8 : Int) = (8 : Int) ∧ (2 : Int) = (2 : Int) ∧ (167772160 : Int) = (167772160 : Int) ∧ (8 : Int) = (8 : Int) ∧ (3 : Int) = (3 : Int) ∧ (2886729728 : Int) = (2886729728 : Int) ∧ (12 : Int) = (12 :
     Int) ∧ (3 : Int) = (3 : Int) ∧ (3232235520 : Int) = (3232235520 : Int) ∧ (16 : Int) = (16 : Int) ∧ (3 : Int) = (3 : Int) ∧ (2851995648 : Int) = (2851995648 : Int) ∧ (16 : Int) = (16 : Int) ∧ (4 : Int)
     = (4 : Int) ∧ (3758096384 : Int) = (3758096384 : Int) ∧ (4 : Int) = (4 : Int) ∧ (5 : Int) = (5 : Int) ∧ (4026531840 : Int) = (4026531840 : Int) ∧ (4 : Int) = (4 : Int) ∧ (6 : Int) = (6 : Int) ∧
     IntKind.wrap IntKind.i64 (IntKind.wrap IntKind.i64 (IntKind.wrap IntKind.i64 (IntKind.wrap IntKind.i64 (IntKind.wrap IntKind.i64 ((0 : Int) + (1 : Int)) + (1 : Int)) + (1 : Int)) + (1 : Int)) + (1 :
     Int)) = IntKind.wrap IntKind.i64 (IntKind.wrap IntKind.i64 (IntKind.wrap IntKind.i64 (IntKind.wrap IntKind.i64 (IntKind.wrap IntKind.i64 ((0 : Int) + (1 : Int)) + (1 : Int)) + (1 : Int)) + (1 : Int))
     + (1 : Int)) ∧ True) ∧ ∀ (x_6 : Unit), contains (blkP (Int.ofNat ((((((nat_lit 0 + nat_lit 1) % Int.natAbs ((2 : Int) ^ IntKind.bits IntKind.i64) + nat_lit 1) % Int.natAbs ((2 : Int) ^ IntKind.bits
     IntKind.i64) + nat_lit 1) % Int.natAbs ((2 : Int) ^ IntKind.bits IntKind.i64) + nat_lit 1) % Int.natAbs ((2 : Int) ^ IntKind.bits IntKind.i64) + nat_lit 1) % Int.natAbs ((2 : Int) ^ IntKind.bits
     IntKind.i64)))) x = false → ifP (contains ((3758096384 : Int), (4 : Int)) x) ((5 : Int) = special x) (∃ (x_7 : Unit), contains (blkP (Int.ofNat (((((((nat_lit 0 + nat_lit 1) % Int.natAbs ((2 : Int) ^
     IntKind.bits IntKind.i64) + nat_lit 1) % Int.natAbs ((2 : Int) ^ IntKind.bits IntKind.i64) + nat_lit 1) % Int.natAbs ((2 : Int) ^ IntKind.bits IntKind.i64) + nat_lit 1) % Int.natAbs ((2 : Int) ^
     IntKind.bits IntKind.i64) + nat_lit 1) % Int.natAbs ((2 : Int) ^ IntKind.bits IntKind.i64) + nat_lit 1) % Int.natAbs ((2 : Int) ^ IntKind.bits IntKind.i64)))) x = false ∧ x = x ∧ (0 : Int) = (0 : Int)
     ∧ (8 : Int) = (8 : Int) ∧ (1 : Int) = (1 : Int) ∧ (2130706432 : Int) = (2130706432 : Int) ∧ (8 : Int) = (8 : Int) ∧ (2 : Int) = (2 : Int) ∧ (167772160 : Int) = (167772160 : Int) ∧ (8 : Int) = (8 :
     Int) ∧ (3 : Int) = (3 : Int) ∧ (2886729728 : Int) = (2886729728 : Int) ∧ (12 : Int) = (12 : Int) ∧ (3 : Int) = (3 : Int) ∧ (3232235520 : Int) = (3232235520 : Int) ∧ (16 : Int) = (16 : Int) ∧ (3 : Int)
     = (3 : Int) ∧ (2851995648 : Int) = (2851995648 : Int) ∧ (16 : Int) = (16 : Int) ∧ (4 : Int) = (4 : Int) ∧ (3758096384 : Int) = (3758096384 : Int) ∧ (4 : Int) = (4 : Int) ∧ (5 : Int) = (5 : Int) ∧
     (4026531840 : Int) = (4026531840 : Int) ∧ (4 : Int) = (4 : Int) ∧ (6 : Int) = (6 : Int) ∧ IntKind.wrap IntKind.i64 (IntKind.wrap IntKind.i64 (IntKind.wrap IntKind.i64 (IntKind.wrap IntKind.i64
     (IntKind.wrap IntKind.i64 (IntKind.wrap IntKind.i64 ((0 : Int) + (1 : Int)) + (1 : Int)) + (1 : Int)) + (1 : Int)) + (1 : Int)) + (1 : Int)) = IntKind.wrap IntKind.i64 (IntKind.wrap IntKind.i64
     (IntKind.wrap IntKind.i64 (IntKind.wrap IntKind.i64 (IntKind.wrap IntKind.i64 (IntKind.wrap IntKind.i64 ((0 : Int) + (1 : Int)) + (1 : Int)) + (1 : Int)) + (1 : Int)) + (1 : Int)) + (1 : Int)) ∧ True)
     ∧ ∀ (x_7 : Unit), contains (blkP (Int.ofNat (((((((nat_lit 0 + nat_lit 1) % Int.natAbs ((2 : Int) ^ IntKind.bits IntKind.i64) + nat_lit 1) % Int.natAbs ((2 : Int) ^ IntKind.bits IntKind.i64) + nat_lit
     1) % Int.natAbs ((2 : Int) ^ IntKind.bits IntKind.i64) + nat_lit 1) % Int.natAbs ((2 : Int) ^ IntKind.bits IntKind.i64) + nat_lit 1) % Int.natAbs ((2 : Int) ^ IntKind.bits IntKind.i64) + nat_lit 1) %
     Int.natAbs ((2 : Int) ^ IntKind.bits IntKind.i64)))) x = false → ifP (contains ((4026531840 : Int), (4 : Int)) x) ((6 : Int) = special x) (∃ (x_8 : Unit), contains (blkP (Int.ofNat ((((((((nat_lit 0 +
     nat_lit 1) % Int.natAbs ((2 : Int) ^ IntKind.bits IntKind.i64) + nat_lit 1) % Int.natAbs ((2 : Int) ^ IntKind.bits IntKind.i64) + nat_lit 1) % Int.natAbs ((2 : Int) ^ IntKind.bits IntKind.i64) +
     nat_lit 1) % Int.natAbs ((2 : Int) ^ IntKind.bits IntKind.i64) + nat_lit 1) % Int.natAbs ((2 : Int) ^ IntKind.bits IntKind.i64) + nat_lit 1) % Int.natAbs ((2 : Int) ^ IntKind.bits IntKind.i64) +
     nat_lit 1) % Int.natAbs ((2 : Int) ^ IntKind.bits IntKind.i64)))) x = false ∧ x = x ∧ (0 : Int) = (0 : Int) ∧ (8 : Int) = (8 : Int) ∧ (1 : Int) = (1 : Int) ∧ (2130706432 : Int) = (2130706432 : Int) ∧
     (8 : Int) = (8 : Int) ∧ (2 : Int) = (2 : Int) ∧ (167772160 : Int) = (167772160 : Int) ∧ (8 : Int) = (8 : Int) ∧ (3 : Int) = (3 : Int) ∧ (2886729728 : Int) = (2886729728 : Int) ∧ (12 : Int) = (12 :
     Int) ∧ (3 : Int) = (3 : Int) ∧ (3232235520 : Int) = (3232235520 : Int) ∧ (16 : Int) = (16 : Int) ∧ (3 : Int) = (3 : Int) ∧ (2851995648 : Int) = (2851995648 : Int) ∧ (16 : Int) = (16 : Int) ∧ (4 : Int)
     = (4 : Int) ∧ (3758096384 : Int) = (3758096384 : Int) ∧ (4 : Int) = (4 : Int) ∧ (5 : Int) = (5 : Int) ∧ (4026531840 : Int) = (4026531840 : Int) ∧ (4 : Int) = (4 : Int) ∧ (6 : Int) = (6 : Int) ∧
     IntKind.wrap IntKind.i64 (IntKind.wrap IntKind.i64 (IntKind.wrap IntKind.i64 (IntKind.wrap IntKind.i64 (IntKind.wrap IntKind.i64 (IntKind.wrap IntKind.i64 (IntKind.wrap IntKind.i64 ((0 : Int) + (1 :
     Int)) + (1 : Int)) + (1 : Int)) + (1 : Int)) + (1 : Int)) + (1 : Int)) + (1 : Int)) = IntKind.wrap IntKind.i64 (IntKind.wrap IntKind.i64 (IntKind.wrap IntKind.i64 (IntKind.wrap IntKind.i64
     (IntKind.wrap IntKind.i64 (IntKind.wrap IntKind.i64 (IntKind.wrap IntKind.i64 ((0 : Int) + (1 : Int)) + (1 : Int)) + (1 : Int)) + (1 : Int)) + (1 : Int)) + (1 : Int)) + (1 : Int)) ∧ True) ∧ ∀ (x_8 :
     Unit), contains (blkP (Int.ofNat ((((((((nat_lit 0 + nat_lit 1) % Int.natAbs ((2 : Int) ^ IntKind.bits IntKind.i64) + nat_lit 1) % Int.natAbs ((2 : Int) ^ IntKind.bits IntKind.i64) + nat_lit 1) %
     Int.natAbs ((2 : Int) ^ IntKind.bits IntKind.i64) + nat_lit 1) % Int.natAbs ((2 : Int) ^ IntKind.bits IntKind.i64) + nat_lit 1) % Int.natAbs ((2 : Int) ^ IntKind.bits IntKind.i64) + nat_lit 1) %
     Int.natAbs ((2 : Int) ^ IntKind.bits IntKind.i64) + nat_lit 1) % Int.natAbs ((2 : Int) ^ IntKind.bits IntKind.i64)))) x = false → (0 : Int) = special x := by
  rintro a ⟨⟨a0, a1⟩, -⟩ -
  have q0 := ct_num (p := 0) (n := 8) (a := a) (s := 16777216) rfl (by omega) (by omega)
  have q1 := ct_num (p := 2130706432) (n := 8) (a := a) (s := 16777216) rfl (by omega) (by omega)
  have q2 := ct_num (p := 167772160) (n := 8) (a := a) (s := 16777216) rfl (by omega) (by omega)
  have q3 := ct_num (p := 2886729728) (n := 12) (a := a) (s := 1048576) rfl (by omega) (by omega)
  have q4 := ct_num (p := 3232235520) (n := 16) (a := a) (s := 65536) rfl (by omega) (by omega)
  have q5 := ct_num (p := 2851995648) (n := 16) (a := a) (s := 65536) rfl (by omega) (by omega)
  have q6 := ct_num (p := 3758096384) (n := 4) (a := a) (s := 268435456) rfl (by omega) (by omega)
  have q7 := ct_num (p := 4026531840) (n := 4) (a := a) (s := 268435456) rfl (by omega) (by omega)
  refine ⟨ifP_split (fun h => ?_) (fun h => ⟨(), h, (by repeat' first | exact trivial | refine ⟨trivial, ?_⟩ | refine ⟨(by with_reducible rfl), ?_⟩ | refine ⟨w64 (by omega) (by omega), ?_⟩ | refine ⟨rfl, ?_⟩)⟩), ?_⟩
  · rw [q0] at h
    have h := of_decide_eq_true h
    unfold special; rw [if_pos (by omega)]
  rintro - h
  have h : contains (0, 8) a = false := h
  rw [q0] at h
  have h0 := of_decide_eq_false h
  refine ⟨ifP_split (fun h => ?_) (fun h => ⟨(), h, (by repeat' first | exact trivial | refine ⟨trivial, ?_⟩ | refine ⟨(by with_reducible rfl), ?_⟩ | refine ⟨w64 (by omega) (by omega), ?_⟩ | refine ⟨rfl, ?_⟩)⟩), ?_⟩
  · rw [q1] at h
    have h := of_decide_eq_true h
    unfold special; rw [if_neg (by omega), if_pos (by omega)]
  rintro - h
  have h : contains (2130706432, 8) a = false := h
  rw [q1] at h
  have h1 := of_decide_eq_false h
  refine ⟨ifP_split (fun h => ?_) (fun h => ⟨(), h, (by repeat' first | exact trivial | refine ⟨trivial, ?_⟩ | refine ⟨(by with_reducible rfl), ?_⟩ | refine ⟨w64 (by omega) (by omega), ?_⟩ | refine ⟨rfl, ?_⟩)⟩), ?_⟩
  · rw [q2] at h
    have h := of_decide_eq_true h
    unfold special; rw [if_neg (by omega), if_neg (by omega), if_pos (by omega)]
  rintro - h
  have h : contains (167772160, 8) a = false := h
  rw [q2] at h
  have h2 := of_decide_eq_false h
  refine ⟨ifP_split (fun h => ?_) (fun h => ⟨(), h, (by repeat' first | exact trivial | refine ⟨trivial, ?_⟩ | refine ⟨(by with_reducible rfl), ?_⟩ | refine ⟨w64 (by omega) (by omega), ?_⟩ | refine ⟨rfl, ?_⟩)⟩), ?_⟩
  · rw [q3] at h
    have h := of_decide_eq_true h
    unfold special; rw [if_neg (by omega), if_neg (by omega), if_pos (by omega)]
  rintro - h
  have h : contains (2886729728, 12) a = false := h
  rw [q3] at h
  have h3 := of_decide_eq_false h
  refine ⟨ifP_split (fun h => ?_) (fun h => ⟨(), h, (by repeat' first | exact trivial | refine ⟨trivial, ?_⟩ | refine ⟨(by with_reducible rfl), ?_⟩ | refine ⟨w64 (by omega) (by omega), ?_⟩ | refine ⟨rfl, ?_⟩)⟩), ?_⟩
  · rw [q4] at h
    have h := of_decide_eq_true h
    unfold special; rw [if_neg (by omega), if_neg (by omega), if_pos (by omega)]
  rintro - h
  have h : contains (3232235520, 16) a = false := h
  rw [q4] at h
  have h4 := of_decide_eq_false h
  refine ⟨ifP_split (fun h => ?_) (fun h => ⟨(), h, (by repeat' first | exact trivial | refine ⟨trivial, ?_⟩ | refine ⟨(by with_reducible rfl), ?_⟩ | refine ⟨w64 (by omega) (by omega), ?_⟩ | refine ⟨rfl, ?_⟩)⟩), ?_⟩
  · rw [q5] at h
    have h := of_decide_eq_true h
    unfold special; rw [if_neg (by omega), if_neg (by omega), if_neg (by omega), if_pos (by omega)]
  rintro - h
  have h : contains (2851995648, 16) a = false := h
  rw [q5] at h
  have h5 := of_decide_eq_false h
  refine ⟨ifP_split (fun h => ?_) (fun h => ⟨(), h, (by repeat' first | exact trivial | refine ⟨trivial, ?_⟩ | refine ⟨(by with_reducible rfl), ?_⟩ | refine ⟨w64 (by omega) (by omega), ?_⟩ | refine ⟨rfl, ?_⟩)⟩), ?_⟩
  · rw [q6] at h
    have h := of_decide_eq_true h
    unfold special; rw [if_neg (by omega), if_neg (by omega), if_neg (by omega), if_neg (by omega), if_pos (by omega)]
  rintro - h
  have h : contains (3758096384, 4) a = false := h
  rw [q6] at h
  have h6 := of_decide_eq_false h
  refine ⟨ifP_split (fun h => ?_) (fun h => ⟨(), h, (by repeat' first | exact trivial | refine ⟨trivial, ?_⟩ | refine ⟨(by with_reducible rfl), ?_⟩ | refine ⟨w64 (by omega) (by omega), ?_⟩ | refine ⟨rfl, ?_⟩)⟩), ?_⟩
  · rw [q7] at h
    have h := of_decide_eq_true h
    unfold special; rw [if_neg (by omega), if_neg (by omega), if_neg (by omega), if_neg (by omega), if_neg (by omega), if_pos (by omega)]
  rintro - h
  have h : contains (4026531840, 4) a = false := h
  rw [q7] at h
  have h7 := of_decide_eq_false h
  unfold special; rw [if_neg (by omega), if_neg (by omega), if_neg (by omega), if_neg (by omega), if_neg (by omega), if_neg (by omega)]
theorem ok_address_Special : SpecOK Tryz.prog GL 65 ct_address_Special.spec := Ct.ok' _ Tryz.func65 (by kernel_rfl) (withConc_ok (withSpec_ok noSpecs_ok ok_address_Contains) (d := 8)) hmix an_address_Special (Eq.mpr (by kernel_rfl) vc_address_Special)

def ct_ref01_Special : Ct := ⟨[.val cU32], [.val cI], fun d => [], fun d => ((special d.1, ()), ())⟩
def an_ref01_Special : PDs ct_ref01_Special.ps → Anns := (fun _ => {})
theorem vc_ref01_Special :
    ∀ (x : Int), ((0 : Int) ≤ x ∧ x ≤ (4294967295 : Int)) ∧ True → True → (0 : Int) ≤ (24 : Int) ∧ (0 : Int) ≤ (16 : Int) ∧ ifP (decide (shrI IntKind.i64 (IntKind.wrap IntKind.i64 x) (24 : Int) = (0 :
     Int))) ((1 : Int) = special x) (ifP (decide (shrI IntKind.i64 (IntKind.wrap IntKind.i64 x) (24 : Int) = (127 : Int))) ((2 : Int) = special x) (∀ (b : Bool), b = decide (shrI IntKind.i64 (IntKind.wrap
     IntKind.i64 x) (24 : Int) = (10 : Int)) → ((!b) = true → ((!b) = true → (!b) = true) ∧ True) ∧ ((!b) = true → ((!b) = true → (!b) = true) ∧ True) ∧ ∀ (b_1 : Bool), b_1 = decide (shrI IntKind.i64
     (IntKind.wrap IntKind.i64 x) (24 : Int) = (172 : Int)) → ((!b && b_1) = true → ((!b && b_1) = true → (!b && b_1) = true) ∧ True) ∧ ((!b) = true → ((!b) = true → (!b) = true) ∧ (b_1 = true → (!b &&
     b_1) = true) ∧ True) ∧ ((!b) = true → ((!b) = true → (!b) = true) ∧ True) ∧ ∀ (b_2 : Bool), (b_2 = bif b_1 then decide ((16 : Int) ≤ bits BinOp.and IntKind.i64 (shrI IntKind.i64 (IntKind.wrap
     IntKind.i64 x) (16 : Int)) (255 : Int)) else false) → ((!b && b_2) = true → ((!b && b_2) = true → (!b && b_2) = true) ∧ True) ∧ ((!b) = true → ((!b) = true → (!b) = true) ∧ (b_2 = true → (!b && b_2) =
     true) ∧ True) ∧ (b = false → (!b) = true) ∧ ∀ (b_3 : Bool), (b_3 = bif b then true else bif b_2 then decide (bits BinOp.and IntKind.i64 (shrI IntKind.i64 (IntKind.wrap IntKind.i64 x) (16 : Int)) (255
     : Int) < (32 : Int)) else false) → ((!b_3) = true → ((!b_3) = true → (!b_3) = true) ∧ True) ∧ ((!b_3) = true → ((!b_3) = true → (!b_3) = true) ∧ True) ∧ ∀ (b : Bool), b = decide (shrI IntKind.i64
     (IntKind.wrap IntKind.i64 x) (24 : Int) = (192 : Int)) → ((!b_3 && b) = true → ((!b_3 && b) = true → (!b_3 && b) = true) ∧ True) ∧ ((!b_3) = true → ((!b_3) = true → (!b_3) = true) ∧ (b = true → (!b_3
     && b) = true) ∧ True) ∧ (b_3 = false → (!b_3) = true) ∧ ifP (bif b_3 then true else bif b then decide (bits BinOp.and IntKind.i64 (shrI IntKind.i64 (IntKind.wrap IntKind.i64 x) (16 : Int)) (255 : Int)
     = (168 : Int)) else false) ((3 : Int) = special x) (∀ (b : Bool), b = decide (shrI IntKind.i64 (IntKind.wrap IntKind.i64 x) (24 : Int) = (169 : Int)) → (b = true → (b = true → b = true) ∧ True) ∧ (b =
     true → b = true) ∧ ifP (bif b then decide (bits BinOp.and IntKind.i64 (shrI IntKind.i64 (IntKind.wrap IntKind.i64 x) (16 : Int)) (255 : Int) = (254 : Int)) else false) ((4 : Int) = special x) (∀ (b :
     Bool), b = decide ((224 : Int) ≤ shrI IntKind.i64 (IntKind.wrap IntKind.i64 x) (24 : Int)) → (b = true → (b = true → b = true) ∧ True) ∧ (b = true → b = true) ∧ ifP (bif b then decide (shrI
     IntKind.i64 (IntKind.wrap IntKind.i64 x) (24 : Int) < (240 : Int)) else false) ((5 : Int) = special x) (ifP (decide ((240 : Int) ≤ shrI IntKind.i64 (IntKind.wrap IntKind.i64 x) (24 : Int))) ((6 : Int)
     = special x) ((0 : Int) = special x)))))) := by
  rintro a ⟨⟨a0, a1⟩, -⟩ -
  rw [w64 (n := a) (by omega) (by omega), shr24 a0, shr16 a0, i64_and255]
  refine ⟨by omega, by omega, ifP_split (fun h => ?_) (fun h => ?_)⟩
  · rw [special, if_pos (of_decide_eq_true h)]
  have h1 := of_decide_eq_false h
  refine ifP_split (fun h => ?_) (fun h => ?_)
  · rw [special, if_neg h1, if_pos (of_decide_eq_true h)]
  have h2 := of_decide_eq_false h
  rw [special, if_neg h1, if_neg h2]
  (repeat (intro (b_ : Bool) (hb_ : b_ = _); (repeat refine ⟨(by first | (simp; done) | (rw [hb_]; simp; done) | (rw [hb_]; simp; omega) | (rw [hb_]; simp; intros; omega) | (rw [hb_]; simp +contextual; done)), ?_⟩); subst hb_))
  refine ⟨fun h => by rw [h]; rfl, ?_⟩
  refine ifP_split (fun h => ?_) (fun h => ?_)
  · rw [if_pos]
    simp [Bool.cond_eq_ite] at h; omega
  have h3 : ¬ (a / 16777216 = 10 ∨ (a / 16777216 = 172 ∧ 16 ≤ a / 65536 % 256 ∧ a / 65536 % 256 < 32) ∨ (a / 16777216 = 192 ∧ a / 65536 % 256 = 168)) := by
    simp [Bool.cond_eq_ite] at h; omega
  rw [if_neg h3]
  clear h
  (repeat (intro (b_ : Bool) (hb_ : b_ = _); (repeat refine ⟨(by first | (simp; done) | (rw [hb_]; simp; done) | (rw [hb_]; simp; omega) | (rw [hb_]; simp; intros; omega) | (rw [hb_]; simp +contextual; done)), ?_⟩); subst hb_))
  refine ifP_split (fun h => ?_) (fun h => ?_)
  · rw [if_pos]
    simp [Bool.cond_eq_ite] at h; omega
  have h4 : ¬ (a / 16777216 = 169 ∧ a / 65536 % 256 = 254) := by
    simp [Bool.cond_eq_ite] at h; omega
  rw [if_neg h4]
  clear h
  (repeat (intro (b_ : Bool) (hb_ : b_ = _); (repeat refine ⟨(by first | (simp; done) | (rw [hb_]; simp; done) | (rw [hb_]; simp; omega) | (rw [hb_]; simp; intros; omega) | (rw [hb_]; simp +contextual; done)), ?_⟩); subst hb_))
  refine ifP_split (fun h => ?_) (fun h => ?_)
  · rw [if_pos]
    simp [Bool.cond_eq_ite] at h; omega
  have h5 : ¬ (224 ≤ a / 16777216 ∧ a / 16777216 < 240) := by
    simp [Bool.cond_eq_ite] at h; omega
  rw [if_neg h5]
  exact ifP_split (fun h => by rw [if_pos (of_decide_eq_true h)]) (fun h => by rw [if_neg (of_decide_eq_false h)])
theorem ok_ref01_Special : SpecOK Tryz.prog GL 66 ct_ref01_Special.spec := Ct.ok' _ Tryz.func66 (by kernel_rfl) noSpecs_ok hmix an_ref01_Special (Eq.mpr (by kernel_rfl) vc_ref01_Special)

def ct_ref01_Usable : Ct := ⟨[.val cU32], [.val .bool], fun d => [], fun d => ((decide (usable d.1), ()), ())⟩
def an_ref01_Usable : PDs ct_ref01_Usable.ps → Anns := (fun _ => {})
theorem vc_ref01_Usable :
    ∀ (x : Int), ((0 : Int) ≤ x ∧ x ≤ (4294967295 : Int)) ∧ True → True → ∀ (b : Bool), b = decide (special x = (0 : Int)) → ((!b) = true → ((!b) = true → (!b) = true) ∧ True) ∧ ((!b) = true → ((!b) =
     true → (!b) = true) ∧ True) ∧ (b = false → (!b) = true) ∧ (bif b then true else decide (special x = (3 : Int))) = decide (usable x) := by
  rintro a - -
  (repeat (intro (b_ : Bool) (hb_ : b_ = _); (repeat refine ⟨(by first | (simp; done) | (rw [hb_]; simp; done) | (rw [hb_]; simp; omega) | (rw [hb_]; simp; intros; omega) | (rw [hb_]; simp +contextual; done)), ?_⟩); subst hb_))
  rw [Bool.eq_iff_iff, decide_eq_true_iff]; simp [usable, Bool.cond_eq_ite]
theorem ok_ref01_Usable : SpecOK Tryz.prog GL 35 ct_ref01_Usable.spec := Ct.ok' _ Tryz.func35 (by kernel_rfl) (withSpec_ok noSpecs_ok ok_ref01_Special) hmix an_ref01_Usable (Eq.mpr (by kernel_rfl) vc_ref01_Usable)


def ct_ref08_Answerable : Ct := ⟨[.val (.sl cU8)], [.agg cPacket, .val .bool], fun d => [(d.1.length : Int) ≤ 1099511627776], fun d => ((ansP d.1, decide (ansOK d.1), ()), ())⟩
def an_ref08_Answerable : PDs ct_ref08_Answerable.ps → Anns := (fun _ => {})
theorem vc_ref08_Answerable :
    ∀ (x : List Int), (List.length x ≤ maxLen ∧ ∀ (x_1 : Int), x_1 ∈ x → (0 : Int) ≤ x_1 ∧ x_1 ≤ (255 : Int)) ∧ True → (↑(List.length x) : Int) ≤ (1099511627776 : Int) → (↑(List.length x) : Int) ≤
     (1099511627776 : Int) ∧ ∀ (d : (Int × Int × Int × Int × Bool × Int × Int) × List Int) (x_1 : Int), d = decPkt x ∧ x_1 = decErr x → ∀ (b : Bool), b = !decide (x_1 = (0 : Int)) → ((!b) = true → ((!b) =
     true → (!b) = true) ∧ True) ∧ ((!b) = true → ((!b) = true → (!b) = true) ∧ True) ∧ ((!b) = true → ((!b) = true → (!b) = true) ∧ True) ∧ (b = false → (!b) = true) ∧ ∀ (b_1 : Bool), (b_1 = bif b then
     true else decide ((↑(List.length d.2) : Int) < (8 : Int))) → ((!b_1) = true → ((!b_1) = true → (!b_1) = true) ∧ True) ∧ ((!b_1) = true → ((!b_1) = true → (!b_1) = true) ∧ True) ∧ ((!b_1) = true →
     ((!b_1) = true → (!b_1) = true) ∧ True) ∧ ((!b_1) = true → ((!b_1) = true → (!b_1) = true) ∧ True) ∧ ∀ (b : Bool), b = decide (d.1.2.2.2.1 = (1 : Int)) → ((!b_1 && b) = true → ((!b_1 && b) = true →
     (!b_1 && b) = true) ∧ True) ∧ ((!b_1 && b) = true → ((!b_1 && b) = true → (!b_1 && b) = true) ∧ (0 : Int) ≤ (0 : Int) ∧ (0 : Int) < (↑(List.length d.2) : Int) ∧ True) ∧ ((!b_1 && b) = true → ((!b_1 &&
     b) = true → (!b_1 && b) = true) ∧ True) ∧ ((!b_1 && b) = true → ((!b_1 && b) = true → (!b_1 && b) = true) ∧ True) ∧ ((!b_1) = true → ((!b_1) = true → (!b_1) = true) ∧ (b = true → (!b_1 && b) = true) ∧
     True) ∧ (b_1 = false → (!b_1) = true) ∧ ∀ (b_2 : Bool), (b_2 = bif b_1 then true else bif b then !decide (List.getD d.2 (Int.toNat (0 : Int)) default = (8 : Int)) else false) → ((!b_2) = true →
     ((!b_2) = true → (!b_2) = true) ∧ True) ∧ ((!b_2) = true → ((!b_2) = true → (!b_2) = true) ∧ True) ∧ ((!b_2) = true → ((!b_2) = true → (!b_2) = true) ∧ True) ∧ ((!b_2) = true → ((!b_2) = true → (!b_2)
     = true) ∧ True) ∧ ∀ (b : Bool), b = decide (d.1.2.2.2.1 = (6 : Int)) → ((!b_2 && b) = true → ((!b_2 && b) = true → (!b_2 && b) = true) ∧ True) ∧ ((!b_2 && b) = true → ((!b_2 && b) = true → (!b_2 && b)
     = true) ∧ True) ∧ ((!b_2 && b) = true → ((!b_2 && b) = true → (!b_2 && b) = true) ∧ True) ∧ ((!b_2) = true → ((!b_2) = true → (!b_2) = true) ∧ (b = true → (!b_2 && b) = true) ∧ True) ∧ ((!b_2) = true
     → ((!b_2) = true → (!b_2) = true) ∧ True) ∧ ∀ (b_3 : Bool), (b_3 = bif b then decide ((14 : Int) ≤ (↑(List.length d.2) : Int)) else false) → ((!b_2 && b_3) = true → ((!b_2 && b_3) = true → (!b_2 &&
     b_3) = true) ∧ True) ∧ ((!b_2 && b_3) = true → ((!b_2 && b_3) = true → (!b_2 && b_3) = true) ∧ (0 : Int) ≤ (13 : Int) ∧ (13 : Int) < (↑(List.length d.2) : Int) ∧ True) ∧ ((!b_2 && b_3) = true → ((!b_2
     && b_3) = true → (!b_2 && b_3) = true) ∧ True) ∧ ((!b_2 && b_3) = true → ((!b_2 && b_3) = true → (!b_2 && b_3) = true) ∧ True) ∧ ((!b_2 && b_3) = true → ((!b_2 && b_3) = true → (!b_2 && b_3) = true) ∧
     True) ∧ ((!b_2) = true → ((!b_2) = true → (!b_2) = true) ∧ (b_3 = true → (!b_2 && b_3) = true) ∧ True) ∧ (b_2 = false → (!b_2) = true) ∧ ∀ (b : Bool), (b = bif b_2 then true else bif b_3 then !decide
     (bits BinOp.and IntKind.u8 (List.getD d.2 (Int.toNat (13 : Int)) default) (4 : Int) = (0 : Int)) else false) → ((!b) = true → ((!b) = true → (!b) = true) ∧ True) ∧ ((!b) = true → ((!b) = true → (!b) =
     true) ∧ True) ∧ ((!b) = true → ((!b) = true → (!b) = true) ∧ True) ∧ ((!b) = true → ((!b) = true → (!b) = true) ∧ True) ∧ (b = false → (!b) = true) ∧ ifP (bif b then true else !decide (usable
     d.1.2.2.2.2.2.1)) ((((0 : Int), (0 : Int), (0 : Int), (0 : Int), false, (0 : Int), (0 : Int)), ([] : List Int)) = ansP x ∧ false = decide (ansOK x)) (d = ansP x ∧ true = decide (ansOK x)) := by
  rintro b ⟨⟨-, hb⟩, -⟩ hl
  refine ⟨hl, ?_⟩
  rintro d e ⟨rfl, rfl⟩
  have bad : ¬ ansOK b → (((0, 0, 0, 0, false, 0, 0), []) : Packet) = ansP b ∧ false = decide (ansOK b) := fun h => by rw [ansP, if_neg h, decide_eq_false h]; exact ⟨rfl, rfl⟩
  (repeat (intro (b_ : Bool) (hb_ : b_ = _); (repeat refine ⟨(by first | (simp +contextual; done) | (rw [hb_]; simp +contextual; done) | (rw [hb_]; simp; omega) | (rw [hb_]; simp; intros; omega) | (rw [hb_]; simp +contextual; intros; omega) | (intros; simp_all; done) | (intros; simp_all; omega)), ?_⟩))); subst_vars
  refine ifP_split (fun h => bad (fun k => ?_)) (fun h => ?_)
  · obtain ⟨k1, k2, k3, k4, k5⟩ := k
    simp [Bool.cond_eq_ite, k1, k5] at h
    rcases h with h | h
    · rcases h with h | h
      · omega
      · exact h.2 (k3 h.1)
    · exact h.2 (k4 h.1.1 (by omega))
  · have ha : ansOK b := by
      simp [Bool.cond_eq_ite] at h
      refine ⟨h.1.1.1.1, by have := h.1.1.1.2; omega, fun k => ?_, fun k1 k2 => ?_, h.2⟩
      · exact h.1.1.2 k
      · exact h.1.2 k1 (by omega)
    rw [ansP, if_pos ha, decide_eq_true ha]; exact ⟨rfl, rfl⟩
theorem ok_ref08_Answerable : SpecOK Tryz.prog GL 62 ct_ref08_Answerable.spec := Ct.ok' _ Tryz.func62 (by kernel_rfl) (withSpec_ok (withSpec_ok noSpecs_ok (Ct.named ok_ref05_Decode)) ok_ref01_Usable) hmix an_ref08_Answerable (Eq.mpr (by kernel_rfl) vc_ref08_Answerable)



def ct_ref08_packet : Ct := ⟨[.val cU32, .val cU32, .val cI, .val cI, .val cI, .val (.sl cU8)], [.own 5 cU8], fun d => [(d.2.2.2.2.2.1.length : Int) ≤ 1073741824], fun d => ((ipEnc (sendP d.1 d.2.1 d.2.2.1 d.2.2.2.1 d.2.2.2.2.1 d.2.2.2.2.2.1), ()), ())⟩
def an_ref08_packet : PDs ct_ref08_packet.ps → Anns := (fun _ => {})
theorem vc_ref08_packet :
    ∀ (x x_1 x_2 x_3 x_4 : Int) (x_5 : List Int), ((0 : Int) ≤ x ∧ x ≤ (4294967295 : Int)) ∧ ((0 : Int) ≤ x_1 ∧ x_1 ≤ (4294967295 : Int)) ∧ ((-9223372036854775808 : Int) ≤ x_2 ∧ x_2 ≤ (9223372036854775807
     : Int)) ∧ ((-9223372036854775808 : Int) ≤ x_3 ∧ x_3 ≤ (9223372036854775807 : Int)) ∧ ((-9223372036854775808 : Int) ≤ x_4 ∧ x_4 ≤ (9223372036854775807 : Int)) ∧ (List.length x_5 ≤ maxLen ∧ ∀ (x : Int),
     x ∈ x_5 → (0 : Int) ≤ x ∧ x ≤ (255 : Int)) ∧ True → (↑(List.length x_5) : Int) ≤ (1073741824 : Int) → (↑(List.length x_5) : Int) ≤ (1073741824 : Int) ∧ ipEnc (((0 : Int), x_3, x_4, x_2, false, x,
     x_1), x_5) = ipEnc (sendP x x_1 x_2 x_3 x_4 x_5) := by
  rintro s d p i t data - hl
  exact ⟨hl, rfl⟩
theorem ok_ref08_packet : SpecOK Tryz.prog GL 64 ct_ref08_packet.spec := Ct.ok' _ Tryz.func64 (by kernel_rfl) (withSpec_ok noSpecs_ok ok_ref05_Encode) hmix an_ref08_packet (Eq.mpr (by kernel_rfl) vc_ref08_packet)


def ct_ref08_Error : Ct := ⟨[.val (.sl cU8), .val cU32, .val cI, .val cI, .val cI, .val cI], [.own 5 cU8, .val cI], fun d => [(d.1.length : Int) ≤ 1099511627776], fun d => ((errB d.1 d.2.1 d.2.2.1 d.2.2.2.1 d.2.2.2.2.1 d.2.2.2.2.2.1, errE d.1 d.2.2.1 d.2.2.2.1 d.2.2.2.2.1 d.2.2.2.2.2.1, ()), ())⟩
def an_ref08_Error : PDs ct_ref08_Error.ps → Anns := (fun _ => {})
theorem vc_ref08_Error :
    ∀ (x : List Int) (x_1 x_2 x_3 x_4 x_5 : Int), (List.length x ≤ maxLen ∧ ∀ (x_6 : Int), x_6 ∈ x → (0 : Int) ≤ x_6 ∧ x_6 ≤ (255 : Int)) ∧ ((0 : Int) ≤ x_1 ∧ x_1 ≤ (4294967295 : Int)) ∧
     ((-9223372036854775808 : Int) ≤ x_2 ∧ x_2 ≤ (9223372036854775807 : Int)) ∧ ((-9223372036854775808 : Int) ≤ x_3 ∧ x_3 ≤ (9223372036854775807 : Int)) ∧ ((-9223372036854775808 : Int) ≤ x_4 ∧ x_4 ≤
     (9223372036854775807 : Int)) ∧ ((-9223372036854775808 : Int) ≤ x_5 ∧ x_5 ≤ (9223372036854775807 : Int)) ∧ True → (↑(List.length x) : Int) ≤ (1099511627776 : Int) → ∀ (b : Bool), b = !decide (x_2 = (11
     : Int)) → (b = true → (b = true → b = true) ∧ True) ∧ (b = true → b = true) ∧ ∀ (b_1 : Bool), (b_1 = bif b then !decide (x_2 = (3 : Int)) else false) → ((!b_1) = true → ((!b_1) = true → (!b_1) = true)
     ∧ True) ∧ (b_1 = false → (!b_1) = true) ∧ ∀ (b : Bool), (b = bif b_1 then true else decide (x_3 < (0 : Int))) → ((!b) = true → ((!b) = true → (!b) = true) ∧ True) ∧ (b = false → (!b) = true) ∧ ∀ (b_2
     : Bool), (b_2 = bif b then true else decide ((255 : Int) < x_3)) → ((!b_2) = true → ((!b_2) = true → (!b_2) = true) ∧ True) ∧ (b_2 = false → (!b_2) = true) ∧ ∀ (b : Bool), (b = bif b_2 then true else
     decide (x_5 < (0 : Int))) → ((!b) = true → ((!b) = true → (!b) = true) ∧ True) ∧ (b = false → (!b) = true) ∧ ∀ (b_3 : Bool), (b_3 = bif b then true else decide ((255 : Int) < x_5)) → ((!b_3) = true →
     ((!b_3) = true → (!b_3) = true) ∧ True) ∧ (b_3 = false → (!b_3) = true) ∧ ∀ (b : Bool), (b = bif b_3 then true else decide (x_4 < (0 : Int))) → ((!b) = true → ((!b) = true → (!b) = true) ∧ True) ∧ (b
     = false → (!b) = true) ∧ ifP (bif b then true else decide ((65535 : Int) < x_4)) (([] : List Int) = errB x x_1 x_2 x_3 x_4 x_5 ∧ (1 : Int) = errE x x_2 x_3 x_4 x_5) ((↑(List.length x) : Int) ≤
     (1099511627776 : Int) ∧ ∀ (d : (Int × Int × Int × Int × Bool × Int × Int) × List Int) (x_6 : Bool), d = ansP x ∧ x_6 = decide (ansOK x) → ifP (!x_6) (([] : List Int) = errB x x_1 x_2 x_3 x_4 x_5 ∧ (17
     : Int) = errE x x_2 x_3 x_4 x_5) ((0 : Int) ≤ (0 : Int) ∧ (0 : Int) ≤ (28 : Int) ∧ (28 : Int) ≤ (↑(List.length x) : Int) ∧ (↑(List.length (subL x (Int.toNat (0 : Int)) (Int.toNat (28 : Int)))) : Int)
     ≤ (1073741824 : Int) ∧ ∀ (x_7 : List Int) (x_8 : Int), x_7 = noticeEnc (x_2, x_3, subL x (Int.toNat (0 : Int)) (Int.toNat (28 : Int))) ∧ x_8 = noticeErr (x_2, x_3, subL x (Int.toNat (0 : Int))
     (Int.toNat (28 : Int))) → (↑(List.length x_7) : Int) ≤ (1073741824 : Int) ∧ ipEnc (sendP x_1 d.1.2.2.2.2.2.1 (1 : Int) x_4 x_5 x_7) = errB x x_1 x_2 x_3 x_4 x_5 ∧ (0 : Int) = errE x x_2 x_3 x_4 x_5)) := by
  rintro b src kind code id ttl ⟨⟨-, hb⟩, -⟩ hl
  (repeat (intro (b_ : Bool) (hb_ : b_ = _); (repeat refine ⟨(by first | (simp; done) | (rw [hb_]; simp; done) | (rw [hb_]; simp; omega) | (rw [hb_]; simp; intros; omega) | (rw [hb_]; simp +contextual; done)), ?_⟩); subst hb_))
  by_cases hg : errGood kind code id ttl
  rotate_left
  · refine ifP_split (fun _ => err_range hg) (fun h => absurd ?_ hg)
    refine ⟨?_, ?_, ?_, ?_⟩ <;> simp [Bool.cond_eq_ite] at h <;> omega
  have hg' := hg
  obtain ⟨g1, g2, g3, g4⟩ := hg'
  refine ifP_split (fun h => ?_) (fun _ => ⟨hl, ?_⟩)
  · exfalso
    simp [Bool.cond_eq_ite] at h; omega
  rintro d e ⟨rfl, rfl⟩
  refine ifP_split (fun h => err_bad hg (by simpa using h)) (fun h => ?_)
  have ha : ansOK b := by simpa using h
  have hgd := err_good (src := src) hg ha
  obtain ⟨-, h28, -⟩ := ans_facts ha
  rw [ansP_eq ha, sub28]
  refine ⟨by omega, by omega, by omega, by rw [List.length_take]; omega, ?_⟩
  rintro n e ⟨rfl, rfl⟩
  have := notice_enc_len (kind, code, b.take 28)
  exact ⟨by omega, hgd.2.1.symm, hgd.1.symm⟩
theorem ok_ref08_Error : SpecOK Tryz.prog GL 33 ct_ref08_Error.spec := Ct.ok' _ Tryz.func33 (by kernel_rfl) (withSpec_ok (withSpec_ok (withSpec_ok noSpecs_ok (Ct.named ok_ref08_Answerable)) (Ct.named ok_ref06_EncodeNotice)) ok_ref08_packet) hmix an_ref08_Error (Eq.mpr (by kernel_rfl) vc_ref08_Error)


def ct_ref08_Host : Ct := ⟨[.val (.sl cU8), .val cU32, .val cI, .val cI], [.own 5 cU8, .val cI], fun d => [(d.1.length : Int) ≤ 1099511627776], fun d => ((hostB d.1 d.2.1 d.2.2.1 d.2.2.2.1, hostE d.1 d.2.2.1 d.2.2.2.1, ()), ())⟩
def an_ref08_Host : PDs ct_ref08_Host.ps → Anns := (fun _ => {})
theorem vc_ref08_Host :
    ∀ (x : List Int) (x_1 x_2 x_3 : Int), (List.length x ≤ maxLen ∧ ∀ (x_4 : Int), x_4 ∈ x → (0 : Int) ≤ x_4 ∧ x_4 ≤ (255 : Int)) ∧ ((0 : Int) ≤ x_1 ∧ x_1 ≤ (4294967295 : Int)) ∧ ((-9223372036854775808 :
     Int) ≤ x_2 ∧ x_2 ≤ (9223372036854775807 : Int)) ∧ ((-9223372036854775808 : Int) ≤ x_3 ∧ x_3 ≤ (9223372036854775807 : Int)) ∧ True → (↑(List.length x) : Int) ≤ (1099511627776 : Int) → ∀ (b : Bool), b =
     decide (x_3 < (0 : Int)) → ((!b) = true → ((!b) = true → (!b) = true) ∧ True) ∧ (b = false → (!b) = true) ∧ ∀ (b_1 : Bool), (b_1 = bif b then true else decide ((255 : Int) < x_3)) → ((!b_1) = true →
     ((!b_1) = true → (!b_1) = true) ∧ True) ∧ (b_1 = false → (!b_1) = true) ∧ ∀ (b : Bool), (b = bif b_1 then true else decide (x_2 < (0 : Int))) → ((!b) = true → ((!b) = true → (!b) = true) ∧ True) ∧ (b
     = false → (!b) = true) ∧ ifP (bif b then true else decide ((65535 : Int) < x_2)) (([] : List Int) = hostB x x_1 x_2 x_3 ∧ (1 : Int) = hostE x x_2 x_3) ((↑(List.length x) : Int) ≤ (1099511627776 : Int)
     ∧ ∀ (d : (Int × Int × Int × Int × Bool × Int × Int) × List Int) (x_4 : Bool), d = ansP x ∧ x_4 = decide (ansOK x) → ifP (!x_4) (([] : List Int) = hostB x x_1 x_2 x_3 ∧ (17 : Int) = hostE x x_2 x_3)
     (ifP (decide (d.1.2.2.2.1 = (1 : Int))) ((↑(List.length d.2) : Int) ≤ (1000000 : Int) ∧ ∀ (x_5 : Bool) (x_6 x_7 : Int) (x_8 : List Int) (x_9 : Int), (x_5, x_6, x_7, x_8) = unEcho d.2 ∧ x_9 = unEchoErr
     d.2 → ∀ (b : Bool), b = decide (x_9 = (0 : Int)) → (b = true → (b = true → b = true) ∧ True) ∧ (b = true → (b = true → b = true) ∧ True) ∧ (b = true → b = true) ∧ ifP (bif b then !x_5 else false)
     ((↑(List.length x_8) : Int) ≤ (1073741824 : Int) ∧ ∀ (x_10 : List Int) (x_11 : Int), x_10 = echoEnc (true, x_6, x_7, x_8) ∧ x_11 = echoErr (true, x_6, x_7, x_8) → (↑(List.length x_10) : Int) ≤
     (1073741824 : Int) ∧ ipEnc (sendP x_1 d.1.2.2.2.2.2.1 (1 : Int) x_2 x_3 x_10) = hostB x x_1 x_2 x_3 ∧ (0 : Int) = hostE x x_2 x_3) (([] : List Int) = hostB x x_1 x_2 x_3 ∧ (17 : Int) = hostE x x_2
     x_3)) (ifP (decide (d.1.2.2.2.1 = (17 : Int))) ((↑(List.length d.2) : Int) ≤ (1000000 : Int) ∧ ∀ (x_5 x_6 : Int) (x_7 : List Int) (x_8 : Int), (x_5, x_6, x_7) = unUDP d.1.2.2.2.2.2.1 d.1.2.2.2.2.2.2
     d.2 ∧ x_8 = unUDPErr d.1.2.2.2.2.2.1 d.1.2.2.2.2.2.2 d.2 → ifP (decide (x_8 = (0 : Int))) ((↑(List.length x) : Int) ≤ (1099511627776 : Int) ∧ errB x x_1 (3 : Int) (3 : Int) x_2 x_3 = hostB x x_1 x_2
     x_3 ∧ errE x (3 : Int) (3 : Int) x_2 x_3 = hostE x x_2 x_3) (([] : List Int) = hostB x x_1 x_2 x_3 ∧ (17 : Int) = hostE x x_2 x_3)) (ifP (decide (d.1.2.2.2.1 = (6 : Int))) ((↑(List.length d.2) : Int)
     ≤ (1000000 : Int) ∧ ∀ (d_1 : Int × Int × Int × Int × Int × Int × List Int) (x_5 : Int), d_1 = unTCP d.1.2.2.2.2.2.1 d.1.2.2.2.2.2.2 d.2 ∧ x_5 = unTCPErr d.1.2.2.2.2.2.1 d.1.2.2.2.2.2.2 d.2 → ∀ (b :
     Bool), b = decide (x_5 = (0 : Int)) → (b = true → (b = true → b = true) ∧ True) ∧ (b = true → (b = true → b = true) ∧ True) ∧ (b = true → (b = true → b = true) ∧ True) ∧ (b = true → b = true) ∧ ∀ (b_2
     : Bool), (b_2 = bif b then !decide (bits BinOp.and IntKind.i64 d_1.2.2.2.2.1 (2 : Int) = (0 : Int)) else false) → (b_2 = true → (b_2 = true → b_2 = true) ∧ True) ∧ (b_2 = true → (b_2 = true → b_2 =
     true) ∧ True) ∧ (b_2 = true → (b_2 = true → b_2 = true) ∧ True) ∧ (b_2 = true → b_2 = true) ∧ ifP (bif b_2 then decide (bits BinOp.and IntKind.i64 d_1.2.2.2.2.1 (4 : Int) = (0 : Int)) else false)
     ((4294967296 : Int) ≠ (0 : Int) ∧ (↑(0 : Nat) : Int) ≤ (1000000 : Int) ∧ ∀ (x_6 : List Int) (x_7 : Int), x_6 = tcpEnc x_1 d.1.2.2.2.2.2.1 (d_1.2.1, d_1.1, (0 : Int), Int.tmod (IntKind.wrap IntKind.i64
     (d_1.2.2.1 + (1 : Int))) (4294967296 : Int), (20 : Int), (0 : Int), ([] : List Int)) ∧ x_7 = tcpErr (d_1.2.1, d_1.1, (0 : Int), Int.tmod (IntKind.wrap IntKind.i64 (d_1.2.2.1 + (1 : Int))) (4294967296
     : Int), (20 : Int), (0 : Int), ([] : List Int)) → (↑(List.length x_6) : Int) ≤ (1073741824 : Int) ∧ ipEnc (sendP x_1 d.1.2.2.2.2.2.1 (6 : Int) x_2 x_3 x_6) = hostB x x_1 x_2 x_3 ∧ (0 : Int) = hostE x
     x_2 x_3) (([] : List Int) = hostB x x_1 x_2 x_3 ∧ (17 : Int) = hostE x x_2 x_3)) (([] : List Int) = hostB x x_1 x_2 x_3 ∧ (17 : Int) = hostE x x_2 x_3))))) := by
  rintro b src id ttl ⟨⟨-, hb⟩, -⟩ hl
  (repeat (intro (b_ : Bool) (hb_ : b_ = _); (repeat refine ⟨(by first | (simp +contextual; done) | (rw [hb_]; simp +contextual; done) | (rw [hb_]; simp; omega) | (rw [hb_]; simp; intros; omega) | (rw [hb_]; simp +contextual; intros; omega) | (intros; simp_all; done) | (intros; simp_all; omega)), ?_⟩))); subst_vars
  by_cases hn : numOK id ttl
  rotate_left
  · refine ifP_split (fun _ => host_range hn) (fun h => absurd ?_ hn)
    refine ⟨?_, ?_⟩ <;> simp [Bool.cond_eq_ite] at h <;> omega
  have hn' := hn
  obtain ⟨⟨n1, n2⟩, n3, n4⟩ := hn'
  refine ifP_split (fun h => ?_) (fun _ => ⟨hl, ?_⟩)
  · exfalso
    simp [Bool.cond_eq_ite] at h; omega
  rintro _ _ ⟨rfl, rfl⟩
  refine ifP_split (fun h => host_bad hn (fun k => ?_)) (fun h => ?_)
  · have := k.1; simp [this] at h
  have ha : ansOK b := by simpa using h
  obtain ⟨hd0, h28, hp1, hp6, -⟩ := ans_facts ha
  have hdl := dec_len hd0
  rw [ansP_eq ha]
  have hdb : bytes (b.drop 20) := bytes_drop hb
  have hdr : (b.drop 20).length ≤ 1480 := by rw [List.length_drop]; omega
  refine ifP_split (fun h1 => ?_) (fun h1 => ifP_split (fun h17 => ?_) (fun h17 => ifP_split (fun h6 => ?_) (fun h6 => ?_)))
  · have h1 : protoOf b = 1 := of_decide_eq_true h1
    refine ⟨by show ((b.drop 20).length : Int) ≤ _; omega, ?_⟩
    rintro r i q dt e ⟨hu, rfl⟩
    have hr : r = false := by
      have := congrArg Prod.fst hu
      rw [un_echo_flag (hp1 h1)] at this; exact this
    subst hr
    (repeat (intro (b_ : Bool) (hb_ : b_ = _); (repeat refine ⟨(by first | (simp +contextual; done) | (rw [hb_]; simp +contextual; done) | (rw [hb_]; simp; omega) | (rw [hb_]; simp; intros; omega) | (rw [hb_]; simp +contextual; intros; omega) | (intros; simp_all; done) | (intros; simp_all; omega)), ?_⟩))); subst_vars
    refine ifP_split (fun h => ?_) (fun h => ?_)
    · have h : unEchoErr (b.drop 20) = 0 := by simpa [Bool.cond_eq_ite] using h
      have hh := host_1 (src := src) hn ha h1 h
      have hlen := un_echo_len (b.drop 20)
      have e2 : (i, q, dt) = (unEcho (b.drop 20)).2 := congrArg Prod.snd hu
      have e3 : dt = (unEcho (b.drop 20)).2.2.2 := by rw [← e2]
      refine ⟨by rw [e3]; omega, ?_⟩
      rintro o e ⟨rfl, rfl⟩
      rw [show ((true, i, q, dt) : Echo) = (true, (i, q, dt)) from rfl, e2]
      have hle := enc_len (true, (unEcho (b.drop 20)).2)
      exact ⟨by omega, hh.1.symm, hh.2.symm⟩
    · refine host_bad hn (fun k => ?_)
      obtain ⟨-, ⟨-, k⟩ | ⟨k, -⟩ | ⟨k, -⟩⟩ := k
      · simp [k] at h
      · omega
      · omega
  · have h1 := of_decide_eq_false h1
    have h17 : protoOf b = 17 := of_decide_eq_true h17
    refine ⟨by show ((b.drop 20).length : Int) ≤ _; omega, ?_⟩
    rintro sp dp dt e ⟨hu, rfl⟩
    refine ifP_split (fun h => ?_) (fun h => ?_)
    · have h : unUDPErr (srcOf b) (dstOf b) (b.drop 20) = 0 := of_decide_eq_true h
      have hh := host_17 (src := src) hn ha h17 h
      exact ⟨hl, hh.1.symm, by rw [hh.2, err_port hn ha]⟩
    · refine host_bad hn (fun k => ?_)
      obtain ⟨-, ⟨k, -⟩ | ⟨-, k⟩ | ⟨k, -⟩⟩ := k
      · omega
      · have k : unUDPErr (pkHdrF b).2.2.2.2.2.1 (pkHdrF b).2.2.2.2.2.2 (b.drop 20) = 0 := k
        simp [k] at h
      · omega
  · have h1 := of_decide_eq_false h1
    have h17 := of_decide_eq_false h17
    have h6 : protoOf b = 6 := of_decide_eq_true h6
    refine ⟨by show ((b.drop 20).length : Int) ≤ _; omega, ?_⟩
    rintro t e ⟨ht, rfl⟩
    have ht : t = unTCP (srcOf b) (dstOf b) (b.drop 20) := ht
    have hr := un_tcp_rng (s := srcOf b) (d := dstOf b) hdb
    rw [← ht] at hr
    have ee : unTCPErr (pkHdrF b).2.2.2.2.2.1 (pkHdrF b).2.2.2.2.2.2 (b.drop 20) = unTCPErr (srcOf b) (dstOf b) (b.drop 20) := rfl
    rw [ee]
    (repeat (intro (b_ : Bool) (hb_ : b_ = _); (repeat refine ⟨(by first | (simp; done) | (rw [hb_]; simp; done) | (rw [hb_]; simp; omega) | (rw [hb_]; simp; intros; omega) | (rw [hb_]; simp +contextual; done)), ?_⟩); subst hb_))
    refine ifP_split (fun h => ?_) (fun h => ?_)
    · have k1 : unTCPErr (srcOf b) (dstOf b) (b.drop 20) = 0 := Classical.byContradiction fun k => by simp [k] at h
      have k2 : bits .and .i64 t.2.2.2.2.1 2 ≠ 0 := fun k => by simp [k1, k] at h
      have k3 : bits .and .i64 t.2.2.2.2.1 4 = 0 := Classical.byContradiction fun k => by simp [k1, k2, k] at h
      have hh := host_6 (src := src) hn ha h6 k1 (by rw [← ht]; exact k2) (by rw [← ht]; exact k3)
      refine ⟨by omega, by simp, ?_⟩
      rintro o e ⟨rfl, rfl⟩
      rw [w64 (n := t.2.2.1 + 1) (by omega) (by omega), Int.tmod_eq_emod_of_nonneg (by omega)]
      have hle := tcp_enc_len src (srcOf b) (rstOf t)
      have er : ((t.2.1, t.1, 0, (t.2.2.1 + 1) % 4294967296, 20, 0, []) : Seg) = rstOf t := rfl
      rw [er]
      refine ⟨by show ((tcpEnc src (srcOf b) (rstOf t)).length : Int) ≤ _; omega, ?_, hh.2.symm⟩
      rw [hh.1, ← ht]; rfl
    · refine host_bad hn (fun k => ?_)
      obtain ⟨-, ⟨k, -⟩ | ⟨k, -⟩ | ⟨-, k1, k2, k3⟩⟩ := k
      · omega
      · omega
      · rw [← ht] at k2 k3
        simp [k1, k2, k3] at h
  · have h1 := of_decide_eq_false h1
    have h17 := of_decide_eq_false h17
    have h6 := of_decide_eq_false h6
    refine host_bad hn (fun k => ?_)
    obtain ⟨-, ⟨k, -⟩ | ⟨k, -⟩ | ⟨k, -⟩⟩ := k
    · exact h1 k
    · exact h17 k
    · exact h6 k
theorem ok_ref08_Host : SpecOK Tryz.prog GL 47 ct_ref08_Host.spec := Ct.ok' _ Tryz.func47 (by kernel_rfl) (withSpec_ok (withSpec_ok (withSpec_ok (withSpec_ok (withSpec_ok (withSpec_ok (withSpec_ok (withSpec_ok noSpecs_ok (Ct.named ok_ref08_Answerable)) (Ct.named ok_ref06_DecodeEcho)) (Ct.named ok_ref06_EncodeEcho)) (Ct.named ok_ref06_DecodeUDP)) (Ct.named ok_ref06_DecodeTCP)) (Ct.named ok_ref06_EncodeTCP)) ok_ref08_Error) ok_ref08_packet) hmix an_ref08_Host (Eq.mpr (by kernel_rfl) vc_ref08_Host)

def ct_reply_get : Ct := ⟨[.val (.sl cU8), .val cI, .val cI], [.val cI], fun d => [(d.1.length : Int) ≤ 1099511627776], fun d => ((getV d.1 d.2.1 d.2.2.1, ()), ())⟩
def an_reply_get : PDs ct_reply_get.ps → Anns := (fun _ => {})
theorem vc_reply_get :
    ∀ (x : List Int) (x_1 x_2 : Int), (List.length x ≤ maxLen ∧ ∀ (x_3 : Int), x_3 ∈ x → (0 : Int) ≤ x_3 ∧ x_3 ≤ (255 : Int)) ∧ ((-9223372036854775808 : Int) ≤ x_1 ∧ x_1 ≤ (9223372036854775807 : Int)) ∧
     ((-9223372036854775808 : Int) ≤ x_2 ∧ x_2 ≤ (9223372036854775807 : Int)) ∧ True → (↑(List.length x) : Int) ≤ (1099511627776 : Int) → (↑(List.length x) : Int) ≤ (1099511627776 : Int) ∧ getV x x_1 x_2 =
     getV x x_1 x_2 := by
  rintro b i w - hl
  exact ⟨hl, rfl⟩
theorem ok_reply_get : SpecOK Tryz.prog GL 92 ct_reply_get.spec := Ct.ok' _ Tryz.func92 (by kernel_rfl) (withSpec_ok noSpecs_ok ok_wire_Get) hmix an_reply_get (Eq.mpr (by kernel_rfl) vc_reply_get)

def ct_reply_quoted : Ct := ⟨[.val (.sl cU8)], [.agg cProbe, .val .bool], fun d => [(d.1.length : Int) ≤ 1000000], fun d => (((quV d.1).1, (quV d.1).2, ()), ())⟩
def an_reply_quoted : PDs ct_reply_quoted.ps → Anns := (fun _ => {})
theorem vc_reply_quoted :
    ∀ (x : List Int), (List.length x ≤ maxLen ∧ ∀ (x_1 : Int), x_1 ∈ x → (0 : Int) ≤ x_1 ∧ x_1 ≤ (255 : Int)) ∧ True → (↑(List.length x) : Int) ≤ (1000000 : Int) → (↑(List.length x) : Int) ≤
     (1099511627776 : Int) ∧ ∀ (d : Int × Int × Int × Int × Bool × Int × Int) (x_1 x_2 : Int), d = pkHdr x ∧ x_1 = pkLen x ∧ x_2 = pkErr x → ∀ (b : Bool), b = !decide (x_2 = (0 : Int)) → ((!b) = true →
     ((!b) = true → (!b) = true) ∧ True) ∧ ((!b) = true → ((!b) = true → (!b) = true) ∧ True) ∧ (b = false → (!b) = true) ∧ ∀ (b_1 : Bool), (b_1 = bif b then true else !decide ((↑(List.length x) : Int) =
     (28 : Int))) → ((!b_1) = true → ((!b_1) = true → (!b_1) = true) ∧ True) ∧ ((!b_1) = true → ((!b_1) = true → (!b_1) = true) ∧ True) ∧ (b_1 = false → (!b_1) = true) ∧ ∀ (b : Bool), (b = bif b_1 then
     true else !decide (d.1 = (0 : Int))) → ((!b) = true → ((!b) = true → (!b) = true) ∧ True) ∧ ((!b) = true → ((!b) = true → (!b) = true) ∧ True) ∧ (b = false → (!b) = true) ∧ ifP (bif b then true else
     !d.2.2.2.2.1) (((0 : Int), (0 : Int), (0 : Int), (0 : Int), (0 : Int), (0 : Int)) = (quV x).1 ∧ false = (quV x).2) ((0 : Int) ≤ (20 : Int) ∧ (20 : Int) ≤ (↑(List.length x) : Int) ∧ (↑(List.length x) :
     Int) ≤ (↑(List.length x) : Int) ∧ ifP (decide (d.2.2.2.1 = (1 : Int))) ((↑(List.length (subL x (Int.toNat (20 : Int)) (Int.toNat (↑(List.length x) : Int)))) : Int) ≤ (1099511627776 : Int) ∧ ∀ (x_3 :
     Int), x_3 = getV (subL x (Int.toNat (20 : Int)) (Int.toNat (↑(List.length x) : Int))) (2 : Int) (2 : Int) → ∀ (b : Bool), b = decide (x_1 = (30 : Int)) → ifP b ((b = true → b = true) ∧ (↑(List.length
     (subL x (Int.toNat (20 : Int)) (Int.toNat (↑(List.length x) : Int)))) : Int) ≤ (1099511627776 : Int) ∧ ∀ (x_4 : Int), x_4 = getV (subL x (Int.toNat (20 : Int)) (Int.toNat (↑(List.length x) : Int))) (0
     : Int) (2 : Int) → (b = true → b = true) ∧ ∀ (b_2 : Bool), (b_2 = bif b then decide (x_4 = (2048 : Int)) else false) → ifP b_2 ((b_2 = true → b_2 = true) ∧ (↑(List.length (subL x (Int.toNat (20 :
     Int)) (Int.toNat (↑(List.length x) : Int)))) : Int) ≤ (1099511627776 : Int) ∧ ∀ (x_5 : Int), x_5 = getV (subL x (Int.toNat (20 : Int)) (Int.toNat (↑(List.length x) : Int))) (4 : Int) (2 : Int) → (b_2
     = true → b_2 = true) ∧ ∀ (b : Bool), (b = bif b_2 then decide (x_5 = (21075 : Int)) else false) → ifP b ((b = true → b = true) ∧ (↑(List.length (subL x (Int.toNat (20 : Int)) (Int.toNat (↑(List.length
     x) : Int)))) : Int) ≤ (1099511627776 : Int) ∧ ∀ (x_6 : Int), x_6 = getV (subL x (Int.toNat (20 : Int)) (Int.toNat (↑(List.length x) : Int))) (6 : Int) (2 : Int) → (b = true → (b = true → b = true) ∧
     True) ∧ (b = true → (b = true → b = true) ∧ True) ∧ (b = true → b = true) ∧ ∀ (b_3 : Bool), (b_3 = bif b then decide (x_6 = d.2.1) else false) → (b_3 = true → (b_3 = true → b_3 = true) ∧ True) ∧ (b_3
     = true → (b_3 = true → b_3 = true) ∧ True) ∧ (b_3 = true → b_3 = true) ∧ (d.2.2.2.2.2.1, d.2.2.2.2.2.2, d.2.2.2.1, IntKind.wrap IntKind.i64 (x_3 - (16384 : Int)), d.2.1, d.2.2.1) = (quV x).1 ∧ (bif
     b_3 then decide (probeErr (d.2.2.2.2.2.1, d.2.2.2.2.2.2, d.2.2.2.1, IntKind.wrap IntKind.i64 (x_3 - (16384 : Int)), d.2.1, d.2.2.1) = (0 : Int)) else false) = (quV x).2) ((b = true → (b = true → b =
     true) ∧ True) ∧ b = false ∧ (b = true → false = true) ∧ ∀ (b_3 : Bool), (b_3 = bif b then false else false) → (b_3 = true → (b_3 = true → b_3 = true) ∧ True) ∧ (b_3 = true → (b_3 = true → b_3 = true)
     ∧ True) ∧ (b_3 = true → b_3 = true) ∧ (d.2.2.2.2.2.1, d.2.2.2.2.2.2, d.2.2.2.1, IntKind.wrap IntKind.i64 (x_3 - (16384 : Int)), d.2.1, d.2.2.1) = (quV x).1 ∧ (bif b_3 then decide (probeErr
     (d.2.2.2.2.2.1, d.2.2.2.2.2.2, d.2.2.2.1, IntKind.wrap IntKind.i64 (x_3 - (16384 : Int)), d.2.1, d.2.2.1) = (0 : Int)) else false) = (quV x).2)) (b_2 = false ∧ (b_2 = true → false = true) ∧ ∀ (b :
     Bool), (b = bif b_2 then false else false) → ifP b ((b = true → b = true) ∧ (↑(List.length (subL x (Int.toNat (20 : Int)) (Int.toNat (↑(List.length x) : Int)))) : Int) ≤ (1099511627776 : Int) ∧ ∀ (x_5
     : Int), x_5 = getV (subL x (Int.toNat (20 : Int)) (Int.toNat (↑(List.length x) : Int))) (6 : Int) (2 : Int) → (b = true → (b = true → b = true) ∧ True) ∧ (b = true → (b = true → b = true) ∧ True) ∧ (b
     = true → b = true) ∧ ∀ (b_3 : Bool), (b_3 = bif b then decide (x_5 = d.2.1) else false) → (b_3 = true → (b_3 = true → b_3 = true) ∧ True) ∧ (b_3 = true → (b_3 = true → b_3 = true) ∧ True) ∧ (b_3 =
     true → b_3 = true) ∧ (d.2.2.2.2.2.1, d.2.2.2.2.2.2, d.2.2.2.1, IntKind.wrap IntKind.i64 (x_3 - (16384 : Int)), d.2.1, d.2.2.1) = (quV x).1 ∧ (bif b_3 then decide (probeErr (d.2.2.2.2.2.1,
     d.2.2.2.2.2.2, d.2.2.2.1, IntKind.wrap IntKind.i64 (x_3 - (16384 : Int)), d.2.1, d.2.2.1) = (0 : Int)) else false) = (quV x).2) ((b = true → (b = true → b = true) ∧ True) ∧ b = false ∧ (b = true →
     false = true) ∧ ∀ (b_3 : Bool), (b_3 = bif b then false else false) → (b_3 = true → (b_3 = true → b_3 = true) ∧ True) ∧ (b_3 = true → (b_3 = true → b_3 = true) ∧ True) ∧ (b_3 = true → b_3 = true) ∧
     (d.2.2.2.2.2.1, d.2.2.2.2.2.2, d.2.2.2.1, IntKind.wrap IntKind.i64 (x_3 - (16384 : Int)), d.2.1, d.2.2.1) = (quV x).1 ∧ (bif b_3 then decide (probeErr (d.2.2.2.2.2.1, d.2.2.2.2.2.2, d.2.2.2.1,
     IntKind.wrap IntKind.i64 (x_3 - (16384 : Int)), d.2.1, d.2.2.1) = (0 : Int)) else false) = (quV x).2))) (b = false ∧ (b = true → false = true) ∧ ∀ (b_2 : Bool), (b_2 = bif b then false else false) →
     ifP b_2 ((b_2 = true → b_2 = true) ∧ (↑(List.length (subL x (Int.toNat (20 : Int)) (Int.toNat (↑(List.length x) : Int)))) : Int) ≤ (1099511627776 : Int) ∧ ∀ (x_4 : Int), x_4 = getV (subL x (Int.toNat
     (20 : Int)) (Int.toNat (↑(List.length x) : Int))) (4 : Int) (2 : Int) → (b_2 = true → b_2 = true) ∧ ∀ (b : Bool), (b = bif b_2 then decide (x_4 = (21075 : Int)) else false) → ifP b ((b = true → b =
     true) ∧ (↑(List.length (subL x (Int.toNat (20 : Int)) (Int.toNat (↑(List.length x) : Int)))) : Int) ≤ (1099511627776 : Int) ∧ ∀ (x_5 : Int), x_5 = getV (subL x (Int.toNat (20 : Int)) (Int.toNat
     (↑(List.length x) : Int))) (6 : Int) (2 : Int) → (b = true → (b = true → b = true) ∧ True) ∧ (b = true → (b = true → b = true) ∧ True) ∧ (b = true → b = true) ∧ ∀ (b_3 : Bool), (b_3 = bif b then
     decide (x_5 = d.2.1) else false) → (b_3 = true → (b_3 = true → b_3 = true) ∧ True) ∧ (b_3 = true → (b_3 = true → b_3 = true) ∧ True) ∧ (b_3 = true → b_3 = true) ∧ (d.2.2.2.2.2.1, d.2.2.2.2.2.2,
     d.2.2.2.1, IntKind.wrap IntKind.i64 (x_3 - (16384 : Int)), d.2.1, d.2.2.1) = (quV x).1 ∧ (bif b_3 then decide (probeErr (d.2.2.2.2.2.1, d.2.2.2.2.2.2, d.2.2.2.1, IntKind.wrap IntKind.i64 (x_3 - (16384
     : Int)), d.2.1, d.2.2.1) = (0 : Int)) else false) = (quV x).2) ((b = true → (b = true → b = true) ∧ True) ∧ b = false ∧ (b = true → false = true) ∧ ∀ (b_3 : Bool), (b_3 = bif b then false else false)
     → (b_3 = true → (b_3 = true → b_3 = true) ∧ True) ∧ (b_3 = true → (b_3 = true → b_3 = true) ∧ True) ∧ (b_3 = true → b_3 = true) ∧ (d.2.2.2.2.2.1, d.2.2.2.2.2.2, d.2.2.2.1, IntKind.wrap IntKind.i64
     (x_3 - (16384 : Int)), d.2.1, d.2.2.1) = (quV x).1 ∧ (bif b_3 then decide (probeErr (d.2.2.2.2.2.1, d.2.2.2.2.2.2, d.2.2.2.1, IntKind.wrap IntKind.i64 (x_3 - (16384 : Int)), d.2.1, d.2.2.1) = (0 :
     Int)) else false) = (quV x).2)) (b_2 = false ∧ (b_2 = true → false = true) ∧ ∀ (b : Bool), (b = bif b_2 then false else false) → ifP b ((b = true → b = true) ∧ (↑(List.length (subL x (Int.toNat (20 :
     Int)) (Int.toNat (↑(List.length x) : Int)))) : Int) ≤ (1099511627776 : Int) ∧ ∀ (x_4 : Int), x_4 = getV (subL x (Int.toNat (20 : Int)) (Int.toNat (↑(List.length x) : Int))) (6 : Int) (2 : Int) → (b =
     true → (b = true → b = true) ∧ True) ∧ (b = true → (b = true → b = true) ∧ True) ∧ (b = true → b = true) ∧ ∀ (b_3 : Bool), (b_3 = bif b then decide (x_4 = d.2.1) else false) → (b_3 = true → (b_3 =
     true → b_3 = true) ∧ True) ∧ (b_3 = true → (b_3 = true → b_3 = true) ∧ True) ∧ (b_3 = true → b_3 = true) ∧ (d.2.2.2.2.2.1, d.2.2.2.2.2.2, d.2.2.2.1, IntKind.wrap IntKind.i64 (x_3 - (16384 : Int)),
     d.2.1, d.2.2.1) = (quV x).1 ∧ (bif b_3 then decide (probeErr (d.2.2.2.2.2.1, d.2.2.2.2.2.2, d.2.2.2.1, IntKind.wrap IntKind.i64 (x_3 - (16384 : Int)), d.2.1, d.2.2.1) = (0 : Int)) else false) = (quV
     x).2) ((b = true → (b = true → b = true) ∧ True) ∧ b = false ∧ (b = true → false = true) ∧ ∀ (b_3 : Bool), (b_3 = bif b then false else false) → (b_3 = true → (b_3 = true → b_3 = true) ∧ True) ∧ (b_3
     = true → (b_3 = true → b_3 = true) ∧ True) ∧ (b_3 = true → b_3 = true) ∧ (d.2.2.2.2.2.1, d.2.2.2.2.2.2, d.2.2.2.1, IntKind.wrap IntKind.i64 (x_3 - (16384 : Int)), d.2.1, d.2.2.1) = (quV x).1 ∧ (bif
     b_3 then decide (probeErr (d.2.2.2.2.2.1, d.2.2.2.2.2.2, d.2.2.2.1, IntKind.wrap IntKind.i64 (x_3 - (16384 : Int)), d.2.1, d.2.2.1) = (0 : Int)) else false) = (quV x).2)))) (ifP (decide (d.2.2.2.1 =
     (17 : Int))) ((↑(List.length (subL x (Int.toNat (20 : Int)) (Int.toNat (↑(List.length x) : Int)))) : Int) ≤ (1099511627776 : Int) ∧ ∀ (x_3 : Int), x_3 = getV (subL x (Int.toNat (20 : Int)) (Int.toNat
     (↑(List.length x) : Int))) (0 : Int) (2 : Int) → ∀ (b : Bool), b = decide (x_1 = (30 : Int)) → ifP b ((b = true → b = true) ∧ (↑(List.length (subL x (Int.toNat (20 : Int)) (Int.toNat (↑(List.length x)
     : Int)))) : Int) ≤ (1099511627776 : Int) ∧ ∀ (x_4 : Int), x_4 = getV (subL x (Int.toNat (20 : Int)) (Int.toNat (↑(List.length x) : Int))) (2 : Int) (2 : Int) → (b = true → b = true) ∧ ∀ (b_2 : Bool),
     (b_2 = bif b then decide (x_4 = (33434 : Int)) else false) → ifP b_2 ((b_2 = true → b_2 = true) ∧ (↑(List.length (subL x (Int.toNat (20 : Int)) (Int.toNat (↑(List.length x) : Int)))) : Int) ≤
     (1099511627776 : Int) ∧ ∀ (x_5 : Int), x_5 = getV (subL x (Int.toNat (20 : Int)) (Int.toNat (↑(List.length x) : Int))) (4 : Int) (2 : Int) → (b_2 = true → (b_2 = true → b_2 = true) ∧ True) ∧ (b_2 =
     true → (b_2 = true → b_2 = true) ∧ True) ∧ (b_2 = true → b_2 = true) ∧ ∀ (b : Bool), (b = bif b_2 then decide (x_5 = IntKind.wrap IntKind.i64 (x_1 - (20 : Int))) else false) → ifP b ((b = true → b =
     true) ∧ (↑(List.length (subL x (Int.toNat (20 : Int)) (Int.toNat (↑(List.length x) : Int)))) : Int) ≤ (1099511627776 : Int) ∧ ∀ (x_6 : Int), x_6 = getV (subL x (Int.toNat (20 : Int)) (Int.toNat
     (↑(List.length x) : Int))) (6 : Int) (2 : Int) → (b = true → (b = true → b = true) ∧ True) ∧ (b = true → (b = true → b = true) ∧ True) ∧ (b = true → (b = true → b = true) ∧ True) ∧ (b = true → b =
     true) ∧ ∀ (b_3 : Bool), (b_3 = bif b then decide (x_6 = IntKind.wrap IntKind.i64 (d.2.1 + (1 : Int))) else false) → (b_3 = true → (b_3 = true → b_3 = true) ∧ True) ∧ (b_3 = true → (b_3 = true → b_3 =
     true) ∧ True) ∧ (b_3 = true → b_3 = true) ∧ (d.2.2.2.2.2.1, d.2.2.2.2.2.2, d.2.2.2.1, IntKind.wrap IntKind.i64 (x_3 - (20000 : Int)), d.2.1, d.2.2.1) = (quV x).1 ∧ (bif b_3 then decide (probeErr
     (d.2.2.2.2.2.1, d.2.2.2.2.2.2, d.2.2.2.1, IntKind.wrap IntKind.i64 (x_3 - (20000 : Int)), d.2.1, d.2.2.1) = (0 : Int)) else false) = (quV x).2) ((b = true → (b = true → b = true) ∧ True) ∧ (b = true →
     (b = true → b = true) ∧ True) ∧ b = false ∧ (b = true → false = true) ∧ ∀ (b_3 : Bool), (b_3 = bif b then false else false) → (b_3 = true → (b_3 = true → b_3 = true) ∧ True) ∧ (b_3 = true → (b_3 =
     true → b_3 = true) ∧ True) ∧ (b_3 = true → b_3 = true) ∧ (d.2.2.2.2.2.1, d.2.2.2.2.2.2, d.2.2.2.1, IntKind.wrap IntKind.i64 (x_3 - (20000 : Int)), d.2.1, d.2.2.1) = (quV x).1 ∧ (bif b_3 then decide
     (probeErr (d.2.2.2.2.2.1, d.2.2.2.2.2.2, d.2.2.2.1, IntKind.wrap IntKind.i64 (x_3 - (20000 : Int)), d.2.1, d.2.2.1) = (0 : Int)) else false) = (quV x).2)) ((b_2 = true → (b_2 = true → b_2 = true) ∧
     True) ∧ b_2 = false ∧ (b_2 = true → false = true) ∧ ∀ (b : Bool), (b = bif b_2 then false else false) → ifP b ((b = true → b = true) ∧ (↑(List.length (subL x (Int.toNat (20 : Int)) (Int.toNat
     (↑(List.length x) : Int)))) : Int) ≤ (1099511627776 : Int) ∧ ∀ (x_5 : Int), x_5 = getV (subL x (Int.toNat (20 : Int)) (Int.toNat (↑(List.length x) : Int))) (6 : Int) (2 : Int) → (b = true → (b = true
     → b = true) ∧ True) ∧ (b = true → (b = true → b = true) ∧ True) ∧ (b = true → (b = true → b = true) ∧ True) ∧ (b = true → b = true) ∧ ∀ (b_3 : Bool), (b_3 = bif b then decide (x_5 = IntKind.wrap
     IntKind.i64 (d.2.1 + (1 : Int))) else false) → (b_3 = true → (b_3 = true → b_3 = true) ∧ True) ∧ (b_3 = true → (b_3 = true → b_3 = true) ∧ True) ∧ (b_3 = true → b_3 = true) ∧ (d.2.2.2.2.2.1,
     d.2.2.2.2.2.2, d.2.2.2.1, IntKind.wrap IntKind.i64 (x_3 - (20000 : Int)), d.2.1, d.2.2.1) = (quV x).1 ∧ (bif b_3 then decide (probeErr (d.2.2.2.2.2.1, d.2.2.2.2.2.2, d.2.2.2.1, IntKind.wrap
     IntKind.i64 (x_3 - (20000 : Int)), d.2.1, d.2.2.1) = (0 : Int)) else false) = (quV x).2) ((b = true → (b = true → b = true) ∧ True) ∧ (b = true → (b = true → b = true) ∧ True) ∧ b = false ∧ (b = true
     → false = true) ∧ ∀ (b_3 : Bool), (b_3 = bif b then false else false) → (b_3 = true → (b_3 = true → b_3 = true) ∧ True) ∧ (b_3 = true → (b_3 = true → b_3 = true) ∧ True) ∧ (b_3 = true → b_3 = true) ∧
     (d.2.2.2.2.2.1, d.2.2.2.2.2.2, d.2.2.2.1, IntKind.wrap IntKind.i64 (x_3 - (20000 : Int)), d.2.1, d.2.2.1) = (quV x).1 ∧ (bif b_3 then decide (probeErr (d.2.2.2.2.2.1, d.2.2.2.2.2.2, d.2.2.2.1,
     IntKind.wrap IntKind.i64 (x_3 - (20000 : Int)), d.2.1, d.2.2.1) = (0 : Int)) else false) = (quV x).2))) (b = false ∧ (b = true → false = true) ∧ ∀ (b_2 : Bool), (b_2 = bif b then false else false) →
     ifP b_2 ((b_2 = true → b_2 = true) ∧ (↑(List.length (subL x (Int.toNat (20 : Int)) (Int.toNat (↑(List.length x) : Int)))) : Int) ≤ (1099511627776 : Int) ∧ ∀ (x_4 : Int), x_4 = getV (subL x (Int.toNat
     (20 : Int)) (Int.toNat (↑(List.length x) : Int))) (4 : Int) (2 : Int) → (b_2 = true → (b_2 = true → b_2 = true) ∧ True) ∧ (b_2 = true → (b_2 = true → b_2 = true) ∧ True) ∧ (b_2 = true → b_2 = true) ∧
     ∀ (b : Bool), (b = bif b_2 then decide (x_4 = IntKind.wrap IntKind.i64 (x_1 - (20 : Int))) else false) → ifP b ((b = true → b = true) ∧ (↑(List.length (subL x (Int.toNat (20 : Int)) (Int.toNat
     (↑(List.length x) : Int)))) : Int) ≤ (1099511627776 : Int) ∧ ∀ (x_5 : Int), x_5 = getV (subL x (Int.toNat (20 : Int)) (Int.toNat (↑(List.length x) : Int))) (6 : Int) (2 : Int) → (b = true → (b = true
     → b = true) ∧ True) ∧ (b = true → (b = true → b = true) ∧ True) ∧ (b = true → (b = true → b = true) ∧ True) ∧ (b = true → b = true) ∧ ∀ (b_3 : Bool), (b_3 = bif b then decide (x_5 = IntKind.wrap
     IntKind.i64 (d.2.1 + (1 : Int))) else false) → (b_3 = true → (b_3 = true → b_3 = true) ∧ True) ∧ (b_3 = true → (b_3 = true → b_3 = true) ∧ True) ∧ (b_3 = true → b_3 = true) ∧ (d.2.2.2.2.2.1,
     d.2.2.2.2.2.2, d.2.2.2.1, IntKind.wrap IntKind.i64 (x_3 - (20000 : Int)), d.2.1, d.2.2.1) = (quV x).1 ∧ (bif b_3 then decide (probeErr (d.2.2.2.2.2.1, d.2.2.2.2.2.2, d.2.2.2.1, IntKind.wrap
     IntKind.i64 (x_3 - (20000 : Int)), d.2.1, d.2.2.1) = (0 : Int)) else false) = (quV x).2) ((b = true → (b = true → b = true) ∧ True) ∧ (b = true → (b = true → b = true) ∧ True) ∧ b = false ∧ (b = true
     → false = true) ∧ ∀ (b_3 : Bool), (b_3 = bif b then false else false) → (b_3 = true → (b_3 = true → b_3 = true) ∧ True) ∧ (b_3 = true → (b_3 = true → b_3 = true) ∧ True) ∧ (b_3 = true → b_3 = true) ∧
     (d.2.2.2.2.2.1, d.2.2.2.2.2.2, d.2.2.2.1, IntKind.wrap IntKind.i64 (x_3 - (20000 : Int)), d.2.1, d.2.2.1) = (quV x).1 ∧ (bif b_3 then decide (probeErr (d.2.2.2.2.2.1, d.2.2.2.2.2.2, d.2.2.2.1,
     IntKind.wrap IntKind.i64 (x_3 - (20000 : Int)), d.2.1, d.2.2.1) = (0 : Int)) else false) = (quV x).2)) ((b_2 = true → (b_2 = true → b_2 = true) ∧ True) ∧ b_2 = false ∧ (b_2 = true → false = true) ∧ ∀
     (b : Bool), (b = bif b_2 then false else false) → ifP b ((b = true → b = true) ∧ (↑(List.length (subL x (Int.toNat (20 : Int)) (Int.toNat (↑(List.length x) : Int)))) : Int) ≤ (1099511627776 : Int) ∧ ∀
     (x_4 : Int), x_4 = getV (subL x (Int.toNat (20 : Int)) (Int.toNat (↑(List.length x) : Int))) (6 : Int) (2 : Int) → (b = true → (b = true → b = true) ∧ True) ∧ (b = true → (b = true → b = true) ∧ True)
     ∧ (b = true → (b = true → b = true) ∧ True) ∧ (b = true → b = true) ∧ ∀ (b_3 : Bool), (b_3 = bif b then decide (x_4 = IntKind.wrap IntKind.i64 (d.2.1 + (1 : Int))) else false) → (b_3 = true → (b_3 =
     true → b_3 = true) ∧ True) ∧ (b_3 = true → (b_3 = true → b_3 = true) ∧ True) ∧ (b_3 = true → b_3 = true) ∧ (d.2.2.2.2.2.1, d.2.2.2.2.2.2, d.2.2.2.1, IntKind.wrap IntKind.i64 (x_3 - (20000 : Int)),
     d.2.1, d.2.2.1) = (quV x).1 ∧ (bif b_3 then decide (probeErr (d.2.2.2.2.2.1, d.2.2.2.2.2.2, d.2.2.2.1, IntKind.wrap IntKind.i64 (x_3 - (20000 : Int)), d.2.1, d.2.2.1) = (0 : Int)) else false) = (quV
     x).2) ((b = true → (b = true → b = true) ∧ True) ∧ (b = true → (b = true → b = true) ∧ True) ∧ b = false ∧ (b = true → false = true) ∧ ∀ (b_3 : Bool), (b_3 = bif b then false else false) → (b_3 = true
     → (b_3 = true → b_3 = true) ∧ True) ∧ (b_3 = true → (b_3 = true → b_3 = true) ∧ True) ∧ (b_3 = true → b_3 = true) ∧ (d.2.2.2.2.2.1, d.2.2.2.2.2.2, d.2.2.2.1, IntKind.wrap IntKind.i64 (x_3 - (20000 :
     Int)), d.2.1, d.2.2.1) = (quV x).1 ∧ (bif b_3 then decide (probeErr (d.2.2.2.2.2.1, d.2.2.2.2.2.2, d.2.2.2.1, IntKind.wrap IntKind.i64 (x_3 - (20000 : Int)), d.2.1, d.2.2.1) = (0 : Int)) else false) =
     (quV x).2)))) (ifP (decide (d.2.2.2.1 = (6 : Int))) ((↑(List.length (subL x (Int.toNat (20 : Int)) (Int.toNat (↑(List.length x) : Int)))) : Int) ≤ (1099511627776 : Int) ∧ ∀ (x_3 : Int), x_3 = getV
     (subL x (Int.toNat (20 : Int)) (Int.toNat (↑(List.length x) : Int))) (0 : Int) (2 : Int) → ∀ (b : Bool), b = decide (x_1 = (40 : Int)) → ifP b ((b = true → b = true) ∧ (↑(List.length (subL x
     (Int.toNat (20 : Int)) (Int.toNat (↑(List.length x) : Int)))) : Int) ≤ (1099511627776 : Int) ∧ ∀ (x_4 : Int), x_4 = getV (subL x (Int.toNat (20 : Int)) (Int.toNat (↑(List.length x) : Int))) (2 : Int)
     (2 : Int) → (b = true → b = true) ∧ ∀ (b_2 : Bool), (b_2 = bif b then decide (x_4 = (80 : Int)) else false) → ifP b_2 ((b_2 = true → b_2 = true) ∧ (↑(List.length (subL x (Int.toNat (20 : Int))
     (Int.toNat (↑(List.length x) : Int)))) : Int) ≤ (1099511627776 : Int) ∧ ∀ (x_5 : Int), x_5 = getV (subL x (Int.toNat (20 : Int)) (Int.toNat (↑(List.length x) : Int))) (4 : Int) (4 : Int) → (b_2 = true
     → (b_2 = true → b_2 = true) ∧ True) ∧ (b_2 = true → (b_2 = true → b_2 = true) ∧ True) ∧ (b_2 = true → b_2 = true) ∧ ∀ (b : Bool), (b = bif b_2 then decide (x_5 = d.2.1) else false) → (b = true → (b =
     true → b = true) ∧ True) ∧ (b = true → (b = true → b = true) ∧ True) ∧ (b = true → b = true) ∧ (d.2.2.2.2.2.1, d.2.2.2.2.2.2, d.2.2.2.1, IntKind.wrap IntKind.i64 (x_3 - (20000 : Int)), d.2.1, d.2.2.1)
     = (quV x).1 ∧ (bif b then decide (probeErr (d.2.2.2.2.2.1, d.2.2.2.2.2.2, d.2.2.2.1, IntKind.wrap IntKind.i64 (x_3 - (20000 : Int)), d.2.1, d.2.2.1) = (0 : Int)) else false) = (quV x).2) ((b_2 = true
     → (b_2 = true → b_2 = true) ∧ True) ∧ b_2 = false ∧ (b_2 = true → false = true) ∧ ∀ (b : Bool), (b = bif b_2 then false else false) → (b = true → (b = true → b = true) ∧ True) ∧ (b = true → (b = true
     → b = true) ∧ True) ∧ (b = true → b = true) ∧ (d.2.2.2.2.2.1, d.2.2.2.2.2.2, d.2.2.2.1, IntKind.wrap IntKind.i64 (x_3 - (20000 : Int)), d.2.1, d.2.2.1) = (quV x).1 ∧ (bif b then decide (probeErr
     (d.2.2.2.2.2.1, d.2.2.2.2.2.2, d.2.2.2.1, IntKind.wrap IntKind.i64 (x_3 - (20000 : Int)), d.2.1, d.2.2.1) = (0 : Int)) else false) = (quV x).2)) (b = false ∧ (b = true → false = true) ∧ ∀ (b_2 :
     Bool), (b_2 = bif b then false else false) → ifP b_2 ((b_2 = true → b_2 = true) ∧ (↑(List.length (subL x (Int.toNat (20 : Int)) (Int.toNat (↑(List.length x) : Int)))) : Int) ≤ (1099511627776 : Int) ∧
     ∀ (x_4 : Int), x_4 = getV (subL x (Int.toNat (20 : Int)) (Int.toNat (↑(List.length x) : Int))) (4 : Int) (4 : Int) → (b_2 = true → (b_2 = true → b_2 = true) ∧ True) ∧ (b_2 = true → (b_2 = true → b_2 =
     true) ∧ True) ∧ (b_2 = true → b_2 = true) ∧ ∀ (b : Bool), (b = bif b_2 then decide (x_4 = d.2.1) else false) → (b = true → (b = true → b = true) ∧ True) ∧ (b = true → (b = true → b = true) ∧ True) ∧
     (b = true → b = true) ∧ (d.2.2.2.2.2.1, d.2.2.2.2.2.2, d.2.2.2.1, IntKind.wrap IntKind.i64 (x_3 - (20000 : Int)), d.2.1, d.2.2.1) = (quV x).1 ∧ (bif b then decide (probeErr (d.2.2.2.2.2.1,
     d.2.2.2.2.2.2, d.2.2.2.1, IntKind.wrap IntKind.i64 (x_3 - (20000 : Int)), d.2.1, d.2.2.1) = (0 : Int)) else false) = (quV x).2) ((b_2 = true → (b_2 = true → b_2 = true) ∧ True) ∧ b_2 = false ∧ (b_2 =
     true → false = true) ∧ ∀ (b : Bool), (b = bif b_2 then false else false) → (b = true → (b = true → b = true) ∧ True) ∧ (b = true → (b = true → b = true) ∧ True) ∧ (b = true → b = true) ∧
     (d.2.2.2.2.2.1, d.2.2.2.2.2.2, d.2.2.2.1, IntKind.wrap IntKind.i64 (x_3 - (20000 : Int)), d.2.1, d.2.2.1) = (quV x).1 ∧ (bif b then decide (probeErr (d.2.2.2.2.2.1, d.2.2.2.2.2.2, d.2.2.2.1,
     IntKind.wrap IntKind.i64 (x_3 - (20000 : Int)), d.2.1, d.2.2.1) = (0 : Int)) else false) = (quV x).2))) (∀ (b : Bool), b = false → (b = true → (b = true → b = true) ∧ True) ∧ (b = true → (b = true → b
     = true) ∧ True) ∧ (b = true → b = true) ∧ (d.2.2.2.2.2.1, d.2.2.2.2.2.2, d.2.2.2.1, (0 : Int), d.2.1, d.2.2.1) = (quV x).1 ∧ (bif b then decide (probeErr (d.2.2.2.2.2.1, d.2.2.2.2.2.2, d.2.2.2.1, (0 :
     Int), d.2.1, d.2.2.1) = (0 : Int)) else false) = (quV x).2)))) := by
  rintro b ⟨⟨-, hb⟩, -⟩ hl
  refine ⟨by omega, ?_⟩
  rintro d n e ⟨rfl, rfl, rfl⟩
  (repeat (intro (b_ : Bool) (hb_ : b_ = _); (repeat refine ⟨(by first | (simp; done) | (rw [hb_]; simp; done) | (rw [hb_]; simp; omega) | (rw [hb_]; simp; intros; omega) | (rw [hb_]; simp +contextual; done)), ?_⟩); subst hb_))
  refine ifP_split (fun h => ?_) (fun h => ?_)
  · rw [quV, if_neg]
    · exact ⟨rfl, rfl⟩
    rintro ⟨k1, k2, k3, k4⟩
    rw [pkHdr, if_pos k1] at h; simp [k1, k2, k3, k4] at h
  have k1 : pkErr b = 0 := Classical.byContradiction fun k => by simp [k] at h
  rw [pkHdr, if_pos k1] at h ⊢
  have hq : quHead b := by
    simp [Bool.cond_eq_ite, k1] at h
    exact ⟨k1, by have := h.1.1; omega, h.1.2, h.2⟩
  clear h
  obtain ⟨-, h28, -, -⟩ := id hq
  have hs : subL b (Int.toNat 20) (Int.toNat (b.length : Int)) = b.drop 20 := sub_drop b 20
  have hdl : ((b.drop 20).length : Int) = 8 := by rw [List.length_drop]; omega
  have wd : ∀ i, wordAt (b.drop 20) i = wordAt b (20 + i) := fun i => by unfold wordAt; rw [List.drop_drop]
  have g0 : getV (b.drop 20) 0 2 = wordAt b 20 := by rw [gV2 (by omega) (by omega), wd]; rfl
  have g2 : getV (b.drop 20) 2 2 = wordAt b 22 := by rw [gV2 (by omega) (by omega), wd]; rfl
  have g4 : getV (b.drop 20) 4 2 = wordAt b 24 := by rw [gV2 (by omega) (by omega), wd]; rfl
  have g6 : getV (b.drop 20) 6 2 = wordAt b 26 := by rw [gV2 (by omega) (by omega), wd]; rfl
  have g44 : getV (b.drop 20) 4 4 = numB ((b.drop 24).take 4) := by rw [gV4 (by omega) (by omega), List.drop_drop]; rfl
  have w20 := bytes_word hb 20
  have w22 := bytes_word hb 22
  have hid := bytes_word hb 4
  have hlen := bytes_word hb 2
  have eid : (pkHdrF b).2.1 = wordAt b 4 := rfl
  rw [quV, if_pos hq, hs, pkLen, if_pos k1, g0, g2, g4, g6, g44]
  have le1 : ((b.drop 20).length : Int) ≤ 1099511627776 := by omega
  have e22 : IntKind.i64.wrap (wordAt b 22 - 16384) = wordAt b 22 - 16384 := w64 (by omega) (by omega)
  have e20 : IntKind.i64.wrap (wordAt b 20 - 20000) = wordAt b 20 - 20000 := w64 (by omega) (by omega)
  have e2 : IntKind.i64.wrap (wordAt b 2 - 20) = wordAt b 2 - 20 := w64 (by omega) (by omega)
  have e1 : IntKind.i64.wrap ((pkHdrF b).2.1 + 1) = (pkHdrF b).2.1 + 1 := w64 (by rw [eid]; omega) (by rw [eid]; omega)
  refine ⟨by omega, by omega, by omega, ?_⟩
  have ep : (pkHdrF b).2.2.2.1 = protoOf b := rfl
  rw [ep]
  refine ifP_split (fun h1 => ?_) (fun h1 => ifP_split (fun h17 => ?_) (fun h17 => ifP_split (fun h6 => ?_) (fun h6 => ?_)))
  · have h1 := of_decide_eq_true h1
    have eP : quP b = ((pkHdrF b).2.2.2.2.2.1, (pkHdrF b).2.2.2.2.2.2, protoOf b, wordAt b 22 - 16384, (pkHdrF b).2.1, (pkHdrF b).2.2.1) := by
      rw [quP, quFlow, if_pos h1]; rfl
    have eR : quRight b ↔ (wordAt b 2 = 30 ∧ wordAt b 20 = 2048 ∧ wordAt b 24 = 21075 ∧ wordAt b 26 = (pkHdrF b).2.1) := by
      unfold quRight; simp [h1]
    refine ⟨le1, ?_⟩
    rintro _ rfl
    rw [eP, e22]
    simp only [eR]
    by_cases c1 : wordAt b 2 = 30 <;> by_cases c2 : wordAt b 20 = 2048 <;> by_cases c3 : wordAt b 24 = 21075 <;> by_cases c4 : wordAt b 26 = (pkHdrF b).2.1 <;> simp [ifP, c1, c2, c3, c4, h28]
  · have h1 : ¬ protoOf b = 1 := of_decide_eq_false h1
    have h17 := of_decide_eq_true h17
    have eP : quP b = ((pkHdrF b).2.2.2.2.2.1, (pkHdrF b).2.2.2.2.2.2, protoOf b, wordAt b 20 - 20000, (pkHdrF b).2.1, (pkHdrF b).2.2.1) := by
      rw [quP, quFlow, if_neg h1, if_pos (.inl h17)]; rfl
    have eR : quRight b ↔ (wordAt b 2 = 30 ∧ wordAt b 22 = 33434 ∧ wordAt b 24 = wordAt b 2 - 20 ∧ wordAt b 26 = (pkHdrF b).2.1 + 1) := by
      unfold quRight; simp [h17]
    refine ⟨le1, ?_⟩
    rintro _ rfl
    rw [eP, e20]
    simp only [eR]
    by_cases c1 : wordAt b 2 = 30 <;> by_cases c2 : wordAt b 22 = 33434 <;> by_cases c3 : wordAt b 24 = 10 <;> by_cases c4 : wordAt b 26 = (pkHdrF b).2.1 + 1 <;> simp [ifP, c1, c2, c3, c4, h28, e1, e2, show IntKind.i64.wrap 10 = 10 from rfl]
  · have h1 : ¬ protoOf b = 1 := of_decide_eq_false h1
    have h17 : ¬ protoOf b = 17 := of_decide_eq_false h17
    have h6 := of_decide_eq_true h6
    have eP : quP b = ((pkHdrF b).2.2.2.2.2.1, (pkHdrF b).2.2.2.2.2.2, protoOf b, wordAt b 20 - 20000, (pkHdrF b).2.1, (pkHdrF b).2.2.1) := by
      rw [quP, quFlow, if_neg h1, if_pos (.inr h6)]; rfl
    have eR : quRight b ↔ (wordAt b 2 = 40 ∧ wordAt b 22 = 80 ∧ numB ((b.drop 24).take 4) = (pkHdrF b).2.1) := by
      unfold quRight; simp [h6]
    refine ⟨le1, ?_⟩
    rintro _ rfl
    rw [eP, e20]
    simp only [eR]
    by_cases c1 : wordAt b 2 = 40 <;> by_cases c2 : wordAt b 22 = 80 <;> by_cases c3 : numB ((b.drop 24).take 4) = (pkHdrF b).2.1 <;> simp [ifP, c1, c2, c3, h28]
  · have h1 : ¬ protoOf b = 1 := of_decide_eq_false h1
    have h17 : ¬ protoOf b = 17 := of_decide_eq_false h17
    have h6 : ¬ protoOf b = 6 := of_decide_eq_false h6
    have eP : quP b = ((pkHdrF b).2.2.2.2.2.1, (pkHdrF b).2.2.2.2.2.2, protoOf b, 0, (pkHdrF b).2.1, (pkHdrF b).2.2.1) := by
      rw [quP, quFlow, if_neg h1, if_neg (by omega)]; rfl
    have eR : ¬ quRight b := by
      unfold quRight; simp [h1, h17, h6]
    rw [eP]
    simp [eR]
theorem ok_reply_quoted : SpecOK Tryz.prog GL 94 ct_reply_quoted.spec := Ct.ok' _ Tryz.func94 (by kernel_rfl) (withSpec_ok (withSpec_ok (withSpec_ok noSpecs_ok (Ct.named ok_ipv4_Peek)) (Ct.named ok_reply_get)) ok_probe_Check) hmix an_reply_quoted (Eq.mpr (by kernel_rfl) vc_reply_quoted)

def ct_reply_notice : Ct := ⟨[.agg cHeader, .val (.sl cU8)], [.agg cProbe, .agg cAns, .val .bool], fun d => [(d.2.1.length : Int) ≤ 1000000], fun d => (((noticeR d.1.2.2.2.2.2.2 d.2.1).1, (noticeR d.1.2.2.2.2.2.2 d.2.1).2.1, (noticeR d.1.2.2.2.2.2.2 d.2.1).2.2, ()), ())⟩
def an_reply_notice : PDs ct_reply_notice.ps → Anns := (fun _ => {})
theorem vc_reply_notice :
    ∀ (d : Int × Int × Int × Int × Bool × Int × Int) (x : List Int), CT.wf cHeader d ∧ (List.length x ≤ maxLen ∧ ∀ (x_1 : Int), x_1 ∈ x → (0 : Int) ≤ x_1 ∧ x_1 ≤ (255 : Int)) ∧ True → (↑(List.length x) :
     Int) ≤ (1000000 : Int) → (↑(List.length x) : Int) ≤ (1000000 : Int) ∧ ∀ (x_1 x_2 : Int) (x_3 : List Int) (x_4 : Int), (x_1, x_2, x_3) = unNotice x ∧ x_4 = unNoticeErr x → ifP (!decide (x_4 = (0 :
     Int))) (((0 : Int), (0 : Int), (0 : Int), (0 : Int), (0 : Int), (0 : Int)) = (noticeR d.2.2.2.2.2.2 x).1 ∧ ((0 : Int), (0 : Int), (0 : Int), (0 : Int), (0 : Int), (0 : Int)) = (noticeR d.2.2.2.2.2.2
     x).2.1 ∧ false = (noticeR d.2.2.2.2.2.2 x).2.2) ((↑(List.length x_3) : Int) ≤ (1000000 : Int) ∧ ∀ (x_5 x_6 x_7 x_8 x_9 x_10 : Int) (x_11 : Bool), (x_5, x_6, x_7, x_8, x_9, x_10) = (quV x_3).1 ∧ x_11 =
     (quV x_3).2 → ifP (decide (x_1 = (11 : Int))) (∀ (b : Bool), b = x_11 → (b = true → (b = true → b = true) ∧ True) ∧ (b = true → (b = true → b = true) ∧ True) ∧ (b = true → (b = true → b = true) ∧ (b =
     true → b = true) ∧ True) ∧ (b = true → b = true) ∧ (x_5, x_6, x_7, x_8, x_9, (0 : Int)) = (noticeR d.2.2.2.2.2.2 x).1 ∧ ((0 : Int), (1 : Int), x_2, (0 : Int), (0 : Int), x_10) = (noticeR d.2.2.2.2.2.2
     x).2.1 ∧ (bif b then decide (x_5 = d.2.2.2.2.2.2) else false) = (noticeR d.2.2.2.2.2.2 x).2.2) (ifP (decide (x_2 = (3 : Int))) (∀ (b : Bool), b = x_11 → (b = true → (b = true → b = true) ∧ True) ∧ (b
     = true → (b = true → b = true) ∧ True) ∧ (b = true → (b = true → b = true) ∧ (b = true → b = true) ∧ True) ∧ (b = true → b = true) ∧ (x_5, x_6, x_7, x_8, x_9, (0 : Int)) = (noticeR d.2.2.2.2.2.2 x).1
     ∧ ((0 : Int), (3 : Int), x_2, (0 : Int), (0 : Int), x_10) = (noticeR d.2.2.2.2.2.2 x).2.1 ∧ (bif b then decide (x_5 = d.2.2.2.2.2.2) else false) = (noticeR d.2.2.2.2.2.2 x).2.2) (∀ (b : Bool), b =
     x_11 → (b = true → (b = true → b = true) ∧ True) ∧ (b = true → (b = true → b = true) ∧ True) ∧ (b = true → (b = true → b = true) ∧ (b = true → b = true) ∧ True) ∧ (b = true → b = true) ∧ (x_5, x_6,
     x_7, x_8, x_9, (0 : Int)) = (noticeR d.2.2.2.2.2.2 x).1 ∧ ((0 : Int), (5 : Int), x_2, (0 : Int), (0 : Int), x_10) = (noticeR d.2.2.2.2.2.2 x).2.1 ∧ (bif b then decide (x_5 = d.2.2.2.2.2.2) else false)
     = (noticeR d.2.2.2.2.2.2 x).2.2))) := by
  rintro h b ⟨-, ⟨-, hb⟩, -⟩ hl
  refine ⟨hl, ?_⟩
  rintro ty code q e ⟨hu, rfl⟩
  refine ifP_split (fun he => ?_) (fun he => ?_)
  · have he : ¬ unNoticeErr b = 0 := by simpa using he
    rw [noticeR, if_neg he]; exact ⟨rfl, rfl, rfl⟩
  have he : unNoticeErr b = 0 := by simpa using he
  have hlen := un_notice_len b
  rw [noticeR, if_pos he, ← hu]
  rw [← hu] at hlen
  refine ⟨by simp only at hlen; omega, ?_⟩
  rintro s d p f t l ok ⟨hp, rfl⟩
  simp only at hp ⊢
  rw [← hp]
  simp only [noT, kindN]
  refine ifP_split (fun h1 => ?_) (fun h1 => ifP_split (fun h3 => ?_) (fun h3 => ?_))
  · (repeat (intro (b_ : Bool) (hb_ : b_ = _); (repeat refine ⟨(by first | (simp; done) | (rw [hb_]; simp; done) | (rw [hb_]; simp; omega) | (rw [hb_]; simp; intros; omega) | (rw [hb_]; simp +contextual; done)), ?_⟩); subst hb_))
    rw [if_pos (of_decide_eq_true h1)]
    exact ⟨rfl, by cases (quV q).2 <;> rfl⟩
  · (repeat (intro (b_ : Bool) (hb_ : b_ = _); (repeat refine ⟨(by first | (simp; done) | (rw [hb_]; simp; done) | (rw [hb_]; simp; omega) | (rw [hb_]; simp; intros; omega) | (rw [hb_]; simp +contextual; done)), ?_⟩); subst hb_))
    rw [if_neg (of_decide_eq_false h1), if_pos (of_decide_eq_true h3)]
    exact ⟨rfl, by cases (quV q).2 <;> rfl⟩
  · (repeat (intro (b_ : Bool) (hb_ : b_ = _); (repeat refine ⟨(by first | (simp; done) | (rw [hb_]; simp; done) | (rw [hb_]; simp; omega) | (rw [hb_]; simp; intros; omega) | (rw [hb_]; simp +contextual; done)), ?_⟩); subst hb_))
    rw [if_neg (of_decide_eq_false h1), if_neg (of_decide_eq_false h3)]
    exact ⟨rfl, by cases (quV q).2 <;> rfl⟩
theorem ok_reply_notice : SpecOK Tryz.prog GL 60 ct_reply_notice.spec := Ct.ok' _ Tryz.func60 (by kernel_rfl) (withSpec_ok (withSpec_ok noSpecs_ok (Ct.named ok_transport_DecodeNotice)) (Ct.named ok_reply_quoted)) hmix an_reply_notice (Eq.mpr (by kernel_rfl) vc_reply_notice)

def ct_reply_echo : Ct := ⟨[.agg cHeader, .val (.sl cU8)], [.agg cProbe, .agg cAns, .val .bool], fun d => [(d.2.1.length : Int) ≤ 1000000], fun d => (((echoR d.1.2.2.2.2.2.1 d.1.2.2.2.2.2.2 d.2.1).1, (echoR d.1.2.2.2.2.2.1 d.1.2.2.2.2.2.2 d.2.1).2.1, (echoR d.1.2.2.2.2.2.1 d.1.2.2.2.2.2.2 d.2.1).2.2, ()), ())⟩
def an_reply_echo : PDs ct_reply_echo.ps → Anns := (fun _ => {})
theorem vc_reply_echo :
    ∀ (d : Int × Int × Int × Int × Bool × Int × Int) (x : List Int), CT.wf cHeader d ∧ (List.length x ≤ maxLen ∧ ∀ (x_1 : Int), x_1 ∈ x → (0 : Int) ≤ x_1 ∧ x_1 ≤ (255 : Int)) ∧ True → (↑(List.length x) :
     Int) ≤ (1000000 : Int) → (↑(List.length x) : Int) ≤ (1000000 : Int) ∧ ∀ (x_1 : Bool) (x_2 x_3 : Int) (x_4 : List Int) (x_5 : Int), (x_1, x_2, x_3, x_4) = unEcho x ∧ x_5 = unEchoErr x → ∀ (b : Bool), b
     = !decide (x_5 = (0 : Int)) → ((!b) = true → ((!b) = true → (!b) = true) ∧ True) ∧ ((!b) = true → ((!b) = true → (!b) = true) ∧ True) ∧ (b = false → (!b) = true) ∧ ∀ (b_1 : Bool), (b_1 = bif b then
     true else !x_1) → ((!b_1) = true → ((!b_1) = true → (!b_1) = true) ∧ True) ∧ ((!b_1) = true → ((!b_1) = true → (!b_1) = true) ∧ True) ∧ (b_1 = false → (!b_1) = true) ∧ ∀ (b : Bool), (b = bif b_1 then
     true else !decide (x_2 = (21075 : Int))) → ((!b) = true → ((!b) = true → (!b) = true) ∧ True) ∧ ((!b) = true → ((!b) = true → (!b) = true) ∧ True) ∧ ((!b) = true → ((!b) = true → (!b) = true) ∧ True)
     ∧ (b = false → (!b) = true) ∧ ifP (bif b then true else !decide ((↑(List.length x_4) : Int) = (2 : Int))) (((0 : Int), (0 : Int), (0 : Int), (0 : Int), (0 : Int), (0 : Int)) = (echoR d.2.2.2.2.2.1
     d.2.2.2.2.2.2 x).1 ∧ ((0 : Int), (0 : Int), (0 : Int), (0 : Int), (0 : Int), (0 : Int)) = (echoR d.2.2.2.2.2.1 d.2.2.2.2.2.2 x).2.1 ∧ false = (echoR d.2.2.2.2.2.1 d.2.2.2.2.2.2 x).2.2) ((↑(List.length
     x) : Int) ≤ (1099511627776 : Int) ∧ ∀ (x_6 : Int), x_6 = getV x (2 : Int) (2 : Int) → (d.2.2.2.2.2.2, d.2.2.2.2.2.1, (1 : Int), IntKind.wrap IntKind.i64 (x_6 - (18432 : Int)), x_3, (0 : Int)) = (echoR
     d.2.2.2.2.2.1 d.2.2.2.2.2.2 x).1 ∧ ((0 : Int), (2 : Int), (0 : Int), (0 : Int), (0 : Int), (0 : Int)) = (echoR d.2.2.2.2.2.1 d.2.2.2.2.2.2 x).2.1 ∧ true = (echoR d.2.2.2.2.2.1 d.2.2.2.2.2.2 x).2.2) := by
  rintro h b ⟨-, ⟨-, hb⟩, -⟩ hl
  refine ⟨hl, ?_⟩
  rintro r i q dt e ⟨hu, rfl⟩
  (repeat (intro (b_ : Bool) (hb_ : b_ = _); (repeat refine ⟨(by first | (simp +contextual; done) | (rw [hb_]; simp +contextual; done) | (rw [hb_]; simp; omega) | (rw [hb_]; simp; intros; omega) | (rw [hb_]; simp +contextual; intros; omega) | (intros; simp_all; done) | (intros; simp_all; omega)), ?_⟩))); subst_vars
  refine ifP_split (fun k => ?_) (fun k => ?_)
  · rw [echoR, if_neg]
    · exact ⟨rfl, rfl, rfl⟩
    · rintro ⟨k1, k2, k3, k4⟩
      rw [← hu] at k2 k3 k4
      simp only at k2 k3 k4
      simp [k1, k2, k3, k4] at k
  · have hg : echoGood b := by
      simp [Bool.cond_eq_ite] at k
      refine ⟨k.1.1.1, ?_, ?_, ?_⟩ <;> rw [← hu] <;> simp only
      · exact k.1.1.2
      · exact k.1.2
      · have := k.2; omega
    have h8 := (echo_zero hg.1).1
    have hw := bytes_word hb 2
    refine ⟨by omega, ?_⟩
    rintro _ rfl
    rw [gV2 (by omega) (by omega), show Int.toNat 2 = 2 from rfl, w64 (by omega) (by omega), echoR, if_pos hg, ← hu]
    exact ⟨rfl, rfl, rfl⟩
theorem ok_reply_echo : SpecOK Tryz.prog GL 59 ct_reply_echo.spec := Ct.ok' _ Tryz.func59 (by kernel_rfl) (withSpec_ok (withSpec_ok noSpecs_ok (Ct.named ok_transport_DecodeEcho)) (Ct.named ok_reply_get)) hmix an_reply_echo (Eq.mpr (by kernel_rfl) vc_reply_echo)

def ct_reply_reset : Ct := ⟨[.agg cHeader, .val (.sl cU8)], [.agg cProbe, .agg cAns, .val .bool], fun d => [(d.2.1.length : Int) ≤ 1000000], fun d => (((resetR d.1.2.2.2.2.2.1 d.1.2.2.2.2.2.2 d.2.1).1, (resetR d.1.2.2.2.2.2.1 d.1.2.2.2.2.2.2 d.2.1).2.1, (resetR d.1.2.2.2.2.2.1 d.1.2.2.2.2.2.2 d.2.1).2.2, ()), ())⟩
def an_reply_reset : PDs ct_reply_reset.ps → Anns := (fun _ => {})
theorem vc_reply_reset :
    ∀ (d : Int × Int × Int × Int × Bool × Int × Int) (x : List Int), CT.wf cHeader d ∧ (List.length x ≤ maxLen ∧ ∀ (x_1 : Int), x_1 ∈ x → (0 : Int) ≤ x_1 ∧ x_1 ≤ (255 : Int)) ∧ True → (↑(List.length x) :
     Int) ≤ (1000000 : Int) → (↑(List.length x) : Int) ≤ (1000000 : Int) ∧ ∀ (d_1 : Int × Int × Int × Int × Int × Int × List Int) (x_1 : Int), d_1 = unTCP d.2.2.2.2.2.1 d.2.2.2.2.2.2 x ∧ x_1 = unTCPErr
     d.2.2.2.2.2.1 d.2.2.2.2.2.2 x → ∀ (b : Bool), b = !decide (x_1 = (0 : Int)) → ((!b) = true → ((!b) = true → (!b) = true) ∧ True) ∧ ((!b) = true → ((!b) = true → (!b) = true) ∧ True) ∧ (b = false →
     (!b) = true) ∧ ∀ (b_1 : Bool), (b_1 = bif b then true else !decide (d_1.1 = (80 : Int))) → ((!b_1) = true → ((!b_1) = true → (!b_1) = true) ∧ True) ∧ ((!b_1) = true → ((!b_1) = true → (!b_1) = true) ∧
     True) ∧ (b_1 = false → (!b_1) = true) ∧ ∀ (b : Bool), (b = bif b_1 then true else !decide (d_1.2.2.1 = (0 : Int))) → ((!b) = true → ((!b) = true → (!b) = true) ∧ True) ∧ ((!b) = true → ((!b) = true →
     (!b) = true) ∧ True) ∧ (b = false → (!b) = true) ∧ ∀ (b_2 : Bool), (b_2 = bif b then true else !decide (d_1.2.2.2.2.1 = (20 : Int))) → ((!b_2) = true → ((!b_2) = true → (!b_2) = true) ∧ True) ∧
     ((!b_2) = true → ((!b_2) = true → (!b_2) = true) ∧ True) ∧ (b_2 = false → (!b_2) = true) ∧ ∀ (b : Bool), (b = bif b_2 then true else !decide (d_1.2.2.2.2.2.1 = (0 : Int))) → ((!b) = true → ((!b) =
     true → (!b) = true) ∧ True) ∧ ((!b) = true → ((!b) = true → (!b) = true) ∧ True) ∧ ((!b) = true → ((!b) = true → (!b) = true) ∧ True) ∧ (b = false → (!b) = true) ∧ ifP (bif b then true else decide ((0
     : Int) < (↑(List.length d_1.2.2.2.2.2.2) : Int))) (((0 : Int), (0 : Int), (0 : Int), (0 : Int), (0 : Int), (0 : Int)) = (resetR d.2.2.2.2.2.1 d.2.2.2.2.2.2 x).1 ∧ ((0 : Int), (0 : Int), (0 : Int), (0
     : Int), (0 : Int), (0 : Int)) = (resetR d.2.2.2.2.2.1 d.2.2.2.2.2.2 x).2.1 ∧ false = (resetR d.2.2.2.2.2.1 d.2.2.2.2.2.2 x).2.2) ((d.2.2.2.2.2.2, d.2.2.2.2.2.1, (6 : Int), IntKind.wrap IntKind.i64
     (d_1.2.1 - (20000 : Int)), IntKind.wrap IntKind.i64 (d_1.2.2.2.1 - (1 : Int)), (0 : Int)) = (resetR d.2.2.2.2.2.1 d.2.2.2.2.2.2 x).1 ∧ ((0 : Int), (4 : Int), (0 : Int), (0 : Int), (0 : Int), (0 :
     Int)) = (resetR d.2.2.2.2.2.1 d.2.2.2.2.2.2 x).2.1 ∧ true = (resetR d.2.2.2.2.2.1 d.2.2.2.2.2.2 x).2.2) := by
  rintro h b ⟨-, ⟨-, hb⟩, -⟩ hl
  refine ⟨hl, ?_⟩
  rintro t e ⟨ht, rfl⟩
  (repeat (intro (b_ : Bool) (hb_ : b_ = _); (repeat refine ⟨(by first | (simp +contextual; done) | (rw [hb_]; simp +contextual; done) | (rw [hb_]; simp; omega) | (rw [hb_]; simp; intros; omega) | (rw [hb_]; simp +contextual; intros; omega) | (intros; simp_all; done) | (intros; simp_all; omega)), ?_⟩))); subst_vars
  refine ifP_split (fun k => ?_) (fun k => ?_)
  · rw [resetR, if_neg]
    · exact ⟨rfl, rfl, rfl⟩
    · rintro ⟨k1, k2, k3, k4, k5, k6⟩
      simp [k1, k2, k3, k4, k5, k6] at k
  · have hg : resetGood h.2.2.2.2.2.1 h.2.2.2.2.2.2 b := by
      simp [Bool.cond_eq_ite] at k
      exact ⟨k.1.1.1.1.1, k.1.1.1.1.2, k.1.1.1.2, k.1.1.2, k.1.2, k.2⟩
    have hr := un_tcp_rng (s := h.2.2.2.2.2.1) (d := h.2.2.2.2.2.2) hb
    rw [w64 (by omega) (by omega), w64 (by omega) (by omega), resetR, if_pos hg]
    exact ⟨rfl, rfl, rfl⟩
theorem ok_reply_reset : SpecOK Tryz.prog GL 61 ct_reply_reset.spec := Ct.ok' _ Tryz.func61 (by kernel_rfl) (withSpec_ok noSpecs_ok (Ct.named ok_transport_DecodeTCP)) hmix an_reply_reset (Eq.mpr (by kernel_rfl) vc_reply_reset)

def ct_reply_Read : Ct := ⟨[.val (.sl cU8)], [.agg cProbe, .agg cAns, .val cI], fun d => [(d.1.length : Int) ≤ 1000000], fun d => (((readA d.1).1, (readA d.1).2, readAE d.1, ()), ())⟩
def an_reply_Read : PDs ct_reply_Read.ps → Anns := (fun _ => {})
theorem vc_reply_Read :
    ∀ (x : List Int), (List.length x ≤ maxLen ∧ ∀ (x_1 : Int), x_1 ∈ x → (0 : Int) ≤ x_1 ∧ x_1 ≤ (255 : Int)) ∧ True → (↑(List.length x) : Int) ≤ (1000000 : Int) → (↑(List.length x) : Int) ≤
     (1099511627776 : Int) ∧ ∀ (d : (Int × Int × Int × Int × Bool × Int × Int) × List Int) (x_1 : Int), d = decPkt x ∧ x_1 = decErr x → ifP (!decide (x_1 = (0 : Int))) (((0 : Int), (0 : Int), (0 : Int), (0
     : Int), (0 : Int), (0 : Int)) = (readA x).1 ∧ ((0 : Int), (0 : Int), (0 : Int), (0 : Int), (0 : Int), (0 : Int)) = (readA x).2 ∧ (17 : Int) = readAE x) (∀ (b : Bool), b = decide (d.1.2.2.2.1 = (1 :
     Int)) → (b = true → (b = true → b = true) ∧ True) ∧ (b = true → (b = true → b = true) ∧ True) ∧ (b = true → (b = true → b = true) ∧ True) ∧ (b = true → b = true) ∧ ∀ (b_1 : Bool), (b_1 = bif b then
     decide ((0 : Int) < (↑(List.length d.2) : Int)) else false) → (b_1 = true → (b_1 = true → b_1 = true) ∧ True) ∧ (b_1 = true → (b_1 = true → b_1 = true) ∧ (0 : Int) ≤ (0 : Int) ∧ (0 : Int) <
     (↑(List.length d.2) : Int) ∧ True) ∧ (b_1 = true → (b_1 = true → b_1 = true) ∧ True) ∧ (b_1 = true → (b_1 = true → b_1 = true) ∧ True) ∧ (b_1 = true → b_1 = true) ∧ ifP (bif b_1 then decide (List.getD
     d.2 (Int.toNat (0 : Int)) default = (0 : Int)) else false) ((↑(List.length d.2) : Int) ≤ (1000000 : Int) ∧ ∀ (x_2 x_3 x_4 x_5 x_6 x_7 x_8 x_9 x_10 x_11 x_12 x_13 : Int) (x_14 : Bool), (x_2, x_3, x_4,
     x_5, x_6, x_7) = (echoR d.1.2.2.2.2.2.1 d.1.2.2.2.2.2.2 d.2).1 ∧ (x_8, x_9, x_10, x_11, x_12, x_13) = (echoR d.1.2.2.2.2.2.1 d.1.2.2.2.2.2.2 d.2).2.1 ∧ x_14 = (echoR d.1.2.2.2.2.2.1 d.1.2.2.2.2.2.2
     d.2).2.2 → ∀ (b : Bool), b = !x_14 → ((!b) = true → ((!b) = true → (!b) = true) ∧ True) ∧ ((!b) = true → ((!b) = true → (!b) = true) ∧ True) ∧ (b = false → (!b) = true) ∧ ifP (bif b then true else
     !decide (probeErr (x_2, x_3, x_4, x_5, x_6, (1 : Int)) = (0 : Int))) (((0 : Int), (0 : Int), (0 : Int), (0 : Int), (0 : Int), (0 : Int)) = (readA x).1 ∧ ((0 : Int), (0 : Int), (0 : Int), (0 : Int), (0
     : Int), (0 : Int)) = (readA x).2 ∧ (17 : Int) = readAE x) ((x_2, x_3, x_4, x_5, x_6, x_7) = (readA x).1 ∧ (d.1.2.2.2.2.2.1, x_9, x_10, d.1.2.2.1, d.1.2.1, x_13) = (readA x).2 ∧ (0 : Int) = readAE x))
     (ifP (decide (d.1.2.2.2.1 = (1 : Int))) ((↑(List.length d.2) : Int) ≤ (1000000 : Int) ∧ ∀ (x_2 x_3 x_4 x_5 x_6 x_7 x_8 x_9 x_10 x_11 x_12 x_13 : Int) (x_14 : Bool), (x_2, x_3, x_4, x_5, x_6, x_7) =
     (noticeR d.1.2.2.2.2.2.2 d.2).1 ∧ (x_8, x_9, x_10, x_11, x_12, x_13) = (noticeR d.1.2.2.2.2.2.2 d.2).2.1 ∧ x_14 = (noticeR d.1.2.2.2.2.2.2 d.2).2.2 → ∀ (b : Bool), b = !x_14 → ((!b) = true → ((!b) =
     true → (!b) = true) ∧ True) ∧ ((!b) = true → ((!b) = true → (!b) = true) ∧ True) ∧ (b = false → (!b) = true) ∧ ifP (bif b then true else !decide (probeErr (x_2, x_3, x_4, x_5, x_6, (1 : Int)) = (0 :
     Int))) (((0 : Int), (0 : Int), (0 : Int), (0 : Int), (0 : Int), (0 : Int)) = (readA x).1 ∧ ((0 : Int), (0 : Int), (0 : Int), (0 : Int), (0 : Int), (0 : Int)) = (readA x).2 ∧ (17 : Int) = readAE x)
     ((x_2, x_3, x_4, x_5, x_6, x_7) = (readA x).1 ∧ (d.1.2.2.2.2.2.1, x_9, x_10, d.1.2.2.1, d.1.2.1, x_13) = (readA x).2 ∧ (0 : Int) = readAE x)) (ifP (decide (d.1.2.2.2.1 = (6 : Int))) ((↑(List.length
     d.2) : Int) ≤ (1000000 : Int) ∧ ∀ (x_2 x_3 x_4 x_5 x_6 x_7 x_8 x_9 x_10 x_11 x_12 x_13 : Int) (x_14 : Bool), (x_2, x_3, x_4, x_5, x_6, x_7) = (resetR d.1.2.2.2.2.2.1 d.1.2.2.2.2.2.2 d.2).1 ∧ (x_8,
     x_9, x_10, x_11, x_12, x_13) = (resetR d.1.2.2.2.2.2.1 d.1.2.2.2.2.2.2 d.2).2.1 ∧ x_14 = (resetR d.1.2.2.2.2.2.1 d.1.2.2.2.2.2.2 d.2).2.2 → ∀ (b : Bool), b = !x_14 → ((!b) = true → ((!b) = true → (!b)
     = true) ∧ True) ∧ ((!b) = true → ((!b) = true → (!b) = true) ∧ True) ∧ (b = false → (!b) = true) ∧ ifP (bif b then true else !decide (probeErr (x_2, x_3, x_4, x_5, x_6, (1 : Int)) = (0 : Int))) (((0 :
     Int), (0 : Int), (0 : Int), (0 : Int), (0 : Int), (0 : Int)) = (readA x).1 ∧ ((0 : Int), (0 : Int), (0 : Int), (0 : Int), (0 : Int), (0 : Int)) = (readA x).2 ∧ (17 : Int) = readAE x) ((x_2, x_3, x_4,
     x_5, x_6, x_7) = (readA x).1 ∧ (d.1.2.2.2.2.2.1, x_9, x_10, d.1.2.2.1, d.1.2.1, x_13) = (readA x).2 ∧ (0 : Int) = readAE x)) (∀ (b : Bool), b = !false → ((!b) = true → ((!b) = true → (!b) = true) ∧
     True) ∧ ((!b) = true → ((!b) = true → (!b) = true) ∧ True) ∧ (b = false → (!b) = true) ∧ ifP (bif b then true else !decide (probeErr ((0 : Int), (0 : Int), (0 : Int), (0 : Int), (0 : Int), (1 : Int))
     = (0 : Int))) (((0 : Int), (0 : Int), (0 : Int), (0 : Int), (0 : Int), (0 : Int)) = (readA x).1 ∧ ((0 : Int), (0 : Int), (0 : Int), (0 : Int), (0 : Int), (0 : Int)) = (readA x).2 ∧ (17 : Int) = readAE
     x) (((0 : Int), (0 : Int), (0 : Int), (0 : Int), (0 : Int), (0 : Int)) = (readA x).1 ∧ (d.1.2.2.2.2.2.1, (0 : Int), (0 : Int), d.1.2.2.1, d.1.2.1, (0 : Int)) = (readA x).2 ∧ (0 : Int) = readAE x))))) := by
  rintro b ⟨⟨-, hb⟩, -⟩ hl
  refine ⟨by omega, ?_⟩
  rintro d e ⟨rfl, rfl⟩
  have bad : ¬ readGood b → ((0, 0, 0, 0, 0, 0) : Probe) = (readA b).1 ∧ ((0, 0, 0, 0, 0, 0) : Ans) = (readA b).2 ∧ (17 : Int) = readAE b := fun k => by
    rw [readA, readAE, if_neg k, if_neg k]; exact ⟨rfl, rfl, rfl⟩
  refine ifP_split (fun h => bad (fun k => ?_)) (fun h => ?_)
  · simp [k.1] at h
  have h : decErr b = 0 := by simpa using h
  have hdl := dec_len h
  rw [decPkt, if_pos h]
  have hdr : ((b.drop 20).length : Int) ≤ 1000000 := by rw [List.length_drop]; omega
  have hdb : bytes (b.drop 20) := bytes_drop hb
  have eq1 : (pkHdrF b).2.2.2.1 = protoOf b := rfl
  have eq2 : (pkHdrF b).2.2.2.2.2.1 = srcOf b := rfl
  have eq3 : (pkHdrF b).2.2.2.2.2.2 = dstOf b := rfl
  simp only [eq1, eq2, eq3]
  have fin : ∀ r : RdR, r = partR b → ∀ (p1 p2 p3 p4 p5 p6 a1 a2 a3 a4 a5 a6 : Int) (ok : Bool), (p1, p2, p3, p4, p5, p6) = r.1 ∧ (a1, a2, a3, a4, a5, a6) = r.2.1 ∧ ok = r.2.2 →
      ifP (bif !ok then true else !decide (probeErr (p1, p2, p3, p4, p5, 1) = 0)) (((0, 0, 0, 0, 0, 0) : Probe) = (readA b).1 ∧ ((0, 0, 0, 0, 0, 0) : Ans) = (readA b).2 ∧ (17 : Int) = readAE b)
        (((p1, p2, p3, p4, p5, p6) : Probe) = (readA b).1 ∧ ((srcOf b, a2, a3, (pkHdrF b).2.2.1, (pkHdrF b).2.1, a6) : Ans) = (readA b).2 ∧ (0 : Int) = readAE b) := by
    rintro r rfl p1 p2 p3 p4 p5 p6 a1 a2 a3 a4 a5 a6 ok ⟨hp, ha, rfl⟩
    have en : noT (partR b).1 1 = (p1, p2, p3, p4, p5, 1) := by rw [← hp]; rfl
    refine ifP_split (fun k => bad (fun g => ?_)) (fun k => ?_)
    · have g3 := g.2.2
      rw [en] at g3
      simp [g.2.1, g3] at k
    · have g : readGood b := by
        simp [Bool.cond_eq_ite] at k
        exact ⟨h, k.1, by rw [en]; exact k.2⟩
      rw [readA, readAE, if_pos g, if_pos g]
      refine ⟨hp, ?_, rfl⟩
      rw [← ha]
  (repeat (intro (b_ : Bool) (hb_ : b_ = _); (repeat refine ⟨(by first | (simp; done) | (rw [hb_]; simp; done) | (rw [hb_]; simp; omega) | (rw [hb_]; simp; intros; omega) | (rw [hb_]; simp +contextual; done)), ?_⟩); subst hb_))
  refine ifP_split (fun hc => ?_) (fun hc => ?_)
  · have c3 : (b.drop 20).getD 0 default = 0 := Classical.byContradiction fun k => by
      have k : ¬ (b.drop 20).getD (Int.toNat 0) default = 0 := k
      rw [decide_eq_false k] at hc; simp at hc
    simp [Bool.cond_eq_ite] at hc
    have er : echoR (srcOf b) (dstOf b) (b.drop 20) = partR b := by
      rw [partR, if_pos]
      refine ⟨hc.1.1, ?_, c3⟩
      rw [List.length_drop]; omega
    refine ⟨hdr, ?_⟩
    rintro p1 p2 p3 p4 p5 p6 a1 a2 a3 a4 a5 a6 ok hh
    have := fin _ er p1 p2 p3 p4 p5 p6 a1 a2 a3 a4 a5 a6 ok hh
    (repeat (intro (b_ : Bool) (hb_ : b_ = _); (repeat refine ⟨(by first | (simp; done) | (rw [hb_]; simp; done) | (rw [hb_]; simp; omega) | (rw [hb_]; simp; intros; omega) | (rw [hb_]; simp +contextual; done)), ?_⟩); subst hb_))
    exact this
  have hc' : ¬ (protoOf b = 1 ∧ 0 < (b.drop 20).length ∧ (b.drop 20).getD 0 default = 0) := by
    rintro ⟨c1, c2, c3⟩
    rw [c1, decide_eq_true (show (0 : Int) < ((b.drop 20).length : Int) by omega)] at hc
    have : (b.drop 20).getD (Int.toNat 0) default = 0 := c3
    rw [this] at hc
    cases hc
  refine ifP_split (fun h1 => ?_) (fun h1 => ifP_split (fun h6 => ?_) (fun h6 => ?_))
  · have h1 := of_decide_eq_true h1
    have er : noticeR (dstOf b) (b.drop 20) = partR b := by
      rw [partR, if_neg hc', if_pos h1]
    refine ⟨hdr, ?_⟩
    rintro p1 p2 p3 p4 p5 p6 a1 a2 a3 a4 a5 a6 ok hh
    have := fin _ er p1 p2 p3 p4 p5 p6 a1 a2 a3 a4 a5 a6 ok hh
    (repeat (intro (b_ : Bool) (hb_ : b_ = _); (repeat refine ⟨(by first | (simp; done) | (rw [hb_]; simp; done) | (rw [hb_]; simp; omega) | (rw [hb_]; simp; intros; omega) | (rw [hb_]; simp +contextual; done)), ?_⟩); subst hb_))
    exact this
  · have h1 := of_decide_eq_false h1
    have h6 := of_decide_eq_true h6
    have er : resetR (srcOf b) (dstOf b) (b.drop 20) = partR b := by
      rw [partR, if_neg hc', if_neg h1, if_pos h6]
    refine ⟨hdr, ?_⟩
    rintro p1 p2 p3 p4 p5 p6 a1 a2 a3 a4 a5 a6 ok hh
    have := fin _ er p1 p2 p3 p4 p5 p6 a1 a2 a3 a4 a5 a6 ok hh
    (repeat (intro (b_ : Bool) (hb_ : b_ = _); (repeat refine ⟨(by first | (simp; done) | (rw [hb_]; simp; done) | (rw [hb_]; simp; omega) | (rw [hb_]; simp; intros; omega) | (rw [hb_]; simp +contextual; done)), ?_⟩); subst hb_))
    exact this
  · have h1 := of_decide_eq_false h1
    have h6 := of_decide_eq_false h6
    have er : noR = partR b := by rw [partR, if_neg hc', if_neg h1, if_neg h6]
    have := fin _ er 0 0 0 0 0 0 0 0 0 0 0 0 false ⟨rfl, rfl, rfl⟩
    (repeat (intro (b_ : Bool) (hb_ : b_ = _); (repeat refine ⟨(by first | (simp; done) | (rw [hb_]; simp; done) | (rw [hb_]; simp; omega) | (rw [hb_]; simp; intros; omega) | (rw [hb_]; simp +contextual; done)), ?_⟩); subst hb_))
    exact this
theorem ok_reply_Read : SpecOK Tryz.prog GL 32 ct_reply_Read.spec := Ct.ok' _ Tryz.func32 (by kernel_rfl) (withSpec_ok (withSpec_ok (withSpec_ok (withSpec_ok (withSpec_ok noSpecs_ok (Ct.named ok_ipv4_Decode)) (Ct.named ok_reply_echo)) (Ct.named ok_reply_notice)) (Ct.named ok_reply_reset)) ok_probe_Check) hmix an_reply_Read (Eq.mpr (by kernel_rfl) vc_reply_Read)
end Go.RS

