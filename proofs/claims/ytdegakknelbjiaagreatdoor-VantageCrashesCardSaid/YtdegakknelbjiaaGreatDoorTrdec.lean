/- Trdec: decoding messages. -/
import Derived.Test.YtdegakknelbjiaaGreatDoorTransp
namespace Go.RS
open Go.SX Go.Proofs
set_option maxRecDepth 100000
set_option linter.unusedVariables false

def echoForm (b : List Int) : Prop := (b.getD (Int.toNat 0) default = 8 ∨ b.getD (Int.toNat 0) default = 0) ∧ b.getD (Int.toNat 1) default = 0
instance (b : List Int) : Decidable (echoForm b) := by unfold echoForm; infer_instance
def unEchoErr (b : List Int) : Int := if (b.length : Int) < 8 then 3 else if ¬ echoForm b then 2 else if (1480 : Int) < b.length then 5 else if csum (setW b (Int.toNat 2) 0) ≠ wordAt b (Int.toNat 2) then 4 else 0
def unEcho (b : List Int) : Echo := if unEchoErr b = 0 then (decide (b.getD (Int.toNat 0) default = 0), wordAt b (Int.toNat 4), wordAt b (Int.toNat 6), b.drop 8) else (false, 0, 0, [])
def noticeForm (b : List Int) : Prop := (b.getD (Int.toNat 0) default = 3 ∨ b.getD (Int.toNat 0) default = 11) ∧ wordAt b (Int.toNat 4) = 0 ∧ wordAt b (Int.toNat 6) = 0
instance (b : List Int) : Decidable (noticeForm b) := by unfold noticeForm; infer_instance
def unNoticeErr (b : List Int) : Int := if (b.length : Int) < 36 then 3 else if ¬ noticeForm b then 2 else if (1480 : Int) < b.length then 5 else if csum (setW b (Int.toNat 2) 0) ≠ wordAt b (Int.toNat 2) then 4 else 0
def unNotice (b : List Int) : Notice := if unNoticeErr b = 0 then (b.getD (Int.toNat 0) default, b.getD (Int.toNat 1) default, b.drop 8) else (0, 0, [])
def unUDPErr (s d : Int) (b : List Int) : Int := if (b.length : Int) < 8 then 3 else if ¬ wordAt b (Int.toNat 4) = b.length then 2 else if (1480 : Int) < b.length then 5 else if sumU s d (setW b (Int.toNat 6) 0) ≠ wordAt b (Int.toNat 6) then 4 else 0
def unUDP (s d : Int) (b : List Int) : Dgram := if unUDPErr s d b = 0 then (wordAt b (Int.toNat 0), wordAt b (Int.toNat 2), b.drop 8) else (0, 0, [])
def tcpForm (b : List Int) : Prop := b.getD (Int.toNat 12) default = 80 ∧ wordAt b (Int.toNat 18) = 0
instance (b : List Int) : Decidable (tcpForm b) := by unfold tcpForm; infer_instance
def unTCPErr (s d : Int) (b : List Int) : Int := if (b.length : Int) < 20 then 3 else if ¬ tcpForm b then 2 else if (1480 : Int) < b.length then 5 else if pseudo s d 6 (setW b (Int.toNat 16) 0) ≠ wordAt b (Int.toNat 16) then 4 else 0
def unTCP (s d : Int) (b : List Int) : Seg := if unTCPErr s d b = 0 then (wordAt b (Int.toNat 0), wordAt b (Int.toNat 2), wordAt b (Int.toNat 4) * 65536 + wordAt b (Int.toNat 6), wordAt b (Int.toNat 8) * 65536 + wordAt b (Int.toNat 10), b.getD (Int.toNat 13) default, wordAt b (Int.toNat 14), b.drop 20) else (0, 0, 0, 0, 0, 0, [])
theorem unEcho_err {b : List Int} {e : Int} (h : unEchoErr b = e) (he : e ≠ 0) : (false, 0, 0, []) = unEcho b ∧ e = unEchoErr b := by
  rw [unEcho, if_neg (by rw [h]; exact he), h]; exact ⟨rfl, rfl⟩
theorem unNotice_err {b : List Int} {e : Int} (h : unNoticeErr b = e) (he : e ≠ 0) : (0, 0, []) = unNotice b ∧ e = unNoticeErr b := by
  rw [unNotice, if_neg (by rw [h]; exact he), h]; exact ⟨rfl, rfl⟩
theorem unUDP_err {s d : Int} {b : List Int} {e : Int} (h : unUDPErr s d b = e) (he : e ≠ 0) : (0, 0, []) = unUDP s d b ∧ e = unUDPErr s d b := by
  rw [unUDP, if_neg (by rw [h]; exact he), h]; exact ⟨rfl, rfl⟩
theorem unTCP_err {s d : Int} {b : List Int} {e : Int} (h : unTCPErr s d b = e) (he : e ≠ 0) : (0, 0, 0, 0, 0, 0, []) = unTCP s d b ∧ e = unTCPErr s d b := by
  rw [unTCP, if_neg (by rw [h]; exact he), h]; exact ⟨rfl, rfl⟩
theorem sub_drop (b : List Int) (k : Nat) : subL b k (Int.toNat (b.length : Int)) = b.drop k := by unfold subL; simp
theorem len8 (l : List Int) (h : ¬ (l.length : Int) < 8) : ∃ a0 a1 a2 a3 a4 a5 a6 a7 r, l = a0 :: a1 :: a2 :: a3 :: a4 :: a5 :: a6 :: a7 :: r := by
  match l, h with
  | a0 :: a1 :: a2 :: a3 :: a4 :: a5 :: a6 :: a7 :: r, _ => exact ⟨a0, a1, a2, a3, a4, a5, a6, a7, r, rfl⟩
  | [], h => simp at h
  | [_], h => simp at h
  | [_, _], h => simp at h
  | [_, _, _], h => simp at h
  | [_, _, _, _], h => simp at h
  | [_, _, _, _, _], h => simp at h
  | [_, _, _, _, _, _], h => simp at h
  | [_, _, _, _, _, _, _], h => simp at h
theorem getV2 (b : List Int) (k : Nat) (h : k + 2 ≤ b.length) (hk : (k : Int) ≤ 1000000) : getV b k 2 = wordAt b k := by
  rw [getV, if_neg (by omega)]; rfl
theorem split_c {c a b : Int} (h0 : 0 ≤ c) (h1 : c ≤ 65535) (a0 : 0 ≤ a) (a1 : a ≤ 255) (b0 : 0 ≤ b) (b1 : b ≤ 255) : (c / 256 % 256 = a ∧ c % 256 = b) ↔ c = a * 256 + b := by omega
theorem re_echo {b : List Int} (hb : bytes b) (h8 : ¬ (b.length : Int) < 8) (hl : ¬ (1480 : Int) < b.length) (hf : echoForm b) :
    echoEnc (decide (b.getD (Int.toNat 0) default = 0), getV b 4 2, getV b 6 2, b.drop (Int.toNat 8)) = b ↔ csum (setW b (Int.toNat 2) 0) = wordAt b (Int.toNat 2) := by
  obtain ⟨a0, a1, a2, a3, a4, a5, a6, a7, r, rfl⟩ := len8 b h8
  have e4 := getV2 (a0 :: a1 :: a2 :: a3 :: a4 :: a5 :: a6 :: a7 :: r) 4 (by simp) (by omega)
  have e6 := getV2 (a0 :: a1 :: a2 :: a3 :: a4 :: a5 :: a6 :: a7 :: r) 6 (by simp) (by omega)
  have r4 : wordAt (a0 :: a1 :: a2 :: a3 :: a4 :: a5 :: a6 :: a7 :: r) 4 = a4 * 256 + a5 := by simp [wordAt, numB]
  have r6 : wordAt (a0 :: a1 :: a2 :: a3 :: a4 :: a5 :: a6 :: a7 :: r) 6 = a6 * 256 + a7 := by simp [wordAt, numB]
  have r2 : wordAt (a0 :: a1 :: a2 :: a3 :: a4 :: a5 :: a6 :: a7 :: r) (Int.toNat 2) = a2 * 256 + a3 := by simp [wordAt, numB]
  have q2 := hb a2 (by simp)
  have q3 := hb a3 (by simp)
  have q4 := hb a4 (by simp)
  have q5 := hb a5 (by simp)
  have q6 := hb a6 (by simp)
  have q7 := hb a7 (by simp)
  obtain ⟨f0, f1⟩ := hf
  have f0 : a0 = 8 ∨ a0 = 0 := f0
  have f1 : a1 = 0 := f1
  subst f1
  have hbody : echoBody (decide (a0 = 0), a4 * 256 + a5, a6 * 256 + a7, r) = setW (a0 :: 0 :: a2 :: a3 :: a4 :: a5 :: a6 :: a7 :: r) (Int.toNat 2) 0 := by
    unfold echoBody
    simp only [w2_pair q4.1 q4.2 q5.1 q5.2, w2_pair q6.1 q6.2 q7.1 q7.2]
    rcases f0 with rfl | rfl <;> simp [setW]
  have hs : setW (a0 :: 0 :: a2 :: a3 :: a4 :: a5 :: a6 :: a7 :: r) (Int.toNat 2) 0 = a0 :: 0 :: 0 :: 0 :: a4 :: a5 :: a6 :: a7 :: r := by simp [setW]
  have hbb : bytes (a0 :: 0 :: 0 :: 0 :: a4 :: a5 :: a6 :: a7 :: r) := by
    intro x hx
    by_cases h0 : x = 0
    · omega
    · exact hb x (by simp [h0] at hx ⊢; rcases hx with h | h | h | h | h | h <;> simp [h])
  have hc := csum_range hbb
  rw [show ((4 : Nat) : Int) = 4 from rfl] at e4
  rw [show ((6 : Nat) : Int) = 6 from rfl] at e6
  rw [e4, e6, r4, r6, r2]
  obtain ⟨k1, k2⟩ := echo_ok (e := (decide (a0 = 0), a4 * 256 + a5, a6 * 256 + a7, r)) ⟨(word16_iff _).2 (by show 0 ≤ a4 * 256 + a5 ∧ a4 * 256 + a5 ≤ 65535; omega), (word16_iff _).2 (by show 0 ≤ a6 * 256 + a7 ∧ a6 * 256 + a7 ≤ 65535; omega)⟩
  have hlen := echo_len (decide (a0 = 0), a4 * 256 + a5, a6 * 256 + a7, r)
  have hl2 : ¬ (1480 : Int) < ((8 + r.length : Nat) : Int) := by simp only [List.length_cons] at hl; omega
  rw [hlen] at k1
  rw [if_neg hl2, hbody, hs] at k1
  show echoEnc (decide (a0 = 0), a4 * 256 + a5, a6 * 256 + a7, r) = _ ↔ _
  rw [k1, hs]
  generalize csum (a0 :: 0 :: 0 :: 0 :: a4 :: a5 :: a6 :: a7 :: r) = c at hc
  rw [← split_c hc.1 hc.2 q2.1 q2.2 q3.1 q3.2]
  simp [setW]
theorem eight_bytes {a0 a1 a2 a3 a4 a5 a6 a7 : Int} {r : List Int} (h : bytes (a0 :: a1 :: a2 :: a3 :: a4 :: a5 :: a6 :: a7 :: r)) : (0 ≤ a0 ∧ a0 ≤ 255) ∧ (0 ≤ a1 ∧ a1 ≤ 255) ∧ (0 ≤ a2 ∧ a2 ≤ 255) ∧ (0 ≤ a3 ∧ a3 ≤ 255) ∧ (0 ≤ a4 ∧ a4 ≤ 255) ∧ (0 ≤ a5 ∧ a5 ≤ 255) ∧ (0 ≤ a6 ∧ a6 ≤ 255) ∧ (0 ≤ a7 ∧ a7 ≤ 255) ∧ bytes r :=
  ⟨h _ (by simp), h _ (by simp), h _ (by simp), h _ (by simp), h _ (by simp), h _ (by simp), h _ (by simp), h _ (by simp), fun x hx => h x (by simp [hx])⟩
theorem bytes_set {b : List Int} {i : Nat} {v : Int} (h : bytes b) (h0 : 0 ≤ v) (h1 : v ≤ 255) : bytes (b.set i v) := by
  intro x hx
  rcases List.mem_or_eq_of_mem_set hx with hx | rfl
  · exact h x hx
  · exact ⟨h0, h1⟩
theorem bytes_setW {b : List Int} {i : Nat} {v : Int} (h : bytes b) : bytes (setW b i v) := bytes_set (bytes_set h (by omega) (by omega)) (by omega) (by omega)
theorem wordAt_range {b : List Int} {k : Nat} (h : bytes b) : 0 ≤ wordAt b k ∧ wordAt b k ≤ 65535 := by
  have := numB_bound 2 ((b.drop k).take 2) (by rw [List.length_take]; omega) (fun x hx => h x (List.mem_of_mem_drop (List.mem_of_mem_take hx)))
  have e : (256 : Int) ^ 2 = 65536 := rfl
  unfold wordAt; omega
theorem setW_len (b : List Int) (i : Nat) (v : Int) : (setW b i v).length = b.length := by simp [setW]
theorem re_notice {b : List Int} (hb : bytes b) (h8 : ¬ (b.length : Int) < 36) (hl : ¬ (1480 : Int) < b.length) (hf : noticeForm b) :
    noticeEnc (IntKind.wrap .i64 (b.getD (Int.toNat 0) default), IntKind.wrap .i64 (b.getD (Int.toNat 1) default), b.drop (Int.toNat 8)) = b ↔ csum (setW b (Int.toNat 2) 0) = wordAt b (Int.toNat 2) := by
  obtain ⟨a0, a1, a2, a3, a4, a5, a6, a7, r, rfl⟩ := len8 b (by omega)
  have hc := csum_range (bytes_setW (i := Int.toNat 2) (v := 0) hb)
  obtain ⟨q0, q1, q2, q3, q4, q5, q6, q7, hr⟩ := eight_bytes hb
  have r2 : wordAt (a0 :: a1 :: a2 :: a3 :: a4 :: a5 :: a6 :: a7 :: r) (Int.toNat 2) = a2 * 256 + a3 := by simp [wordAt, numB]
  have r4 : wordAt (a0 :: a1 :: a2 :: a3 :: a4 :: a5 :: a6 :: a7 :: r) (Int.toNat 4) = a4 * 256 + a5 := by simp [wordAt, numB]
  have r6 : wordAt (a0 :: a1 :: a2 :: a3 :: a4 :: a5 :: a6 :: a7 :: r) (Int.toNat 6) = a6 * 256 + a7 := by simp [wordAt, numB]
  obtain ⟨f0, f1, f2⟩ := hf
  rw [r4] at f1
  rw [r6] at f2
  have f0 : a0 = 3 ∨ a0 = 11 := f0
  have z4 : a4 = 0 := by omega
  have z5 : a5 = 0 := by omega
  have z6 : a6 = 0 := by omega
  have z7 : a7 = 0 := by omega
  subst z4 z5 z6 z7
  have hs : setW (a0 :: a1 :: a2 :: a3 :: 0 :: 0 :: 0 :: 0 :: r) (Int.toNat 2) 0 = a0 :: a1 :: 0 :: 0 :: 0 :: 0 :: 0 :: 0 :: r := by simp [setW]
  have hbody : noticeBody (a0, a1, r) = a0 :: a1 :: 0 :: 0 :: 0 :: 0 :: 0 :: 0 :: r := rfl
  have hln : ¬ ((r.length : Nat) : Int) < 28 := by simp only [List.length_cons] at h8; omega
  obtain ⟨k1, k2⟩ := notice_ok (e := (a0, a1, r)) ⟨f0, q1.1, q1.2⟩ hln
  have hl2 : ¬ (1480 : Int) < ((8 + r.length : Nat) : Int) := by simp only [List.length_cons] at hl; omega
  rw [notice_len, if_neg hl2, hbody] at k1
  show noticeEnc (IntKind.wrap .i64 a0, IntKind.wrap .i64 a1, r) = _ ↔ _
  rw [w64 (n := a0) (by omega) (by omega), w64 (n := a1) (by omega) (by omega), k1]
  rw [hs] at hc ⊢
  rw [r2]
  generalize csum (a0 :: a1 :: 0 :: 0 :: 0 :: 0 :: 0 :: 0 :: r) = c at hc
  rw [← split_c hc.1 hc.2 q2.1 q2.2 q3.1 q3.2]
  simp [setW]
theorem re_udp {s d : Int} {b : List Int} (hb : bytes b) (h8 : ¬ (b.length : Int) < 8) (hl : ¬ (1480 : Int) < b.length) (hf : wordAt b (Int.toNat 4) = b.length) :
    udpEnc s d (getV b 0 2, getV b 2 2, b.drop (Int.toNat 8)) = b ↔ sumU s d (setW b (Int.toNat 6) 0) = wordAt b (Int.toNat 6) := by
  obtain ⟨a0, a1, a2, a3, a4, a5, a6, a7, r, rfl⟩ := len8 b (by omega)
  have hc := sumU_range (a := s) (b := d) (bytes_setW (i := Int.toNat 6) (v := 0) hb)
  obtain ⟨q0, q1, q2, q3, q4, q5, q6, q7, hr⟩ := eight_bytes hb
  have e0 := getV2 (a0 :: a1 :: a2 :: a3 :: a4 :: a5 :: a6 :: a7 :: r) 0 (by simp) (by omega)
  have e2 := getV2 (a0 :: a1 :: a2 :: a3 :: a4 :: a5 :: a6 :: a7 :: r) 2 (by simp) (by omega)
  have r0 : wordAt (a0 :: a1 :: a2 :: a3 :: a4 :: a5 :: a6 :: a7 :: r) 0 = a0 * 256 + a1 := by simp [wordAt, numB]
  have r2 : wordAt (a0 :: a1 :: a2 :: a3 :: a4 :: a5 :: a6 :: a7 :: r) 2 = a2 * 256 + a3 := by simp [wordAt, numB]
  have r4 : wordAt (a0 :: a1 :: a2 :: a3 :: a4 :: a5 :: a6 :: a7 :: r) (Int.toNat 4) = a4 * 256 + a5 := by simp [wordAt, numB]
  have r6 : wordAt (a0 :: a1 :: a2 :: a3 :: a4 :: a5 :: a6 :: a7 :: r) (Int.toNat 6) = a6 * 256 + a7 := by simp [wordAt, numB]
  rw [show ((0 : Nat) : Int) = 0 from rfl] at e0
  rw [show ((2 : Nat) : Int) = 2 from rfl] at e2
  rw [e0, e2, r0, r2]
  rw [r4] at hf
  have hlen : ((a0 :: a1 :: a2 :: a3 :: a4 :: a5 :: a6 :: a7 :: r).length : Int) = 8 + (r.length : Int) := by simp only [List.length_cons]; omega
  rw [hlen] at hf
  have hs : setW (a0 :: a1 :: a2 :: a3 :: a4 :: a5 :: a6 :: a7 :: r) (Int.toNat 6) 0 = a0 :: a1 :: a2 :: a3 :: a4 :: a5 :: 0 :: 0 :: r := by simp [setW]
  have hbody : udpBody (a0 * 256 + a1, a2 * 256 + a3, r) = a0 :: a1 :: a2 :: a3 :: a4 :: a5 :: 0 :: 0 :: r := by
    unfold udpBody
    simp only [← hf, w2_pair q0.1 q0.2 q1.1 q1.2, w2_pair q2.1 q2.2 q3.1 q3.2, w2_pair q4.1 q4.2 q5.1 q5.2]; rfl
  obtain ⟨k1, k2⟩ := udp_ok (a := s) (b := d) (e := (a0 * 256 + a1, a2 * 256 + a3, r)) ⟨(word16_iff _).2 (by show 0 ≤ a0 * 256 + a1 ∧ a0 * 256 + a1 ≤ 65535; omega), (word16_iff _).2 (by show 0 ≤ a2 * 256 + a3 ∧ a2 * 256 + a3 ≤ 65535; omega)⟩
  have hl2 : ¬ (1480 : Int) < ((8 + r.length : Nat) : Int) := by omega
  rw [udp_len, if_neg hl2, hbody] at k1
  show udpEnc s d (a0 * 256 + a1, a2 * 256 + a3, r) = _ ↔ _
  rw [k1]
  rw [hs] at hc ⊢
  rw [r6]
  generalize sumU s d (a0 :: a1 :: a2 :: a3 :: a4 :: a5 :: 0 :: 0 :: r) = c at hc
  rw [← split_c hc.1 hc.2 q6.1 q6.2 q7.1 q7.2]
  simp [setW]
theorem getV4 (b : List Int) (k : Nat) (h : k + 4 ≤ b.length) (hk : (k : Int) ≤ 1000000) : getV b k 4 = wordAt b k * 65536 + wordAt b (k + 2) := by
  rw [getV, if_neg (by omega)]
  have hd : ∃ x y z w r, b.drop k = x :: y :: z :: w :: r := by
    have : 4 ≤ (b.drop k).length := by rw [List.length_drop]; omega
    match b.drop k, this with
    | x :: y :: z :: w :: r, _ => exact ⟨x, y, z, w, r, rfl⟩
  obtain ⟨x, y, z, w, r, hd⟩ := hd
  have h2 : b.drop (k + 2) = z :: w :: r := by rw [← List.drop_drop, hd]; rfl
  unfold wordAt
  rw [h2, show b.drop (k : Int).toNat = b.drop k from rfl, hd]
  simp [numB]; omega
theorem w4_quad {a b c d : Int} (ha : 0 ≤ a ∧ a ≤ 255) (hb : 0 ≤ b ∧ b ≤ 255) (hc : 0 ≤ c ∧ c ≤ 255) (hd : 0 ≤ d ∧ d ≤ 255) : w4 ((a * 256 + b) * 65536 + (c * 256 + d)) = [a, b, c, d] := by
  unfold w4
  have e1 : ((a * 256 + b) * 65536 + (c * 256 + d)) / 16777216 % 256 = a := by omega
  have e2 : ((a * 256 + b) * 65536 + (c * 256 + d)) / 65536 % 256 = b := by omega
  have e3 : ((a * 256 + b) * 65536 + (c * 256 + d)) / 256 % 256 = c := by omega
  have e4 : ((a * 256 + b) * 65536 + (c * 256 + d)) % 256 = d := by omega
  rw [e1, e2, e3, e4]
theorem wordAt0 (x y : Int) (r : List Int) : wordAt (x :: y :: r) 0 = x * 256 + y := by simp [wordAt, numB]
theorem re_tcp {s d : Int} {b : List Int} (hb : bytes b) (h8 : ¬ (b.length : Int) < 20) (hl : ¬ (1480 : Int) < b.length) (hf : tcpForm b) :
    tcpEnc s d (wordAt b 0, wordAt b 2, wordAt b 4 * 65536 + wordAt b 6, wordAt b 8 * 65536 + wordAt b 10, b.getD (Int.toNat 13) default, wordAt b 14, b.drop (Int.toNat 20)) = b ↔ pseudo s d 6 (setW b (Int.toNat 16) 0) = wordAt b (Int.toNat 16) := by
  obtain ⟨a0, a1, a2, a3, a4, a5, a6, a7, r, rfl⟩ := len8 b (by omega)
  obtain ⟨c0, c1, c2, c3, c4, c5, c6, c7, r, rfl⟩ := len8 r (by simp only [List.length_cons] at h8; omega)
  have h4 : ∃ x y z w q, r = x :: y :: z :: w :: q := by
    have : 4 ≤ r.length := by simp only [List.length_cons] at h8; omega
    match r, this with
    | x :: y :: z :: w :: q, _ => exact ⟨x, y, z, w, q, rfl⟩
  obtain ⟨x, y, z, w, q, rfl⟩ := h4
  have hc := pseudo_range (a := s) (b := d) (p := 6) (bytes_setW (i := Int.toNat 16) (v := 0) hb)
  obtain ⟨q0, q1, q2, q3, q4, q5, q6, q7, hr⟩ := eight_bytes hb
  obtain ⟨p0, p1, p2, p3, p4, p5, p6, p7, hr⟩ := eight_bytes hr
  have px := hr x (by simp)
  have py := hr y (by simp)
  have pz := hr z (by simp)
  have pw := hr w (by simp)
  obtain ⟨f0, f1⟩ := hf
  have f0 : c4 = 80 := f0
  have f1 : z * 256 + w = 0 := by rw [← f1]; simp [wordAt, numB]
  have z0 : z = 0 := by omega
  have w0 : w = 0 := by omega
  subst f0 z0 w0
  have hs : setW (a0 :: a1 :: a2 :: a3 :: a4 :: a5 :: a6 :: a7 :: c0 :: c1 :: c2 :: c3 :: 80 :: c5 :: c6 :: c7 :: x :: y :: 0 :: 0 :: q) (Int.toNat 16) 0 = a0 :: a1 :: a2 :: a3 :: a4 :: a5 :: a6 :: a7 :: c0 :: c1 :: c2 :: c3 :: 80 :: c5 :: c6 :: c7 :: 0 :: 0 :: 0 :: 0 :: q := rfl
  have hw : ∀ e : Seg, e = (a0 * 256 + a1, a2 * 256 + a3, (a4 * 256 + a5) * 65536 + (a6 * 256 + a7), (c0 * 256 + c1) * 65536 + (c2 * 256 + c3), c5, c6 * 256 + c7, q) →
      (tcpEnc s d e = (a0 :: a1 :: a2 :: a3 :: a4 :: a5 :: a6 :: a7 :: c0 :: c1 :: c2 :: c3 :: 80 :: c5 :: c6 :: c7 :: x :: y :: 0 :: 0 :: q) ↔ pseudo s d 6 (setW (a0 :: a1 :: a2 :: a3 :: a4 :: a5 :: a6 :: a7 :: c0 :: c1 :: c2 :: c3 :: 80 :: c5 :: c6 :: c7 :: x :: y :: 0 :: 0 :: q) (Int.toNat 16) 0) = x * 256 + y) := by
    rintro e rfl
    have hbody : tcpBody (a0 * 256 + a1, a2 * 256 + a3, (a4 * 256 + a5) * 65536 + (a6 * 256 + a7), (c0 * 256 + c1) * 65536 + (c2 * 256 + c3), c5, c6 * 256 + c7, q) = a0 :: a1 :: a2 :: a3 :: a4 :: a5 :: a6 :: a7 :: c0 :: c1 :: c2 :: c3 :: 80 :: c5 :: c6 :: c7 :: 0 :: 0 :: 0 :: 0 :: q := by
      unfold tcpBody
      simp only [w2_pair q0.1 q0.2 q1.1 q1.2, w2_pair q2.1 q2.2 q3.1 q3.2, w4_quad q4 q5 q6 q7, w4_quad p0 p1 p2 p3, w2_pair p6.1 p6.2 p7.1 p7.2]; rfl
    have hok : tcpOK (a0 * 256 + a1, a2 * 256 + a3, (a4 * 256 + a5) * 65536 + (a6 * 256 + a7), (c0 * 256 + c1) * 65536 + (c2 * 256 + c3), c5, c6 * 256 + c7, q) := by
      refine ⟨(word16_iff _).2 ?_, (word16_iff _).2 ?_, ?_, ?_, ?_, (word16_iff _).2 ?_⟩ <;> simp only <;> omega
    obtain ⟨k1, k2⟩ := tcp_ok (a := s) (b := d) hok
    have hl2 : ¬ (1480 : Int) < ((20 + q.length : Nat) : Int) := by simp only [List.length_cons] at hl; omega
    rw [tcp_len, if_neg hl2, hbody] at k1
    rw [k1]
    rw [hs] at hc ⊢
    generalize pseudo s d 6 (a0 :: a1 :: a2 :: a3 :: a4 :: a5 :: a6 :: a7 :: c0 :: c1 :: c2 :: c3 :: 80 :: c5 :: c6 :: c7 :: 0 :: 0 :: 0 :: 0 :: q) = c at hc
    rw [← split_c hc.1 hc.2 px.1 px.2 py.1 py.2]
    constructor
    · intro h
      have e1 := congrArg (fun l => l.getD 16 0) h
      have e2 := congrArg (fun l => l.getD 17 0) h
      exact ⟨e1, e2⟩
    · rintro ⟨h1, h2⟩
      show a0 :: a1 :: a2 :: a3 :: a4 :: a5 :: a6 :: a7 :: c0 :: c1 :: c2 :: c3 :: 80 :: c5 :: c6 :: c7 :: (c / 256 % 256) :: (c % 256) :: 0 :: 0 :: q = _
      rw [h1, h2]
  have hx : wordAt (a0 :: a1 :: a2 :: a3 :: a4 :: a5 :: a6 :: a7 :: c0 :: c1 :: c2 :: c3 :: 80 :: c5 :: c6 :: c7 :: x :: y :: 0 :: 0 :: q) (Int.toNat 16) = x * 256 + y := by simp [wordAt, numB]
  rw [hx]
  apply hw
  generalize hB : (a0 :: a1 :: a2 :: a3 :: a4 :: a5 :: a6 :: a7 :: c0 :: c1 :: c2 :: c3 :: 80 :: c5 :: c6 :: c7 :: x :: y :: 0 :: 0 :: q) = B
  have i0 : wordAt B 0 = a0 * 256 + a1 := by rw [← hB]; exact wordAt0 _ _ _
  have i2 : wordAt B 2 = a2 * 256 + a3 := by rw [← hB]; exact wordAt0 _ _ _
  have i4 : wordAt B 4 = a4 * 256 + a5 := by rw [← hB]; exact wordAt0 _ _ _
  have i6 : wordAt B 6 = a6 * 256 + a7 := by rw [← hB]; exact wordAt0 _ _ _
  have i8 : wordAt B 8 = c0 * 256 + c1 := by rw [← hB]; exact wordAt0 _ _ _
  have i10 : wordAt B 10 = c2 * 256 + c3 := by rw [← hB]; exact wordAt0 _ _ _
  have i14 : wordAt B 14 = c6 * 256 + c7 := by rw [← hB]; exact wordAt0 _ _ _
  have i13 : B.getD (Int.toNat 13) default = c5 := by rw [← hB]; rfl
  have i20 : B.drop (Int.toNat 20) = q := by rw [← hB]; rfl
  rw [i0, i2, i4, i6, i8, i10, i14, i13, i20]
theorem or16 {n x : Int} (h0 : 0 ≤ n) (h1 : n ≤ 65535) (h2 : 0 ≤ x) (h3 : x ≤ 65535) : bits .or .i64 (shlI .i64 n 16) x = n * 65536 + x := by
  have e : shlI .i64 n 16 = n * 65536 := by
    show IntKind.i64.wrap (n * 2 ^ (min 16 64)) = _
    rw [w64 (by simp; omega) (by simp; omega)]; rfl
  rw [e]
  obtain ⟨m, rfl⟩ := Int.eq_ofNat_of_zero_le h0
  obtain ⟨y, rfl⟩ := Int.eq_ofNat_of_zero_le h2
  have := i64_or_nat (m * 65536) y (by omega) (by omega)
  rw [nat_join 16 (m * 65536) y (by omega) (by omega), show ((m * 65536 : Nat) : Int) = (m : Int) * 65536 from by omega, show ((m * 65536 + y : Nat) : Int) = (m : Int) * 65536 + (y : Int) from by omega] at this
  exact this
def ct_transport_DecodeEcho : Ct := ⟨[.val (.sl cU8)], [.agg cEcho, .val cI], fun d => [(d.1.length : Int) ≤ 1000000], fun d => ((unEcho d.1, unEchoErr d.1, ()), ())⟩
def an_transport_DecodeEcho : PDs ct_transport_DecodeEcho.ps → Anns := (fun _ => {})
theorem vc_transport_DecodeEcho :
    ∀ (x : List Int), (List.length x ≤ maxLen ∧ ∀ (x_1 : Int), x_1 ∈ x → (0 : Int) ≤ x_1 ∧ x_1 ≤ (255 : Int)) ∧ True → (↑(List.length x) : Int) ≤ (1000000 : Int) → ifP (decide ((↑(List.length x) : Int) <
     (8 : Int))) ((false, (0 : Int), (0 : Int), ([] : List Int)) = unEcho x ∧ (3 : Int) = unEchoErr x) ((0 : Int) ≤ (0 : Int) ∧ (0 : Int) < (↑(List.length x) : Int) ∧ ∀ (b : Bool), b = !decide (List.getD x
     (Int.toNat (0 : Int)) default = (8 : Int)) → (b = true → (b = true → b = true) ∧ (0 : Int) ≤ (0 : Int) ∧ (0 : Int) < (↑(List.length x) : Int) ∧ True) ∧ (b = true → (b = true → b = true) ∧ True) ∧ (b =
     true → (b = true → b = true) ∧ True) ∧ (b = true → b = true) ∧ ∀ (b_1 : Bool), (b_1 = bif b then !decide (List.getD x (Int.toNat (0 : Int)) default = (0 : Int)) else false) → ((!b_1) = true → ((!b_1)
     = true → (!b_1) = true) ∧ (0 : Int) ≤ (1 : Int) ∧ (1 : Int) < (↑(List.length x) : Int) ∧ True) ∧ ((!b_1) = true → ((!b_1) = true → (!b_1) = true) ∧ True) ∧ ((!b_1) = true → ((!b_1) = true → (!b_1) =
     true) ∧ True) ∧ (b_1 = false → (!b_1) = true) ∧ ifP (bif b_1 then true else !decide (List.getD x (Int.toNat (1 : Int)) default = (0 : Int))) ((false, (0 : Int), (0 : Int), ([] : List Int)) = unEcho x
     ∧ (2 : Int) = unEchoErr x) (ifP (decide ((1480 : Int) < (↑(List.length x) : Int))) ((false, (0 : Int), (0 : Int), ([] : List Int)) = unEcho x ∧ (5 : Int) = unEchoErr x) ((0 : Int) ≤ (2 : Int) ∧ (2 :
     Int) + (2 : Int) ≤ (↑(List.length x) : Int) ∧ (↑(List.length x) : Int) ≤ (1099511627776 : Int) ∧ ∀ (x_1 : List Int) (x_2 : Int), x_1 = setW x (Int.toNat (2 : Int)) (0 : Int) ∧ x_2 = wordAt x
     (Int.toNat (2 : Int)) → (↑(List.length x_1) : Int) ≤ (1099511627776 : Int) ∧ ∀ (x_3 : Int), x_3 = (65535 : Int) - oc (sumF true x_1) → ifP (!decide (x_3 = x_2)) ((false, (0 : Int), (0 : Int), ([] :
     List Int)) = unEcho x ∧ (4 : Int) = unEchoErr x) ((0 : Int) ≤ (0 : Int) ∧ (0 : Int) < (↑(List.length x) : Int) ∧ (0 : Int) ≤ (4 : Int) ∧ (4 : Int) + (2 : Int) ≤ (↑(List.length x) : Int) ∧
     (↑(List.length x) : Int) ≤ (1099511627776 : Int) ∧ (0 : Int) ≤ (6 : Int) ∧ (6 : Int) + (2 : Int) ≤ (↑(List.length x) : Int) ∧ (↑(List.length x) : Int) ≤ (1099511627776 : Int) ∧ (0 : Int) ≤ (8 : Int) ∧
     (8 : Int) ≤ (↑(List.length x) : Int) ∧ (↑(List.length x) : Int) ≤ (↑(List.length x) : Int) ∧ (↑(List.length (subL x (Int.toNat (8 : Int)) (Int.toNat (↑(List.length x) : Int)))) : Int) ≤ (1099511627776
     : Int) ∧ ∀ (x_4 : List Int), x_4 = subL x (Int.toNat (8 : Int)) (Int.toNat (↑(List.length x) : Int)) → (decide (List.getD x (Int.toNat (0 : Int)) default = (0 : Int)), wordAt x (Int.toNat (4 : Int)),
     wordAt x (Int.toNat (6 : Int)), x_4) = unEcho x ∧ (0 : Int) = unEchoErr x)))) := by
  rintro b ⟨⟨-, hb⟩, -⟩ hl
  refine ifP_split (fun h => ?_) (fun h8 => ?_)
  · exact unEcho_err (by rw [unEchoErr, if_pos (of_decide_eq_true h)]) (by decide)
  have h8 := of_decide_eq_false h8
  refine ⟨by omega, by omega, ?_⟩
  (repeat (intro (b_ : Bool) (hb_ : b_ = _); (repeat refine ⟨(by first | (simp; done) | (rw [hb_]; simp; done) | (rw [hb_]; simp; omega) | (rw [hb_]; simp; intros; omega) | (rw [hb_]; simp +contextual; done)), ?_⟩); subst hb_))
  refine ifP_split (fun h => ?_) (fun hf => ?_)
  · refine unEcho_err (by rw [unEchoErr, if_neg h8, if_pos]; rintro ⟨f0, f1⟩; rw [decide_eq_true f1] at h; rcases f0 with f0 | f0 <;> rw [f0] at h <;> simp at h) (by decide)
  have hf : echoForm b := by
    unfold echoForm
    by_cases k1 : b.getD (Int.toNat 1) default = 0
    · by_cases k2 : b.getD (Int.toNat 0) default = 8
      · exact ⟨.inl k2, k1⟩
      · by_cases k3 : b.getD (Int.toNat 0) default = 0
        · exact ⟨.inr k3, k1⟩
        · rw [decide_eq_false k2, decide_eq_false k3] at hf; simp at hf
    · rw [decide_eq_false k1] at hf; simp [Bool.cond_eq_ite] at hf
  refine ifP_split (fun h => ?_) (fun h5 => ?_)
  · exact unEcho_err (by rw [unEchoErr, if_neg h8, if_neg (fun k => k hf), if_pos (of_decide_eq_true h)]) (by decide)
  have h5 := of_decide_eq_false h5
  refine ⟨by omega, by omega, by omega, ?_⟩
  rintro x w ⟨rfl, rfl⟩
  refine ⟨by simp [setW]; omega, ?_⟩
  rintro c rfl
  refine ifP_split (fun h => ?_) (fun h => ?_)
  · refine unEcho_err (by rw [unEchoErr, if_neg h8, if_neg (fun k => k hf), if_neg h5, if_pos]; intro k; rw [csum] at k; rw [decide_eq_true k] at h; cases h) (by decide)
  have h0 : unEchoErr b = 0 := by
    rw [unEchoErr, if_neg h8, if_neg (fun k => k hf), if_neg h5, if_neg]
    intro k; rw [csum] at k; rw [decide_eq_false k] at h; cases h
  refine ⟨by omega, by omega, by omega, by omega, by omega, by omega, by omega, by omega, by omega, by omega, by omega, by rw [sub_drop, List.length_drop]; omega, ?_⟩
  rintro y rfl
  rw [unEcho, if_pos h0, h0, sub_drop]; exact ⟨rfl, rfl⟩
theorem ok_transport_DecodeEcho : SpecOK Tryz.prog GL 91 ct_transport_DecodeEcho.spec := Ct.ok' _ Tryz.func91 (by kernel_rfl) (withSpec_ok (withSpec_ok (withSpec_ok (withSpec_ok noSpecs_ok (Ct.named ok_transport_bare)) (Ct.named ok_wire_Checksum)) ok_transport_word) (Ct.named ok_slices_Clone_b979)) hmix an_transport_DecodeEcho (Eq.mpr (by kernel_rfl) vc_transport_DecodeEcho)

def ct_ref06_DecodeEcho : Ct := ⟨[.val (.sl cU8)], [.agg cEcho, .val cI], fun d => [(d.1.length : Int) ≤ 1000000], fun d => ((unEcho d.1, unEchoErr d.1, ()), ())⟩
def an_ref06_DecodeEcho : PDs ct_ref06_DecodeEcho.ps → Anns := (fun _ => {})
theorem vc_ref06_DecodeEcho :
    ∀ (x : List Int), (List.length x ≤ maxLen ∧ ∀ (x_1 : Int), x_1 ∈ x → (0 : Int) ≤ x_1 ∧ x_1 ≤ (255 : Int)) ∧ True → (↑(List.length x) : Int) ≤ (1000000 : Int) → ifP (decide ((↑(List.length x) : Int) <
     (8 : Int))) ((false, (0 : Int), (0 : Int), ([] : List Int)) = unEcho x ∧ (3 : Int) = unEchoErr x) ((0 : Int) ≤ (0 : Int) ∧ (0 : Int) < (↑(List.length x) : Int) ∧ ∀ (b : Bool), b = !decide (List.getD x
     (Int.toNat (0 : Int)) default = (8 : Int)) → (b = true → (b = true → b = true) ∧ (0 : Int) ≤ (0 : Int) ∧ (0 : Int) < (↑(List.length x) : Int) ∧ True) ∧ (b = true → (b = true → b = true) ∧ True) ∧ (b =
     true → (b = true → b = true) ∧ True) ∧ (b = true → b = true) ∧ ∀ (b_1 : Bool), (b_1 = bif b then !decide (List.getD x (Int.toNat (0 : Int)) default = (0 : Int)) else false) → ((!b_1) = true → ((!b_1)
     = true → (!b_1) = true) ∧ (0 : Int) ≤ (1 : Int) ∧ (1 : Int) < (↑(List.length x) : Int) ∧ True) ∧ ((!b_1) = true → ((!b_1) = true → (!b_1) = true) ∧ True) ∧ ((!b_1) = true → ((!b_1) = true → (!b_1) =
     true) ∧ True) ∧ (b_1 = false → (!b_1) = true) ∧ ifP (bif b_1 then true else !decide (List.getD x (Int.toNat (1 : Int)) default = (0 : Int))) ((false, (0 : Int), (0 : Int), ([] : List Int)) = unEcho x
     ∧ (2 : Int) = unEchoErr x) (ifP (decide ((1480 : Int) < (↑(List.length x) : Int))) ((false, (0 : Int), (0 : Int), ([] : List Int)) = unEcho x ∧ (5 : Int) = unEchoErr x) ((0 : Int) ≤ (0 : Int) ∧ (0 :
     Int) < (↑(List.length x) : Int) ∧ (↑(List.length x) : Int) ≤ (1099511627776 : Int) ∧ (↑(List.length x) : Int) ≤ (1099511627776 : Int) ∧ (0 : Int) ≤ (8 : Int) ∧ (8 : Int) ≤ (↑(List.length x) : Int) ∧
     (↑(List.length x) : Int) ≤ (↑(List.length x) : Int) ∧ List.length (subL x (Int.toNat (8 : Int)) (Int.toNat (↑(List.length x) : Int))) * (1 : Nat) ≤ (140737488355328 : Nat) ∧ (↑(List.length (subL x
     (Int.toNat (8 : Int)) (Int.toNat (↑(List.length x) : Int)))) : Int) ≤ (1073741824 : Int) ∧ ∀ (x_1 : List Int) (x_2 : Int), x_1 = echoEnc (decide (List.getD x (Int.toNat (0 : Int)) default = (0 :
     Int)), getV x (4 : Int) (2 : Int), getV x (6 : Int) (2 : Int), subL x (Int.toNat (8 : Int)) (Int.toNat (↑(List.length x) : Int))) ∧ x_2 = echoErr (decide (List.getD x (Int.toNat (0 : Int)) default =
     (0 : Int)), getV x (4 : Int) (2 : Int), getV x (6 : Int) (2 : Int), subL x (Int.toNat (8 : Int)) (Int.toNat (↑(List.length x) : Int))) → ifP (!decide (x_1 = x)) ((false, (0 : Int), (0 : Int), ([] :
     List Int)) = unEcho x ∧ (4 : Int) = unEchoErr x) ((decide (List.getD x (Int.toNat (0 : Int)) default = (0 : Int)), getV x (4 : Int) (2 : Int), getV x (6 : Int) (2 : Int), subL x (Int.toNat (8 : Int))
     (Int.toNat (↑(List.length x) : Int))) = unEcho x ∧ (0 : Int) = unEchoErr x)))) := by
  rintro b ⟨⟨-, hb⟩, -⟩ hl
  refine ifP_split (fun h => ?_) (fun h8 => ?_)
  · exact unEcho_err (by rw [unEchoErr, if_pos (of_decide_eq_true h)]) (by decide)
  have h8 := of_decide_eq_false h8
  refine ⟨by omega, by omega, ?_⟩
  (repeat (intro (b_ : Bool) (hb_ : b_ = _); (repeat refine ⟨(by first | (simp; done) | (rw [hb_]; simp; done) | (rw [hb_]; simp; omega) | (rw [hb_]; simp; intros; omega) | (rw [hb_]; simp +contextual; done)), ?_⟩); subst hb_))
  refine ifP_split (fun h => ?_) (fun hf => ?_)
  · refine unEcho_err (by rw [unEchoErr, if_neg h8, if_pos]; rintro ⟨f0, f1⟩; rw [decide_eq_true f1] at h; rcases f0 with f0 | f0 <;> rw [f0] at h <;> simp at h) (by decide)
  have hf : echoForm b := by
    unfold echoForm
    by_cases k1 : b.getD (Int.toNat 1) default = 0
    · by_cases k2 : b.getD (Int.toNat 0) default = 8
      · exact ⟨.inl k2, k1⟩
      · by_cases k3 : b.getD (Int.toNat 0) default = 0
        · exact ⟨.inr k3, k1⟩
        · rw [decide_eq_false k2, decide_eq_false k3] at hf; simp at hf
    · rw [decide_eq_false k1] at hf; simp [Bool.cond_eq_ite] at hf
  refine ifP_split (fun h => ?_) (fun h5 => ?_)
  · exact unEcho_err (by rw [unEchoErr, if_neg h8, if_neg (fun k => k hf), if_pos (of_decide_eq_true h)]) (by decide)
  have h5 := of_decide_eq_false h5
  rw [sub_drop]
  repeat refine ⟨by omega, ?_⟩
  refine ⟨by rw [List.length_drop]; omega, by rw [List.length_drop]; omega, ?_⟩
  rintro x e ⟨rfl, rfl⟩
  have hre := re_echo hb h8 h5 hf
  refine ifP_split (fun h => ?_) (fun h => ?_)
  · refine unEcho_err (by rw [unEchoErr, if_neg h8, if_neg (fun k => k hf), if_neg h5, if_pos]; intro k; rw [decide_eq_true (hre.2 k)] at h; cases h) (by decide)
  have h0 : unEchoErr b = 0 := by
    rw [unEchoErr, if_neg h8, if_neg (fun k => k hf), if_neg h5, if_neg]
    intro k; rw [decide_eq_false (fun q => k (hre.1 q))] at h; cases h
  have e4 := getV2 b 4 (by omega) (by omega)
  have e6 := getV2 b 6 (by omega) (by omega)
  rw [show ((4 : Nat) : Int) = 4 from rfl] at e4
  rw [show ((6 : Nat) : Int) = 6 from rfl] at e6
  rw [unEcho, if_pos h0, h0, e4, e6]; exact ⟨rfl, rfl⟩
theorem ok_ref06_DecodeEcho : SpecOK Tryz.prog GL 71 ct_ref06_DecodeEcho.spec := Ct.ok' _ Tryz.func71 (by kernel_rfl) (withSpec_ok (withSpec_ok (withSpec_ok noSpecs_ok ok_ref04_At) (Ct.named ok_ref06_EncodeEcho)) ok_ref04_Equal) hmix an_ref06_DecodeEcho (Eq.mpr (by kernel_rfl) vc_ref06_DecodeEcho)
theorem form_b (p q r s : Prop) [Decidable p] [Decidable q] [Decidable r] [Decidable s] : (bif (bif (bif !decide p then !decide q else false) then true else !decide r) then true else !decide s) = !decide ((p ∨ q) ∧ r ∧ s) := by
  by_cases p <;> by_cases q <;> by_cases r <;> by_cases s <;> simp [*]
theorem wordAt_get {b : List Int} {k : Nat} (h : k + 2 ≤ b.length) : wordAt b k = b.getD k default * 256 + b.getD (k + 1) default := by
  have h0 : k < b.length := by omega
  have h1 : k + 1 < b.length := by omega
  have e : b.drop k = b[k] :: b[k + 1] :: b.drop (k + 1 + 1) := by rw [List.drop_eq_getElem_cons h0, List.drop_eq_getElem_cons h1]
  unfold wordAt
  rw [e, List.getD_eq_getElem?_getD, List.getD_eq_getElem?_getD, List.getElem?_eq_getElem h0, List.getElem?_eq_getElem h1]
  generalize b.drop (k + 1 + 1) = r
  generalize b[k] = u
  generalize b[k + 1] = v
  simp [numB]
theorem form_c (p q r : Prop) [Decidable p] [Decidable q] [Decidable r] : (bif (bif !decide p then !decide q else false) then true else !decide r) = !decide ((p ∨ q) ∧ r) := by
  by_cases p <;> by_cases q <;> by_cases r <;> simp [*]
theorem form_d (p r : Prop) [Decidable p] [Decidable r] : (bif !decide p then true else !decide r) = !decide (p ∧ r) := by
  by_cases p <;> by_cases r <;> simp [*]
theorem form_e (p r s : Prop) [Decidable p] [Decidable r] [Decidable s] : (bif (bif !decide p then true else !decide r) then true else !decide s) = !decide (p ∧ r ∧ s) := by
  by_cases p <;> by_cases r <;> by_cases s <;> simp [*]
def ct_transport_DecodeNotice : Ct := ⟨[.val (.sl cU8)], [.agg cNotice, .val cI], fun d => [(d.1.length : Int) ≤ 1000000], fun d => ((unNotice d.1, unNoticeErr d.1, ()), ())⟩
def an_transport_DecodeNotice : PDs ct_transport_DecodeNotice.ps → Anns := (fun _ => {})
theorem vc_transport_DecodeNotice :
    ∀ (x : List Int), (List.length x ≤ maxLen ∧ ∀ (x_1 : Int), x_1 ∈ x → (0 : Int) ≤ x_1 ∧ x_1 ≤ (255 : Int)) ∧ True → (↑(List.length x) : Int) ≤ (1000000 : Int) → ifP (decide ((↑(List.length x) : Int) <
     (36 : Int))) (((0 : Int), (0 : Int), ([] : List Int)) = unNotice x ∧ (3 : Int) = unNoticeErr x) ((0 : Int) ≤ (0 : Int) ∧ (0 : Int) < (↑(List.length x) : Int) ∧ ∀ (b : Bool), b = !decide (List.getD x
     (Int.toNat (0 : Int)) default = (3 : Int)) → (b = true → (b = true → b = true) ∧ (0 : Int) ≤ (0 : Int) ∧ (0 : Int) < (↑(List.length x) : Int) ∧ True) ∧ (b = true → (b = true → b = true) ∧ True) ∧ (b =
     true → (b = true → b = true) ∧ True) ∧ (b = true → b = true) ∧ ∀ (b_1 : Bool), (b_1 = bif b then !decide (List.getD x (Int.toNat (0 : Int)) default = (11 : Int)) else false) → ((!b_1) = true → ((!b_1)
     = true → (!b_1) = true) ∧ (0 : Int) ≤ (4 : Int) ∧ (4 : Int) + (2 : Int) ≤ (↑(List.length x) : Int) ∧ (↑(List.length x) : Int) ≤ (1099511627776 : Int) ∧ True) ∧ ((!b_1) = true → ((!b_1) = true → (!b_1)
     = true) ∧ True) ∧ (b_1 = false → (!b_1) = true) ∧ ∀ (b : Bool), (b = bif b_1 then true else !decide (wordAt x (Int.toNat (4 : Int)) = (0 : Int))) → ((!b) = true → ((!b) = true → (!b) = true) ∧ (0 :
     Int) ≤ (6 : Int) ∧ (6 : Int) + (2 : Int) ≤ (↑(List.length x) : Int) ∧ (↑(List.length x) : Int) ≤ (1099511627776 : Int) ∧ True) ∧ ((!b) = true → ((!b) = true → (!b) = true) ∧ True) ∧ (b = false → (!b)
     = true) ∧ ifP (bif b then true else !decide (wordAt x (Int.toNat (6 : Int)) = (0 : Int))) (((0 : Int), (0 : Int), ([] : List Int)) = unNotice x ∧ (2 : Int) = unNoticeErr x) (ifP (decide ((1480 : Int)
     < (↑(List.length x) : Int))) (((0 : Int), (0 : Int), ([] : List Int)) = unNotice x ∧ (5 : Int) = unNoticeErr x) ((0 : Int) ≤ (2 : Int) ∧ (2 : Int) + (2 : Int) ≤ (↑(List.length x) : Int) ∧
     (↑(List.length x) : Int) ≤ (1099511627776 : Int) ∧ ∀ (x_1 : List Int) (x_2 : Int), x_1 = setW x (Int.toNat (2 : Int)) (0 : Int) ∧ x_2 = wordAt x (Int.toNat (2 : Int)) → (↑(List.length x_1) : Int) ≤
     (1099511627776 : Int) ∧ ∀ (x_3 : Int), x_3 = (65535 : Int) - oc (sumF true x_1) → ifP (!decide (x_3 = x_2)) (((0 : Int), (0 : Int), ([] : List Int)) = unNotice x ∧ (4 : Int) = unNoticeErr x) ((0 :
     Int) ≤ (0 : Int) ∧ (0 : Int) < (↑(List.length x) : Int) ∧ (0 : Int) ≤ (1 : Int) ∧ (1 : Int) < (↑(List.length x) : Int) ∧ (0 : Int) ≤ (8 : Int) ∧ (8 : Int) ≤ (↑(List.length x) : Int) ∧ (↑(List.length
     x) : Int) ≤ (↑(List.length x) : Int) ∧ (↑(List.length (subL x (Int.toNat (8 : Int)) (Int.toNat (↑(List.length x) : Int)))) : Int) ≤ (1099511627776 : Int) ∧ ∀ (x_4 : List Int), x_4 = subL x (Int.toNat
     (8 : Int)) (Int.toNat (↑(List.length x) : Int)) → (IntKind.wrap IntKind.i64 (List.getD x (Int.toNat (0 : Int)) default), IntKind.wrap IntKind.i64 (List.getD x (Int.toNat (1 : Int)) default), x_4) =
     unNotice x ∧ (0 : Int) = unNoticeErr x)))) := by
  rintro b ⟨⟨-, hb⟩, -⟩ hl
  refine ifP_split (fun h => ?_) (fun h8 => ?_)
  · exact unNotice_err (by rw [unNoticeErr, if_pos (of_decide_eq_true h)]) (by decide)
  have h8 := of_decide_eq_false h8
  refine ⟨by omega, by omega, ?_⟩
  (repeat (intro (b_ : Bool) (hb_ : b_ = _); (repeat refine ⟨(by first | (simp; done) | (rw [hb_]; simp; done) | (rw [hb_]; simp; omega) | (rw [hb_]; simp; intros; omega) | (rw [hb_]; simp +contextual; done)), ?_⟩); subst hb_))
  have hall : (bif (bif (bif !decide (b.getD (Int.toNat 0) default = 3) then !decide (b.getD (Int.toNat 0) default = 11) else false) then true else !decide (wordAt b (Int.toNat 4) = 0)) then true else !decide (wordAt b (Int.toNat 6) = 0)) = !decide (noticeForm b) := (form_b _ _ _ _).trans (congrArg (fun x => !x) (decide_eq_decide.2 Iff.rfl))
  rw [hall]
  refine ifP_split (fun h => ?_) (fun hf => ?_)
  · exact unNotice_err (by rw [unNoticeErr, if_neg h8, if_pos]; simpa using h) (by decide)
  have hf : noticeForm b := by simpa using hf

  refine ifP_split (fun h => ?_) (fun h5 => ?_)
  · exact unNotice_err (by rw [unNoticeErr, if_neg h8, if_neg (fun k => k hf), if_pos (of_decide_eq_true h)]) (by decide)
  have h5 := of_decide_eq_false h5
  refine ⟨by omega, by omega, by omega, ?_⟩
  rintro x w ⟨rfl, rfl⟩
  refine ⟨by rw [setW_len]; omega, ?_⟩
  rintro c rfl
  refine ifP_split (fun h => ?_) (fun h => ?_)
  · refine unNotice_err (by rw [unNoticeErr, if_neg h8, if_neg (fun k => k hf), if_neg h5, if_pos]; intro k; rw [csum] at k; rw [decide_eq_true k] at h; cases h) (by decide)
  have h0 : unNoticeErr b = 0 := by
    rw [unNoticeErr, if_neg h8, if_neg (fun k => k hf), if_neg h5, if_neg]
    intro k; rw [csum] at k; rw [decide_eq_false k] at h; cases h
  rw [sub_drop]
  repeat refine ⟨by omega, ?_⟩
  refine ⟨by rw [List.length_drop]; omega, ?_⟩
  rintro y rfl
  have g0 := hb _ (getD_mem (xs := b) (i := 0) (by omega) (by omega))
  have g1 := hb _ (getD_mem (xs := b) (i := 1) (by omega) (by omega))
  rw [unNotice, if_pos h0, h0, w64 (by omega) (by omega), w64 (by omega) (by omega)]; exact ⟨rfl, rfl⟩
theorem ok_transport_DecodeNotice : SpecOK Tryz.prog GL 93 ct_transport_DecodeNotice.spec := Ct.ok' _ Tryz.func93 (by kernel_rfl) (withSpec_ok (withSpec_ok (withSpec_ok (withSpec_ok noSpecs_ok (Ct.named ok_transport_bare)) (Ct.named ok_wire_Checksum)) ok_transport_word) (Ct.named ok_slices_Clone_b979)) hmix an_transport_DecodeNotice (Eq.mpr (by kernel_rfl) vc_transport_DecodeNotice)



def ct_ref06_DecodeUDP : Ct := ⟨[.val cU32, .val cU32, .val (.sl cU8)], [.agg cDgram, .val cI], fun d => [(d.2.2.1.length : Int) ≤ 1000000], fun d => ((unUDP d.1 d.2.1 d.2.2.1, unUDPErr d.1 d.2.1 d.2.2.1, ()), ())⟩
def an_ref06_DecodeUDP : PDs ct_ref06_DecodeUDP.ps → Anns := (fun _ => {})
theorem vc_ref06_DecodeUDP :
    ∀ (x x_1 : Int) (x_2 : List Int), ((0 : Int) ≤ x ∧ x ≤ (4294967295 : Int)) ∧ ((0 : Int) ≤ x_1 ∧ x_1 ≤ (4294967295 : Int)) ∧ (List.length x_2 ≤ maxLen ∧ ∀ (x : Int), x ∈ x_2 → (0 : Int) ≤ x ∧ x ≤ (255
     : Int)) ∧ True → (↑(List.length x_2) : Int) ≤ (1000000 : Int) → ifP (decide ((↑(List.length x_2) : Int) < (8 : Int))) (((0 : Int), (0 : Int), ([] : List Int)) = unUDP x x_1 x_2 ∧ (3 : Int) = unUDPErr
     x x_1 x_2) ((↑(List.length x_2) : Int) ≤ (1099511627776 : Int) ∧ ifP (!decide (getV x_2 (4 : Int) (2 : Int) = (↑(List.length x_2) : Int))) (((0 : Int), (0 : Int), ([] : List Int)) = unUDP x x_1 x_2 ∧
     (2 : Int) = unUDPErr x x_1 x_2) (ifP (decide ((1480 : Int) < (↑(List.length x_2) : Int))) (((0 : Int), (0 : Int), ([] : List Int)) = unUDP x x_1 x_2 ∧ (5 : Int) = unUDPErr x x_1 x_2) ((↑(List.length
     x_2) : Int) ≤ (1099511627776 : Int) ∧ (↑(List.length x_2) : Int) ≤ (1099511627776 : Int) ∧ (0 : Int) ≤ (8 : Int) ∧ (8 : Int) ≤ (↑(List.length x_2) : Int) ∧ (↑(List.length x_2) : Int) ≤ (↑(List.length
     x_2) : Int) ∧ List.length (subL x_2 (Int.toNat (8 : Int)) (Int.toNat (↑(List.length x_2) : Int))) * (1 : Nat) ≤ (140737488355328 : Nat) ∧ (↑(List.length (subL x_2 (Int.toNat (8 : Int)) (Int.toNat
     (↑(List.length x_2) : Int)))) : Int) ≤ (1073741824 : Int) ∧ ∀ (x_3 : List Int) (x_4 : Int), x_3 = udpEnc x x_1 (getV x_2 (0 : Int) (2 : Int), getV x_2 (2 : Int) (2 : Int), subL x_2 (Int.toNat (8 :
     Int)) (Int.toNat (↑(List.length x_2) : Int))) ∧ x_4 = udpErr (getV x_2 (0 : Int) (2 : Int), getV x_2 (2 : Int) (2 : Int), subL x_2 (Int.toNat (8 : Int)) (Int.toNat (↑(List.length x_2) : Int))) → ifP
     (!decide (x_3 = x_2)) (((0 : Int), (0 : Int), ([] : List Int)) = unUDP x x_1 x_2 ∧ (4 : Int) = unUDPErr x x_1 x_2) ((getV x_2 (0 : Int) (2 : Int), getV x_2 (2 : Int) (2 : Int), subL x_2 (Int.toNat (8
     : Int)) (Int.toNat (↑(List.length x_2) : Int))) = unUDP x x_1 x_2 ∧ (0 : Int) = unUDPErr x x_1 x_2)))) := by
  rintro s d b ⟨-, -, ⟨-, hb⟩, -⟩ hl
  refine ifP_split (fun h => ?_) (fun h8 => ?_)
  · exact unUDP_err (by rw [unUDPErr, if_pos (of_decide_eq_true h)]) (by decide)
  have h8 := of_decide_eq_false h8
  have e4 := getV2 b 4 (by omega) (by omega)
  have e0 := getV2 b 0 (by omega) (by omega)
  have e2 := getV2 b 2 (by omega) (by omega)
  rw [show ((4 : Nat) : Int) = 4 from rfl] at e4
  rw [show ((0 : Nat) : Int) = 0 from rfl] at e0
  rw [show ((2 : Nat) : Int) = 2 from rfl] at e2
  repeat refine ⟨by omega, ?_⟩
  rw [e4]
  refine ifP_split (fun h => ?_) (fun hf => ?_)
  · exact unUDP_err (by rw [unUDPErr, if_neg h8, if_pos]; simpa using h) (by decide)
  have hf : wordAt b (Int.toNat 4) = b.length := by simpa using hf

  refine ifP_split (fun h => ?_) (fun h5 => ?_)
  · exact unUDP_err (by rw [unUDPErr, if_neg h8, if_neg (fun k => k hf), if_pos (of_decide_eq_true h)]) (by decide)
  have h5 := of_decide_eq_false h5
  rw [sub_drop]
  repeat refine ⟨by omega, ?_⟩
  refine ⟨by rw [List.length_drop]; omega, by rw [List.length_drop]; omega, ?_⟩
  rintro x e ⟨rfl, rfl⟩
  have hre := re_udp (s := s) (d := d) hb h8 h5 hf
  refine ifP_split (fun h => ?_) (fun h => ?_)
  · refine unUDP_err (by rw [unUDPErr, if_neg h8, if_neg (fun k => k hf), if_neg h5, if_pos]; intro k; rw [decide_eq_true (hre.2 k)] at h; cases h) (by decide)
  have h0 : unUDPErr s d b = 0 := by
    rw [unUDPErr, if_neg h8, if_neg (fun k => k hf), if_neg h5, if_neg]
    intro k; rw [decide_eq_false (fun q => k (hre.1 q))] at h; cases h
  rw [unUDP, if_pos h0, h0, e0, e2]; exact ⟨rfl, rfl⟩
theorem ok_ref06_DecodeUDP : SpecOK Tryz.prog GL 78 ct_ref06_DecodeUDP.spec := Ct.ok' _ Tryz.func78 (by kernel_rfl) (withSpec_ok (withSpec_ok (withSpec_ok noSpecs_ok ok_ref04_At) (Ct.named ok_ref06_EncodeUDP)) ok_ref04_Equal) hmix an_ref06_DecodeUDP (Eq.mpr (by kernel_rfl) vc_ref06_DecodeUDP)

def ct_transport_DecodeTCP : Ct := ⟨[.val cU32, .val cU32, .val (.sl cU8)], [.agg cSeg, .val cI], fun d => [(d.2.2.1.length : Int) ≤ 1000000], fun d => ((unTCP d.1 d.2.1 d.2.2.1, unTCPErr d.1 d.2.1 d.2.2.1, ()), ())⟩
def an_transport_DecodeTCP : PDs ct_transport_DecodeTCP.ps → Anns := (fun _ => {})
theorem vc_transport_DecodeTCP :
    ∀ (x x_1 : Int) (x_2 : List Int), ((0 : Int) ≤ x ∧ x ≤ (4294967295 : Int)) ∧ ((0 : Int) ≤ x_1 ∧ x_1 ≤ (4294967295 : Int)) ∧ (List.length x_2 ≤ maxLen ∧ ∀ (x : Int), x ∈ x_2 → (0 : Int) ≤ x ∧ x ≤ (255
     : Int)) ∧ True → (↑(List.length x_2) : Int) ≤ (1000000 : Int) → ifP (decide ((↑(List.length x_2) : Int) < (20 : Int))) (((0 : Int), (0 : Int), (0 : Int), (0 : Int), (0 : Int), (0 : Int), ([] : List
     Int)) = unTCP x x_1 x_2 ∧ (3 : Int) = unTCPErr x x_1 x_2) ((0 : Int) ≤ (12 : Int) ∧ (12 : Int) < (↑(List.length x_2) : Int) ∧ ∀ (b : Bool), b = !decide (List.getD x_2 (Int.toNat (12 : Int)) default =
     (80 : Int)) → ((!b) = true → ((!b) = true → (!b) = true) ∧ (0 : Int) ≤ (18 : Int) ∧ (18 : Int) + (2 : Int) ≤ (↑(List.length x_2) : Int) ∧ (↑(List.length x_2) : Int) ≤ (1099511627776 : Int) ∧ True) ∧
     ((!b) = true → ((!b) = true → (!b) = true) ∧ True) ∧ (b = false → (!b) = true) ∧ ifP (bif b then true else !decide (wordAt x_2 (Int.toNat (18 : Int)) = (0 : Int))) (((0 : Int), (0 : Int), (0 : Int),
     (0 : Int), (0 : Int), (0 : Int), ([] : List Int)) = unTCP x x_1 x_2 ∧ (2 : Int) = unTCPErr x x_1 x_2) (ifP (decide ((1480 : Int) < (↑(List.length x_2) : Int))) (((0 : Int), (0 : Int), (0 : Int), (0 :
     Int), (0 : Int), (0 : Int), ([] : List Int)) = unTCP x x_1 x_2 ∧ (5 : Int) = unTCPErr x x_1 x_2) ((0 : Int) ≤ (16 : Int) ∧ (16 : Int) + (2 : Int) ≤ (↑(List.length x_2) : Int) ∧ (↑(List.length x_2) :
     Int) ≤ (1099511627776 : Int) ∧ ∀ (x_3 : List Int) (x_4 : Int), x_3 = setW x_2 (Int.toNat (16 : Int)) (0 : Int) ∧ x_4 = wordAt x_2 (Int.toNat (16 : Int)) → (↑(List.length x_3) : Int) ≤ (1073741824 :
     Int) ∧ ∀ (x_5 : Int), x_5 = pseudo x x_1 (6 : Int) x_3 → ifP (!decide (x_5 = x_4)) (((0 : Int), (0 : Int), (0 : Int), (0 : Int), (0 : Int), (0 : Int), ([] : List Int)) = unTCP x x_1 x_2 ∧ (4 : Int) =
     unTCPErr x x_1 x_2) ((0 : Int) ≤ (0 : Int) ∧ (0 : Int) + (2 : Int) ≤ (↑(List.length x_2) : Int) ∧ (↑(List.length x_2) : Int) ≤ (1099511627776 : Int) ∧ (0 : Int) ≤ (2 : Int) ∧ (2 : Int) + (2 : Int) ≤
     (↑(List.length x_2) : Int) ∧ (↑(List.length x_2) : Int) ≤ (1099511627776 : Int) ∧ (0 : Int) ≤ (4 : Int) ∧ (4 : Int) + (2 : Int) ≤ (↑(List.length x_2) : Int) ∧ (↑(List.length x_2) : Int) ≤
     (1099511627776 : Int) ∧ (0 : Int) ≤ (16 : Int) ∧ (0 : Int) ≤ (6 : Int) ∧ (6 : Int) + (2 : Int) ≤ (↑(List.length x_2) : Int) ∧ (↑(List.length x_2) : Int) ≤ (1099511627776 : Int) ∧ (0 : Int) ≤ (8 : Int)
     ∧ (8 : Int) + (2 : Int) ≤ (↑(List.length x_2) : Int) ∧ (↑(List.length x_2) : Int) ≤ (1099511627776 : Int) ∧ (0 : Int) ≤ (16 : Int) ∧ (0 : Int) ≤ (10 : Int) ∧ (10 : Int) + (2 : Int) ≤ (↑(List.length
     x_2) : Int) ∧ (↑(List.length x_2) : Int) ≤ (1099511627776 : Int) ∧ (0 : Int) ≤ (13 : Int) ∧ (13 : Int) < (↑(List.length x_2) : Int) ∧ (0 : Int) ≤ (14 : Int) ∧ (14 : Int) + (2 : Int) ≤ (↑(List.length
     x_2) : Int) ∧ (↑(List.length x_2) : Int) ≤ (1099511627776 : Int) ∧ (0 : Int) ≤ (20 : Int) ∧ (20 : Int) ≤ (↑(List.length x_2) : Int) ∧ (↑(List.length x_2) : Int) ≤ (↑(List.length x_2) : Int) ∧
     (↑(List.length (subL x_2 (Int.toNat (20 : Int)) (Int.toNat (↑(List.length x_2) : Int)))) : Int) ≤ (1099511627776 : Int) ∧ ∀ (x_6 : List Int), x_6 = subL x_2 (Int.toNat (20 : Int)) (Int.toNat
     (↑(List.length x_2) : Int)) → (wordAt x_2 (Int.toNat (0 : Int)), wordAt x_2 (Int.toNat (2 : Int)), bits BinOp.or IntKind.i64 (shlI IntKind.i64 (wordAt x_2 (Int.toNat (4 : Int))) (16 : Int)) (wordAt
     x_2 (Int.toNat (6 : Int))), bits BinOp.or IntKind.i64 (shlI IntKind.i64 (wordAt x_2 (Int.toNat (8 : Int))) (16 : Int)) (wordAt x_2 (Int.toNat (10 : Int))), IntKind.wrap IntKind.i64 (List.getD x_2
     (Int.toNat (13 : Int)) default), wordAt x_2 (Int.toNat (14 : Int)), x_6) = unTCP x x_1 x_2 ∧ (0 : Int) = unTCPErr x x_1 x_2)))) := by
  rintro s d b ⟨-, -, ⟨-, hb⟩, -⟩ hl
  refine ifP_split (fun h => ?_) (fun h8 => ?_)
  · exact unTCP_err (by rw [unTCPErr, if_pos (of_decide_eq_true h)]) (by decide)
  have h8 := of_decide_eq_false h8
  refine ⟨by omega, by omega, ?_⟩
  (repeat (intro (b_ : Bool) (hb_ : b_ = _); (repeat refine ⟨(by first | (simp; done) | (rw [hb_]; simp; done) | (rw [hb_]; simp; omega) | (rw [hb_]; simp; intros; omega) | (rw [hb_]; simp +contextual; done)), ?_⟩); subst hb_))
  rw [show (bif !decide (b.getD (Int.toNat 12) default = 80) then true else !decide (wordAt b (Int.toNat 18) = 0)) = !decide (tcpForm b) from (form_d _ _).trans (congrArg (fun x => !x) (decide_eq_decide.2 Iff.rfl))]
  refine ifP_split (fun h => ?_) (fun hf => ?_)
  · exact unTCP_err (by rw [unTCPErr, if_neg h8, if_pos]; simpa using h) (by decide)
  have hf : tcpForm b := by simpa using hf

  refine ifP_split (fun h => ?_) (fun h5 => ?_)
  · exact unTCP_err (by rw [unTCPErr, if_neg h8, if_neg (fun k => k hf), if_pos (of_decide_eq_true h)]) (by decide)
  have h5 := of_decide_eq_false h5
  repeat refine ⟨by omega, ?_⟩
  rintro x w ⟨rfl, rfl⟩
  refine ⟨by rw [setW_len]; omega, ?_⟩
  rintro c rfl
  refine ifP_split (fun h => ?_) (fun h => ?_)
  · exact unTCP_err (by rw [unTCPErr, if_neg h8, if_neg (fun k => k hf), if_neg h5, if_pos]; intro k; rw [decide_eq_true k] at h; cases h) (by decide)
  have h0 : unTCPErr s d b = 0 := by
    rw [unTCPErr, if_neg h8, if_neg (fun k => k hf), if_neg h5, if_neg]
    intro k; rw [decide_eq_false k] at h; cases h
  rw [sub_drop]
  repeat refine ⟨by omega, ?_⟩
  refine ⟨by rw [List.length_drop]; omega, ?_⟩
  rintro y rfl
  have g := hb _ (getD_mem (xs := b) (i := 13) (by omega) (by omega))
  have v4 := wordAt_range (k := Int.toNat 4) hb
  have v6 := wordAt_range (k := Int.toNat 6) hb
  have v8 := wordAt_range (k := Int.toNat 8) hb
  have v10 := wordAt_range (k := Int.toNat 10) hb
  rw [unTCP, if_pos h0, h0, w64 (by omega) (by omega), or16 v4.1 v4.2 v6.1 v6.2, or16 v8.1 v8.2 v10.1 v10.2]; exact ⟨rfl, rfl⟩
theorem ok_transport_DecodeTCP : SpecOK Tryz.prog GL 95 ct_transport_DecodeTCP.spec := Ct.ok' _ Tryz.func95 (by kernel_rfl) (withSpec_ok (withSpec_ok (withSpec_ok (withSpec_ok noSpecs_ok (Ct.named ok_transport_bare)) (Ct.named ok_transport_Pseudo)) ok_transport_word) (Ct.named ok_slices_Clone_b979)) hmix an_transport_DecodeTCP (Eq.mpr (by kernel_rfl) vc_transport_DecodeTCP)

def ct_ref06_DecodeTCP : Ct := ⟨[.val cU32, .val cU32, .val (.sl cU8)], [.agg cSeg, .val cI], fun d => [(d.2.2.1.length : Int) ≤ 1000000], fun d => ((unTCP d.1 d.2.1 d.2.2.1, unTCPErr d.1 d.2.1 d.2.2.1, ()), ())⟩
def an_ref06_DecodeTCP : PDs ct_ref06_DecodeTCP.ps → Anns := (fun _ => {})
theorem vc_ref06_DecodeTCP :
    ∀ (x x_1 : Int) (x_2 : List Int), ((0 : Int) ≤ x ∧ x ≤ (4294967295 : Int)) ∧ ((0 : Int) ≤ x_1 ∧ x_1 ≤ (4294967295 : Int)) ∧ (List.length x_2 ≤ maxLen ∧ ∀ (x : Int), x ∈ x_2 → (0 : Int) ≤ x ∧ x ≤ (255
     : Int)) ∧ True → (↑(List.length x_2) : Int) ≤ (1000000 : Int) → ifP (decide ((↑(List.length x_2) : Int) < (20 : Int))) (((0 : Int), (0 : Int), (0 : Int), (0 : Int), (0 : Int), (0 : Int), ([] : List
     Int)) = unTCP x x_1 x_2 ∧ (3 : Int) = unTCPErr x x_1 x_2) ((0 : Int) ≤ (12 : Int) ∧ (12 : Int) < (↑(List.length x_2) : Int) ∧ ∀ (b : Bool), b = !decide (List.getD x_2 (Int.toNat (12 : Int)) default =
     (80 : Int)) → ((!b) = true → ((!b) = true → (!b) = true) ∧ (0 : Int) ≤ (18 : Int) ∧ (18 : Int) < (↑(List.length x_2) : Int) ∧ True) ∧ ((!b) = true → ((!b) = true → (!b) = true) ∧ True) ∧ ((!b) = true
     → ((!b) = true → (!b) = true) ∧ True) ∧ (b = false → (!b) = true) ∧ ∀ (b_1 : Bool), (b_1 = bif b then true else !decide (List.getD x_2 (Int.toNat (18 : Int)) default = (0 : Int))) → ((!b_1) = true →
     ((!b_1) = true → (!b_1) = true) ∧ (0 : Int) ≤ (19 : Int) ∧ (19 : Int) < (↑(List.length x_2) : Int) ∧ True) ∧ ((!b_1) = true → ((!b_1) = true → (!b_1) = true) ∧ True) ∧ ((!b_1) = true → ((!b_1) = true
     → (!b_1) = true) ∧ True) ∧ (b_1 = false → (!b_1) = true) ∧ ifP (bif b_1 then true else !decide (List.getD x_2 (Int.toNat (19 : Int)) default = (0 : Int))) (((0 : Int), (0 : Int), (0 : Int), (0 : Int),
     (0 : Int), (0 : Int), ([] : List Int)) = unTCP x x_1 x_2 ∧ (2 : Int) = unTCPErr x x_1 x_2) (ifP (decide ((1480 : Int) < (↑(List.length x_2) : Int))) (((0 : Int), (0 : Int), (0 : Int), (0 : Int), (0 :
     Int), (0 : Int), ([] : List Int)) = unTCP x x_1 x_2 ∧ (5 : Int) = unTCPErr x x_1 x_2) ((↑(List.length x_2) : Int) ≤ (1099511627776 : Int) ∧ (↑(List.length x_2) : Int) ≤ (1099511627776 : Int) ∧
     (↑(List.length x_2) : Int) ≤ (1099511627776 : Int) ∧ (↑(List.length x_2) : Int) ≤ (1099511627776 : Int) ∧ (0 : Int) ≤ (13 : Int) ∧ (13 : Int) < (↑(List.length x_2) : Int) ∧ (↑(List.length x_2) : Int)
     ≤ (1099511627776 : Int) ∧ (0 : Int) ≤ (20 : Int) ∧ (20 : Int) ≤ (↑(List.length x_2) : Int) ∧ (↑(List.length x_2) : Int) ≤ (↑(List.length x_2) : Int) ∧ List.length (subL x_2 (Int.toNat (20 : Int))
     (Int.toNat (↑(List.length x_2) : Int))) * (1 : Nat) ≤ (140737488355328 : Nat) ∧ (↑(List.length (subL x_2 (Int.toNat (20 : Int)) (Int.toNat (↑(List.length x_2) : Int)))) : Int) ≤ (1000000 : Int) ∧ ∀
     (x_3 : List Int) (x_4 : Int), x_3 = tcpEnc x x_1 (getV x_2 (0 : Int) (2 : Int), getV x_2 (2 : Int) (2 : Int), getV x_2 (4 : Int) (4 : Int), getV x_2 (8 : Int) (4 : Int), IntKind.wrap IntKind.i64
     (List.getD x_2 (Int.toNat (13 : Int)) default), getV x_2 (14 : Int) (2 : Int), subL x_2 (Int.toNat (20 : Int)) (Int.toNat (↑(List.length x_2) : Int))) ∧ x_4 = tcpErr (getV x_2 (0 : Int) (2 : Int),
     getV x_2 (2 : Int) (2 : Int), getV x_2 (4 : Int) (4 : Int), getV x_2 (8 : Int) (4 : Int), IntKind.wrap IntKind.i64 (List.getD x_2 (Int.toNat (13 : Int)) default), getV x_2 (14 : Int) (2 : Int), subL
     x_2 (Int.toNat (20 : Int)) (Int.toNat (↑(List.length x_2) : Int))) → ifP (!decide (x_3 = x_2)) (((0 : Int), (0 : Int), (0 : Int), (0 : Int), (0 : Int), (0 : Int), ([] : List Int)) = unTCP x x_1 x_2 ∧
     (4 : Int) = unTCPErr x x_1 x_2) ((getV x_2 (0 : Int) (2 : Int), getV x_2 (2 : Int) (2 : Int), getV x_2 (4 : Int) (4 : Int), getV x_2 (8 : Int) (4 : Int), IntKind.wrap IntKind.i64 (List.getD x_2
     (Int.toNat (13 : Int)) default), getV x_2 (14 : Int) (2 : Int), subL x_2 (Int.toNat (20 : Int)) (Int.toNat (↑(List.length x_2) : Int))) = unTCP x x_1 x_2 ∧ (0 : Int) = unTCPErr x x_1 x_2)))) := by
  rintro s d b ⟨-, -, ⟨-, hb⟩, -⟩ hl
  refine ifP_split (fun h => ?_) (fun h8 => ?_)
  · exact unTCP_err (by rw [unTCPErr, if_pos (of_decide_eq_true h)]) (by decide)
  have h8 := of_decide_eq_false h8
  refine ⟨by omega, by omega, ?_⟩
  (repeat (intro (b_ : Bool) (hb_ : b_ = _); (repeat refine ⟨(by first | (simp; done) | (rw [hb_]; simp; done) | (rw [hb_]; simp; omega) | (rw [hb_]; simp; intros; omega) | (rw [hb_]; simp +contextual; done)), ?_⟩); subst hb_))
  have hz : (b.getD (Int.toNat 18) default = 0 ∧ b.getD (Int.toNat 19) default = 0) ↔ wordAt b (Int.toNat 18) = 0 := by
    have g0 := hb _ (getD_mem (xs := b) (i := 18) (by omega) (by omega))
    have g1 := hb _ (getD_mem (xs := b) (i := 19) (by omega) (by omega))
    rw [wordAt_get (k := Int.toNat 18) (by show 18 + 2 ≤ _; omega)]
    show _ ↔ b.getD (Int.toNat 18) default * 256 + b.getD (Int.toNat 19) default = 0
    omega
  rw [show (bif (bif !decide (b.getD (Int.toNat 12) default = 80) then true else !decide (b.getD (Int.toNat 18) default = 0)) then true else !decide (b.getD (Int.toNat 19) default = 0)) = !decide (tcpForm b) from (form_e _ _ _).trans (congrArg (fun x => !x) (decide_eq_decide.2 (and_congr Iff.rfl hz)))]
  refine ifP_split (fun h => ?_) (fun hf => ?_)
  · exact unTCP_err (by rw [unTCPErr, if_neg h8, if_pos]; simpa using h) (by decide)
  have hf : tcpForm b := by simpa using hf

  refine ifP_split (fun h => ?_) (fun h5 => ?_)
  · exact unTCP_err (by rw [unTCPErr, if_neg h8, if_neg (fun k => k hf), if_pos (of_decide_eq_true h)]) (by decide)
  have h5 := of_decide_eq_false h5
  rw [sub_drop]
  repeat refine ⟨by omega, ?_⟩
  refine ⟨by rw [List.length_drop]; omega, by rw [List.length_drop]; omega, ?_⟩
  have g := hb _ (getD_mem (xs := b) (i := 13) (by omega) (by omega))
  have e0 := getV2 b 0 (by omega) (by omega)
  have e2 := getV2 b 2 (by omega) (by omega)
  have e4 := getV4 b 4 (by omega) (by omega)
  have e8 := getV4 b 8 (by omega) (by omega)
  have e14 := getV2 b 14 (by omega) (by omega)
  rw [show ((0 : Nat) : Int) = 0 from rfl] at e0
  rw [show ((2 : Nat) : Int) = 2 from rfl] at e2
  rw [show ((4 : Nat) : Int) = 4 from rfl] at e4
  rw [show ((8 : Nat) : Int) = 8 from rfl] at e8
  rw [show ((14 : Nat) : Int) = 14 from rfl] at e14
  rw [e0, e2, e4, e8, e14, w64 (by omega) (by omega)]
  rintro x e ⟨rfl, rfl⟩
  have hre := re_tcp (s := s) (d := d) hb h8 h5 hf
  refine ifP_split (fun h => ?_) (fun h => ?_)
  · refine unTCP_err (by rw [unTCPErr, if_neg h8, if_neg (fun k => k hf), if_neg h5, if_pos]; intro k; rw [decide_eq_true (hre.2 k)] at h; cases h) (by decide)
  have h0 : unTCPErr s d b = 0 := by
    rw [unTCPErr, if_neg h8, if_neg (fun k => k hf), if_neg h5, if_neg]
    intro k; rw [decide_eq_false (fun q => k (hre.1 q))] at h; cases h
  rw [unTCP, if_pos h0, h0]; exact ⟨rfl, rfl⟩
theorem ok_ref06_DecodeTCP : SpecOK Tryz.prog GL 73 ct_ref06_DecodeTCP.spec := Ct.ok' _ Tryz.func73 (by kernel_rfl) (withSpec_ok (withSpec_ok (withSpec_ok noSpecs_ok ok_ref04_At) (Ct.named ok_ref06_EncodeTCP)) ok_ref04_Equal) hmix an_ref06_DecodeTCP (Eq.mpr (by kernel_rfl) vc_ref06_DecodeTCP)



def sameSeg (a b : Seg) : Bool := decide (a = b)
end Go.RS

