/- Ipv4: packets without options. -/
import Derived.Test.YtdegakknelbjiaaGreatDoorTrback
namespace Go.RS
open Go.SX Go.Proofs
set_option maxRecDepth 100000
set_option linter.unusedVariables false

abbrev cHeader : CT := .pair cI (.pair cI (.pair cI (.pair cI (.pair .bool (.pair cU32 cU32)))))
abbrev cPacket : CT := .pair cHeader (.sl cU8)
abbrev Header : Type := Int × Int × Int × Int × Bool × Int × Int
abbrev Packet : Type := Header × List Int
def in8 (n : Int) : Prop := 0 ≤ n ∧ n ≤ 255
instance (n : Int) : Decidable (in8 n) := by unfold in8; infer_instance
/-- TOS, ID, TTL, Proto, Keep, Src, Dst. -/
def hdrOK (h : Header) : Prop := in8 h.1 ∧ in8 h.2.2.1 ∧ in8 h.2.2.2.1 ∧ 0 ≤ h.2.1 ∧ h.2.1 ≤ 65535
instance (h : Header) : Decidable (hdrOK h) := by unfold hdrOK; infer_instance
def hdrErr (h : Header) : Int := if hdrOK h then 0 else 1
def hdrHead (h : Header) (n : Int) : List Int := [69, h.1] ++ (w2 n ++ (w2 h.2.1 ++ (w2 (if h.2.2.2.2.1 then 16384 else 0) ++ [h.2.2.1, h.2.2.2.1])))
def hdrTail (h : Header) : List Int := w4 h.2.2.2.2.2.1 ++ w4 h.2.2.2.2.2.2
def hdrBody (h : Header) (n : Int) : List Int := hdrHead h n ++ ([0, 0] ++ hdrTail h)
def hdrB (h : Header) (n : Int) : List Int := setW (hdrBody h n) 10 (csum (hdrBody h n))
def ipErr (p : Packet) : Int := if ¬ hdrOK p.1 then 1 else if (1480 : Int) < p.2.length then 5 else 0
def ipEnc (p : Packet) : List Int := if ipErr p = 0 then hdrB p.1 (20 + p.2.length) ++ p.2 else []
def flagsB (b : List Int) : Int := wordAt b 6
def pkErr (b : List Int) : Int :=
  if (b.length : Int) < 20 then 3 else if ¬ (b.getD 0 default = 69 ∧ (wordAt b 6 = 0 ∨ wordAt b 6 = 16384) ∧ 20 ≤ wordAt b 2) then 2
  else if csum (setW (b.take 20) 10 0) ≠ wordAt b 10 then 4 else 0
def hdr0 : Header := (0, 0, 0, 0, false, 0, 0)
def pkHdrF (b : List Int) : Header := (b.getD 1 default, wordAt b 4, b.getD 8 default, b.getD 9 default, decide (wordAt b 6 = 16384), numB ((b.drop 12).take 4), numB ((b.drop 16).take 4))
def pkHdr (b : List Int) : Header := if pkErr b = 0 then pkHdrF b else hdr0
def pkLen (b : List Int) : Int := if pkErr b = 0 then wordAt b 2 else 0
def decErr (b : List Int) : Int := if pkErr b ≠ 0 then pkErr b else if wordAt b 2 ≠ b.length then 2 else if 1500 < wordAt b 2 then 5 else 0
def decPkt (b : List Int) : Packet := if decErr b = 0 then (pkHdrF b, b.drop 20) else (hdr0, [])
def lowHdr (h : Header) : Header := (h.1, h.2.1, h.2.2.1 - 1, h.2.2.2)
def lowErr (b : List Int) : Int := if decErr b ≠ 0 then decErr b else if (pkHdrF b).2.2.1 < 2 then 7 else 0
def lowB (b : List Int) : List Int := if lowErr b = 0 then ipEnc (lowHdr (pkHdrF b), b.drop 20) else []

theorem hdrHead_len (h : Header) (n : Int) : (hdrHead h n).length = 10 := rfl
theorem hdrBody_len (h : Header) (n : Int) : (hdrBody h n).length = 20 := rfl
theorem hdrB_len (h : Header) (n : Int) : (hdrB h n).length = 20 := by unfold hdrB; rw [setW_len]; rfl
theorem hdr_bytes {h : Header} {n : Int} (hk : hdrOK h) : bytes (hdrBody h n) := by
  obtain ⟨h1, h2, h3, -⟩ := hk
  exact bytes_app (bytes_app (bytes_cons (by omega) (by omega) (bytes_cons h1.1 h1.2 bytes_nil)) (bytes_app (bytes_w2 _) (bytes_app (bytes_w2 _) (bytes_app (bytes_w2 _) (bytes_cons h2.1 h2.2 (bytes_cons h3.1 h3.2 bytes_nil))))))
    (bytes_app (bytes_cons (by omega) (by omega) (bytes_cons (by omega) (by omega) bytes_nil)) (bytes_app (bytes_w4 _) (bytes_w4 _)))
theorem hdrB_bytes {h : Header} {n : Int} (hk : hdrOK h) : bytes (hdrB h n) := bytes_setW (hdr_bytes hk)
theorem hdrB_eq (h : Header) (n : Int) : hdrB h n = hdrHead h n ++ (w2 (csum (hdrBody h n)) ++ hdrTail h) := rfl

theorem cons_of {n : Nat} {b : List Int} (h : n + 1 ≤ b.length) : ∃ x r, b = x :: r ∧ n ≤ r.length := by
  cases b with
  | nil => simp at h
  | cons x r => exact ⟨x, r, rfl, by simpa using h⟩
theorem split20 {b : List Int} (h : 20 ≤ b.length) : ∃ x0 x1 x2 x3 x4 x5 x6 x7 x8 x9 x10 x11 x12 x13 x14 x15 x16 x17 x18 x19 r, b = x0 :: x1 :: x2 :: x3 :: x4 :: x5 :: x6 :: x7 :: x8 :: x9 :: x10 :: x11 :: x12 :: x13 :: x14 :: x15 :: x16 :: x17 :: x18 :: x19 :: r := by
  obtain ⟨x0, b1, rfl, h1⟩ := cons_of (n := 19) h
  obtain ⟨x1, b2, rfl, h2⟩ := cons_of (n := 18) h1
  obtain ⟨x2, b3, rfl, h3⟩ := cons_of (n := 17) h2
  obtain ⟨x3, b4, rfl, h4⟩ := cons_of (n := 16) h3
  obtain ⟨x4, b5, rfl, h5⟩ := cons_of (n := 15) h4
  obtain ⟨x5, b6, rfl, h6⟩ := cons_of (n := 14) h5
  obtain ⟨x6, b7, rfl, h7⟩ := cons_of (n := 13) h6
  obtain ⟨x7, b8, rfl, h8⟩ := cons_of (n := 12) h7
  obtain ⟨x8, b9, rfl, h9⟩ := cons_of (n := 11) h8
  obtain ⟨x9, b10, rfl, h10⟩ := cons_of (n := 10) h9
  obtain ⟨x10, b11, rfl, h11⟩ := cons_of (n := 9) h10
  obtain ⟨x11, b12, rfl, h12⟩ := cons_of (n := 8) h11
  obtain ⟨x12, b13, rfl, h13⟩ := cons_of (n := 7) h12
  obtain ⟨x13, b14, rfl, h14⟩ := cons_of (n := 6) h13
  obtain ⟨x14, b15, rfl, h15⟩ := cons_of (n := 5) h14
  obtain ⟨x15, b16, rfl, h16⟩ := cons_of (n := 4) h15
  obtain ⟨x16, b17, rfl, h17⟩ := cons_of (n := 3) h16
  obtain ⟨x17, b18, rfl, h18⟩ := cons_of (n := 2) h17
  obtain ⟨x18, b19, rfl, h19⟩ := cons_of (n := 1) h18
  obtain ⟨x19, b20, rfl, h20⟩ := cons_of (n := 0) h19
  exact ⟨x0, x1, x2, x3, x4, x5, x6, x7, x8, x9, x10, x11, x12, x13, x14, x15, x16, x17, x18, x19, b20, rfl⟩
theorem numB1 (a : Int) : numB [a] = a := by simp [numB]
theorem numB2 (a b : Int) : numB [a, b] = a * 256 + b := by simp [numB]
theorem numB4 (a b c d : Int) : numB [a, b, c, d] = ((a * 256 + b) * 256 + c) * 256 + d := by simp [numB]
theorem getV_in {b : List Int} {a w : Int} (h1 : 1 ≤ w) (h2 : w ≤ 7) (h3 : 0 ≤ a) (h4 : a + w ≤ b.length) : getV b a w = numB ((b.drop a.toNat).take w.toNat) := by
  rw [getV, if_neg (by omega)]
theorem drop_take1 {b : List Int} {i : Nat} (h : i < b.length) : (b.drop i).take 1 = [b.getD i default] := by
  rw [List.drop_eq_getElem_cons h, List.getD_eq_getElem?_getD, List.getElem?_eq_getElem h]; rfl
theorem gV1 {b : List Int} {a : Int} (h3 : 0 ≤ a) (h4 : a + 1 ≤ b.length) : getV b a 1 = b.getD a.toNat default := by
  rw [getV_in (by omega) (by omega) h3 h4, show (1 : Int).toNat = 1 from rfl, drop_take1 (by omega), numB1]
theorem gV2 {b : List Int} {a : Int} (h3 : 0 ≤ a) (h4 : a + 2 ≤ b.length) : getV b a 2 = wordAt b a.toNat := by
  rw [getV_in (by omega) (by omega) h3 h4]; rfl
theorem gV4 {b : List Int} {a : Int} (h3 : 0 ≤ a) (h4 : a + 4 ≤ b.length) : getV b a 4 = numB ((b.drop a.toNat).take 4) := by
  rw [getV_in (by omega) (by omega) h3 h4]; rfl
theorem take_get {b : List Int} {n i : Nat} (h : i < n) : (b.take n).getD i default = b.getD i default := by
  rw [List.getD_eq_getElem?_getD, List.getElem?_take, if_pos h, ← List.getD_eq_getElem?_getD]
theorem take_drop_take {b : List Int} {n i k : Nat} (h : i + k ≤ n) : ((b.take n).drop i).take k = (b.drop i).take k := by
  rw [List.drop_take, List.take_take, Nat.min_eq_left (by omega)]
theorem take_word {b : List Int} {n i : Nat} (h : i + 2 ≤ n) : wordAt (b.take n) i = wordAt b i := by
  unfold wordAt; rw [take_drop_take h]
theorem bytes_take {b : List Int} {n : Nat} (h : bytes b) : bytes (b.take n) := fun x hx => h x (List.mem_of_mem_take hx)
theorem bytes_drop {b : List Int} {n : Nat} (h : bytes b) : bytes (b.drop n) := fun x hx => h x (List.mem_of_mem_drop hx)
theorem bytes_get {b : List Int} (h : bytes b) {i : Nat} (hi : i < b.length) : 0 ≤ b.getD i default ∧ b.getD i default ≤ 255 := by
  have := getD_mem (xs := b) (i := (i : Int)) (by omega) (by omega)
  exact h _ this
theorem bytes_word {b : List Int} (h : bytes b) (i : Nat) : 0 ≤ wordAt b i ∧ wordAt b i ≤ 65535 := by
  have := numB_bound 2 ((b.drop i).take 2) (by rw [List.length_take]; omega) (fun x hx => h x (List.mem_of_mem_drop (List.mem_of_mem_take hx)))
  have e : (256 : Int) ^ 2 = 65536 := rfl
  unfold wordAt; omega
theorem bytes_num4 {b : List Int} (h : bytes b) (i : Nat) : 0 ≤ numB ((b.drop i).take 4) ∧ numB ((b.drop i).take 4) ≤ 4294967295 := by
  have := numB_bound 4 ((b.drop i).take 4) (by rw [List.length_take]; omega) (fun x hx => h x (List.mem_of_mem_drop (List.mem_of_mem_take hx)))
  have e : (256 : Int) ^ 4 = 4294967296 := rfl
  omega
theorem bytes_uncons {a : Int} {l : List Int} (h : bytes (a :: l)) : (0 ≤ a ∧ a ≤ 255) ∧ bytes l := ⟨h a List.mem_cons_self, fun x hx => h x (List.mem_cons_of_mem _ hx)⟩
theorem w4_num {a b c d : Int} (ha : 0 ≤ a ∧ a ≤ 255) (hb : 0 ≤ b ∧ b ≤ 255) (hc : 0 ≤ c ∧ c ≤ 255) (hd : 0 ≤ d ∧ d ≤ 255) : w4 (((a * 256 + b) * 256 + c) * 256 + d) = [a, b, c, d] := by
  unfold w4
  have e1 : (((a * 256 + b) * 256 + c) * 256 + d) / 16777216 % 256 = a := by omega
  have e2 : (((a * 256 + b) * 256 + c) * 256 + d) / 65536 % 256 = b := by omega
  have e3 : (((a * 256 + b) * 256 + c) * 256 + d) / 256 % 256 = c := by omega
  have e4 : (((a * 256 + b) * 256 + c) * 256 + d) % 256 = d := by omega
  rw [e1, e2, e3, e4]
/-- A header's bytes are those of what is read off them, but for the checksum. -/
theorem hdr_body {b : List Int} (hb : bytes b) (hl : 20 ≤ b.length) (h0 : b.getD 0 default = 69) (hf : wordAt b 6 = 0 ∨ wordAt b 6 = 16384) :
    hdrBody (pkHdrF b) (wordAt b 2) = setW (b.take 20) 10 0 ∧ (hdrB (pkHdrF b) (wordAt b 2) = b.take 20 ↔ csum (setW (b.take 20) 10 0) = wordAt b 10) := by
  obtain ⟨x0, x1, x2, x3, x4, x5, x6, x7, x8, x9, x10, x11, x12, x13, x14, x15, x16, x17, x18, x19, r, rfl⟩ := split20 hl
  have hb0 := hb
  obtain ⟨k0, hb⟩ := bytes_uncons hb
  obtain ⟨k1, hb⟩ := bytes_uncons hb
  obtain ⟨k2, hb⟩ := bytes_uncons hb
  obtain ⟨k3, hb⟩ := bytes_uncons hb
  obtain ⟨k4, hb⟩ := bytes_uncons hb
  obtain ⟨k5, hb⟩ := bytes_uncons hb
  obtain ⟨k6, hb⟩ := bytes_uncons hb
  obtain ⟨k7, hb⟩ := bytes_uncons hb
  obtain ⟨k8, hb⟩ := bytes_uncons hb
  obtain ⟨k9, hb⟩ := bytes_uncons hb
  obtain ⟨k10, hb⟩ := bytes_uncons hb
  obtain ⟨k11, hb⟩ := bytes_uncons hb
  obtain ⟨k12, hb⟩ := bytes_uncons hb
  obtain ⟨k13, hb⟩ := bytes_uncons hb
  obtain ⟨k14, hb⟩ := bytes_uncons hb
  obtain ⟨k15, hb⟩ := bytes_uncons hb
  obtain ⟨k16, hb⟩ := bytes_uncons hb
  obtain ⟨k17, hb⟩ := bytes_uncons hb
  obtain ⟨k18, hb⟩ := bytes_uncons hb
  obtain ⟨k19, hb⟩ := bytes_uncons hb
  have e2 : wordAt (x0 :: x1 :: x2 :: x3 :: x4 :: x5 :: x6 :: x7 :: x8 :: x9 :: x10 :: x11 :: x12 :: x13 :: x14 :: x15 :: x16 :: x17 :: x18 :: x19 :: r) 2 = x2 * 256 + x3 := wordAt0 _ _ _
  have e4 : wordAt (x0 :: x1 :: x2 :: x3 :: x4 :: x5 :: x6 :: x7 :: x8 :: x9 :: x10 :: x11 :: x12 :: x13 :: x14 :: x15 :: x16 :: x17 :: x18 :: x19 :: r) 4 = x4 * 256 + x5 := wordAt0 _ _ _
  have e6 : wordAt (x0 :: x1 :: x2 :: x3 :: x4 :: x5 :: x6 :: x7 :: x8 :: x9 :: x10 :: x11 :: x12 :: x13 :: x14 :: x15 :: x16 :: x17 :: x18 :: x19 :: r) 6 = x6 * 256 + x7 := wordAt0 _ _ _
  have e10 : wordAt (x0 :: x1 :: x2 :: x3 :: x4 :: x5 :: x6 :: x7 :: x8 :: x9 :: x10 :: x11 :: x12 :: x13 :: x14 :: x15 :: x16 :: x17 :: x18 :: x19 :: r) 10 = x10 * 256 + x11 := wordAt0 _ _ _
  have n12 : numB (((x0 :: x1 :: x2 :: x3 :: x4 :: x5 :: x6 :: x7 :: x8 :: x9 :: x10 :: x11 :: x12 :: x13 :: x14 :: x15 :: x16 :: x17 :: x18 :: x19 :: r).drop 12).take 4) = ((x12 * 256 + x13) * 256 + x14) * 256 + x15 := numB4 _ _ _ _
  have n16 : numB (((x0 :: x1 :: x2 :: x3 :: x4 :: x5 :: x6 :: x7 :: x8 :: x9 :: x10 :: x11 :: x12 :: x13 :: x14 :: x15 :: x16 :: x17 :: x18 :: x19 :: r).drop 16).take 4) = ((x16 * 256 + x17) * 256 + x18) * 256 + x19 := numB4 _ _ _ _
  have h0 : x0 = 69 := h0
  subst h0
  rw [e6] at hf
  have hk : w2 (if decide (x6 * 256 + x7 = 16384) then 16384 else 0) = [x6, x7] := by
    rcases hf with hf | hf
    · rw [hf]
      have : x6 = 0 ∧ x7 = 0 := by omega
      rw [this.1, this.2]; rfl
    · rw [hf]
      have : x6 = 64 ∧ x7 = 0 := by omega
      rw [this.1, this.2]; rfl
  have hbody : hdrBody (pkHdrF (69 :: x1 :: x2 :: x3 :: x4 :: x5 :: x6 :: x7 :: x8 :: x9 :: x10 :: x11 :: x12 :: x13 :: x14 :: x15 :: x16 :: x17 :: x18 :: x19 :: r)) (wordAt (69 :: x1 :: x2 :: x3 :: x4 :: x5 :: x6 :: x7 :: x8 :: x9 :: x10 :: x11 :: x12 :: x13 :: x14 :: x15 :: x16 :: x17 :: x18 :: x19 :: r) 2) = setW ((69 :: x1 :: x2 :: x3 :: x4 :: x5 :: x6 :: x7 :: x8 :: x9 :: x10 :: x11 :: x12 :: x13 :: x14 :: x15 :: x16 :: x17 :: x18 :: x19 :: r).take 20) 10 0 := by
    unfold hdrBody hdrHead hdrTail pkHdrF
    simp only
    rw [e2, e4, e6, n12, n16, hk, w2_pair k2.1 k2.2 k3.1 k3.2, w2_pair k4.1 k4.2 k5.1 k5.2, w4_num k12 k13 k14 k15, w4_num k16 k17 k18 k19]
    rfl
  refine ⟨hbody, ?_⟩
  rw [hdrB, hbody, e10]
  have hc := csum_range (b := setW ((69 :: x1 :: x2 :: x3 :: x4 :: x5 :: x6 :: x7 :: x8 :: x9 :: x10 :: x11 :: x12 :: x13 :: x14 :: x15 :: x16 :: x17 :: x18 :: x19 :: r).take 20) 10 0) (bytes_setW (fun x hx => hb0 x (List.mem_of_mem_take hx)))
  generalize csum (setW ((69 :: x1 :: x2 :: x3 :: x4 :: x5 :: x6 :: x7 :: x8 :: x9 :: x10 :: x11 :: x12 :: x13 :: x14 :: x15 :: x16 :: x17 :: x18 :: x19 :: r).take 20) 10 0) = c at hc ⊢
  have e : setW (setW ((69 :: x1 :: x2 :: x3 :: x4 :: x5 :: x6 :: x7 :: x8 :: x9 :: x10 :: x11 :: x12 :: x13 :: x14 :: x15 :: x16 :: x17 :: x18 :: x19 :: r).take 20) 10 0) 10 c = [69, x1, x2, x3, x4, x5, x6, x7, x8, x9, c / 256 % 256, c % 256, x12, x13, x14, x15, x16, x17, x18, x19] := rfl
  rw [e]
  have e' : (69 :: x1 :: x2 :: x3 :: x4 :: x5 :: x6 :: x7 :: x8 :: x9 :: x10 :: x11 :: x12 :: x13 :: x14 :: x15 :: x16 :: x17 :: x18 :: x19 :: r).take 20 = [69, x1, x2, x3, x4, x5, x6, x7, x8, x9, x10, x11, x12, x13, x14, x15, x16, x17, x18, x19] := rfl
  rw [e']
  constructor
  · intro h
    simp only [List.cons.injEq, and_true, true_and] at h
    omega
  · intro h
    have : c / 256 % 256 = x10 ∧ c % 256 = x11 := by omega
    rw [this.1, this.2]
def cutP (k : Nat) : Nat := [0, 1, 2, 4, 6, 8, 9, 10, 12, 16, 20].getD k 20
theorem hdr_step {h : Header} {n f k : Int} (hok : hdrOK h) (n0 : 0 ≤ n) (n1 : n ≤ 65535) (s0 : 0 ≤ h.2.2.2.2.2.1 ∧ h.2.2.2.2.2.1 ≤ 4294967295) (d0 : 0 ≤ h.2.2.2.2.2.2 ∧ h.2.2.2.2.2.2 ≤ 4294967295) (hf : f = if h.2.2.2.2.1 then 16384 else 0) (k0 : 0 ≤ k) (k1 : k < 10) :
    putB ((hdrBody h n).take (cutP k.toNat)) (pickI [69, h.1, n, h.2.1, f, h.2.2.1, h.2.2.2.1, 0, h.2.2.2.2.2.1, h.2.2.2.2.2.2] k.toNat) (pickI [1, 1, 2, 2, 2, 1, 1, 2, 4, 4] k.toNat) = (hdrBody h n).take (cutP (k + 1).toNat) := by
  obtain ⟨h1, h2, h3, h4, h5⟩ := hok
  have hf0 : 0 ≤ f ∧ f ≤ 65535 := by rw [hf]; split <;> omega
  have : k = 0 ∨ k = 1 ∨ k = 2 ∨ k = 3 ∨ k = 4 ∨ k = 5 ∨ k = 6 ∨ k = 7 ∨ k = 8 ∨ k = 9 := by omega
  rcases this with rfl | rfl | rfl | rfl | rfl | rfl | rfl | rfl | rfl | rfl
  · exact putB_1 (b := []) (n := 69) (by omega) (by omega)
  · exact putB_1 (b := [69]) h1.1 h1.2
  · exact putB_2 (b := [69, h.1]) n0 n1
  · exact putB_2 (b := [69, h.1] ++ w2 n) h4 h5
  · have := putB_2 (b := [69, h.1] ++ (w2 n ++ w2 h.2.1)) hf0.1 hf0.2
    rw [hf] at this ⊢; exact this
  · exact putB_1 (b := (hdrBody h n).take 8) h2.1 h2.2
  · exact putB_1 (b := (hdrBody h n).take 9) h3.1 h3.2
  · exact putB_2 (b := (hdrBody h n).take 10) (n := 0) (by omega) (by omega)
  · exact putB_4 (b := (hdrBody h n).take 12) s0.1 s0.2
  · exact putB_4 (b := (hdrBody h n).take 16) d0.1 d0.2
theorem strOf_inj {x y : List Int} (hx : ∀ n ∈ x, 0 ≤ n ∧ n ≤ 255) (hy : ∀ n ∈ y, 0 ≤ n ∧ n ≤ 255) (h : strOfNums x = strOfNums y) : x = y := by
  have h' : (x.map fun n => UInt8.ofNat n.toNat) = y.map fun n => UInt8.ofNat n.toNat := by
    have := congrArg (fun s : ByteArray => s.data.toList) h
    simpa [strOfNums_data] using this
  clear h
  revert h' hx hy
  induction x generalizing y with
  | nil => intro hx hy h; cases y with
    | nil => rfl
    | cons b y => cases h
  | cons a x ih =>
    intro hx hy h
    cases y with
    | nil => cases h
    | cons b y =>
      simp only [List.map_cons, List.cons.injEq] at h
      have ha := hx a List.mem_cons_self
      have hb := hy b List.mem_cons_self
      have e := congrArg UInt8.toNat h.1
      simp only [UInt8.toNat_ofNat'] at e
      rw [ih (y := y) (fun n hn => hx n (List.mem_cons_of_mem _ hn)) (fun n hn => hy n (List.mem_cons_of_mem _ hn)) h.2]
      congr 1; omega
theorem pk_long {b : List Int} (h : pkErr b = 0) : 20 ≤ b.length := by
  unfold pkErr at h
  split at h
  · cases h
  · omega
theorem dec_pk {b : List Int} (h : decErr b = 0) : pkErr b = 0 := by
  unfold decErr at h
  split at h
  · rename_i k; exact absurd h k
  · rename_i k; exact Decidable.not_not.1 k
theorem dec_len {b : List Int} (h : decErr b = 0) : (b.length : Int) ≤ 1500 ∧ wordAt b 2 = b.length := by
  unfold decErr at h
  split at h
  · rename_i k; exact absurd h k
  · split at h
    · cases h
    · split at h
      · cases h
      · omega
theorem dec_ok {b : List Int} (hb : bytes b) (h : pkErr b = 0) : hdrOK (pkHdrF b) := by
  have hl := pk_long h
  exact ⟨bytes_get hb (by omega), bytes_get hb (by omega), bytes_get hb (by omega), bytes_word hb 4⟩
theorem low_ok {b : List Int} (hb : bytes b) (h : decErr b = 0) (h2 : ¬ (pkHdrF b).2.2.1 < 2) : hdrOK (lowHdr (pkHdrF b)) := by
  obtain ⟨k1, k2, k3, k4⟩ := dec_ok hb (dec_pk h)
  refine ⟨k1, ?_, k3, k4⟩
  obtain ⟨k5, k6⟩ := k2
  show 0 ≤ (pkHdrF b).2.2.1 - 1 ∧ (pkHdrF b).2.2.1 - 1 ≤ 255
  omega
def ct_bytes_Equal : Ct := ⟨[.val (.sl cU8), .val (.sl cU8)], [.val .bool], fun d => [], fun d => ((decide (d.1 = d.2.1), ()), ())⟩
def an_bytes_Equal : PDs ct_bytes_Equal.ps → Anns := (fun _ => {})
theorem vc_bytes_Equal :
    ∀ (x x_1 : List Int), (List.length x ≤ maxLen ∧ ∀ (x_2 : Int), x_2 ∈ x → (0 : Int) ≤ x_2 ∧ x_2 ≤ (255 : Int)) ∧ (List.length x_1 ≤ maxLen ∧ ∀ (x : Int), x ∈ x_1 → (0 : Int) ≤ x ∧ x ≤ (255 : Int)) ∧
     True → True → decide (strOfNums x = strOfNums x_1) = decide (x = x_1) := by
  rintro x y ⟨⟨-, hx⟩, ⟨-, hy⟩, -⟩ -
  by_cases h : x = y
  · rw [h, decide_eq_true rfl, decide_eq_true rfl]
  · rw [decide_eq_false h, decide_eq_false fun k => h (strOf_inj hx hy k)]
theorem ok_bytes_Equal : SpecOK Tryz.prog GL 90 ct_bytes_Equal.spec := Ct.ok' _ Tryz.func90 (by kernel_rfl) noSpecs_ok hmix an_bytes_Equal (Eq.mpr (by kernel_rfl) vc_bytes_Equal)

def ct_wire_Equal : Ct := ⟨[.val (.sl cU8), .val (.sl cU8)], [.val .bool], fun d => [], fun d => ((decide (d.1 = d.2.1), ()), ())⟩
def an_wire_Equal : PDs ct_wire_Equal.ps → Anns := (fun _ => {})
theorem vc_wire_Equal :
    ∀ (x x_1 : List Int), (List.length x ≤ maxLen ∧ ∀ (x_2 : Int), x_2 ∈ x → (0 : Int) ≤ x_2 ∧ x_2 ≤ (255 : Int)) ∧ (List.length x_1 ≤ maxLen ∧ ∀ (x : Int), x ∈ x_1 → (0 : Int) ≤ x ∧ x ≤ (255 : Int)) ∧
     True → True → decide (x = x_1) = decide (x = x_1) := by
  intro x y _ _; rfl
theorem ok_wire_Equal : SpecOK Tryz.prog GL 57 ct_wire_Equal.spec := Ct.ok' _ Tryz.func57 (by kernel_rfl) (withSpec_ok noSpecs_ok ok_bytes_Equal) hmix an_wire_Equal (Eq.mpr (by kernel_rfl) vc_wire_Equal)

def ct_wire_word : Ct := ⟨[.val cI], [.val .bool], fun d => [], fun d => ((word16 d.1, ()), ())⟩
def an_wire_word : PDs ct_wire_word.ps → Anns := (fun _ => {})
theorem vc_wire_word :
    ∀ (x : Int), ((-9223372036854775808 : Int) ≤ x ∧ x ≤ (9223372036854775807 : Int)) ∧ True → True → ∀ (b : Bool), b = decide ((0 : Int) ≤ x) → (b = true → (b = true → b = true) ∧ True) ∧ (b = true → b =
     true) ∧ (bif b then decide (x ≤ (65535 : Int)) else false) = word16 x := by
  rintro n - -
  (repeat (intro (b_ : Bool) (hb_ : b_ = _); (repeat refine ⟨(by first | (simp; done) | (rw [hb_]; simp; done) | (rw [hb_]; simp; omega) | (rw [hb_]; simp; intros; omega) | (rw [hb_]; simp +contextual; done)), ?_⟩); subst hb_))
  unfold word16
  by_cases h : 0 ≤ n <;> simp [h]
theorem ok_wire_word : SpecOK Tryz.prog GL 134 ct_wire_word.spec := Ct.ok' _ Tryz.func134 (by kernel_rfl) noSpecs_ok hmix an_wire_word (Eq.mpr (by kernel_rfl) vc_wire_word)

def ct_wire_Add : Ct := ⟨[.val cI, .val cI], [.val cI], fun d => [], fun d => ((if word16 d.1 && word16 d.2.1 then oc (d.1 + d.2.1) else 0, ()), ())⟩
def an_wire_Add : PDs ct_wire_Add.ps → Anns := (fun _ => {})
theorem vc_wire_Add :
    ∀ (x x_1 : Int), ((-9223372036854775808 : Int) ≤ x ∧ x ≤ (9223372036854775807 : Int)) ∧ ((-9223372036854775808 : Int) ≤ x_1 ∧ x_1 ≤ (9223372036854775807 : Int)) ∧ True → True → ∀ (b : Bool), b =
     !word16 x → ((!b) = true → ((!b) = true → (!b) = true) ∧ True) ∧ ((!b) = true → ((!b) = true → (!b) = true) ∧ True) ∧ (b = false → (!b) = true) ∧ ifP (bif b then true else !word16 x_1) ((0 : Int) = if
     (word16 x && word16 x_1) = true then oc (x + x_1) else (0 : Int)) ((0 : Int) ≤ IntKind.wrap IntKind.i64 (x + x_1) ∧ oc (IntKind.wrap IntKind.i64 (x + x_1)) = if (word16 x && word16 x_1) = true then oc
     (x + x_1) else (0 : Int)) := by
  rintro a b - -
  (repeat (intro (b_ : Bool) (hb_ : b_ = _); (repeat refine ⟨(by first | (simp; done) | (rw [hb_]; simp; done) | (rw [hb_]; simp; omega) | (rw [hb_]; simp; intros; omega) | (rw [hb_]; simp +contextual; done)), ?_⟩); subst hb_))
  refine ifP_split (fun hc => ?_) (fun hc => ?_)
  · rw [if_neg]
    intro h; simp at h; simp [h] at hc
  · have hw : word16 a = true ∧ word16 b = true := by simpa [Bool.cond_eq_ite] using hc
    rw [if_pos (by simp [hw])]
    have ha : 0 ≤ a ∧ a ≤ 65535 := of_decide_eq_true hw.1
    have hb : 0 ≤ b ∧ b ≤ 65535 := of_decide_eq_true hw.2
    rw [w64 (n := a + b) (by omega) (by omega)]
    exact ⟨by omega, rfl⟩
theorem ok_wire_Add : SpecOK Tryz.prog GL 126 ct_wire_Add.spec := Ct.ok' _ Tryz.func126 (by kernel_rfl) (withSpec_ok (withSpec_ok noSpecs_ok ok_wire_word) ok_wire_fold) hmix an_wire_Add (Eq.mpr (by kernel_rfl) vc_wire_Add)

def ct_ipv4_Check_1 : Ct := ⟨[.val cI], [.val .bool], fun d => [], fun d => ((decide (in8 d.1), ()), ())⟩
def an_ipv4_Check_1 : PDs ct_ipv4_Check_1.ps → Anns := (fun _ => {})
theorem vc_ipv4_Check_1 :
    ∀ (x : Int), ((-9223372036854775808 : Int) ≤ x ∧ x ≤ (9223372036854775807 : Int)) ∧ True → True → ∀ (b : Bool), b = decide ((0 : Int) ≤ x) → (b = true → (b = true → b = true) ∧ True) ∧ (b = true → b =
     true) ∧ (bif b then decide (x < (256 : Int)) else false) = decide (in8 x) := by
  rintro n - -
  (repeat (intro (b_ : Bool) (hb_ : b_ = _); (repeat refine ⟨(by first | (simp; done) | (rw [hb_]; simp; done) | (rw [hb_]; simp; omega) | (rw [hb_]; simp; intros; omega) | (rw [hb_]; simp +contextual; done)), ?_⟩); subst hb_))
  unfold in8
  by_cases h : 0 ≤ n <;> simp [h] <;> omega
theorem ok_ipv4_Check_1 : SpecOK Tryz.prog GL 128 ct_ipv4_Check_1.spec := Ct.ok' _ Tryz.func128 (by kernel_rfl) noSpecs_ok hmix an_ipv4_Check_1 (Eq.mpr (by kernel_rfl) vc_ipv4_Check_1)

def ct_ipv4_Check : Ct := ⟨[.agg cHeader], [.val cI], fun d => [], fun d => ((hdrErr d.1, ()), ())⟩
def an_ipv4_Check : PDs ct_ipv4_Check.ps → Anns := (fun _ => {})
theorem vc_ipv4_Check :
    ∀ (d : Int × Int × Int × Int × Bool × Int × Int), CT.wf cHeader d ∧ True → True → ∀ (b : Bool), b = !decide (in8 d.1) → ((!b) = true → ((!b) = true → (!b) = true) ∧ True) ∧ ((!b) = true → ((!b) = true
     → (!b) = true) ∧ ((!b) = true → (!b) = true) ∧ True) ∧ ((!b) = true → ((!b) = true → (!b) = true) ∧ True) ∧ (b = false → (!b) = true) ∧ ∀ (b_1 : Bool), (b_1 = bif b then true else !decide (in8
     d.2.2.1)) → ((!b_1) = true → ((!b_1) = true → (!b_1) = true) ∧ True) ∧ ((!b_1) = true → ((!b_1) = true → (!b_1) = true) ∧ ((!b_1) = true → (!b_1) = true) ∧ True) ∧ ((!b_1) = true → ((!b_1) = true →
     (!b_1) = true) ∧ True) ∧ (b_1 = false → (!b_1) = true) ∧ ∀ (b : Bool), (b = bif b_1 then true else !decide (in8 d.2.2.2.1)) → ((!b) = true → ((!b) = true → (!b) = true) ∧ True) ∧ ((!b) = true → ((!b)
     = true → (!b) = true) ∧ True) ∧ (b = false → (!b) = true) ∧ ∀ (b_2 : Bool), (b_2 = bif b then true else decide (d.2.1 < (0 : Int))) → ((!b_2) = true → ((!b_2) = true → (!b_2) = true) ∧ True) ∧ ((!b_2)
     = true → ((!b_2) = true → (!b_2) = true) ∧ True) ∧ (b_2 = false → (!b_2) = true) ∧ ifP (bif b_2 then true else decide ((65536 : Int) ≤ d.2.1)) ((1 : Int) = hdrErr d) ((0 : Int) = hdrErr d) := by
  rintro h - -
  (repeat (intro (b_ : Bool) (hb_ : b_ = _); (repeat refine ⟨(by first | (simp; done) | (rw [hb_]; simp; done) | (rw [hb_]; simp; omega) | (rw [hb_]; simp; intros; omega) | (rw [hb_]; simp +contextual; done)), ?_⟩); subst hb_))
  refine ifP_split (fun hc => ?_) (fun hc => ?_)
  · rw [hdrErr, if_neg]
    intro k; obtain ⟨k1, k2, k3, k4, k5⟩ := k
    simp [k1, k2, k3, Bool.cond_eq_ite] at hc; omega
  · rw [hdrErr, if_pos]
    simp [Bool.cond_eq_ite] at hc
    exact ⟨hc.1.1.1.1, hc.1.1.1.2, hc.1.1.2, by omega, by omega⟩
theorem ok_ipv4_Check : SpecOK Tryz.prog GL 112 ct_ipv4_Check.spec := Ct.ok' _ Tryz.func112 (by kernel_rfl) (withSpec_ok noSpecs_ok ok_ipv4_Check_1) hmix an_ipv4_Check (Eq.mpr (by kernel_rfl) vc_ipv4_Check)

def ct_ipv4_Encode : Ct := ⟨[.agg cPacket], [.own 5 cU8, .val cI], fun d => [(d.1.2.length : Int) ≤ 1073741824], fun d => ((ipEnc d.1, ipErr d.1, ()), ())⟩
def an_ipv4_Encode : PDs ct_ipv4_Encode.ps → Anns := (fun d => { loops := (fun n => match n with | 12 => some (fun S => { ι := Int × (List Int), qn := ⟨fun k_ => ∀ (k : Int) (ys : (List Int)), k_ (k, ys), fun k_ h_ i => h_ i.1 i.2, fun k_ => ∃ (k : Int) (ys : (List Int)), k_ (k, ys), fun k_ ⟨k, ys, h_⟩ => ⟨_, h_⟩⟩, μ := fun i => (10 - i.1).toNat, inv := fun i => 0 ≤ i.1 ∧ i.1 ≤ 10 ∧ i.2 = (hdrBody d.1.1 (20 + d.1.2.length)).take (cutP i.1.toNat), keep := [1, 4, 53], slots := fun i => [(7, .own 524288 1), (54, .int .i64 i.1)], keepN := [32, 80], names := fun i => [(524288, .live (.row 5 cU8 i.2))] }) | _ => none) })
theorem vc_ipv4_Encode :
    ∀ (d : (Int × Int × Int × Int × Bool × Int × Int) × List Int), CT.wf cPacket d ∧ True → (↑(List.length d.2) : Int) ≤ (1073741824 : Int) → ifP (!decide (hdrErr d.1 = (0 : Int))) (([] : List Int) =
     ipEnc d ∧ hdrErr d.1 = ipErr d) (ifP (decide ((1480 : Int) < (↑(List.length d.2) : Int))) (([] : List Int) = ipEnc d ∧ (5 : Int) = ipErr d) (ifP d.1.2.2.2.2.1 ((∃ (k : Int), ∃ (ys : List Int), ((0 :
     Int) ≤ k ∧ k ≤ (10 : Int) ∧ ys = List.take (cutP (Int.toNat k)) (hdrBody d.1 ((20 : Int) + (↑(List.length d.2) : Int)))) ∧ (69 : Int) = (69 : Int) ∧ (1 : Int) = (1 : Int) ∧ d.1.1 = d.1.1 ∧ (1 : Int) =
     (1 : Int) ∧ IntKind.wrap IntKind.i64 ((20 : Int) + (↑(List.length d.2) : Int)) = IntKind.wrap IntKind.i64 ((20 : Int) + (↑(List.length d.2) : Int)) ∧ (2 : Int) = (2 : Int) ∧ d.1.2.1 = d.1.2.1 ∧ (2 :
     Int) = (2 : Int) ∧ (16384 : Int) = (16384 : Int) ∧ (2 : Int) = (2 : Int) ∧ d.1.2.2.1 = d.1.2.2.1 ∧ (1 : Int) = (1 : Int) ∧ d.1.2.2.2.1 = d.1.2.2.2.1 ∧ (1 : Int) = (1 : Int) ∧ (0 : Int) = (0 : Int) ∧
     (2 : Int) = (2 : Int) ∧ IntKind.wrap IntKind.i64 d.1.2.2.2.2.2.1 = IntKind.wrap IntKind.i64 d.1.2.2.2.2.2.1 ∧ (4 : Int) = (4 : Int) ∧ IntKind.wrap IntKind.i64 d.1.2.2.2.2.2.2 = IntKind.wrap
     IntKind.i64 d.1.2.2.2.2.2.2 ∧ (4 : Int) = (4 : Int) ∧ (0 : Int) = k ∧ d.1.1 = d.1.1 ∧ d.1.2.1 = d.1.2.1 ∧ d.1.2.2.1 = d.1.2.2.1 ∧ d.1.2.2.2.1 = d.1.2.2.2.1 ∧ d.1.2.2.2.2.1 = d.1.2.2.2.2.1 ∧
     d.1.2.2.2.2.2.1 = d.1.2.2.2.2.2.1 ∧ d.1.2.2.2.2.2.2 = d.1.2.2.2.2.2.2 ∧ d.2 = d.2 ∧ d.1.1 = d.1.1 ∧ d.1.2.1 = d.1.2.1 ∧ d.1.2.2.1 = d.1.2.2.1 ∧ d.1.2.2.2.1 = d.1.2.2.2.1 ∧ d.1.2.2.2.2.1 =
     d.1.2.2.2.2.1 ∧ d.1.2.2.2.2.2.1 = d.1.2.2.2.2.2.1 ∧ d.1.2.2.2.2.2.2 = d.1.2.2.2.2.2.2 ∧ ys = ([] : List Int) ∧ True) ∧ ∀ (k : Int) (ys : List Int), (0 : Int) ≤ k ∧ k ≤ (10 : Int) ∧ ys = List.take
     (cutP (Int.toNat k)) (hdrBody d.1 ((20 : Int) + (↑(List.length d.2) : Int))) → ifP (decide (k < (10 : Int))) ((0 : Int) ≤ k ∧ k < (↑(10 : Nat) : Int) ∧ (↑(List.length ys) : Int) ≤ (1099511627776 :
     Int) ∧ ∀ (x : List Int) (x_1 : Int), x = putB ys (pickI [(69 : Int), d.1.1, IntKind.wrap IntKind.i64 ((20 : Int) + (↑(List.length d.2) : Int)), d.1.2.1, (16384 : Int), d.1.2.2.1, d.1.2.2.2.1, (0 :
     Int), IntKind.wrap IntKind.i64 d.1.2.2.2.2.2.1, IntKind.wrap IntKind.i64 d.1.2.2.2.2.2.2] (Int.toNat k)) (pickI [(1 : Int), (1 : Int), (2 : Int), (2 : Int), (2 : Int), (1 : Int), (1 : Int), (2 : Int),
     (4 : Int), (4 : Int)] (Int.toNat k)) ∧ x_1 = putE (pickI [(69 : Int), d.1.1, IntKind.wrap IntKind.i64 ((20 : Int) + (↑(List.length d.2) : Int)), d.1.2.1, (16384 : Int), d.1.2.2.1, d.1.2.2.2.1, (0 :
     Int), IntKind.wrap IntKind.i64 d.1.2.2.2.2.2.1, IntKind.wrap IntKind.i64 d.1.2.2.2.2.2.2] (Int.toNat k)) (pickI [(1 : Int), (1 : Int), (2 : Int), (2 : Int), (2 : Int), (1 : Int), (1 : Int), (2 : Int),
     (4 : Int), (4 : Int)] (Int.toNat k)) → ∃ (k_1 : Int), ∃ (ys : List Int), ((0 : Int) ≤ k_1 ∧ k_1 ≤ (10 : Int) ∧ ys = List.take (cutP (Int.toNat k_1)) (hdrBody d.1 ((20 : Int) + (↑(List.length d.2) :
     Int)))) ∧ Int.toNat ((10 : Int) - k_1) < Int.toNat ((10 : Int) - k) ∧ (69 : Int) = (69 : Int) ∧ (1 : Int) = (1 : Int) ∧ d.1.1 = d.1.1 ∧ (1 : Int) = (1 : Int) ∧ IntKind.wrap IntKind.i64 ((20 : Int) +
     (↑(List.length d.2) : Int)) = IntKind.wrap IntKind.i64 ((20 : Int) + (↑(List.length d.2) : Int)) ∧ (2 : Int) = (2 : Int) ∧ d.1.2.1 = d.1.2.1 ∧ (2 : Int) = (2 : Int) ∧ (16384 : Int) = (16384 : Int) ∧
     (2 : Int) = (2 : Int) ∧ d.1.2.2.1 = d.1.2.2.1 ∧ (1 : Int) = (1 : Int) ∧ d.1.2.2.2.1 = d.1.2.2.2.1 ∧ (1 : Int) = (1 : Int) ∧ (0 : Int) = (0 : Int) ∧ (2 : Int) = (2 : Int) ∧ IntKind.wrap IntKind.i64
     d.1.2.2.2.2.2.1 = IntKind.wrap IntKind.i64 d.1.2.2.2.2.2.1 ∧ (4 : Int) = (4 : Int) ∧ IntKind.wrap IntKind.i64 d.1.2.2.2.2.2.2 = IntKind.wrap IntKind.i64 d.1.2.2.2.2.2.2 ∧ (4 : Int) = (4 : Int) ∧
     IntKind.wrap IntKind.i64 (k + (1 : Int)) = k_1 ∧ d.1.1 = d.1.1 ∧ d.1.2.1 = d.1.2.1 ∧ d.1.2.2.1 = d.1.2.2.1 ∧ d.1.2.2.2.1 = d.1.2.2.2.1 ∧ d.1.2.2.2.2.1 = d.1.2.2.2.2.1 ∧ d.1.2.2.2.2.2.1 =
     d.1.2.2.2.2.2.1 ∧ d.1.2.2.2.2.2.2 = d.1.2.2.2.2.2.2 ∧ d.2 = d.2 ∧ d.1.1 = d.1.1 ∧ d.1.2.1 = d.1.2.1 ∧ d.1.2.2.1 = d.1.2.2.1 ∧ d.1.2.2.2.1 = d.1.2.2.2.1 ∧ d.1.2.2.2.2.1 = d.1.2.2.2.2.1 ∧
     d.1.2.2.2.2.2.1 = d.1.2.2.2.2.2.1 ∧ d.1.2.2.2.2.2.2 = d.1.2.2.2.2.2.2 ∧ x = ys ∧ True) ((↑(List.length ys) : Int) ≤ (1099511627776 : Int) ∧ ∀ (x : Int), x = (65535 : Int) - oc (sumF true ys) → (0 :
     Int) ≤ (8 : Int) ∧ (0 : Int) ≤ (10 : Int) ∧ (10 : Int) < (↑(List.length ys) : Int) ∧ (0 : Int) ≤ (11 : Int) ∧ (11 : Int) < (↑(List.length (List.set ys (Int.toNat (10 : Int)) (IntKind.wrap IntKind.u8
     (shrI IntKind.i64 x (8 : Int))))) : Int) ∧ (List.length (List.set (List.set ys (Int.toNat (10 : Int)) (IntKind.wrap IntKind.u8 (shrI IntKind.i64 x (8 : Int)))) (Int.toNat (11 : Int)) (IntKind.wrap
     IntKind.u8 x)) + List.length d.2) * (1 : Nat) ≤ (140737488355328 : Nat) ∧ List.set (List.set ys (Int.toNat (10 : Int)) (IntKind.wrap IntKind.u8 (shrI IntKind.i64 x (8 : Int)))) (Int.toNat (11 : Int))
     (IntKind.wrap IntKind.u8 x) ++ d.2 = ipEnc d ∧ (0 : Int) = ipErr d)) ((∃ (k : Int), ∃ (ys : List Int), ((0 : Int) ≤ k ∧ k ≤ (10 : Int) ∧ ys = List.take (cutP (Int.toNat k)) (hdrBody d.1 ((20 : Int) +
     (↑(List.length d.2) : Int)))) ∧ (69 : Int) = (69 : Int) ∧ (1 : Int) = (1 : Int) ∧ d.1.1 = d.1.1 ∧ (1 : Int) = (1 : Int) ∧ IntKind.wrap IntKind.i64 ((20 : Int) + (↑(List.length d.2) : Int)) =
     IntKind.wrap IntKind.i64 ((20 : Int) + (↑(List.length d.2) : Int)) ∧ (2 : Int) = (2 : Int) ∧ d.1.2.1 = d.1.2.1 ∧ (2 : Int) = (2 : Int) ∧ (0 : Int) = (0 : Int) ∧ (2 : Int) = (2 : Int) ∧ d.1.2.2.1 =
     d.1.2.2.1 ∧ (1 : Int) = (1 : Int) ∧ d.1.2.2.2.1 = d.1.2.2.2.1 ∧ (1 : Int) = (1 : Int) ∧ (0 : Int) = (0 : Int) ∧ (2 : Int) = (2 : Int) ∧ IntKind.wrap IntKind.i64 d.1.2.2.2.2.2.1 = IntKind.wrap
     IntKind.i64 d.1.2.2.2.2.2.1 ∧ (4 : Int) = (4 : Int) ∧ IntKind.wrap IntKind.i64 d.1.2.2.2.2.2.2 = IntKind.wrap IntKind.i64 d.1.2.2.2.2.2.2 ∧ (4 : Int) = (4 : Int) ∧ (0 : Int) = k ∧ d.1.1 = d.1.1 ∧
     d.1.2.1 = d.1.2.1 ∧ d.1.2.2.1 = d.1.2.2.1 ∧ d.1.2.2.2.1 = d.1.2.2.2.1 ∧ d.1.2.2.2.2.1 = d.1.2.2.2.2.1 ∧ d.1.2.2.2.2.2.1 = d.1.2.2.2.2.2.1 ∧ d.1.2.2.2.2.2.2 = d.1.2.2.2.2.2.2 ∧ d.2 = d.2 ∧ d.1.1 =
     d.1.1 ∧ d.1.2.1 = d.1.2.1 ∧ d.1.2.2.1 = d.1.2.2.1 ∧ d.1.2.2.2.1 = d.1.2.2.2.1 ∧ d.1.2.2.2.2.1 = d.1.2.2.2.2.1 ∧ d.1.2.2.2.2.2.1 = d.1.2.2.2.2.2.1 ∧ d.1.2.2.2.2.2.2 = d.1.2.2.2.2.2.2 ∧ ys = ([] : List
     Int) ∧ True) ∧ ∀ (k : Int) (ys : List Int), (0 : Int) ≤ k ∧ k ≤ (10 : Int) ∧ ys = List.take (cutP (Int.toNat k)) (hdrBody d.1 ((20 : Int) + (↑(List.length d.2) : Int))) → ifP (decide (k < (10 : Int)))
     ((0 : Int) ≤ k ∧ k < (↑(10 : Nat) : Int) ∧ (↑(List.length ys) : Int) ≤ (1099511627776 : Int) ∧ ∀ (x : List Int) (x_1 : Int), x = putB ys (pickI [(69 : Int), d.1.1, IntKind.wrap IntKind.i64 ((20 : Int)
     + (↑(List.length d.2) : Int)), d.1.2.1, (0 : Int), d.1.2.2.1, d.1.2.2.2.1, (0 : Int), IntKind.wrap IntKind.i64 d.1.2.2.2.2.2.1, IntKind.wrap IntKind.i64 d.1.2.2.2.2.2.2] (Int.toNat k)) (pickI [(1 :
     Int), (1 : Int), (2 : Int), (2 : Int), (2 : Int), (1 : Int), (1 : Int), (2 : Int), (4 : Int), (4 : Int)] (Int.toNat k)) ∧ x_1 = putE (pickI [(69 : Int), d.1.1, IntKind.wrap IntKind.i64 ((20 : Int) +
     (↑(List.length d.2) : Int)), d.1.2.1, (0 : Int), d.1.2.2.1, d.1.2.2.2.1, (0 : Int), IntKind.wrap IntKind.i64 d.1.2.2.2.2.2.1, IntKind.wrap IntKind.i64 d.1.2.2.2.2.2.2] (Int.toNat k)) (pickI [(1 :
     Int), (1 : Int), (2 : Int), (2 : Int), (2 : Int), (1 : Int), (1 : Int), (2 : Int), (4 : Int), (4 : Int)] (Int.toNat k)) → ∃ (k_1 : Int), ∃ (ys : List Int), ((0 : Int) ≤ k_1 ∧ k_1 ≤ (10 : Int) ∧ ys =
     List.take (cutP (Int.toNat k_1)) (hdrBody d.1 ((20 : Int) + (↑(List.length d.2) : Int)))) ∧ Int.toNat ((10 : Int) - k_1) < Int.toNat ((10 : Int) - k) ∧ (69 : Int) = (69 : Int) ∧ (1 : Int) = (1 : Int)
     ∧ d.1.1 = d.1.1 ∧ (1 : Int) = (1 : Int) ∧ IntKind.wrap IntKind.i64 ((20 : Int) + (↑(List.length d.2) : Int)) = IntKind.wrap IntKind.i64 ((20 : Int) + (↑(List.length d.2) : Int)) ∧ (2 : Int) = (2 :
     Int) ∧ d.1.2.1 = d.1.2.1 ∧ (2 : Int) = (2 : Int) ∧ (0 : Int) = (0 : Int) ∧ (2 : Int) = (2 : Int) ∧ d.1.2.2.1 = d.1.2.2.1 ∧ (1 : Int) = (1 : Int) ∧ d.1.2.2.2.1 = d.1.2.2.2.1 ∧ (1 : Int) = (1 : Int) ∧
     (0 : Int) = (0 : Int) ∧ (2 : Int) = (2 : Int) ∧ IntKind.wrap IntKind.i64 d.1.2.2.2.2.2.1 = IntKind.wrap IntKind.i64 d.1.2.2.2.2.2.1 ∧ (4 : Int) = (4 : Int) ∧ IntKind.wrap IntKind.i64 d.1.2.2.2.2.2.2 =
     IntKind.wrap IntKind.i64 d.1.2.2.2.2.2.2 ∧ (4 : Int) = (4 : Int) ∧ IntKind.wrap IntKind.i64 (k + (1 : Int)) = k_1 ∧ d.1.1 = d.1.1 ∧ d.1.2.1 = d.1.2.1 ∧ d.1.2.2.1 = d.1.2.2.1 ∧ d.1.2.2.2.1 =
     d.1.2.2.2.1 ∧ d.1.2.2.2.2.1 = d.1.2.2.2.2.1 ∧ d.1.2.2.2.2.2.1 = d.1.2.2.2.2.2.1 ∧ d.1.2.2.2.2.2.2 = d.1.2.2.2.2.2.2 ∧ d.2 = d.2 ∧ d.1.1 = d.1.1 ∧ d.1.2.1 = d.1.2.1 ∧ d.1.2.2.1 = d.1.2.2.1 ∧
     d.1.2.2.2.1 = d.1.2.2.2.1 ∧ d.1.2.2.2.2.1 = d.1.2.2.2.2.1 ∧ d.1.2.2.2.2.2.1 = d.1.2.2.2.2.2.1 ∧ d.1.2.2.2.2.2.2 = d.1.2.2.2.2.2.2 ∧ x = ys ∧ True) ((↑(List.length ys) : Int) ≤ (1099511627776 : Int) ∧
     ∀ (x : Int), x = (65535 : Int) - oc (sumF true ys) → (0 : Int) ≤ (8 : Int) ∧ (0 : Int) ≤ (10 : Int) ∧ (10 : Int) < (↑(List.length ys) : Int) ∧ (0 : Int) ≤ (11 : Int) ∧ (11 : Int) < (↑(List.length
     (List.set ys (Int.toNat (10 : Int)) (IntKind.wrap IntKind.u8 (shrI IntKind.i64 x (8 : Int))))) : Int) ∧ (List.length (List.set (List.set ys (Int.toNat (10 : Int)) (IntKind.wrap IntKind.u8 (shrI
     IntKind.i64 x (8 : Int)))) (Int.toNat (11 : Int)) (IntKind.wrap IntKind.u8 x)) + List.length d.2) * (1 : Nat) ≤ (140737488355328 : Nat) ∧ List.set (List.set ys (Int.toNat (10 : Int)) (IntKind.wrap
     IntKind.u8 (shrI IntKind.i64 x (8 : Int)))) (Int.toNat (11 : Int)) (IntKind.wrap IntKind.u8 x) ++ d.2 = ipEnc d ∧ (0 : Int) = ipErr d)))) := by
  rintro d ⟨⟨hw, -⟩, -⟩ hl
  obtain ⟨-, -, -, -, -, s0, d0⟩ := hw
  have s0 : 0 ≤ d.1.2.2.2.2.2.1 ∧ d.1.2.2.2.2.2.1 ≤ 4294967295 := s0
  have d0 : 0 ≤ d.1.2.2.2.2.2.2 ∧ d.1.2.2.2.2.2.2 ≤ 4294967295 := d0
  refine ifP_split (fun hc => ?_) (fun hc => ?_)
  · have hn : ¬ hdrOK d.1 := fun k => by rw [hdrErr, if_pos k] at hc; cases hc
    have he : ipErr d = 1 := by rw [ipErr, if_pos hn]
    rw [ipEnc, he, hdrErr, if_neg hn]; exact ⟨rfl, rfl⟩
  have hok : hdrOK d.1 := Classical.byContradiction fun k => by rw [hdrErr, if_neg k] at hc; cases hc
  refine ifP_split (fun h5 => ?_) (fun h5 => ?_)
  · have h5 := of_decide_eq_true h5
    have he : ipErr d = 5 := by rw [ipErr, if_neg (fun k => k hok), if_pos h5]
    rw [ipEnc, he]; exact ⟨rfl, rfl⟩
  have h5 := of_decide_eq_false h5
  have he : ipErr d = 0 := by rw [ipErr, if_neg (fun k => k hok), if_neg h5]
  have e20 : IntKind.wrap .i64 (20 + (d.2.length : Int)) = 20 + d.2.length := w64 (by omega) (by omega)
  have es : IntKind.wrap .i64 d.1.2.2.2.2.2.1 = d.1.2.2.2.2.2.1 := w64 (by have := s0.1; omega) (by have := s0.2; omega)
  have ed : IntKind.wrap .i64 d.1.2.2.2.2.2.2 = d.1.2.2.2.2.2.2 := w64 (by have := d0.1; omega) (by have := d0.2; omega)
  have hc := csum_range (hdr_bytes (n := 20 + d.2.length) hok)
  have hbl := hdrBody_len d.1 (20 + d.2.length)
  have step := fun f hf k => hdr_step (h := d.1) (n := 20 + d.2.length) (f := f) (k := k) hok (by omega) (by omega) s0 d0 hf
  have fin : ∀ ys, ys = hdrBody d.1 (20 + d.2.length) → (List.set (List.set ys (Int.toNat 10) (IntKind.wrap .u8 (shrI .i64 (65535 - oc (sumF true ys)) 8))) (Int.toNat 11) (IntKind.wrap .u8 (65535 - oc (sumF true ys))) ++ d.2 = ipEnc d ∧ (0 : Int) = ipErr d) := by
    rintro ys rfl
    have hc : 0 ≤ 65535 - oc (sumF true (hdrBody d.1 (20 + d.2.length))) := hc.1
    rw [shr8 hc, IntKind.wrap_u8', IntKind.wrap_u8', ipEnc, he, if_pos rfl]
    exact ⟨rfl, rfl⟩
  rw [e20, es, ed]
  refine ifP_split (fun hk => ?_) (fun hk => ?_)
  · refine ⟨⟨0, [], ⟨by omega, by omega, rfl⟩, (by repeat' first | exact trivial | refine ⟨trivial, ?_⟩ | refine ⟨(by with_reducible rfl), ?_⟩ | refine ⟨w64 (by omega) (by omega), ?_⟩ | refine ⟨rfl, ?_⟩)⟩, ?_⟩
    rintro k ys ⟨k0, k1, rfl⟩
    refine ifP_split (fun h => ?_) (fun h => ?_)
    · have h := of_decide_eq_true h
      have st := step 16384 (by rw [hk]; rfl) k k0 h
      refine ⟨k0, h, by rw [List.length_take]; omega, ?_⟩
      rintro y _ ⟨rfl, -⟩
      exact ⟨k + 1, _, ⟨by omega, by omega, st⟩, by omega, (by repeat' first | exact trivial | refine ⟨trivial, ?_⟩ | refine ⟨(by with_reducible rfl), ?_⟩ | refine ⟨w64 (by omega) (by omega), ?_⟩ | refine ⟨rfl, ?_⟩)⟩
    · have h := of_decide_eq_false h
      have e10 : k = 10 := by omega
      subst e10
      have et : (hdrBody d.1 (20 + d.2.length)).take (cutP (Int.toNat 10)) = hdrBody d.1 (20 + d.2.length) := List.take_of_length_le (by rw [hbl]; decide)
      rw [et]
      refine ⟨by omega, ?_⟩
      rintro c rfl
      refine ⟨by omega, by omega, by omega, by omega, by rw [List.length_set]; omega, by rw [List.length_set, List.length_set]; omega, fin _ rfl⟩
  · refine ⟨⟨0, [], ⟨by omega, by omega, rfl⟩, (by repeat' first | exact trivial | refine ⟨trivial, ?_⟩ | refine ⟨(by with_reducible rfl), ?_⟩ | refine ⟨w64 (by omega) (by omega), ?_⟩ | refine ⟨rfl, ?_⟩)⟩, ?_⟩
    rintro k ys ⟨k0, k1, rfl⟩
    refine ifP_split (fun h => ?_) (fun h => ?_)
    · have h := of_decide_eq_true h
      have st := step 0 (by rw [hk]; rfl) k k0 h
      refine ⟨k0, h, by rw [List.length_take]; omega, ?_⟩
      rintro y _ ⟨rfl, -⟩
      exact ⟨k + 1, _, ⟨by omega, by omega, st⟩, by omega, (by repeat' first | exact trivial | refine ⟨trivial, ?_⟩ | refine ⟨(by with_reducible rfl), ?_⟩ | refine ⟨w64 (by omega) (by omega), ?_⟩ | refine ⟨rfl, ?_⟩)⟩
    · have h := of_decide_eq_false h
      have e10 : k = 10 := by omega
      subst e10
      have et : (hdrBody d.1 (20 + d.2.length)).take (cutP (Int.toNat 10)) = hdrBody d.1 (20 + d.2.length) := List.take_of_length_le (by rw [hbl]; decide)
      rw [et]
      refine ⟨by omega, ?_⟩
      rintro c rfl
      refine ⟨by omega, by omega, by omega, by omega, by rw [List.length_set]; omega, by rw [List.length_set, List.length_set]; omega, fin _ rfl⟩
theorem ok_ipv4_Encode : SpecOK Tryz.prog GL 83 ct_ipv4_Encode.spec := Ct.ok' _ Tryz.func83 (by kernel_rfl) (withSpec_ok (withSpec_ok (withSpec_ok noSpecs_ok ok_ipv4_Check) (Ct.named ok_wire_Put)) (Ct.named ok_wire_Checksum)) hmix an_ipv4_Encode (Eq.mpr (by kernel_rfl) vc_ipv4_Encode)

def ct_ipv4_Peek_1 : Ct := ⟨[.val cI, .box 22 (.row 5 cU8), .box 3 cI], [.val cI], fun d => [(d.2.1.length : Int) ≤ 100000, 0 ≤ d.1, d.1 ≤ 8, 0 ≤ d.2.2.1, d.2.2.1 ≤ 100000], fun d => ((getV d.2.1 d.2.2.1 d.1, ()), (d.2.1, d.2.2.1 + d.1, ()))⟩
def an_ipv4_Peek_1 : PDs ct_ipv4_Peek_1.ps → Anns := (fun _ => {})
theorem vc_ipv4_Peek_1 :
    ∀ (x : Int) (x_1 : List Int) (x_2 : Int), ((-9223372036854775808 : Int) ≤ x ∧ x ≤ (9223372036854775807 : Int)) ∧ (List.length x_1 ≤ maxLen ∧ ∀ (x : Int), x ∈ x_1 → (0 : Int) ≤ x ∧ x ≤ (255 : Int)) ∧
     ((-9223372036854775808 : Int) ≤ x_2 ∧ x_2 ≤ (9223372036854775807 : Int)) ∧ True → (↑(List.length x_1) : Int) ≤ (100000 : Int) ∧ (0 : Int) ≤ x ∧ x ≤ (8 : Int) ∧ (0 : Int) ≤ x_2 ∧ x_2 ≤ (100000 : Int) →
     (↑(List.length x_1) : Int) ≤ (1099511627776 : Int) ∧ getV x_1 x_2 x = getV x_1 x_2 x ∧ x_1 = x_1 ∧ IntKind.wrap IntKind.i64 (x_2 + x) = x_2 + x := by
  rintro w b a - ⟨h1, h2, h3, h4, h5⟩
  exact ⟨by omega, rfl, rfl, w64 (by omega) (by omega)⟩
theorem ok_ipv4_Peek_1 : SpecOK Tryz.prog GL 88 ct_ipv4_Peek_1.spec := Ct.ok' _ Tryz.func88 (by kernel_rfl) (withSpec_ok noSpecs_ok ok_wire_Get) hmix an_ipv4_Peek_1 (Eq.mpr (by kernel_rfl) vc_ipv4_Peek_1)

def ct_ipv4_Peek : Ct := ⟨[.val (.sl cU8)], [.agg cHeader, .val cI, .val cI], fun d => [(d.1.length : Int) ≤ 1099511627776], fun d => ((pkHdr d.1, pkLen d.1, pkErr d.1, ()), ())⟩
def an_ipv4_Peek : PDs ct_ipv4_Peek.ps → Anns := (fun _ => {})
theorem vc_ipv4_Peek :
    ∀ (x : List Int), (List.length x ≤ maxLen ∧ ∀ (x_1 : Int), x_1 ∈ x → (0 : Int) ≤ x_1 ∧ x_1 ≤ (255 : Int)) ∧ True → (↑(List.length x) : Int) ≤ (1099511627776 : Int) → ifP (decide ((↑(List.length x) :
     Int) < (20 : Int))) (((0 : Int), (0 : Int), (0 : Int), (0 : Int), false, (0 : Int), (0 : Int)) = pkHdr x ∧ (0 : Int) = pkLen x ∧ (3 : Int) = pkErr x) ((0 : Int) ≤ (0 : Int) ∧ (0 : Int) ≤ (20 : Int) ∧
     (20 : Int) ≤ (↑(List.length x) : Int) ∧ (↑(List.length (subL x (Int.toNat (0 : Int)) (Int.toNat (20 : Int)))) : Int) ≤ (1099511627776 : Int) ∧ (↑(List.length (subL x (Int.toNat (0 : Int)) (Int.toNat
     (20 : Int)))) : Int) ≤ (100000 : Int) ∧ (0 : Int) ≤ (1 : Int) ∧ (1 : Int) ≤ (8 : Int) ∧ (0 : Int) ≤ (0 : Int) ∧ (0 : Int) ≤ (100000 : Int) ∧ ∀ (x_1 : Int) (x_2 : List Int) (x_3 : Int), x_1 = getV
     (subL x (Int.toNat (0 : Int)) (Int.toNat (20 : Int))) (0 : Int) (1 : Int) ∧ x_2 = subL x (Int.toNat (0 : Int)) (Int.toNat (20 : Int)) ∧ x_3 = (0 : Int) + (1 : Int) → (↑(List.length x_2) : Int) ≤
     (100000 : Int) ∧ (0 : Int) ≤ (1 : Int) ∧ (1 : Int) ≤ (8 : Int) ∧ (0 : Int) ≤ x_3 ∧ x_3 ≤ (100000 : Int) ∧ ∀ (x_4 : Int) (x_5 : List Int) (x_6 : Int), x_4 = getV x_2 x_3 (1 : Int) ∧ x_5 = x_2 ∧ x_6 =
     x_3 + (1 : Int) → (↑(List.length x_5) : Int) ≤ (100000 : Int) ∧ (0 : Int) ≤ (2 : Int) ∧ (2 : Int) ≤ (8 : Int) ∧ (0 : Int) ≤ x_6 ∧ x_6 ≤ (100000 : Int) ∧ ∀ (x_7 : Int) (x_8 : List Int) (x_9 : Int), x_7
     = getV x_5 x_6 (2 : Int) ∧ x_8 = x_5 ∧ x_9 = x_6 + (2 : Int) → (↑(List.length x_8) : Int) ≤ (100000 : Int) ∧ (0 : Int) ≤ (2 : Int) ∧ (2 : Int) ≤ (8 : Int) ∧ (0 : Int) ≤ x_9 ∧ x_9 ≤ (100000 : Int) ∧ ∀
     (x_10 : Int) (x_11 : List Int) (x_12 : Int), x_10 = getV x_8 x_9 (2 : Int) ∧ x_11 = x_8 ∧ x_12 = x_9 + (2 : Int) → (↑(List.length x_11) : Int) ≤ (100000 : Int) ∧ (0 : Int) ≤ (2 : Int) ∧ (2 : Int) ≤ (8
     : Int) ∧ (0 : Int) ≤ x_12 ∧ x_12 ≤ (100000 : Int) ∧ ∀ (x_13 : Int) (x_14 : List Int) (x_15 : Int), x_13 = getV x_11 x_12 (2 : Int) ∧ x_14 = x_11 ∧ x_15 = x_12 + (2 : Int) → (↑(List.length x_14) : Int)
     ≤ (100000 : Int) ∧ (0 : Int) ≤ (1 : Int) ∧ (1 : Int) ≤ (8 : Int) ∧ (0 : Int) ≤ x_15 ∧ x_15 ≤ (100000 : Int) ∧ ∀ (x_16 : Int) (x_17 : List Int) (x_18 : Int), x_16 = getV x_14 x_15 (1 : Int) ∧ x_17 =
     x_14 ∧ x_18 = x_15 + (1 : Int) → (↑(List.length x_17) : Int) ≤ (100000 : Int) ∧ (0 : Int) ≤ (1 : Int) ∧ (1 : Int) ≤ (8 : Int) ∧ (0 : Int) ≤ x_18 ∧ x_18 ≤ (100000 : Int) ∧ ∀ (x_19 : Int) (x_20 : List
     Int) (x_21 : Int), x_19 = getV x_17 x_18 (1 : Int) ∧ x_20 = x_17 ∧ x_21 = x_18 + (1 : Int) → (↑(List.length x_20) : Int) ≤ (100000 : Int) ∧ (0 : Int) ≤ (2 : Int) ∧ (2 : Int) ≤ (8 : Int) ∧ (0 : Int) ≤
     x_21 ∧ x_21 ≤ (100000 : Int) ∧ ∀ (x_22 : Int) (x_23 : List Int) (x_24 : Int), x_22 = getV x_20 x_21 (2 : Int) ∧ x_23 = x_20 ∧ x_24 = x_21 + (2 : Int) → (↑(List.length x_23) : Int) ≤ (100000 : Int) ∧
     (0 : Int) ≤ (4 : Int) ∧ (4 : Int) ≤ (8 : Int) ∧ (0 : Int) ≤ x_24 ∧ x_24 ≤ (100000 : Int) ∧ ∀ (x_25 : Int) (x_26 : List Int) (x_27 : Int), x_25 = getV x_23 x_24 (4 : Int) ∧ x_26 = x_23 ∧ x_27 = x_24 +
     (4 : Int) → (↑(List.length x_26) : Int) ≤ (100000 : Int) ∧ (0 : Int) ≤ (4 : Int) ∧ (4 : Int) ≤ (8 : Int) ∧ (0 : Int) ≤ x_27 ∧ x_27 ≤ (100000 : Int) ∧ ∀ (x_28 : Int) (x_29 : List Int) (x_30 : Int),
     x_28 = getV x_26 x_27 (4 : Int) ∧ x_29 = x_26 ∧ x_30 = x_27 + (4 : Int) → ∀ (b : Bool), b = !decide (x_1 = (69 : Int)) → ((!b) = true → ((!b) = true → (!b) = true) ∧ True) ∧ ((!b) = true → ((!b) =
     true → (!b) = true) ∧ True) ∧ ∀ (b_1 : Bool), b_1 = !decide (x_13 = (0 : Int)) → ((!b && b_1) = true → ((!b && b_1) = true → (!b && b_1) = true) ∧ True) ∧ ((!b && b_1) = true → ((!b && b_1) = true →
     (!b && b_1) = true) ∧ True) ∧ ((!b) = true → ((!b) = true → (!b) = true) ∧ (b_1 = true → (!b && b_1) = true) ∧ True) ∧ (b = false → (!b) = true) ∧ ∀ (b_2 : Bool), (b_2 = bif b then true else bif b_1
     then !decide (x_13 = (16384 : Int)) else false) → ((!b_2) = true → ((!b_2) = true → (!b_2) = true) ∧ True) ∧ (b_2 = false → (!b_2) = true) ∧ ifP (bif b_2 then true else decide (x_7 < (20 : Int))) (((0
     : Int), (0 : Int), (0 : Int), (0 : Int), false, (0 : Int), (0 : Int)) = pkHdr x ∧ (0 : Int) = pkLen x ∧ (2 : Int) = pkErr x) ((0 : Int) ≤ (10 : Int) ∧ (10 : Int) < (↑(List.length x_29) : Int) ∧ (0 :
     Int) ≤ (11 : Int) ∧ (11 : Int) < (↑(List.length (List.set x_29 (Int.toNat (10 : Int)) (0 : Int))) : Int) ∧ (↑(List.length (List.set (List.set x_29 (Int.toNat (10 : Int)) (0 : Int)) (Int.toNat (11 :
     Int)) (0 : Int))) : Int) ≤ (1099511627776 : Int) ∧ ∀ (x_31 : Int), x_31 = (65535 : Int) - oc (sumF true (List.set (List.set x_29 (Int.toNat (10 : Int)) (0 : Int)) (Int.toNat (11 : Int)) (0 : Int))) →
     ifP (!decide (x_31 = x_22)) (((0 : Int), (0 : Int), (0 : Int), (0 : Int), false, (0 : Int), (0 : Int)) = pkHdr x ∧ (0 : Int) = pkLen x ∧ (4 : Int) = pkErr x) ((x_4, x_10, x_16, x_19, decide (x_13 =
     (16384 : Int)), IntKind.wrap IntKind.u32 x_25, IntKind.wrap IntKind.u32 x_28) = pkHdr x ∧ x_7 = pkLen x ∧ (0 : Int) = pkErr x))) := by
  rintro b ⟨⟨-, hb⟩, -⟩ hl
  refine ifP_split (fun h => ?_) (fun h => ?_)
  · have h := of_decide_eq_true h
    have e : pkErr b = 3 := by rw [pkErr, if_pos h]
    rw [pkHdr, pkLen, e]; exact ⟨rfl, rfl, rfl⟩
  have h := of_decide_eq_false h
  have hB : subL b (Int.toNat 0) (Int.toNat 20) = b.take 20 := rfl
  have hBl : (b.take 20).length = 20 := by rw [List.length_take]; omega
  rw [hB]
  refine ⟨by omega, by omega, by omega, by omega, by omega, by omega, by omega, by omega, by omega, ?_⟩
  rintro v0 _ a0 ⟨e0, rfl, q0⟩
  rw [gV1 (by omega) (by omega), take_get (by decide)] at e0
  have q0 : a0 = 1 := q0
  subst q0
  refine ⟨by omega, by omega, by omega, by omega, by omega, ?_⟩
  rintro v1 _ a1 ⟨e1, rfl, q1⟩
  rw [gV1 (by omega) (by omega), take_get (by decide)] at e1
  have q1 : a1 = 2 := q1
  subst q1
  refine ⟨by omega, by omega, by omega, by omega, by omega, ?_⟩
  rintro v2 _ a2 ⟨e2, rfl, q2⟩
  rw [gV2 (by omega) (by omega), take_word (by decide)] at e2
  have q2 : a2 = 4 := q2
  subst q2
  refine ⟨by omega, by omega, by omega, by omega, by omega, ?_⟩
  rintro v3 _ a3 ⟨e3, rfl, q3⟩
  rw [gV2 (by omega) (by omega), take_word (by decide)] at e3
  have q3 : a3 = 6 := q3
  subst q3
  refine ⟨by omega, by omega, by omega, by omega, by omega, ?_⟩
  rintro v4 _ a4 ⟨e4, rfl, q4⟩
  rw [gV2 (by omega) (by omega), take_word (by decide)] at e4
  have q4 : a4 = 8 := q4
  subst q4
  refine ⟨by omega, by omega, by omega, by omega, by omega, ?_⟩
  rintro v5 _ a5 ⟨e5, rfl, q5⟩
  rw [gV1 (by omega) (by omega), take_get (by decide)] at e5
  have q5 : a5 = 9 := q5
  subst q5
  refine ⟨by omega, by omega, by omega, by omega, by omega, ?_⟩
  rintro v6 _ a6 ⟨e6, rfl, q6⟩
  rw [gV1 (by omega) (by omega), take_get (by decide)] at e6
  have q6 : a6 = 10 := q6
  subst q6
  refine ⟨by omega, by omega, by omega, by omega, by omega, ?_⟩
  rintro v7 _ a7 ⟨e7, rfl, q7⟩
  rw [gV2 (by omega) (by omega), take_word (by decide)] at e7
  have q7 : a7 = 12 := q7
  subst q7
  refine ⟨by omega, by omega, by omega, by omega, by omega, ?_⟩
  rintro v8 _ a8 ⟨e8, rfl, q8⟩
  rw [gV4 (by omega) (by omega), take_drop_take (by decide)] at e8
  have q8 : a8 = 16 := q8
  subst q8
  refine ⟨by omega, by omega, by omega, by omega, by omega, ?_⟩
  rintro v9 _ a9 ⟨e9, rfl, q9⟩
  rw [gV4 (by omega) (by omega), take_drop_take (by decide)] at e9
  have q9 : a9 = 20 := q9
  subst q9
  subst e0 e1 e2 e3 e4 e5 e6 e7 e8 e9
  have n12 := bytes_num4 hb 12
  have n16 := bytes_num4 hb 16
  have hcs : 65535 - oc (sumF true (((b.take 20).set (Int.toNat 10) 0).set (Int.toNat 11) 0)) = csum (setW (b.take 20) 10 0) := rfl
  (repeat (intro (b_ : Bool) (hb_ : b_ = _); (repeat refine ⟨(by first | (simp; done) | (rw [hb_]; simp; done) | (rw [hb_]; simp; omega) | (rw [hb_]; simp; intros; omega) | (rw [hb_]; simp +contextual; done)), ?_⟩); subst hb_))
  refine ifP_split (fun hc => ?_) (fun hc => ?_)
  · have e : pkErr b = 2 := by
      rw [pkErr, if_neg h, if_pos]
      rintro ⟨h0, hf, h2⟩
      rw [show b.getD (Int.toNat 0) default = 69 from h0] at hc
      rcases hf with hf | hf
      · rw [show wordAt b (Int.toNat 6) = 0 from hf] at hc
        simp at hc
        have h2 : 20 ≤ wordAt b (Int.toNat 2) := h2
        simp at h2; omega
      · rw [show wordAt b (Int.toNat 6) = 16384 from hf] at hc
        simp at hc
        have h2 : 20 ≤ wordAt b (Int.toNat 2) := h2
        simp at h2; omega
    rw [pkHdr, pkLen, e]; exact ⟨rfl, rfl, rfl⟩
  have hg : b.getD 0 default = 69 ∧ (wordAt b 6 = 0 ∨ wordAt b 6 = 16384) ∧ 20 ≤ wordAt b 2 := by
    by_cases h0 : b.getD (Int.toNat 0) default = 69
    · by_cases h6 : wordAt b (Int.toNat 6) = 0
      · simp [h0, h6] at hc
        exact ⟨h0, .inl h6, by omega⟩
      · by_cases h7 : wordAt b (Int.toNat 6) = 16384
        · simp [h0, h7] at hc
          exact ⟨h0, .inr h7, by omega⟩
        · exfalso
          rw [h0, decide_eq_false h6, decide_eq_false h7] at hc; simp at hc
    · exfalso
      rw [decide_eq_false h0] at hc; simp at hc
  refine ⟨by omega, by omega, by omega, by rw [List.length_set]; omega, by rw [List.length_set, List.length_set]; omega, ?_⟩
  rw [hcs]
  rintro c rfl
  refine ifP_split (fun hc => ?_) (fun hc => ?_)
  · have e : pkErr b = 4 := by
      rw [pkErr, if_neg h, if_neg (fun k => k hg), if_pos]
      intro k
      rw [show wordAt b (Int.toNat 10) = wordAt b 10 from rfl, k] at hc; simp at hc
    rw [pkHdr, pkLen, e]; exact ⟨rfl, rfl, rfl⟩
  · have e : pkErr b = 0 := by
      rw [pkErr, if_neg h, if_neg (fun k => k hg), if_neg]
      intro k
      exact k (by simpa using hc)
    rw [pkHdr, pkLen, e, if_pos rfl, if_pos rfl, show Int.toNat 12 = 12 from rfl, show Int.toNat 16 = 16 from rfl, wu32 n12.1 n12.2, wu32 n16.1 n16.2]
    exact ⟨rfl, rfl, rfl⟩
theorem ok_ipv4_Peek : SpecOK Tryz.prog GL 56 ct_ipv4_Peek.spec := Ct.ok' _ Tryz.func56 (by kernel_rfl) (withSpec_ok (withSpec_ok (withSpec_ok noSpecs_ok ok_slices_Clone_b979) (Ct.named ok_ipv4_Peek_1)) (Ct.named ok_wire_Checksum)) hmix an_ipv4_Peek (Eq.mpr (by kernel_rfl) vc_ipv4_Peek)

def ct_ipv4_Decode : Ct := ⟨[.val (.sl cU8)], [.agg cPacket, .val cI], fun d => [(d.1.length : Int) ≤ 1099511627776], fun d => ((decPkt d.1, decErr d.1, ()), ())⟩
def an_ipv4_Decode : PDs ct_ipv4_Decode.ps → Anns := (fun _ => {})
theorem vc_ipv4_Decode :
    ∀ (x : List Int), (List.length x ≤ maxLen ∧ ∀ (x_1 : Int), x_1 ∈ x → (0 : Int) ≤ x_1 ∧ x_1 ≤ (255 : Int)) ∧ True → (↑(List.length x) : Int) ≤ (1099511627776 : Int) → (↑(List.length x) : Int) ≤
     (1099511627776 : Int) ∧ ifP (!decide (pkErr x = (0 : Int))) ((((0 : Int), (0 : Int), (0 : Int), (0 : Int), false, (0 : Int), (0 : Int)), ([] : List Int)) = decPkt x ∧ pkErr x = decErr x) (ifP (!decide
     (pkLen x = (↑(List.length x) : Int))) ((((0 : Int), (0 : Int), (0 : Int), (0 : Int), false, (0 : Int), (0 : Int)), ([] : List Int)) = decPkt x ∧ (2 : Int) = decErr x) (ifP (decide ((1500 : Int) <
     pkLen x)) ((((0 : Int), (0 : Int), (0 : Int), (0 : Int), false, (0 : Int), (0 : Int)), ([] : List Int)) = decPkt x ∧ (5 : Int) = decErr x) ((0 : Int) ≤ (20 : Int) ∧ (20 : Int) ≤ (↑(List.length x) :
     Int) ∧ (↑(List.length x) : Int) ≤ (↑(List.length x) : Int) ∧ (↑(List.length (subL x (Int.toNat (20 : Int)) (Int.toNat (↑(List.length x) : Int)))) : Int) ≤ (1099511627776 : Int) ∧ (pkHdr x, subL x
     (Int.toNat (20 : Int)) (Int.toNat (↑(List.length x) : Int))) = decPkt x ∧ (0 : Int) = decErr x))) := by
  rintro b ⟨⟨-, hb⟩, -⟩ hl
  refine ⟨hl, ifP_split (fun hc => ?_) (fun hc => ?_)⟩
  · have hc : ¬ pkErr b = 0 := by simpa using hc
    have e : decErr b = pkErr b := by rw [decErr, if_pos hc]
    rw [decPkt, e, if_neg hc]; exact ⟨rfl, rfl⟩
  have hc : pkErr b = 0 := by simpa using hc
  have hlen : pkLen b = wordAt b 2 := by rw [pkLen, if_pos hc]
  rw [hlen]
  refine ifP_split (fun h2 => ?_) (fun h2 => ?_)
  · have h2 : ¬ wordAt b 2 = b.length := by simpa using h2
    have e : decErr b = 2 := by rw [decErr, if_neg (fun k => k hc), if_pos h2]
    rw [decPkt, e]; exact ⟨rfl, rfl⟩
  have h2 : wordAt b 2 = b.length := by simpa using h2
  refine ifP_split (fun h5 => ?_) (fun h5 => ?_)
  · have h5 := of_decide_eq_true h5
    have e : decErr b = 5 := by rw [decErr, if_neg (fun k => k hc), if_neg (fun k => k h2), if_pos h5]
    rw [decPkt, e]; exact ⟨rfl, rfl⟩
  have h5 := of_decide_eq_false h5
  have e : decErr b = 0 := by rw [decErr, if_neg (fun k => k hc), if_neg (fun k => k h2), if_neg h5]
  have h20 := pk_long hc
  rw [show Int.toNat 20 = 20 from rfl, sub_drop, decPkt, e, if_pos rfl, pkHdr, if_pos hc, List.length_drop]
  exact ⟨by omega, by omega, by omega, by omega, rfl, rfl⟩
theorem ok_ipv4_Decode : SpecOK Tryz.prog GL 58 ct_ipv4_Decode.spec := Ct.ok' _ Tryz.func58 (by kernel_rfl) (withSpec_ok (withSpec_ok noSpecs_ok ok_ipv4_Peek) ok_slices_Clone_b979) hmix an_ipv4_Decode (Eq.mpr (by kernel_rfl) vc_ipv4_Decode)


def ct_ref05_Check : Ct := ⟨[.agg cHeader], [.val cI], fun d => [], fun d => ((hdrErr d.1, ()), ())⟩
def an_ref05_Check : PDs ct_ref05_Check.ps → Anns := (fun _ => {})
theorem vc_ref05_Check :
    ∀ (d : Int × Int × Int × Int × Bool × Int × Int), CT.wf cHeader d ∧ True → True → ∀ (b : Bool), b = decide (d.1 < (0 : Int)) → ((!b) = true → ((!b) = true → (!b) = true) ∧ True) ∧ ((!b) = true → ((!b)
     = true → (!b) = true) ∧ True) ∧ (b = false → (!b) = true) ∧ ∀ (b_1 : Bool), (b_1 = bif b then true else decide ((255 : Int) < d.1)) → ((!b_1) = true → ((!b_1) = true → (!b_1) = true) ∧ True) ∧ ((!b_1)
     = true → ((!b_1) = true → (!b_1) = true) ∧ True) ∧ (b_1 = false → (!b_1) = true) ∧ ∀ (b : Bool), (b = bif b_1 then true else decide (d.2.2.1 < (0 : Int))) → ((!b) = true → ((!b) = true → (!b) = true)
     ∧ True) ∧ ((!b) = true → ((!b) = true → (!b) = true) ∧ True) ∧ (b = false → (!b) = true) ∧ ∀ (b_2 : Bool), (b_2 = bif b then true else decide ((255 : Int) < d.2.2.1)) → ((!b_2) = true → ((!b_2) = true
     → (!b_2) = true) ∧ True) ∧ ((!b_2) = true → ((!b_2) = true → (!b_2) = true) ∧ True) ∧ (b_2 = false → (!b_2) = true) ∧ ∀ (b : Bool), (b = bif b_2 then true else decide (d.2.2.2.1 < (0 : Int))) → ((!b)
     = true → ((!b) = true → (!b) = true) ∧ True) ∧ ((!b) = true → ((!b) = true → (!b) = true) ∧ True) ∧ (b = false → (!b) = true) ∧ ∀ (b_3 : Bool), (b_3 = bif b then true else decide ((255 : Int) <
     d.2.2.2.1)) → ((!b_3) = true → ((!b_3) = true → (!b_3) = true) ∧ True) ∧ ((!b_3) = true → ((!b_3) = true → (!b_3) = true) ∧ True) ∧ (b_3 = false → (!b_3) = true) ∧ ∀ (b : Bool), (b = bif b_3 then true
     else decide (d.2.1 < (0 : Int))) → ((!b) = true → ((!b) = true → (!b) = true) ∧ True) ∧ ((!b) = true → ((!b) = true → (!b) = true) ∧ True) ∧ (b = false → (!b) = true) ∧ ifP (bif b then true else
     decide ((65535 : Int) < d.2.1)) ((1 : Int) = hdrErr d) ((0 : Int) = hdrErr d) := by
  rintro h - -
  (repeat (intro (b_ : Bool) (hb_ : b_ = _); (repeat refine ⟨(by first | (simp; done) | (rw [hb_]; simp; done) | (rw [hb_]; simp; omega) | (rw [hb_]; simp; intros; omega) | (rw [hb_]; simp +contextual; done)), ?_⟩); subst hb_))
  refine ifP_split (fun hc => ?_) (fun hc => ?_)
  · rw [hdrErr, if_neg]
    intro k; obtain ⟨k1, k2, k3, k4, k5⟩ := k
    unfold in8 at k1 k2 k3
    simp [Bool.cond_eq_ite] at hc; omega
  · rw [hdrErr, if_pos]
    unfold hdrOK in8
    simp [Bool.cond_eq_ite] at hc; omega
theorem ok_ref05_Check : SpecOK Tryz.prog GL 100 ct_ref05_Check.spec := Ct.ok' _ Tryz.func100 (by kernel_rfl) noSpecs_ok hmix an_ref05_Check (Eq.mpr (by kernel_rfl) vc_ref05_Check)

def ct_ref05_header : Ct := ⟨[.agg cHeader, .val cI], [.own 5 cU8], fun d => [hdrOK d.1, 0 ≤ d.2.1, d.2.1 ≤ 65535], fun d => ((hdrB d.1 d.2.1, ()), ())⟩
def an_ref05_header : PDs ct_ref05_header.ps → Anns := (fun _ => {})
theorem vc_ref05_header :
    ∀ (d : Int × Int × Int × Int × Bool × Int × Int) (x : Int), CT.wf cHeader d ∧ ((-9223372036854775808 : Int) ≤ x ∧ x ≤ (9223372036854775807 : Int)) ∧ True → hdrOK d ∧ (0 : Int) ≤ x ∧ x ≤ (65535 : Int)
     → ifP d.2.2.2.2.1 ((↑(0 : Nat) : Int) ≤ (1099511627776 : Int) ∧ ∀ (x_1 : List Int), x_1 = putB ([] : List Int) (69 : Int) (1 : Int) → (↑(List.length x_1) : Int) ≤ (1099511627776 : Int) ∧ ∀ (x_2 : List
     Int), x_2 = putB x_1 d.1 (1 : Int) → (↑(List.length x_2) : Int) ≤ (1099511627776 : Int) ∧ ∀ (x_3 : List Int), x_3 = putB x_2 x (2 : Int) → (↑(List.length x_3) : Int) ≤ (1099511627776 : Int) ∧ ∀ (x_4 :
     List Int), x_4 = putB x_3 d.2.1 (2 : Int) → (↑(List.length x_4) : Int) ≤ (1099511627776 : Int) ∧ ∀ (x_5 : List Int), x_5 = putB x_4 (16384 : Int) (2 : Int) → (↑(List.length x_5) : Int) ≤
     (1099511627776 : Int) ∧ ∀ (x_6 : List Int), x_6 = putB x_5 d.2.2.1 (1 : Int) → (↑(List.length x_6) : Int) ≤ (1099511627776 : Int) ∧ ∀ (x_7 : List Int), x_7 = putB x_6 d.2.2.2.1 (1 : Int) → (↑(0 : Nat)
     : Int) ≤ (1099511627776 : Int) ∧ ∀ (x_8 : List Int), x_8 = putB ([] : List Int) (IntKind.wrap IntKind.i64 d.2.2.2.2.2.1) (4 : Int) → (↑(List.length x_8) : Int) ≤ (1099511627776 : Int) ∧ ∀ (x_9 : List
     Int), x_9 = putB x_8 (IntKind.wrap IntKind.i64 d.2.2.2.2.2.2) (4 : Int) → List.length x_7 * (1 : Nat) ≤ (140737488355328 : Nat) ∧ (List.length [(0 : Int), (0 : Int)] + List.length x_9) * (1 : Nat) ≤
     (140737488355328 : Nat) ∧ (List.length x_7 + List.length ([(0 : Int), (0 : Int)] ++ x_9)) * (1 : Nat) ≤ (140737488355328 : Nat) ∧ (↑(List.length (x_7 ++ ([(0 : Int), (0 : Int)] ++ x_9))) : Int) ≤
     (1099511627776 : Int) ∧ ∀ (x_10 : Int), x_10 = (65535 : Int) - oc (sumF true (x_7 ++ ([(0 : Int), (0 : Int)] ++ x_9))) → (↑(List.length x_7) : Int) ≤ (1099511627776 : Int) ∧ ∀ (x_11 : List Int), x_11
     = putB x_7 x_10 (2 : Int) → (List.length x_11 + List.length x_9) * (1 : Nat) ≤ (140737488355328 : Nat) ∧ x_11 ++ x_9 = hdrB d x) ((↑(0 : Nat) : Int) ≤ (1099511627776 : Int) ∧ ∀ (x_1 : List Int), x_1 =
     putB ([] : List Int) (69 : Int) (1 : Int) → (↑(List.length x_1) : Int) ≤ (1099511627776 : Int) ∧ ∀ (x_2 : List Int), x_2 = putB x_1 d.1 (1 : Int) → (↑(List.length x_2) : Int) ≤ (1099511627776 : Int) ∧
     ∀ (x_3 : List Int), x_3 = putB x_2 x (2 : Int) → (↑(List.length x_3) : Int) ≤ (1099511627776 : Int) ∧ ∀ (x_4 : List Int), x_4 = putB x_3 d.2.1 (2 : Int) → (↑(List.length x_4) : Int) ≤ (1099511627776 :
     Int) ∧ ∀ (x_5 : List Int), x_5 = putB x_4 (0 : Int) (2 : Int) → (↑(List.length x_5) : Int) ≤ (1099511627776 : Int) ∧ ∀ (x_6 : List Int), x_6 = putB x_5 d.2.2.1 (1 : Int) → (↑(List.length x_6) : Int) ≤
     (1099511627776 : Int) ∧ ∀ (x_7 : List Int), x_7 = putB x_6 d.2.2.2.1 (1 : Int) → (↑(0 : Nat) : Int) ≤ (1099511627776 : Int) ∧ ∀ (x_8 : List Int), x_8 = putB ([] : List Int) (IntKind.wrap IntKind.i64
     d.2.2.2.2.2.1) (4 : Int) → (↑(List.length x_8) : Int) ≤ (1099511627776 : Int) ∧ ∀ (x_9 : List Int), x_9 = putB x_8 (IntKind.wrap IntKind.i64 d.2.2.2.2.2.2) (4 : Int) → List.length x_7 * (1 : Nat) ≤
     (140737488355328 : Nat) ∧ (List.length [(0 : Int), (0 : Int)] + List.length x_9) * (1 : Nat) ≤ (140737488355328 : Nat) ∧ (List.length x_7 + List.length ([(0 : Int), (0 : Int)] ++ x_9)) * (1 : Nat) ≤
     (140737488355328 : Nat) ∧ (↑(List.length (x_7 ++ ([(0 : Int), (0 : Int)] ++ x_9))) : Int) ≤ (1099511627776 : Int) ∧ ∀ (x_10 : Int), x_10 = (65535 : Int) - oc (sumF true (x_7 ++ ([(0 : Int), (0 : Int)]
     ++ x_9))) → (↑(List.length x_7) : Int) ≤ (1099511627776 : Int) ∧ ∀ (x_11 : List Int), x_11 = putB x_7 x_10 (2 : Int) → (List.length x_11 + List.length x_9) * (1 : Nat) ≤ (140737488355328 : Nat) ∧ x_11
     ++ x_9 = hdrB d x) := by
  rintro h n ⟨hw, -⟩ ⟨hok, n0, n1⟩
  obtain ⟨-, -, -, -, -, s0, d0⟩ := hw
  have s0 : 0 ≤ h.2.2.2.2.2.1 ∧ h.2.2.2.2.2.1 ≤ 4294967295 := s0
  have d0 : 0 ≤ h.2.2.2.2.2.2 ∧ h.2.2.2.2.2.2 ≤ 4294967295 := d0
  have es : IntKind.wrap .i64 h.2.2.2.2.2.1 = h.2.2.2.2.2.1 := w64 (by omega) (by omega)
  have ed : IntKind.wrap .i64 h.2.2.2.2.2.2 = h.2.2.2.2.2.2 := w64 (by omega) (by omega)
  rw [es, ed]
  have hc := csum_range (hdr_bytes (n := n) hok)
  obtain ⟨h1, h2, h3, h4, h5⟩ := hok
  have key : ∀ f : Int, (f = if h.2.2.2.2.1 then 16384 else 0) → 0 ≤ f → f ≤ 65535 → ((0 : Nat) : Int) ≤ 1099511627776 ∧ ∀ x1, x1 = putB [] 69 1 → (x1.length : Int) ≤ 1099511627776 ∧ ∀ x2, x2 = putB x1 h.1 1 → (x2.length : Int) ≤ 1099511627776 ∧ ∀ x3, x3 = putB x2 n 2 → (x3.length : Int) ≤ 1099511627776 ∧
      ∀ x4, x4 = putB x3 h.2.1 2 → (x4.length : Int) ≤ 1099511627776 ∧ ∀ x5, x5 = putB x4 f 2 → (x5.length : Int) ≤ 1099511627776 ∧ ∀ x6, x6 = putB x5 h.2.2.1 1 → (x6.length : Int) ≤ 1099511627776 ∧ ∀ x7, x7 = putB x6 h.2.2.2.1 1 → ((0 : Nat) : Int) ≤ 1099511627776 ∧
      ∀ x8, x8 = putB [] h.2.2.2.2.2.1 4 → (x8.length : Int) ≤ 1099511627776 ∧ ∀ x9, x9 = putB x8 h.2.2.2.2.2.2 4 → x7.length * 1 ≤ 140737488355328 ∧ (List.length [(0 : Int), 0] + x9.length) * 1 ≤ 140737488355328 ∧ (x7.length + List.length ([0, 0] ++ x9)) * 1 ≤ 140737488355328 ∧
      ((x7 ++ ([0, 0] ++ x9)).length : Int) ≤ 1099511627776 ∧ ∀ c, c = 65535 - oc (sumF true (x7 ++ ([0, 0] ++ x9))) → (x7.length : Int) ≤ 1099511627776 ∧ ∀ x11, x11 = putB x7 c 2 → (x11.length + x9.length) * 1 ≤ 140737488355328 ∧ x11 ++ x9 = hdrB h n := by
    intro f hf f0 f1
    refine ⟨by omega, ?_⟩
    rintro x1 e1
    rw [putB_1 (by omega) (by omega)] at e1
    refine ⟨by rw [e1]; simp, ?_⟩
    rintro x2 e2
    rw [putB_1 h1.1 h1.2, e1] at e2
    refine ⟨by rw [e2]; simp, ?_⟩
    rintro x3 e3
    rw [putB_2 n0 n1, e2] at e3
    refine ⟨by rw [e3]; simp [w2], ?_⟩
    rintro x4 e4
    rw [putB_2 h4 h5, e3] at e4
    refine ⟨by rw [e4]; simp [w2], ?_⟩
    rintro x5 e5
    rw [putB_2 f0 f1, e4] at e5
    refine ⟨by rw [e5]; simp [w2], ?_⟩
    rintro x6 e6
    rw [putB_1 h2.1 h2.2, e5] at e6
    refine ⟨by rw [e6]; simp [w2], ?_⟩
    rintro x7 e7
    rw [putB_1 h3.1 h3.2, e6] at e7
    have e7 : x7 = hdrHead h n := by rw [e7, hf]; simp [hdrHead]
    refine ⟨by omega, ?_⟩
    rintro x8 e8
    rw [putB_4 s0.1 s0.2] at e8
    refine ⟨by rw [e8]; simp [w4], ?_⟩
    rintro x9 e9
    rw [putB_4 d0.1 d0.2, e8] at e9
    have e9 : x9 = hdrTail h := e9
    have l7 : x7.length = 10 := by rw [e7]; rfl
    have l9 : x9.length = 8 := by rw [e9]; rfl
    have eb : x7 ++ ([0, 0] ++ x9) = hdrBody h n := by rw [e7, e9]; rfl
    refine ⟨by omega, by simp [l9], by simp [l7, l9], by simp [l7, l9], ?_⟩
    rw [eb]
    rintro c rfl
    refine ⟨by omega, ?_⟩
    rintro x11 e11
    rw [show 65535 - oc (sumF true (hdrBody h n)) = csum (hdrBody h n) from rfl, putB_2 hc.1 hc.2] at e11
    refine ⟨by rw [e11, List.length_append, l7, l9]; simp [w2], ?_⟩
    rw [e11, e7, e9, List.append_assoc]; rfl
  refine ifP_split (fun hk => ?_) (fun hk => ?_)
  · exact key 16384 (by rw [hk]; rfl) (by omega) (by omega)
  · exact key 0 (by rw [hk]; rfl) (by omega) (by omega)
theorem ok_ref05_header : SpecOK Tryz.prog GL 101 ct_ref05_header.spec := Ct.ok' _ Tryz.func101 (by kernel_rfl) (withSpec_ok (withSpec_ok noSpecs_ok (Ct.named ok_ref04_Push)) (Ct.named ok_ref04_Checksum)) hmix an_ref05_header (Eq.mpr (by kernel_rfl) vc_ref05_header)

def ct_ref05_Encode : Ct := ⟨[.agg cPacket], [.own 5 cU8, .val cI], fun d => [(d.1.2.length : Int) ≤ 1073741824], fun d => ((ipEnc d.1, ipErr d.1, ()), ())⟩
def an_ref05_Encode : PDs ct_ref05_Encode.ps → Anns := (fun _ => {})
theorem vc_ref05_Encode :
    ∀ (d : (Int × Int × Int × Int × Bool × Int × Int) × List Int), CT.wf cPacket d ∧ True → (↑(List.length d.2) : Int) ≤ (1073741824 : Int) → ifP (!decide (hdrErr d.1 = (0 : Int))) (([] : List Int) =
     ipEnc d ∧ hdrErr d.1 = ipErr d) (ifP (decide ((1500 : Int) < IntKind.wrap IntKind.i64 ((↑(List.length d.2) : Int) + (20 : Int)))) (([] : List Int) = ipEnc d ∧ (5 : Int) = ipErr d) (hdrOK d.1 ∧ (0 :
     Int) ≤ IntKind.wrap IntKind.i64 ((↑(List.length d.2) : Int) + (20 : Int)) ∧ IntKind.wrap IntKind.i64 ((↑(List.length d.2) : Int) + (20 : Int)) ≤ (65535 : Int) ∧ (List.length (hdrB d.1 (IntKind.wrap
     IntKind.i64 ((↑(List.length d.2) : Int) + (20 : Int)))) + List.length d.2) * (1 : Nat) ≤ (140737488355328 : Nat) ∧ hdrB d.1 (IntKind.wrap IntKind.i64 ((↑(List.length d.2) : Int) + (20 : Int))) ++ d.2
     = ipEnc d ∧ (0 : Int) = ipErr d)) := by
  rintro d ⟨⟨hw, -⟩, -⟩ hl
  refine ifP_split (fun hc => ?_) (fun hc => ?_)
  · have hn : ¬ hdrOK d.1 := fun k => by rw [hdrErr, if_pos k] at hc; cases hc
    have he : ipErr d = 1 := by rw [ipErr, if_pos hn]
    rw [ipEnc, he, hdrErr, if_neg hn]; exact ⟨rfl, rfl⟩
  have hok : hdrOK d.1 := Classical.byContradiction fun k => by rw [hdrErr, if_neg k] at hc; cases hc
  have e20 : IntKind.wrap .i64 ((d.2.length : Int) + 20) = 20 + d.2.length := by rw [w64 (by omega) (by omega)]; omega
  rw [e20]
  refine ifP_split (fun h5 => ?_) (fun h5 => ?_)
  · have h5 := of_decide_eq_true h5
    have he : ipErr d = 5 := by rw [ipErr, if_neg (fun k => k hok), if_pos (by omega)]
    rw [ipEnc, he]; exact ⟨rfl, rfl⟩
  have h5 := of_decide_eq_false h5
  have he : ipErr d = 0 := by rw [ipErr, if_neg (fun k => k hok), if_neg (by omega)]
  refine ⟨hok, by omega, by omega, by rw [hdrB_len]; omega, ?_⟩
  rw [ipEnc, he, if_pos rfl]
  exact ⟨rfl, rfl⟩
theorem ok_ref05_Encode : SpecOK Tryz.prog GL 75 ct_ref05_Encode.spec := Ct.ok' _ Tryz.func75 (by kernel_rfl) (withSpec_ok (withSpec_ok noSpecs_ok ok_ref05_Check) ok_ref05_header) hmix an_ref05_Encode (Eq.mpr (by kernel_rfl) vc_ref05_Encode)

def ct_ref05_Peek : Ct := ⟨[.val (.sl cU8)], [.agg cHeader, .val cI, .val cI], fun d => [(d.1.length : Int) ≤ 1099511627776], fun d => ((pkHdr d.1, pkLen d.1, pkErr d.1, ()), ())⟩
def an_ref05_Peek : PDs ct_ref05_Peek.ps → Anns := (fun _ => {})
theorem vc_ref05_Peek :
    ∀ (x : List Int), (List.length x ≤ maxLen ∧ ∀ (x_1 : Int), x_1 ∈ x → (0 : Int) ≤ x_1 ∧ x_1 ≤ (255 : Int)) ∧ True → (↑(List.length x) : Int) ≤ (1099511627776 : Int) → ifP (decide ((↑(List.length x) :
     Int) < (20 : Int))) (((0 : Int), (0 : Int), (0 : Int), (0 : Int), false, (0 : Int), (0 : Int)) = pkHdr x ∧ (0 : Int) = pkLen x ∧ (3 : Int) = pkErr x) ((↑(List.length x) : Int) ≤ (1099511627776 : Int)
     ∧ (↑(List.length x) : Int) ≤ (1099511627776 : Int) ∧ (0 : Int) ≤ (0 : Int) ∧ (0 : Int) < (↑(List.length x) : Int) ∧ ∀ (b : Bool), b = !decide (List.getD x (Int.toNat (0 : Int)) default = (69 : Int)) →
     ((!b) = true → ((!b) = true → (!b) = true) ∧ True) ∧ ((!b) = true → ((!b) = true → (!b) = true) ∧ True) ∧ ∀ (b_1 : Bool), b_1 = !decide (getV x (6 : Int) (2 : Int) = (0 : Int)) → ((!b && b_1) = true →
     ((!b && b_1) = true → (!b && b_1) = true) ∧ True) ∧ ((!b) = true → ((!b) = true → (!b) = true) ∧ (b_1 = true → (!b && b_1) = true) ∧ True) ∧ (b = false → (!b) = true) ∧ ∀ (b_2 : Bool), (b_2 = bif b
     then true else bif b_1 then !decide (getV x (6 : Int) (2 : Int) = (16384 : Int)) else false) → ((!b_2) = true → ((!b_2) = true → (!b_2) = true) ∧ True) ∧ (b_2 = false → (!b_2) = true) ∧ ifP (bif b_2
     then true else decide (getV x (2 : Int) (2 : Int) < (20 : Int))) (((0 : Int), (0 : Int), (0 : Int), (0 : Int), false, (0 : Int), (0 : Int)) = pkHdr x ∧ (0 : Int) = pkLen x ∧ (2 : Int) = pkErr x) ((0 :
     Int) ≤ (1 : Int) ∧ (1 : Int) < (↑(List.length x) : Int) ∧ (↑(List.length x) : Int) ≤ (1099511627776 : Int) ∧ (0 : Int) ≤ (8 : Int) ∧ (8 : Int) < (↑(List.length x) : Int) ∧ (0 : Int) ≤ (9 : Int) ∧ (9 :
     Int) < (↑(List.length x) : Int) ∧ (↑(List.length x) : Int) ≤ (1099511627776 : Int) ∧ (↑(List.length x) : Int) ≤ (1099511627776 : Int) ∧ hdrOK (IntKind.wrap IntKind.i64 (List.getD x (Int.toNat (1 :
     Int)) default), getV x (4 : Int) (2 : Int), IntKind.wrap IntKind.i64 (List.getD x (Int.toNat (8 : Int)) default), IntKind.wrap IntKind.i64 (List.getD x (Int.toNat (9 : Int)) default), !decide (getV x
     (6 : Int) (2 : Int) = (0 : Int)), IntKind.wrap IntKind.u32 (getV x (12 : Int) (4 : Int)), IntKind.wrap IntKind.u32 (getV x (16 : Int) (4 : Int))) ∧ (0 : Int) ≤ getV x (2 : Int) (2 : Int) ∧ getV x (2 :
     Int) (2 : Int) ≤ (65535 : Int) ∧ (0 : Int) ≤ (0 : Int) ∧ (0 : Int) ≤ (20 : Int) ∧ (20 : Int) ≤ (↑(List.length x) : Int) ∧ ifP (!decide (hdrB (IntKind.wrap IntKind.i64 (List.getD x (Int.toNat (1 :
     Int)) default), getV x (4 : Int) (2 : Int), IntKind.wrap IntKind.i64 (List.getD x (Int.toNat (8 : Int)) default), IntKind.wrap IntKind.i64 (List.getD x (Int.toNat (9 : Int)) default), !decide (getV x
     (6 : Int) (2 : Int) = (0 : Int)), IntKind.wrap IntKind.u32 (getV x (12 : Int) (4 : Int)), IntKind.wrap IntKind.u32 (getV x (16 : Int) (4 : Int))) (getV x (2 : Int) (2 : Int)) = subL x (Int.toNat (0 :
     Int)) (Int.toNat (20 : Int)))) (((0 : Int), (0 : Int), (0 : Int), (0 : Int), false, (0 : Int), (0 : Int)) = pkHdr x ∧ (0 : Int) = pkLen x ∧ (4 : Int) = pkErr x) ((IntKind.wrap IntKind.i64 (List.getD x
     (Int.toNat (1 : Int)) default), getV x (4 : Int) (2 : Int), IntKind.wrap IntKind.i64 (List.getD x (Int.toNat (8 : Int)) default), IntKind.wrap IntKind.i64 (List.getD x (Int.toNat (9 : Int)) default),
     !decide (getV x (6 : Int) (2 : Int) = (0 : Int)), IntKind.wrap IntKind.u32 (getV x (12 : Int) (4 : Int)), IntKind.wrap IntKind.u32 (getV x (16 : Int) (4 : Int))) = pkHdr x ∧ getV x (2 : Int) (2 : Int)
     = pkLen x ∧ (0 : Int) = pkErr x))) := by
  rintro b ⟨⟨-, hb⟩, -⟩ hl
  refine ifP_split (fun h => ?_) (fun h => ?_)
  · have h := of_decide_eq_true h
    have e : pkErr b = 3 := by rw [pkErr, if_pos h]
    rw [pkHdr, pkLen, e]; exact ⟨rfl, rfl, rfl⟩
  have h := of_decide_eq_false h
  rw [gV2 (a := 6) (by omega) (by omega), gV2 (a := 2) (by omega) (by omega), gV2 (a := 4) (by omega) (by omega), gV4 (a := 12) (by omega) (by omega), gV4 (a := 16) (by omega) (by omega)]
  have n12 := bytes_num4 hb 12
  have n16 := bytes_num4 hb 16
  have b1 := bytes_get hb (i := 1) (by omega)
  have b8 := bytes_get hb (i := 8) (by omega)
  have b9 := bytes_get hb (i := 9) (by omega)
  have w4' := bytes_word hb 4
  have w2' := bytes_word hb 2
  rw [w64 (n := b.getD (Int.toNat 1) default) (by have := b1.1; simp at this ⊢; omega) (by have := b1.2; simp at this ⊢; omega), w64 (n := b.getD (Int.toNat 8) default) (by have := b8.1; simp at this ⊢; omega) (by have := b8.2; simp at this ⊢; omega), w64 (n := b.getD (Int.toNat 9) default) (by have := b9.1; simp at this ⊢; omega) (by have := b9.2; simp at this ⊢; omega)]
  rw [show (Int.toNat 12) = 12 from rfl, show (Int.toNat 16) = 16 from rfl, wu32 n12.1 n12.2, wu32 n16.1 n16.2]
  refine ⟨by omega, by omega, by omega, by omega, ?_⟩
  (repeat (intro (b_ : Bool) (hb_ : b_ = _); (repeat refine ⟨(by first | (simp; done) | (rw [hb_]; simp; done) | (rw [hb_]; simp; omega) | (rw [hb_]; simp; intros; omega) | (rw [hb_]; simp +contextual; done)), ?_⟩); subst hb_))
  refine ifP_split (fun hc => ?_) (fun hc => ?_)
  · have e : pkErr b = 2 := by
      rw [pkErr, if_neg h, if_pos]
      rintro ⟨h0, hf, h2⟩
      rw [show b.getD (Int.toNat 0) default = 69 from h0] at hc
      have h2 : 20 ≤ wordAt b (Int.toNat 2) := h2
      rcases hf with hf | hf
      · rw [show wordAt b (Int.toNat 6) = 0 from hf] at hc
        simp at hc; simp at h2; omega
      · rw [show wordAt b (Int.toNat 6) = 16384 from hf] at hc
        simp at hc; simp at h2; omega
    rw [pkHdr, pkLen, e]; exact ⟨rfl, rfl, rfl⟩
  have hg : b.getD 0 default = 69 ∧ (wordAt b 6 = 0 ∨ wordAt b 6 = 16384) ∧ 20 ≤ wordAt b 2 := by
    by_cases h0 : b.getD (Int.toNat 0) default = 69
    · by_cases h6 : wordAt b (Int.toNat 6) = 0
      · simp [h0, h6] at hc
        exact ⟨h0, .inl h6, by omega⟩
      · by_cases h7 : wordAt b (Int.toNat 6) = 16384
        · simp [h0, h7] at hc
          exact ⟨h0, .inr h7, by omega⟩
        · exfalso
          rw [h0, decide_eq_false h6, decide_eq_false h7] at hc; simp at hc
    · exfalso
      rw [decide_eq_false h0] at hc; simp at hc
  have hdr : (b.getD (Int.toNat 1) default, wordAt b (Int.toNat 4), b.getD (Int.toNat 8) default, b.getD (Int.toNat 9) default, !decide (wordAt b (Int.toNat 6) = 0), numB ((b.drop 12).take 4), numB ((b.drop 16).take 4)) = pkHdrF b := by
    have : (!decide (wordAt b (Int.toNat 6) = 0)) = decide (wordAt b 6 = 16384) := by
      rw [show Int.toNat 6 = 6 from rfl]
      rcases hg.2.1 with hf | hf <;> rw [hf] <;> rfl
    rw [this]; rfl
  rw [hdr]
  obtain ⟨-, hm⟩ := hdr_body hb (by omega) hg.1 hg.2.1
  have hs : subL b (Int.toNat 0) (Int.toNat 20) = b.take 20 := rfl
  rw [hs, show Int.toNat 2 = 2 from rfl]
  refine ⟨by omega, by omega, by omega, by omega, by omega, by omega, by omega, by omega, by omega, ⟨b1, b8, b9, w4'.1, w4'.2⟩, by omega, by omega, by omega, by omega, by omega, ?_⟩
  refine ifP_split (fun hc => ?_) (fun hc => ?_)
  · have e : pkErr b = 4 := by
      rw [pkErr, if_neg h, if_neg (fun k => k hg), if_pos]
      intro k
      rw [hm.2 k] at hc; simp at hc
    rw [pkHdr, pkLen, e]; exact ⟨rfl, rfl, rfl⟩
  · have hc : hdrB (pkHdrF b) (wordAt b 2) = b.take 20 := by simpa using hc
    have e : pkErr b = 0 := by
      rw [pkErr, if_neg h, if_neg (fun k => k hg), if_neg]
      intro k
      exact k (hm.1 hc)
    rw [pkHdr, pkLen, e, if_pos rfl, if_pos rfl]
    exact ⟨rfl, rfl, rfl⟩
theorem ok_ref05_Peek : SpecOK Tryz.prog GL 84 ct_ref05_Peek.spec := Ct.ok' _ Tryz.func84 (by kernel_rfl) (withSpec_ok (withSpec_ok (withSpec_ok noSpecs_ok ok_ref04_At) ok_ref05_header) ok_ref04_Equal) hmix an_ref05_Peek (Eq.mpr (by kernel_rfl) vc_ref05_Peek)

def ct_ref05_Decode : Ct := ⟨[.val (.sl cU8)], [.agg cPacket, .val cI], fun d => [(d.1.length : Int) ≤ 1099511627776], fun d => ((decPkt d.1, decErr d.1, ()), ())⟩
def an_ref05_Decode : PDs ct_ref05_Decode.ps → Anns := (fun _ => {})
theorem vc_ref05_Decode :
    ∀ (x : List Int), (List.length x ≤ maxLen ∧ ∀ (x_1 : Int), x_1 ∈ x → (0 : Int) ≤ x_1 ∧ x_1 ≤ (255 : Int)) ∧ True → (↑(List.length x) : Int) ≤ (1099511627776 : Int) → (↑(List.length x) : Int) ≤
     (1099511627776 : Int) ∧ ifP (!decide (pkErr x = (0 : Int))) ((((0 : Int), (0 : Int), (0 : Int), (0 : Int), false, (0 : Int), (0 : Int)), ([] : List Int)) = decPkt x ∧ pkErr x = decErr x) (ifP (!decide
     (pkLen x = (↑(List.length x) : Int))) ((((0 : Int), (0 : Int), (0 : Int), (0 : Int), false, (0 : Int), (0 : Int)), ([] : List Int)) = decPkt x ∧ (2 : Int) = decErr x) (ifP (decide ((1500 : Int) <
     pkLen x)) ((((0 : Int), (0 : Int), (0 : Int), (0 : Int), false, (0 : Int), (0 : Int)), ([] : List Int)) = decPkt x ∧ (5 : Int) = decErr x) ((0 : Int) ≤ (20 : Int) ∧ (20 : Int) ≤ (↑(List.length x) :
     Int) ∧ (↑(List.length x) : Int) ≤ (↑(List.length x) : Int) ∧ List.length (subL x (Int.toNat (20 : Int)) (Int.toNat (↑(List.length x) : Int))) * (1 : Nat) ≤ (140737488355328 : Nat) ∧ (pkHdr x, subL x
     (Int.toNat (20 : Int)) (Int.toNat (↑(List.length x) : Int))) = decPkt x ∧ (0 : Int) = decErr x))) := by
  rintro b ⟨⟨-, hb⟩, -⟩ hl
  refine ⟨hl, ifP_split (fun hc => ?_) (fun hc => ?_)⟩
  · have hc : ¬ pkErr b = 0 := by simpa using hc
    have e : decErr b = pkErr b := by rw [decErr, if_pos hc]
    rw [decPkt, e, if_neg hc]; exact ⟨rfl, rfl⟩
  have hc : pkErr b = 0 := by simpa using hc
  have hlen : pkLen b = wordAt b 2 := by rw [pkLen, if_pos hc]
  rw [hlen]
  refine ifP_split (fun h2 => ?_) (fun h2 => ?_)
  · have h2 : ¬ wordAt b 2 = b.length := by simpa using h2
    have e : decErr b = 2 := by rw [decErr, if_neg (fun k => k hc), if_pos h2]
    rw [decPkt, e]; exact ⟨rfl, rfl⟩
  have h2 : wordAt b 2 = b.length := by simpa using h2
  refine ifP_split (fun h5 => ?_) (fun h5 => ?_)
  · have h5 := of_decide_eq_true h5
    have e : decErr b = 5 := by rw [decErr, if_neg (fun k => k hc), if_neg (fun k => k h2), if_pos h5]
    rw [decPkt, e]; exact ⟨rfl, rfl⟩
  have h5 := of_decide_eq_false h5
  have e : decErr b = 0 := by rw [decErr, if_neg (fun k => k hc), if_neg (fun k => k h2), if_neg h5]
  have h20 := pk_long hc
  rw [show Int.toNat 20 = 20 from rfl, sub_drop, decPkt, e, if_pos rfl, pkHdr, if_pos hc, List.length_drop]
  exact ⟨by omega, by omega, by omega, by omega, rfl, rfl⟩
theorem ok_ref05_Decode : SpecOK Tryz.prog GL 52 ct_ref05_Decode.spec := Ct.ok' _ Tryz.func52 (by kernel_rfl) (withSpec_ok noSpecs_ok ok_ref05_Peek) hmix an_ref05_Decode (Eq.mpr (by kernel_rfl) vc_ref05_Decode)
end Go.RS

