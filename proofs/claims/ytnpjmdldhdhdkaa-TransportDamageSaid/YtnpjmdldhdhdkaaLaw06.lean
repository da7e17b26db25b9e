/- Law06: the laws of messages. -/
import Derived.Test.YtnpjmdldhdhdkaaTrdec
namespace Go.RS
open Go.SX Go.Proofs
set_option maxRecDepth 100000
set_option linter.unusedVariables false

def okEcho (data : List Int) (e : Echo) : Prop := (word16 e.2.1 = true ∧ word16 e.2.2.1 = true) ∧ e.2.2.2 = data
def okNotice (data : List Int) (n : Notice) : Prop := ((n.1 = 3 ∨ n.1 = 11) ∧ 0 ≤ n.2.1 ∧ n.2.1 ≤ 255) ∧ n.2.2 = List.replicate 28 0 ++ data
def okDgram (data : List Int) (u : Dgram) : Prop := (word16 u.1 = true ∧ word16 u.2.1 = true) ∧ u.2.2 = data
def okSeg (data : List Int) (s : Seg) : Prop := tcpOK s ∧ s.2.2.2.2.2.2 = data
def msgs (src dst : Int) (data : List Int) (l : List (List Int)) : Prop := ∃ (e : Echo) (n : Notice) (u : Dgram) (s : Seg), l = [echoEnc e, noticeEnc n, udpEnc src dst u, tcpEnc src dst s] ∧ okEcho data e ∧ okNotice data n ∧ okDgram data u ∧ okSeg data s
theorem msgs_inh (src dst : Int) (data : List Int) : msgs src dst data [echoEnc (false, 0, 0, data), noticeEnc (3, 0, List.replicate 28 0 ++ data), udpEnc src dst (0, 0, data), tcpEnc src dst (0, 0, 0, 0, 0, 0, data)] :=
  ⟨_, _, _, _, rfl, ⟨⟨rfl, rfl⟩, rfl⟩, ⟨⟨.inl rfl, Int.le_refl _, by show (0 : Int) ≤ _; omega⟩, rfl⟩, ⟨⟨rfl, rfl⟩, rfl⟩, ⟨rfl, rfl, ⟨Int.le_refl _, by show (0 : Int) ≤ _; omega⟩, ⟨Int.le_refl _, by show (0 : Int) ≤ _; omega⟩, ⟨Int.le_refl _, by show (0 : Int) ≤ _; omega⟩, rfl⟩, rfl⟩
def ct_draw_Codes_Spoilt : Cn := ⟨[.box 94 cCodes, .val (.sl cU8)], [.own 5 cU8], fun d => [okC d.1, (d.2.1.length : Int) ≤ 1000000], fun d y => (y.1.1.length : Int) ≤ d.2.1.length + 1 ∧ okC y.2.1, fun d h => ⟨(([], ()), (d.1, ())), by simp; omega, h.1⟩⟩
def an_draw_Codes_Spoilt : PDs ct_draw_Codes_Spoilt.ps → Anns := (fun _ => {})
theorem vc_draw_Codes_Spoilt :
    ∀ (x : List Int) (x_1 : Int) (x_2 : List Int), ((List.length x ≤ maxLen ∧ ∀ (x_3 : Int), x_3 ∈ x → (0 : Int) ≤ x_3 ∧ x_3 ≤ (255 : Int)) ∧ (-9223372036854775808 : Int) ≤ x_1 ∧ x_1 ≤
     (9223372036854775807 : Int)) ∧ (List.length x_2 ≤ maxLen ∧ ∀ (x : Int), x ∈ x_2 → (0 : Int) ≤ x ∧ x ≤ (255 : Int)) ∧ True → okC (x, x_1) ∧ (↑(List.length x_2) : Int) ≤ (1000000 : Int) → List.length
     x_2 * (1 : Nat) ≤ (140737488355328 : Nat) ∧ ifP (decide ((↑(List.length x_2) : Int) = (0 : Int))) (okC (x, x_1) ∧ ∀ (x : Int) (x_3 : List Int) (x_4 : Int), (0 : Int) ≤ x ∧ (x < (256 : Int) ∨ x = (0 :
     Int)) ∧ okC (x_3, x_4) → (↑(List.length [IntKind.wrap IntKind.u8 x]) : Int) ≤ (↑(List.length x_2) : Int) + (1 : Int) ∧ okC (x_3, x_4)) (okC (x, x_1) ∧ ∀ (x : Int) (x_3 : List Int) (x_4 : Int), (0 :
     Int) ≤ x ∧ (x < (↑(List.length x_2) : Int) ∨ x = (0 : Int)) ∧ okC (x_3, x_4) → okC (x_3, x_4) ∧ ∀ (x_5 : Int) (x_6 : List Int) (x_7 : Int), (0 : Int) ≤ x_5 ∧ (x_5 < (4 : Int) ∨ x_5 = (0 : Int)) ∧ okC
     (x_6, x_7) → ifP (decide (x_5 = (0 : Int))) ((0 : Int) ≤ x ∧ x ≤ (↑(List.length x_2) : Int) ∧ (0 : Int) ≤ IntKind.wrap IntKind.i64 (x + (1 : Int)) ∧ IntKind.wrap IntKind.i64 (x + (1 : Int)) ≤
     (↑(List.length x_2) : Int) ∧ (↑(List.length x_2) : Int) ≤ (↑(List.length x_2) : Int) ∧ (List.length (List.take (Int.toNat x) x_2) + List.length (subL x_2 (Int.toNat (IntKind.wrap IntKind.i64 (x + (1 :
     Int)))) (Int.toNat (↑(List.length x_2) : Int)))) * (1 : Nat) ≤ (140737488355328 : Nat) ∧ (↑(List.length (List.take (Int.toNat x) x_2 ++ subL x_2 (Int.toNat (IntKind.wrap IntKind.i64 (x + (1 : Int))))
     (Int.toNat (↑(List.length x_2) : Int)))) : Int) ≤ (↑(List.length x_2) : Int) + (1 : Int) ∧ okC (x_6, x_7)) (ifP (decide (x_5 = (1 : Int))) (okC (x_6, x_7) ∧ ∀ (x : Int) (x_8 : List Int) (x_9 : Int),
     (0 : Int) ≤ x ∧ (x < (256 : Int) ∨ x = (0 : Int)) ∧ okC (x_8, x_9) → (List.length x_2 + List.length [IntKind.wrap IntKind.u8 x]) * (1 : Nat) ≤ (140737488355328 : Nat) ∧ (↑(List.length (x_2 ++
     [IntKind.wrap IntKind.u8 x])) : Int) ≤ (↑(List.length x_2) : Int) + (1 : Int) ∧ okC (x_8, x_9)) ((0 : Int) ≤ x ∧ x < (↑(List.length x_2) : Int) ∧ okC (x_6, x_7) ∧ ∀ (x_8 : Int) (x_9 : List Int) (x_10
     : Int), (0 : Int) ≤ x_8 ∧ (x_8 < (255 : Int) ∨ x_8 = (0 : Int)) ∧ okC (x_9, x_10) → (0 : Int) ≤ x ∧ x < (↑(List.length x_2) : Int) ∧ (↑(List.length (List.set x_2 (Int.toNat x) (bits BinOp.xor
     IntKind.u8 (List.getD x_2 (Int.toNat x) default) (IntKind.wrap IntKind.u8 (IntKind.wrap IntKind.i64 ((1 : Int) + x_8)))))) : Int) ≤ (↑(List.length x_2) : Int) + (1 : Int) ∧ okC (x_9, x_10)))) := by
  rintro l p b ⟨-, ⟨-, -⟩, -⟩ ⟨hc, hl⟩
  refine ⟨by omega, ifP_split (fun h => ⟨hc, ?_⟩) (fun h => ⟨hc, ?_⟩)⟩
  · rintro x l2 p2 ⟨-, -, h3⟩
    exact ⟨by simp only [List.length_singleton]; omega, h3⟩
  have h := of_decide_eq_false h
  rintro k l2 p2 ⟨k0, k1, hc⟩
  have hk : k < b.length := by omega
  refine ⟨hc, ?_⟩
  rintro w l3 p3 ⟨w0, w1, hc⟩
  refine ifP_split (fun _ => ?_) (fun _ => ifP_split (fun _ => ⟨hc, ?_⟩) (fun _ => ⟨k0, hk, hc, ?_⟩))
  · rw [w64 (n := k + 1) (by omega) (by omega)]
    refine ⟨k0, by omega, by omega, by omega, by omega, ?_, ?_, hc⟩
    · rw [sub_drop, List.length_take, List.length_drop]; omega
    · rw [List.length_append, sub_drop, List.length_take, List.length_drop]; omega
  · rintro x l4 p4 ⟨-, -, h4⟩
    exact ⟨by simp only [List.length_singleton]; omega, by simp only [List.length_append, List.length_singleton]; omega, h4⟩
  · rintro x l4 p4 ⟨-, -, h4⟩
    exact ⟨k0, hk, by rw [List.length_set]; omega, h4⟩
theorem ok_draw_Codes_Spoilt : SpecOK Try.prog 42 ct_draw_Codes_Spoilt.spec := Cn.ok' _ Try.func42 (by kernel_rfl) (withOwn_ok (withSpec_ok noSpecs_ok ok_Next) (d := 26)) hmix an_draw_Codes_Spoilt (Eq.mpr (by kernel_rfl) vc_draw_Codes_Spoilt)

def ct_law06_awake : Ct := ⟨[], [.val .bool], fun _ => [], fun _ => ((true, ()), ())⟩
def an_law06_awake : PDs ct_law06_awake.ps → Anns := (fun _ => {})
theorem vc_law06_awake :
    True → True → (↑(0 : Nat) : Int) ≤ (1073741824 : Int) ∧ ∀ (b : Bool), b = decide (echoErr (false, (1 : Int), (1 : Int), ([] : List Int)) = (0 : Int)) → (b = true → (b = true → b = true) ∧ True) ∧ (b =
     true → (b = true → b = true) ∧ True) ∧ (b = true → b = true) ∧ ∀ (b_1 : Bool), (b_1 = bif b then decide ((↑(List.length (echoEnc (false, (1 : Int), (1 : Int), ([] : List Int)))) : Int) = (8 : Int))
     else false) → (b_1 = true → (b_1 = true → b_1 = true) ∧ (0 : Int) ≤ (2 : Int) ∧ (2 : Int) < (↑(List.length (echoEnc (false, (1 : Int), (1 : Int), ([] : List Int)))) : Int) ∧ True) ∧ (b_1 = true → (b_1
     = true → b_1 = true) ∧ True) ∧ (b_1 = true → (b_1 = true → b_1 = true) ∧ True) ∧ (b_1 = true → b_1 = true) ∧ ∀ (b : Bool), (b = bif b_1 then decide (List.getD (echoEnc (false, (1 : Int), (1 : Int),
     ([] : List Int))) (Int.toNat (2 : Int)) default = (247 : Int)) else false) → (b = true → (b = true → b = true) ∧ (0 : Int) ≤ (3 : Int) ∧ (3 : Int) < (↑(List.length (echoEnc (false, (1 : Int), (1 :
     Int), ([] : List Int)))) : Int) ∧ True) ∧ (b = true → (b = true → b = true) ∧ True) ∧ (b = true → (b = true → b = true) ∧ True) ∧ (b = true → b = true) ∧ (bif b then decide (List.getD (echoEnc (false,
     (1 : Int), (1 : Int), ([] : List Int))) (Int.toNat (3 : Int)) default = (253 : Int)) else false) = true := by
  intro _ _
  refine ⟨by decide, ?_⟩
  have e1 : echoErr (false, 1, 1, []) = 0 := by decide
  have e2 : echoEnc (false, 1, 1, []) = [8, 0, 247, 253, 0, 1, 0, 1] := by decide +kernel
  rw [e1, e2]
  (repeat (intro (b_ : Bool) (hb_ : b_ = _); (repeat refine ⟨(by first | (simp; done) | (rw [hb_]; simp; done) | (rw [hb_]; simp; omega) | (rw [hb_]; simp; intros; omega) | (rw [hb_]; simp +contextual; done)), ?_⟩); subst hb_))
  rfl
theorem ok_law06_awake : SpecOK Try.prog 20 ct_law06_awake.spec := Ct.ok' _ Try.func20 (by kernel_rfl) (withSpec_ok noSpecs_ok ok_transport_EncodeEcho) hmix an_law06_awake (Eq.mpr (by kernel_rfl) vc_law06_awake)

def ct_law06_messages : Cn := ⟨[.box 94 cCodes, .val cU32, .val cU32, .val (.sl cU8)], [.own 22 (.sl cU8)], fun d => [okC d.1, (d.2.2.2.1.length : Int) ≤ 2000], fun d y => msgs d.2.1 d.2.2.1 d.2.2.2.1 y.1.1 ∧ okC y.2.1, fun d h => ⟨((_, ()), (d.1, ())), msgs_inh _ _ _, h.1⟩⟩
def an_law06_messages : PDs ct_law06_messages.ps → Anns := (fun _ => {})
theorem vc_law06_messages :
    ∀ (x : List Int) (x_1 x_2 x_3 : Int) (x_4 : List Int), ((List.length x ≤ maxLen ∧ ∀ (x_5 : Int), x_5 ∈ x → (0 : Int) ≤ x_5 ∧ x_5 ≤ (255 : Int)) ∧ (-9223372036854775808 : Int) ≤ x_1 ∧ x_1 ≤
     (9223372036854775807 : Int)) ∧ ((0 : Int) ≤ x_2 ∧ x_2 ≤ (4294967295 : Int)) ∧ ((0 : Int) ≤ x_3 ∧ x_3 ≤ (4294967295 : Int)) ∧ (List.length x_4 ≤ maxLen ∧ ∀ (x : Int), x ∈ x_4 → (0 : Int) ≤ x ∧ x ≤ (255
     : Int)) ∧ True → okC (x, x_1) ∧ (↑(List.length x_4) : Int) ≤ (2000 : Int) → (0 : Int) ≤ (28 : Int) ∧ (28 : Int) ≤ (28 : Int) ∧ (↑(1 : Nat) : Int) * (28 : Int) ≤ (281474976710656 : Int) ∧ (List.length
     (List.replicate (Int.toNat (28 : Int)) (0 : Int)) + List.length x_4) * (1 : Nat) ≤ (140737488355328 : Nat) ∧ okC (x, x_1) ∧ ∀ (x : Int) (x_5 : List Int) (x_6 : Int), (0 : Int) ≤ x ∧ (x < (2 : Int) ∨ x
     = (0 : Int)) ∧ okC (x_5, x_6) → okC (x_5, x_6) ∧ ∀ (x_7 : Int) (x_8 : List Int) (x_9 : Int), (0 : Int) ≤ x_7 ∧ (x_7 < (65536 : Int) ∨ x_7 = (0 : Int)) ∧ okC (x_8, x_9) → okC (x_8, x_9) ∧ ∀ (x_10 :
     Int) (x_11 : List Int) (x_12 : Int), (0 : Int) ≤ x_10 ∧ (x_10 < (65536 : Int) ∨ x_10 = (0 : Int)) ∧ okC (x_11, x_12) → (↑(List.length x_4) : Int) ≤ (1073741824 : Int) ∧ okC (x_11, x_12) ∧ ∀ (x_13 :
     Int) (x_14 : List Int) (x_15 : Int), (0 : Int) ≤ x_13 ∧ (x_13 < (2 : Int) ∨ x_13 = (0 : Int)) ∧ okC (x_14, x_15) → (0 : Int) ≤ x_13 ∧ x_13 < (↑(List.length [(3 : Int), (11 : Int)]) : Int) ∧ okC (x_14,
     x_15) ∧ ∀ (x_16 : Int) (x_17 : List Int) (x_18 : Int), (0 : Int) ≤ x_16 ∧ (x_16 < (256 : Int) ∨ x_16 = (0 : Int)) ∧ okC (x_17, x_18) → (↑(List.length (List.replicate (Int.toNat (28 : Int)) (0 : Int)
     ++ x_4)) : Int) ≤ (1073741824 : Int) ∧ okC (x_17, x_18) ∧ ∀ (x_19 : Int) (x_20 : List Int) (x_21 : Int), (0 : Int) ≤ x_19 ∧ (x_19 < (65536 : Int) ∨ x_19 = (0 : Int)) ∧ okC (x_20, x_21) → okC (x_20,
     x_21) ∧ ∀ (x_22 : Int) (x_23 : List Int) (x_24 : Int), (0 : Int) ≤ x_22 ∧ (x_22 < (65536 : Int) ∨ x_22 = (0 : Int)) ∧ okC (x_23, x_24) → (↑(List.length x_4) : Int) ≤ (1073741824 : Int) ∧ okC (x_23,
     x_24) ∧ ∀ (x_25 : Int) (x_26 : List Int) (x_27 : Int), (0 : Int) ≤ x_25 ∧ (x_25 < (65536 : Int) ∨ x_25 = (0 : Int)) ∧ okC (x_26, x_27) → okC (x_26, x_27) ∧ ∀ (x_28 : Int) (x_29 : List Int) (x_30 :
     Int), (0 : Int) ≤ x_28 ∧ (x_28 < (65536 : Int) ∨ x_28 = (0 : Int)) ∧ okC (x_29, x_30) → okC (x_29, x_30) ∧ ∀ (x_31 : Int) (x_32 : List Int) (x_33 : Int), (0 : Int) ≤ x_31 ∧ (x_31 < (65536 : Int) ∨
     x_31 = (0 : Int)) ∧ okC (x_32, x_33) → okC (x_32, x_33) ∧ ∀ (x_34 : Int) (x_35 : List Int) (x_36 : Int), (0 : Int) ≤ x_34 ∧ (x_34 < (65536 : Int) ∨ x_34 = (0 : Int)) ∧ okC (x_35, x_36) → okC (x_35,
     x_36) ∧ ∀ (x_37 : Int) (x_38 : List Int) (x_39 : Int), (0 : Int) ≤ x_37 ∧ (x_37 < (256 : Int) ∨ x_37 = (0 : Int)) ∧ okC (x_38, x_39) → okC (x_38, x_39) ∧ ∀ (x_40 : Int) (x_41 : List Int) (x_42 : Int),
     (0 : Int) ≤ x_40 ∧ (x_40 < (65536 : Int) ∨ x_40 = (0 : Int)) ∧ okC (x_41, x_42) → (↑(List.length x_4) : Int) ≤ (1000000 : Int) ∧ msgs x_2 x_3 x_4 [echoEnc (decide (x = (1 : Int)), x_7, x_10, x_4),
     noticeEnc (List.getD [(3 : Int), (11 : Int)] (Int.toNat x_13) default, x_16, List.replicate (Int.toNat (28 : Int)) (0 : Int) ++ x_4), udpEnc x_2 x_3 (x_19, x_22, x_4), tcpEnc x_2 x_3 (x_25, x_28,
     x_31, x_34, x_37, x_40, x_4)] ∧ okC (x_41, x_42) := by
  rintro l p src dst data - ⟨hc, hl⟩
  have hl2 : ((List.replicate (Int.toNat 28) (0 : Int) ++ data).length : Int) ≤ 1073741824 := by
    rw [List.length_append, List.length_replicate]
    show ((28 + data.length : Nat) : Int) ≤ _
    omega
  refine ⟨by omega, by omega, by omega, by rw [List.length_replicate]; show (28 + data.length) * 1 ≤ _; omega, hc, ?_⟩
  rintro r _ _ ⟨-, -, hc⟩
  refine ⟨hc, ?_⟩
  rintro i _ _ ⟨i0, i1, hc⟩
  refine ⟨hc, ?_⟩
  rintro q _ _ ⟨q0, q1, hc⟩
  refine ⟨by omega, hc, ?_⟩
  rintro t _ _ ⟨t0, t1, hc⟩
  refine ⟨t0, by simp only [List.length_cons, List.length_nil]; omega, hc, ?_⟩
  have ht : ([3, 11] : List Int).getD t.toNat default = 3 ∨ ([3, 11] : List Int).getD t.toNat default = 11 :=
    getD_all (p := fun v => v = 3 ∨ v = 11) (by simp) t0 (by simp only [List.length_cons, List.length_nil]; omega)
  generalize ([3, 11] : List Int).getD t.toNat default = ty at ht ⊢
  rintro k _ _ ⟨k0, k1, hc⟩
  refine ⟨hl2, hc, ?_⟩
  rintro sp _ _ ⟨sp0, sp1, hc⟩
  refine ⟨hc, ?_⟩
  rintro dp _ _ ⟨dp0, dp1, hc⟩
  refine ⟨by omega, hc, ?_⟩
  rintro x1 _ _ ⟨u1, v1, hc⟩
  refine ⟨hc, ?_⟩
  rintro x2 _ _ ⟨u2, v2, hc⟩
  refine ⟨hc, ?_⟩
  rintro x3 _ _ ⟨u3, v3, hc⟩
  refine ⟨hc, ?_⟩
  rintro x4 _ _ ⟨u4, v4, hc⟩
  refine ⟨hc, ?_⟩
  rintro x5 _ _ ⟨u5, v5, hc⟩
  refine ⟨hc, ?_⟩
  rintro x6 _ _ ⟨u6, v6, hc⟩
  refine ⟨by omega, ⟨_, _, _, _, rfl, ⟨⟨(word16_iff _).2 ⟨i0, ?_⟩, (word16_iff _).2 ⟨q0, ?_⟩⟩, rfl⟩, ⟨⟨ht, k0, ?_⟩, rfl⟩, ⟨⟨(word16_iff _).2 ⟨sp0, ?_⟩, (word16_iff _).2 ⟨dp0, ?_⟩⟩, rfl⟩, ⟨(word16_iff _).2 ⟨u1, ?_⟩, (word16_iff _).2 ⟨u2, ?_⟩, ⟨u3, ?_⟩, ⟨u4, ?_⟩, ⟨u5, ?_⟩, (word16_iff _).2 ⟨u6, ?_⟩⟩, rfl⟩, hc⟩
  all_goals simp only
  all_goals omega
theorem ok_law06_messages : SpecOK Try.prog 32 ct_law06_messages.spec := Cn.ok' _ Try.func32 (by kernel_rfl) (withSpec_ok (withSpec_ok (withSpec_ok (withSpec_ok (withSpec_ok noSpecs_ok ok_Next) ok_ref06_EncodeEcho) ok_ref06_EncodeNotice) ok_ref06_EncodeUDP) ok_ref06_EncodeTCP) hmix an_law06_messages (Eq.mpr (by kernel_rfl) vc_law06_messages)

def ct_law06_decodes : Ct := ⟨[.val cU32, .val cU32, .val (.sl cU8)], [.val .bool], fun d => [(d.2.2.1.length : Int) ≤ 1000000], fun _ => ((true, ()), ())⟩
def an_law06_decodes : PDs ct_law06_decodes.ps → Anns := (fun _ => {})
theorem vc_law06_decodes :
    ∀ (x x_1 : Int) (x_2 : List Int), ((0 : Int) ≤ x ∧ x ≤ (4294967295 : Int)) ∧ ((0 : Int) ≤ x_1 ∧ x_1 ≤ (4294967295 : Int)) ∧ (List.length x_2 ≤ maxLen ∧ ∀ (x : Int), x ∈ x_2 → (0 : Int) ≤ x ∧ x ≤ (255
     : Int)) ∧ True → (↑(List.length x_2) : Int) ≤ (1000000 : Int) → (↑(List.length x_2) : Int) ≤ (1000000 : Int) ∧ (↑(List.length x_2) : Int) ≤ (1000000 : Int) ∧ (↑(List.length x_2) : Int) ≤ (1000000 :
     Int) ∧ (↑(List.length x_2) : Int) ≤ (1000000 : Int) ∧ (↑(List.length x_2) : Int) ≤ (1000000 : Int) ∧ (↑(List.length x_2) : Int) ≤ (1000000 : Int) ∧ (↑(List.length x_2) : Int) ≤ (1000000 : Int) ∧
     (↑(List.length x_2) : Int) ≤ (1000000 : Int) ∧ ∀ (b : Bool), b = decide (unEchoErr x_2 = unEchoErr x_2) → (b = true → (b = true → b = true) ∧ (b = true → b = true) ∧ True) ∧ (b = true → b = true) ∧ ∀
     (b_1 : Bool), (b_1 = bif b then decide (unEcho x_2 = unEcho x_2) else false) → (b_1 = true → (b_1 = true → b_1 = true) ∧ (b_1 = true → b_1 = true) ∧ True) ∧ (b_1 = true → b_1 = true) ∧ ∀ (b : Bool),
     (b = bif b_1 then decide (unNoticeErr x_2 = unNoticeErr x_2) else false) → (b = true → (b = true → b = true) ∧ (b = true → b = true) ∧ True) ∧ (b = true → b = true) ∧ ∀ (b_2 : Bool), (b_2 = bif b then
     decide (unNotice x_2 = unNotice x_2) else false) → (b_2 = true → (b_2 = true → b_2 = true) ∧ (b_2 = true → b_2 = true) ∧ True) ∧ (b_2 = true → b_2 = true) ∧ ∀ (b : Bool), (b = bif b_2 then decide
     (unUDPErr x x_1 x_2 = unUDPErr x x_1 x_2) else false) → (b = true → (b = true → b = true) ∧ (b = true → b = true) ∧ True) ∧ (b = true → b = true) ∧ ∀ (b_3 : Bool), (b_3 = bif b then decide (unUDP x
     x_1 x_2 = unUDP x x_1 x_2) else false) → (b_3 = true → (b_3 = true → b_3 = true) ∧ (b_3 = true → b_3 = true) ∧ True) ∧ (b_3 = true → b_3 = true) ∧ ∀ (b : Bool), (b = bif b_3 then decide (unTCPErr x
     x_1 x_2 = unTCPErr x x_1 x_2) else false) → (b = true → (b = true → b = true) ∧ (b = true → b = true) ∧ True) ∧ (b = true → b = true) ∧ (bif b then sameSeg (unTCP x x_1 x_2) (unTCP x x_1 x_2) else
     false) = true := by
  rintro s d b - h
  refine ⟨h, h, h, h, h, h, h, h, ?_⟩
  (repeat (intro (b_ : Bool) (hb_ : b_ = _); (repeat refine ⟨(by first | (simp; done) | (rw [hb_]; simp; done) | (rw [hb_]; simp; omega) | (rw [hb_]; simp; intros; omega) | (rw [hb_]; simp +contextual; done)), ?_⟩); subst hb_))
  simp [sameSeg]
theorem ok_law06_decodes : SpecOK Try.prog 41 ct_law06_decodes.spec := Ct.ok' _ Try.func41 (by kernel_rfl) (withSpec_ok (withSpec_ok (withSpec_ok (withSpec_ok (withSpec_ok (withSpec_ok (withSpec_ok (withSpec_ok (withSpec_ok (withSpec_ok (withSpec_ok (withSpec_ok noSpecs_ok ok_transport_DecodeEcho) ok_ref06_DecodeEcho) ok_transport_DecodeNotice) ok_ref06_DecodeNotice) ok_transport_DecodeUDP) ok_ref06_DecodeUDP) ok_transport_DecodeTCP) ok_ref06_DecodeTCP) ok_ref06_SameEcho) ok_ref06_SameNotice) ok_ref06_SameDatagram) ok_ref06_SameSegment) hmix an_law06_decodes (Eq.mpr (by kernel_rfl) vc_law06_decodes)
theorem word_w2 {n : Int} (h0 : 0 ≤ n) (h1 : n ≤ 65535) : n / 256 % 256 * 256 + n % 256 = n := by omega
theorem echo_shape {e : Echo} (h : echoErr e = 0) : echoEnc e = (if e.1 then 0 else 8) :: 0 :: (csum (echoBody e) / 256 % 256) :: (csum (echoBody e) % 256) :: (e.2.1 / 256 % 256) :: (e.2.1 % 256) :: (e.2.2.1 / 256 % 256) :: (e.2.2.1 % 256) :: e.2.2.2 := by
  rw [echoEnc, if_pos h]; rfl
theorem echo_good {data : List Int} {e : Echo} (h : okEcho data e) (hl : (data.length : Int) ≤ 1472) : echoErr e = 0 := by
  rw [echoErr, if_neg (fun k => k h.1), if_neg (by rw [h.2]; omega)]
theorem un_echo {data : List Int} {e : Echo} (h : okEcho data e) (hd : bytes data) (hl : (data.length : Int) ≤ 1472) : unEchoErr (echoEnc e) = 0 ∧ unEcho (echoEnc e) = e := by
  have h0 := echo_good h hl
  rw [echo_shape h0]
  obtain ⟨⟨h1, h2⟩, h3⟩ := h
  rw [word16_iff] at h1 h2
  have hc := csum_range (echo_bytes (e := e) (by rw [h3]; exact hd))
  have hb : echoBody e = (if e.1 then 0 else 8) :: 0 :: 0 :: 0 :: (e.2.1 / 256 % 256) :: (e.2.1 % 256) :: (e.2.2.1 / 256 % 256) :: (e.2.2.1 % 256) :: e.2.2.2 := rfl
  obtain ⟨r, i, q, l⟩ := e
  simp only at h1 h2 h3 hc hb ⊢
  subst h3
  have he : unEchoErr ((if r then 0 else 8) :: 0 :: (csum (echoBody (r, i, q, l)) / 256 % 256) :: (csum (echoBody (r, i, q, l)) % 256) :: (i / 256 % 256) :: (i % 256) :: (q / 256 % 256) :: (q % 256) :: l) = 0 := by
    rw [unEchoErr, if_neg (by simp only [List.length_cons]; omega), if_neg, if_neg (by simp only [List.length_cons]; omega), if_neg]
    · have e2 : wordAt ((if r then 0 else 8) :: 0 :: (csum (echoBody (r, i, q, l)) / 256 % 256) :: (csum (echoBody (r, i, q, l)) % 256) :: (i / 256 % 256) :: (i % 256) :: (q / 256 % 256) :: (q % 256) :: l) (Int.toNat 2) = csum (echoBody (r, i, q, l)) / 256 % 256 * 256 + csum (echoBody (r, i, q, l)) % 256 := wordAt0 _ _ _
      rw [e2, word_w2 hc.1 hc.2]
      have e3 : setW ((if r then 0 else 8) :: 0 :: (csum (echoBody (r, i, q, l)) / 256 % 256) :: (csum (echoBody (r, i, q, l)) % 256) :: (i / 256 % 256) :: (i % 256) :: (q / 256 % 256) :: (q % 256) :: l) (Int.toNat 2) 0 = echoBody (r, i, q, l) := rfl
      rw [e3]; exact fun k => k rfl
    · intro k; apply k
      refine ⟨?_, rfl⟩
      cases r
      · exact .inl rfl
      · exact .inr rfl
  refine ⟨he, ?_⟩
  rw [unEcho, if_pos he]
  have e4 : wordAt ((if r then 0 else 8) :: 0 :: (csum (echoBody (r, i, q, l)) / 256 % 256) :: (csum (echoBody (r, i, q, l)) % 256) :: (i / 256 % 256) :: (i % 256) :: (q / 256 % 256) :: (q % 256) :: l) (Int.toNat 4) = i / 256 % 256 * 256 + i % 256 := wordAt0 _ _ _
  have e6 : wordAt ((if r then 0 else 8) :: 0 :: (csum (echoBody (r, i, q, l)) / 256 % 256) :: (csum (echoBody (r, i, q, l)) % 256) :: (i / 256 % 256) :: (i % 256) :: (q / 256 % 256) :: (q % 256) :: l) (Int.toNat 6) = q / 256 % 256 * 256 + q % 256 := wordAt0 _ _ _
  rw [e4, e6, word_w2 h1.1 h1.2, word_w2 h2.1 h2.2]
  cases r <;> rfl
theorem notice_good {data : List Int} {n : Notice} (h : okNotice data n) (hl : (data.length : Int) ≤ 1400) : noticeErr n = 0 := by
  have hq : (n.2.2.length : Int) = 28 + data.length := by rw [h.2, List.length_append, List.length_replicate]; omega
  rw [noticeErr, if_neg (fun k => k h.1), if_neg (by omega), if_neg (by omega)]
theorem un_notice {data : List Int} {n : Notice} (h : okNotice data n) (hd : bytes data) (hl : (data.length : Int) ≤ 1400) : unNoticeErr (noticeEnc n) = 0 ∧ unNotice (noticeEnc n) = n := by
  have h0 := notice_good h hl
  have hq : (n.2.2.length : Int) = 28 + data.length := by rw [h.2, List.length_append, List.length_replicate]; omega
  obtain ⟨h1, h3⟩ := h
  have hb : bytes n.2.2 := by
    rw [h3]; refine bytes_app (fun x hx => ?_) hd
    have := List.eq_of_mem_replicate hx; omega
  have hc := csum_range (notice_bytes (e := n) h1 hb)
  obtain ⟨t, k, l⟩ := n
  simp only at h1 h3 hb hc hq
  generalize hB : noticeEnc (t, k, l) = B
  have hs : B = t :: k :: (csum (noticeBody (t, k, l)) / 256 % 256) :: (csum (noticeBody (t, k, l)) % 256) :: 0 :: 0 :: 0 :: 0 :: l := by rw [← hB, noticeEnc, if_pos h0]; rfl
  have i2 : wordAt B (Int.toNat 2) = csum (noticeBody (t, k, l)) / 256 % 256 * 256 + csum (noticeBody (t, k, l)) % 256 := by rw [hs]; exact wordAt0 _ _ _
  have i4 : wordAt B (Int.toNat 4) = 0 := by rw [hs]; exact (wordAt0 0 0 _)
  have i6 : wordAt B (Int.toNat 6) = 0 := by rw [hs]; exact (wordAt0 0 0 _)
  have hset : setW B (Int.toNat 2) 0 = noticeBody (t, k, l) := by rw [hs]; rfl
  have hlen : (B.length : Int) = 8 + l.length := by rw [hs]; simp only [List.length_cons]; omega
  have g0 : B.getD (Int.toNat 0) default = t := by rw [hs]; rfl
  have g1 : B.getD (Int.toNat 1) default = k := by rw [hs]; rfl
  have g8 : B.drop 8 = l := by rw [hs]; rfl
  have he : unNoticeErr B = 0 := by
    rw [unNoticeErr, if_neg (by omega), if_neg (fun q => q ⟨by rw [g0]; exact h1.1, i4, i6⟩), if_neg (by omega), if_neg]
    rw [hset, i2, word_w2 hc.1 hc.2]; exact fun q => q rfl
  refine ⟨he, ?_⟩
  rw [unNotice, if_pos he, g0, g1, g8]
theorem udp_good {data : List Int} {u : Dgram} (h : okDgram data u) (hl : (data.length : Int) ≤ 1472) : udpErr u = 0 := by
  rw [udpErr, if_neg (fun k => k h.1), if_neg (by rw [h.2]; omega)]
theorem un_udp {s d : Int} {data : List Int} {u : Dgram} (h : okDgram data u) (hd : bytes data) (hl : (data.length : Int) ≤ 1472) : unUDPErr s d (udpEnc s d u) = 0 ∧ unUDP s d (udpEnc s d u) = u := by
  have h0 := udp_good h hl
  obtain ⟨⟨h1, h2⟩, h3⟩ := h
  rw [word16_iff] at h1 h2
  have hc := sumU_range (a := s) (b := d) (udp_bytes (e := u) (by rw [h3]; exact hd))
  obtain ⟨sp, dp, l⟩ := u
  simp only at h1 h2 h3 hc
  subst h3
  generalize hB : udpEnc s d (sp, dp, l) = B
  have hs : B = (sp / 256 % 256) :: (sp % 256) :: (dp / 256 % 256) :: (dp % 256) :: ((8 + l.length : Int) / 256 % 256) :: ((8 + l.length : Int) % 256) :: (sumU s d (udpBody (sp, dp, l)) / 256 % 256) :: (sumU s d (udpBody (sp, dp, l)) % 256) :: l := by rw [← hB, udpEnc, if_pos h0]; rfl
  have i0 : wordAt B (Int.toNat 0) = sp / 256 % 256 * 256 + sp % 256 := by rw [hs]; exact wordAt0 _ _ _
  have i2 : wordAt B (Int.toNat 2) = dp / 256 % 256 * 256 + dp % 256 := by rw [hs]; exact wordAt0 _ _ _
  have i4 : wordAt B (Int.toNat 4) = (8 + l.length : Int) / 256 % 256 * 256 + (8 + l.length : Int) % 256 := by rw [hs]; exact wordAt0 _ _ _
  have i6 : wordAt B (Int.toNat 6) = sumU s d (udpBody (sp, dp, l)) / 256 % 256 * 256 + sumU s d (udpBody (sp, dp, l)) % 256 := by rw [hs]; exact wordAt0 _ _ _
  have hset : setW B (Int.toNat 6) 0 = udpBody (sp, dp, l) := by rw [hs]; rfl
  have hlen : (B.length : Int) = 8 + l.length := by rw [hs]; simp only [List.length_cons]; omega
  have g8 : B.drop 8 = l := by rw [hs]; rfl
  have he : unUDPErr s d B = 0 := by
    rw [unUDPErr, if_neg (by omega), if_neg (fun q => q (by rw [i4]; omega)), if_neg (by omega), if_neg]
    rw [hset, i6, word_w2 hc.1 hc.2]; exact fun q => q rfl
  refine ⟨he, ?_⟩
  rw [unUDP, if_pos he, i0, i2, g8, word_w2 h1.1 h1.2, word_w2 h2.1 h2.2]
theorem tcp_good {data : List Int} {s : Seg} (h : okSeg data s) (hl : (data.length : Int) ≤ 1460) : tcpErr s = 0 := by
  rw [tcpErr, if_neg (fun k => k h.1), if_neg (by rw [h.2]; omega)]
theorem word_w4 {n : Int} (h0 : 0 ≤ n) (h1 : n ≤ 4294967295) : (n / 16777216 % 256 * 256 + n / 65536 % 256) * 65536 + (n / 256 % 256 * 256 + n % 256) = n := by omega
theorem un_tcp {s d : Int} {data : List Int} {u : Seg} (h : okSeg data u) (hd : bytes data) (hl : (data.length : Int) ≤ 1460) : unTCPErr s d (tcpEnc s d u) = 0 ∧ unTCP s d (tcpEnc s d u) = u := by
  have h0 := tcp_good h hl
  obtain ⟨hok, h3⟩ := h
  have hc := pseudo_range (a := s) (b := d) (p := 6) (tcp_bytes hok (by rw [h3]; exact hd))
  obtain ⟨h1, h2, k3, k4, k5, k6⟩ := hok
  rw [word16_iff] at h1 h2 k6
  obtain ⟨sp, dp, sq, ak, fl, wi, l⟩ := u
  simp only at h1 h2 h3 hc k3 k4 k5 k6
  subst h3
  generalize hC : pseudo s d 6 (tcpBody (sp, dp, sq, ak, fl, wi, l)) = c at hc
  generalize hB : tcpEnc s d (sp, dp, sq, ak, fl, wi, l) = B
  have hs : B = (sp / 256 % 256) :: (sp % 256) :: (dp / 256 % 256) :: (dp % 256) :: (sq / 16777216 % 256) :: (sq / 65536 % 256) :: (sq / 256 % 256) :: (sq % 256) :: (ak / 16777216 % 256) :: (ak / 65536 % 256) :: (ak / 256 % 256) :: (ak % 256) :: 80 :: fl :: (wi / 256 % 256) :: (wi % 256) :: (c / 256 % 256) :: (c % 256) :: 0 :: 0 :: l := by rw [← hB, tcpEnc, if_pos h0, hC]; rfl
  have i0 : wordAt B (Int.toNat 0) = sp / 256 % 256 * 256 + sp % 256 := by rw [hs]; exact wordAt0 _ _ _
  have i2 : wordAt B (Int.toNat 2) = dp / 256 % 256 * 256 + dp % 256 := by rw [hs]; exact wordAt0 _ _ _
  have i4 : wordAt B (Int.toNat 4) = sq / 16777216 % 256 * 256 + sq / 65536 % 256 := by rw [hs]; exact wordAt0 _ _ _
  have i6 : wordAt B (Int.toNat 6) = sq / 256 % 256 * 256 + sq % 256 := by rw [hs]; exact wordAt0 _ _ _
  have i8 : wordAt B (Int.toNat 8) = ak / 16777216 % 256 * 256 + ak / 65536 % 256 := by rw [hs]; exact wordAt0 _ _ _
  have i10 : wordAt B (Int.toNat 10) = ak / 256 % 256 * 256 + ak % 256 := by rw [hs]; exact wordAt0 _ _ _
  have i14 : wordAt B (Int.toNat 14) = wi / 256 % 256 * 256 + wi % 256 := by rw [hs]; exact wordAt0 _ _ _
  have i16 : wordAt B (Int.toNat 16) = c / 256 % 256 * 256 + c % 256 := by rw [hs]; exact wordAt0 _ _ _
  have i18 : wordAt B (Int.toNat 18) = 0 := by rw [hs]; exact wordAt0 0 0 _
  have hset : setW B (Int.toNat 16) 0 = tcpBody (sp, dp, sq, ak, fl, wi, l) := by rw [hs]; rfl
  have hlen : (B.length : Int) = 20 + l.length := by rw [hs]; simp only [List.length_cons]; omega
  have g12 : B.getD (Int.toNat 12) default = 80 := by rw [hs]; rfl
  have g13 : B.getD (Int.toNat 13) default = fl := by rw [hs]; rfl
  have g20 : B.drop 20 = l := by rw [hs]; rfl
  have he : unTCPErr s d B = 0 := by
    rw [unTCPErr, if_neg (by omega), if_neg (fun q => q ⟨g12, i18⟩), if_neg (by omega), if_neg]
    rw [hset, hC, i16, word_w2 hc.1 hc.2]; exact fun q => q rfl
  refine ⟨he, ?_⟩
  rw [unTCP, if_pos he, i0, i2, i4, i6, i8, i10, g13, i14, g20, word_w2 h1.1 h1.2, word_w2 h2.1 h2.2, word_w2 k6.1 k6.2, word_w4 k3.1 k3.2, word_w4 k4.1 k4.2]
/-- The head of a pseudo packet. -/
def headP (s d p n : Int) : List Int := w4 s ++ (w4 d ++ (w2 p ++ w2 n))
theorem pseudo_sum (s d p : Int) (X : List Int) : sumF true (pseudoB s d p X) = sumF true (headP s d p X.length) + sumF true X := by
  have e : pseudoB s d p X = headP s d p X.length ++ X := by simp [pseudoB, headP]
  have hl : (headP s d p X.length).length = 12 := by simp [headP, w4, w2]
  rw [e, sumF_append, hl]; rfl
theorem head_sum (s d p n : Int) : sumF true (headP s d p n) = sumF true (w4 s) + sumF true (w4 d) + sumF true (w2 p) + sumF true (w2 n) := by
  have h4 : ∀ n r, sumF true (w4 n ++ r) = sumF true (w4 n) + sumF true r := fun n r => by rw [sumF_append, show (w4 n).length = 4 from rfl]; rfl
  have h2 : ∀ n r, sumF true (w2 n ++ r) = sumF true (w2 n) + sumF true r := fun n r => by rw [sumF_append, show (w2 n).length = 2 from rfl]; rfl
  rw [headP, h4, h4, h2]
  omega
theorem pseudo_swap (s d p : Int) (X : List Int) : pseudo s d p X = pseudo d s p X := by
  unfold pseudo csum
  rw [pseudo_sum, pseudo_sum, head_sum, head_sum, Int.add_comm (sumF true (w4 s))]
theorem sumU_swap (s d : Int) (X : List Int) : sumU s d X = sumU d s X := by unfold sumU; rw [pseudo_swap]
theorem unUDPErr_swap (s d : Int) (b : List Int) : unUDPErr s d b = unUDPErr d s b := by unfold unUDPErr; rw [sumU_swap]
theorem unTCPErr_swap (s d : Int) (b : List Int) : unTCPErr s d b = unTCPErr d s b := by unfold unTCPErr; rw [pseudo_swap]
theorem unUDP_swap (s d : Int) (b : List Int) : unUDP s d b = unUDP d s b := by unfold unUDP; rw [unUDPErr_swap]
theorem unTCP_swap (s d : Int) (b : List Int) : unTCP s d b = unTCP d s b := by unfold unTCP; rw [unTCPErr_swap]
theorem enc_len (e : Echo) : ((echoEnc e).length : Int) ≤ 1480 := by
  unfold echoEnc
  split
  · rename_i h
    rw [setW_len, echo_len]
    unfold echoErr at h
    split at h
    · cases h
    · split at h
      · cases h
      · omega
  · simp
theorem notice_enc_len (e : Notice) : ((noticeEnc e).length : Int) ≤ 1480 := by
  unfold noticeEnc
  split
  · rename_i h
    rw [setW_len, notice_len]
    unfold noticeErr at h
    split at h
    · cases h
    · split at h
      · cases h
      · split at h
        · cases h
        · omega
  · simp
theorem udp_enc_len (s d : Int) (e : Dgram) : ((udpEnc s d e).length : Int) ≤ 1480 := by
  unfold udpEnc
  split
  · rename_i h
    rw [setW_len, udp_len]
    unfold udpErr at h
    split at h
    · cases h
    · split at h
      · cases h
      · omega
  · simp
theorem tcp_enc_len (s d : Int) (e : Seg) : ((tcpEnc s d e).length : Int) ≤ 1480 := by
  unfold tcpEnc
  split
  · rename_i h
    rw [setW_len, tcp_len]
    unfold tcpErr at h
    split at h
    · cases h
    · split at h
      · cases h
      · omega
  · simp
theorem msgs_len {s d : Int} {data : List Int} {l : List (List Int)} (h : msgs s d data l) : l.length = 4 ∧ ∀ m ∈ l, (m.length : Int) ≤ 1480 := by
  obtain ⟨e, n, u, t, rfl, -⟩ := h
  refine ⟨rfl, ?_⟩
  intro m hm
  simp only [List.mem_cons, List.not_mem_nil, or_false] at hm
  rcases hm with rfl | rfl | rfl | rfl
  · exact enc_len e
  · exact notice_enc_len n
  · exact udp_enc_len s d u
  · exact tcp_enc_len s d t
theorem okC_new2 (l : List Int) : okC (if (l.length : Int) ≤ 120 then l else l.take (Int.toNat 120), 0) := by split <;> simp [okC]
theorem sumF_set (hi : Bool) (l : List Int) (i : Nat) (v : Int) (h : i < l.length) : ∃ w : Int, (w = 1 ∨ w = 256) ∧ sumF hi (l.set i v) = sumF hi l + (v - l.getD i default) * w := by
  induction l generalizing hi i with
  | nil => simp at h
  | cons x l ih =>
    cases i with
    | zero =>
      cases hi
      · exact ⟨1, .inl rfl, by simp [sumF]; omega⟩
      · exact ⟨256, .inr rfl, by simp [sumF]; omega⟩
    | succ i =>
      obtain ⟨w, hw, e⟩ := ih (!hi) i (by simpa using h)
      refine ⟨w, hw, ?_⟩
      rw [List.set_cons_succ, sumF, sumF, e]
      show _ = _ + (v - l.getD i default) * w
      omega
theorem getD_same {l : List Int} {i : Nat} {v : Int} (h : i < l.length) : (l.set i v).getD i default = v := by
  rw [List.getD_eq_getElem?_getD, List.getElem?_set_self h, Option.getD_some]
theorem getD_ne {l : List Int} {i j : Nat} {v : Int} (h : i ≠ j) : (l.set i v).getD j default = l.getD j default := by
  rw [List.getD_eq_getElem?_getD, List.getElem?_set_ne h, ← List.getD_eq_getElem?_getD]
theorem dmg {G : Int → Int} {pre : Int} (hp : 0 ≤ pre) (hG : ∀ m n, pre ≤ m → pre ≤ n → G m = G n → m % 65535 = n % 65535) {b : List Int} {k i : Nat} {v : Int} (hb : bytes b) (hk : k + 2 ≤ b.length) (hi : i < b.length) (v0 : 0 ≤ v) (v1 : v ≤ 255)
    (h1 : G (pre + sumF true (setW b k 0)) = wordAt b k) (h2 : G (pre + sumF true (setW (b.set i v) k 0)) = wordAt (b.set i v) k) : v = b.getD i default := by
  have hbi : 0 ≤ b.getD i default ∧ b.getD i default ≤ 255 := by
    have := getD_mem (xs := b) (i := (i : Int)) (by omega) (by omega)
    exact hb _ this
  have w1 := wordAt_get (b := b) (k := k) hk
  have w2' := wordAt_get (b := b.set i v) (k := k) (by rw [List.length_set]; exact hk)
  by_cases e0 : i = k
  · subst e0
    have hs : setW (b.set i v) i 0 = setW b i 0 := by unfold setW; rw [List.set_set]
    rw [hs, h1, w1, w2', getD_same hi, getD_ne (by omega)] at h2
    omega
  · by_cases e1 : i = k + 1
    · subst e1
      have hs : setW (b.set (k + 1) v) k 0 = setW b k 0 := by
        unfold setW
        rw [List.set_comm _ _ (by omega : k + 1 ≠ k), List.set_set]
      rw [hs, h1, w1, w2', getD_same hi, getD_ne (by omega)] at h2
      omega
    · have hs : setW (b.set i v) k 0 = (setW b k 0).set i v := by
        unfold setW
        rw [List.set_comm _ _ e0, List.set_comm _ _ e1]
      have hw : wordAt (b.set i v) k = wordAt b k := by rw [w1, w2', getD_ne e0, getD_ne e1]
      have hbs := bytes_setW (i := k) (v := 0) hb
      obtain ⟨w, hw1, hsum⟩ := sumF_set true (setW b k 0) i v (by rw [setW_len]; exact hi)
      have hget : (setW b k 0).getD i default = b.getD i default := by unfold setW; rw [getD_ne (Ne.symm e1), getD_ne (Ne.symm e0)]
      rw [hget] at hsum
      have r1 := (sumF_range true (setW b k 0) hbs).1
      have r2 := (sumF_range true ((setW b k 0).set i v) (bytes_set hbs v0 v1)).1
      rw [hs, hw, ← h1] at h2
      have hm := hG _ _ (by omega) (by omega) h2
      rw [hsum] at hm
      rcases hw1 with rfl | rfl <;> omega
theorem oc_mod {m n : Int} (hm : 0 ≤ m) (hn : 0 ≤ n) (h : 65535 - oc m = 65535 - oc n) : m % 65535 = n % 65535 := by
  unfold oc at h
  split at h <;> split at h <;> omega
theorem xor_ne {a b : Int} (a0 : 0 ≤ a) (a1 : a ≤ 255) (b0 : 0 < b) (b1 : b ≤ 255) : bits .xor .u8 a b ≠ a ∧ 0 ≤ bits .xor .u8 a b ∧ bits .xor .u8 a b ≤ 255 := by
  rw [u8_xor a b a0 (by omega) (by omega) (by omega)]
  have hlt : a.toNat ^^^ b.toNat < 2 ^ 8 := Nat.xor_lt_two_pow (by omega) (by omega)
  refine ⟨fun h => ?_, by omega, by omega⟩
  have h : a.toNat ^^^ b.toNat = a.toNat := by omega
  have : b.toNat = 0 := by
    have h2 := congrArg (fun x => a.toNat ^^^ x) h
    simp only [← Nat.xor_assoc, Nat.xor_self, Nat.zero_xor] at h2
    exact h2
  omega
theorem echo_zero {b : List Int} (h : unEchoErr b = 0) : 8 ≤ b.length ∧ csum (setW b 2 0) = wordAt b 2 := by
  unfold unEchoErr at h
  split at h
  · cases h
  · split at h
    · cases h
    · split at h
      · cases h
      · split at h
        · cases h
        · rename_i h1 _ _ h4
          exact ⟨by omega, Decidable.not_not.1 h4⟩
theorem notice_zero {b : List Int} (h : unNoticeErr b = 0) : 8 ≤ b.length ∧ csum (setW b 2 0) = wordAt b 2 := by
  unfold unNoticeErr at h
  split at h
  · cases h
  · split at h
    · cases h
    · split at h
      · cases h
      · split at h
        · cases h
        · rename_i h1 _ _ h4
          exact ⟨by omega, Decidable.not_not.1 h4⟩
theorem udp_zero {s d : Int} {b : List Int} (h : unUDPErr s d b = 0) : 8 ≤ b.length ∧ b.length ≤ 1480 ∧ sumU s d (setW b 6 0) = wordAt b 6 := by
  unfold unUDPErr at h
  split at h
  · cases h
  · split at h
    · cases h
    · split at h
      · cases h
      · split at h
        · cases h
        · rename_i h1 _ h3 h4
          exact ⟨by omega, by omega, Decidable.not_not.1 h4⟩
theorem tcp_zero {s d : Int} {b : List Int} (h : unTCPErr s d b = 0) : 20 ≤ b.length ∧ b.length ≤ 1480 ∧ pseudo s d 6 (setW b 16 0) = wordAt b 16 := by
  unfold unTCPErr at h
  split at h
  · cases h
  · split at h
    · cases h
    · split at h
      · cases h
      · split at h
        · cases h
        · rename_i h1 _ h3 h4
          exact ⟨by omega, by omega, Decidable.not_not.1 h4⟩
theorem dmg_echo {b : List Int} {i : Nat} {v : Int} (hb : bytes b) (hi : i < b.length) (v0 : 0 ≤ v) (v1 : v ≤ 255) (hv : v ≠ b.getD i default) (h : unEchoErr b = 0) : unEchoErr (b.set i v) ≠ 0 := by
  intro k
  obtain ⟨l, h1⟩ := echo_zero h
  obtain ⟨-, h2⟩ := echo_zero k
  exact hv (dmg (G := fun m => 65535 - oc m) (pre := 0) (k := 2) (by omega) (fun m n hm hn e => oc_mod hm hn e) hb (by omega) hi v0 v1 (by simpa [csum] using h1) (by simpa [csum] using h2))
theorem dmg_notice {b : List Int} {i : Nat} {v : Int} (hb : bytes b) (hi : i < b.length) (v0 : 0 ≤ v) (v1 : v ≤ 255) (hv : v ≠ b.getD i default) (h : unNoticeErr b = 0) : unNoticeErr (b.set i v) ≠ 0 := by
  intro k
  obtain ⟨l, h1⟩ := notice_zero h
  obtain ⟨-, h2⟩ := notice_zero k
  exact hv (dmg (G := fun m => 65535 - oc m) (pre := 0) (k := 2) (by omega) (fun m n hm hn e => oc_mod hm hn e) hb (by omega) hi v0 v1 (by simpa [csum] using h1) (by simpa [csum] using h2))
theorem head_nonneg (s d p n : Int) : p % 256 ≤ sumF true (headP s d p n) := by
  rw [head_sum]; simp [sumF, w4, w2]; omega
theorem dmg_tcp {s d : Int} {b : List Int} {i : Nat} {v : Int} (hb : bytes b) (hi : i < b.length) (v0 : 0 ≤ v) (v1 : v ≤ 255) (hv : v ≠ b.getD i default) (h : unTCPErr s d b = 0) : unTCPErr s d (b.set i v) ≠ 0 := by
  intro k
  obtain ⟨l, l2, h1⟩ := tcp_zero h
  obtain ⟨-, -, h2⟩ := tcp_zero k
  have hp := head_nonneg s d 6 b.length
  rw [pseudo, if_neg (by rw [setW_len]; omega), csum, pseudo_sum, setW_len] at h1
  rw [pseudo, if_neg (by rw [setW_len, List.length_set]; omega), csum, pseudo_sum, setW_len, List.length_set] at h2
  exact hv (dmg (G := fun m => 65535 - oc m) (pre := sumF true (headP s d 6 b.length)) (by omega) (fun m n hm hn e => oc_mod (by omega) (by omega) e) hb (by omega) hi v0 v1 h1 h2)
theorem dmg_udp {s d : Int} {b : List Int} {i : Nat} {v : Int} (hb : bytes b) (hi : i < b.length) (v0 : 0 ≤ v) (v1 : v ≤ 255) (hv : v ≠ b.getD i default) (h : unUDPErr s d b = 0) : unUDPErr s d (b.set i v) ≠ 0 := by
  intro k
  obtain ⟨l, l2, h1⟩ := udp_zero h
  obtain ⟨-, -, h2⟩ := udp_zero k
  have hp := head_nonneg s d 17 b.length
  have p1 : pseudo s d 17 (setW b 6 0) = 65535 - oc (sumF true (headP s d 17 b.length) + sumF true (setW b 6 0)) := by
    rw [pseudo, if_neg (by rw [setW_len]; omega), csum, pseudo_sum, setW_len]
  have p2 : pseudo s d 17 (setW (b.set i v) 6 0) = 65535 - oc (sumF true (headP s d 17 b.length) + sumF true (setW (b.set i v) 6 0)) := by
    rw [pseudo, if_neg (by rw [setW_len, List.length_set]; omega), csum, pseudo_sum, setW_len, List.length_set]
  rw [sumU, p1] at h1
  rw [sumU, p2] at h2
  refine hv (dmg (G := fun m => if 65535 - oc m = 0 then 65535 else 65535 - oc m) (pre := sumF true (headP s d 17 b.length)) (by omega) (fun m n hm hn e => ?_) hb (by omega) hi v0 v1 h1 h2)
  unfold oc at e
  rw [if_neg (show ¬ m = 0 by omega), if_neg (show ¬ n = 0 by omega)] at e
  split at e <;> split at e <;> omega
def lpEncodes : LPs := [(true, cEcho), (true, cNotice), (true, cDgram), (true, cSeg), (false, .sl cU8)]
def lpSwaps : LPs := [(false, .sl cU8), (false, .sl cU8)]
def lpDecodes : LPs := [(false, .sl cU8), (false, .sl cU8), (false, .sl cU8)]
def lpDamage : LPs := [(false, .sl cU8), (false, .sl cU8), (false, .int .u16), (false, cU8)]
def ct_law06_TransportEncodes : Ct := lawCt lpEncodes
def an_law06_TransportEncodes : PDs ct_law06_TransportEncodes.ps → Anns := (fun d => { loops := (fun n => match n with | 6 => some (fun S => { ι := Int × (List Int × Int) × Echo × Notice × Dgram × Seg, qn := ⟨fun k_ => ∀ (k : Int) (cs : (List Int × Int)) (e : Echo) (n : Notice) (u : Dgram) (s : Seg), k_ (k, cs, e, n, u, s), fun k_ h_ i => h_ i.1 i.2.1 i.2.2.1 i.2.2.2.1 i.2.2.2.2.1 i.2.2.2.2.2, fun k_ => ∃ (k : Int) (cs : (List Int × Int)) (e : Echo) (n : Notice) (u : Dgram) (s : Seg), k_ (k, cs, e, n, u, s), fun k_ ⟨k, cs, e, n, u, s, h_⟩ => ⟨_, h_⟩⟩, μ := fun i => (2 - i.1).toNat, inv := fun i => okC i.2.1 ∧ 0 ≤ i.1 ∧ i.1 ≤ 2 ∧ (i.2.2.1.2.2.2.length : Int) ≤ 1600 ∧ (i.2.2.2.1.2.2.length : Int) ≤ 1600 ∧ (i.2.2.2.2.1.2.2.length : Int) ≤ 1600 ∧ (i.2.2.2.2.2.2.2.2.2.2.2.length : Int) ≤ 1600, keep := [5, 6, 7, 8, 11, 12, 13], slots := fun i => [(14, .int .i64 i.1)], names := fun i => [(96, .live (.cells 43 (flat cEcho i.2.2.1))), (112, .live (.cells 45 (flat cNotice i.2.2.2.1))), (128, .live (.cells 47 (flat cDgram i.2.2.2.2.1))), (144, .live (.cells 49 (flat cSeg i.2.2.2.2.2))), (1296, .live (.cells 94 (flat cCodes i.2.1)))] }) | _ => none) })
theorem vc_law06_TransportEncodes :
    ∀ (x : Bool) (x_1 x_2 : Int) (x_3 : List Int) (x_4 x_5 : Int) (x_6 : List Int) (x_7 x_8 : Int) (x_9 : List Int) (d : Int × Int × Int × Int × Int × Int × List Int) (x_10 : List Int), (True ∧
     ((-9223372036854775808 : Int) ≤ x_1 ∧ x_1 ≤ (9223372036854775807 : Int)) ∧ ((-9223372036854775808 : Int) ≤ x_2 ∧ x_2 ≤ (9223372036854775807 : Int)) ∧ List.length x_3 ≤ maxLen ∧ ∀ (x : Int), x ∈ x_3 →
     (0 : Int) ≤ x ∧ x ≤ (255 : Int)) ∧ (((-9223372036854775808 : Int) ≤ x_4 ∧ x_4 ≤ (9223372036854775807 : Int)) ∧ ((-9223372036854775808 : Int) ≤ x_5 ∧ x_5 ≤ (9223372036854775807 : Int)) ∧ List.length
     x_6 ≤ maxLen ∧ ∀ (x : Int), x ∈ x_6 → (0 : Int) ≤ x ∧ x ≤ (255 : Int)) ∧ (((-9223372036854775808 : Int) ≤ x_7 ∧ x_7 ≤ (9223372036854775807 : Int)) ∧ ((-9223372036854775808 : Int) ≤ x_8 ∧ x_8 ≤
     (9223372036854775807 : Int)) ∧ List.length x_9 ≤ maxLen ∧ ∀ (x : Int), x ∈ x_9 → (0 : Int) ≤ x ∧ x ≤ (255 : Int)) ∧ CT.wf cSeg d ∧ (List.length x_10 ≤ maxLen ∧ ∀ (x : Int), x ∈ x_10 → (0 : Int) ≤ x ∧
     x ≤ (255 : Int)) ∧ True → True → ∀ (b : Bool), b = !true → ((!b) = true → ((!b) = true → (!b) = true) ∧ True) ∧ ((!b) = true → ((!b) = true → (!b) = true) ∧ True) ∧ ((!b) = true → ((!b) = true → (!b)
     = true) ∧ True) ∧ (b = false → (!b) = true) ∧ ∀ (b_1 : Bool), (b_1 = bif b then true else decide ((1600 : Int) < (↑(List.length x_3) : Int))) → ((!b_1) = true → ((!b_1) = true → (!b_1) = true) ∧ True)
     ∧ ((!b_1) = true → ((!b_1) = true → (!b_1) = true) ∧ True) ∧ ((!b_1) = true → ((!b_1) = true → (!b_1) = true) ∧ True) ∧ (b_1 = false → (!b_1) = true) ∧ ∀ (b : Bool), (b = bif b_1 then true else decide
     ((1600 : Int) < (↑(List.length x_6) : Int))) → ((!b) = true → ((!b) = true → (!b) = true) ∧ True) ∧ ((!b) = true → ((!b) = true → (!b) = true) ∧ True) ∧ ((!b) = true → ((!b) = true → (!b) = true) ∧
     True) ∧ (b = false → (!b) = true) ∧ ∀ (b_2 : Bool), (b_2 = bif b then true else decide ((1600 : Int) < (↑(List.length x_9) : Int))) → ((!b_2) = true → ((!b_2) = true → (!b_2) = true) ∧ True) ∧ ((!b_2)
     = true → ((!b_2) = true → (!b_2) = true) ∧ True) ∧ ((!b_2) = true → ((!b_2) = true → (!b_2) = true) ∧ True) ∧ (b_2 = false → (!b_2) = true) ∧ ifP (bif b_2 then true else decide ((1600 : Int) <
     (↑(List.length d.2.2.2.2.2.2) : Int))) (∀ (b : Bool), b = decide ((1600 : Int) < (↑(List.length x_3) : Int)) → ((!b) = true → ((!b) = true → (!b) = true) ∧ True) ∧ ((!b) = true → ((!b) = true → (!b) =
     true) ∧ True) ∧ ((!b) = true → ((!b) = true → (!b) = true) ∧ True) ∧ (b = false → (!b) = true) ∧ ∀ (b_3 : Bool), (b_3 = bif b then true else decide ((1600 : Int) < (↑(List.length x_6) : Int))) →
     ((!b_3) = true → ((!b_3) = true → (!b_3) = true) ∧ True) ∧ ((!b_3) = true → ((!b_3) = true → (!b_3) = true) ∧ True) ∧ ((!b_3) = true → ((!b_3) = true → (!b_3) = true) ∧ True) ∧ (b_3 = false → (!b_3) =
     true) ∧ ∀ (b : Bool), (b = bif b_3 then true else decide ((1600 : Int) < (↑(List.length x_9) : Int))) → ((!b) = true → ((!b) = true → (!b) = true) ∧ True) ∧ ((!b) = true → ((!b) = true → (!b) = true)
     ∧ True) ∧ ((!b) = true → ((!b) = true → (!b) = true) ∧ True) ∧ (b = false → (!b) = true) ∧ (bif b then true else decide ((1600 : Int) < (↑(List.length d.2.2.2.2.2.2) : Int))) = true) ((0 : Int) ≤ (120
     : Int) ∧ okC (if (↑(List.length x_10) : Int) ≤ (120 : Int) then x_10 else List.take (Int.toNat (120 : Int)) x_10, (0 : Int)) ∧ ∀ (x_11 : Int) (x_12 : List Int) (x_13 : Int), okC (x_12, x_13) ∧ (0 :
     Int) ≤ x_11 ∧ x_11 ≤ (4294967295 : Int) → okC (x_12, x_13) ∧ ∀ (x_14 : Int) (x_15 : List Int) (x_16 : Int), okC (x_15, x_16) ∧ (0 : Int) ≤ x_14 ∧ x_14 ≤ (4294967295 : Int) → (∃ (k : Int), ∃ (cs : List
     Int × Int), ∃ (e : Echo), ∃ (n : Notice), ∃ (u : Dgram), ∃ (s : Seg), (okC cs ∧ (0 : Int) ≤ k ∧ k ≤ (2 : Int) ∧ (↑(List.length e.2.2.2) : Int) ≤ (1600 : Int) ∧ (↑(List.length n.2.2) : Int) ≤ (1600 :
     Int) ∧ (↑(List.length u.2.2) : Int) ≤ (1600 : Int) ∧ (↑(List.length s.2.2.2.2.2.2) : Int) ≤ (1600 : Int)) ∧ x_11 = x_11 ∧ x_14 = x_14 ∧ (0 : Int) = k ∧ x = e.1 ∧ x_1 = e.2.1 ∧ x_2 = e.2.2.1 ∧ x_3 =
     e.2.2.2 ∧ x_4 = n.1 ∧ x_5 = n.2.1 ∧ x_6 = n.2.2 ∧ x_7 = u.1 ∧ x_8 = u.2.1 ∧ x_9 = u.2.2 ∧ d.1 = s.1 ∧ d.2.1 = s.2.1 ∧ d.2.2.1 = s.2.2.1 ∧ d.2.2.2.1 = s.2.2.2.1 ∧ d.2.2.2.2.1 = s.2.2.2.2.1 ∧
     d.2.2.2.2.2.1 = s.2.2.2.2.2.1 ∧ d.2.2.2.2.2.2 = s.2.2.2.2.2.2 ∧ x_15 = cs.1 ∧ x_16 = cs.2 ∧ True) ∧ ∀ (k : Int) (cs : List Int × Int) (e : Echo) (n : Notice) (u : Dgram) (s : Seg), okC cs ∧ (0 : Int)
     ≤ k ∧ k ≤ (2 : Int) ∧ (↑(List.length e.2.2.2) : Int) ≤ (1600 : Int) ∧ (↑(List.length n.2.2) : Int) ≤ (1600 : Int) ∧ (↑(List.length u.2.2) : Int) ≤ (1600 : Int) ∧ (↑(List.length s.2.2.2.2.2.2) : Int) ≤
     (1600 : Int) → ifP (decide (k < (2 : Int))) ((↑(List.length e.2.2.2) : Int) ≤ (1073741824 : Int) ∧ (↑(List.length e.2.2.2) : Int) ≤ (1073741824 : Int) ∧ (↑(List.length n.2.2) : Int) ≤ (1073741824 :
     Int) ∧ (↑(List.length n.2.2) : Int) ≤ (1073741824 : Int) ∧ (↑(List.length u.2.2) : Int) ≤ (1073741824 : Int) ∧ (↑(List.length u.2.2) : Int) ≤ (1073741824 : Int) ∧ (↑(List.length s.2.2.2.2.2.2) : Int)
     ≤ (1000000 : Int) ∧ (↑(List.length s.2.2.2.2.2.2) : Int) ≤ (1000000 : Int) ∧ ∀ (b : Bool), b = !decide (echoErr e = echoErr e) → ((!b) = true → ((!b) = true → (!b) = true) ∧ ((!b) = true → (!b) =
     true) ∧ True) ∧ ((!b) = true → ((!b) = true → (!b) = true) ∧ True) ∧ (b = false → (!b) = true) ∧ ∀ (b_3 : Bool), (b_3 = bif b then true else !decide (echoEnc e = echoEnc e)) → ((!b_3) = true → ((!b_3)
     = true → (!b_3) = true) ∧ ((!b_3) = true → (!b_3) = true) ∧ True) ∧ (b_3 = false → (!b_3) = true) ∧ ∀ (b : Bool), (b = bif b_3 then true else !decide (noticeErr n = noticeErr n)) → ((!b) = true →
     ((!b) = true → (!b) = true) ∧ ((!b) = true → (!b) = true) ∧ True) ∧ ((!b) = true → ((!b) = true → (!b) = true) ∧ True) ∧ (b = false → (!b) = true) ∧ ∀ (b_4 : Bool), (b_4 = bif b then true else !decide
     (noticeEnc n = noticeEnc n)) → ((!b_4) = true → ((!b_4) = true → (!b_4) = true) ∧ ((!b_4) = true → (!b_4) = true) ∧ True) ∧ (b_4 = false → (!b_4) = true) ∧ ∀ (b : Bool), (b = bif b_4 then true else
     !decide (udpErr u = udpErr u)) → ((!b) = true → ((!b) = true → (!b) = true) ∧ ((!b) = true → (!b) = true) ∧ True) ∧ ((!b) = true → ((!b) = true → (!b) = true) ∧ True) ∧ (b = false → (!b) = true) ∧ ∀
     (b_5 : Bool), (b_5 = bif b then true else !decide (udpEnc x_11 x_14 u = udpEnc x_11 x_14 u)) → ((!b_5) = true → ((!b_5) = true → (!b_5) = true) ∧ ((!b_5) = true → (!b_5) = true) ∧ True) ∧ (b_5 = false
     → (!b_5) = true) ∧ ∀ (b : Bool), (b = bif b_5 then true else !decide (tcpErr s = tcpErr s)) → ((!b) = true → ((!b) = true → (!b) = true) ∧ ((!b) = true → (!b) = true) ∧ True) ∧ ((!b) = true → ((!b) =
     true → (!b) = true) ∧ True) ∧ (b = false → (!b) = true) ∧ ifP (bif b then true else !decide (tcpEnc x_11 x_14 s = tcpEnc x_11 x_14 s)) (false = true) (okC cs ∧ ∀ (x : Int) (x_17 : List Int) (x_18 :
     Int), (0 : Int) ≤ x ∧ (x < (65536 : Int) ∨ x = (0 : Int)) ∧ okC (x_17, x_18) → okC (x_17, x_18) ∧ ∀ (x_19 : Int) (x_20 : List Int) (x_21 : Int), (0 : Int) ≤ x_19 ∧ (x_19 < (65536 : Int) ∨ x_19 = (0 :
     Int)) ∧ okC (x_20, x_21) → okC (x_20, x_21) ∧ ∀ (x_22 : Int) (x_23 : List Int) (x_24 : Int), (0 : Int) ≤ x_22 ∧ (x_22 < (3 : Int) ∨ x_22 = (0 : Int)) ∧ okC (x_23, x_24) → (0 : Int) ≤ x_22 ∧ x_22 <
     (↑(List.length [(3 : Int), (11 : Int), (0 : Int)]) : Int) ∧ okC (x_23, x_24) ∧ ∀ (x_25 : Int) (x_26 : List Int) (x_27 : Int), (0 : Int) ≤ x_25 ∧ (x_25 < (257 : Int) ∨ x_25 = (0 : Int)) ∧ okC (x_26,
     x_27) → okC (x_26, x_27) ∧ ∀ (x_28 : Int) (x_29 : List Int) (x_30 : Int), (0 : Int) ≤ x_28 ∧ (x_28 < (65536 : Int) ∨ x_28 = (0 : Int)) ∧ okC (x_29, x_30) → okC (x_29, x_30) ∧ ∀ (x_31 : Int) (x_32 :
     List Int) (x_33 : Int), (0 : Int) ≤ x_31 ∧ (x_31 < (65537 : Int) ∨ x_31 = (0 : Int)) ∧ okC (x_32, x_33) → okC (x_32, x_33) ∧ ∀ (x_34 : Int) (x_35 : List Int) (x_36 : Int), (0 : Int) ≤ x_34 ∧ (x_34 <
     (65536 : Int) ∨ x_34 = (0 : Int)) ∧ okC (x_35, x_36) → okC (x_35, x_36) ∧ ∀ (x_37 : Int) (x_38 : List Int) (x_39 : Int), (0 : Int) ≤ x_37 ∧ (x_37 < (65536 : Int) ∨ x_37 = (0 : Int)) ∧ okC (x_38, x_39)
     → okC (x_38, x_39) ∧ ∀ (x_40 : Int) (x_41 : List Int) (x_42 : Int), (0 : Int) ≤ x_40 ∧ (x_40 < (65536 : Int) ∨ x_40 = (0 : Int)) ∧ okC (x_41, x_42) → okC (x_41, x_42) ∧ ∀ (x_43 : Int) (x_44 : List
     Int) (x_45 : Int), (0 : Int) ≤ x_43 ∧ (x_43 < (2 : Int) ∨ x_43 = (0 : Int)) ∧ okC (x_44, x_45) → okC (x_44, x_45) ∧ ∀ (x_46 : Int) (x_47 : List Int) (x_48 : Int), (0 : Int) ≤ x_46 ∧ (x_46 < (256 :
     Int) ∨ x_46 = (0 : Int)) ∧ okC (x_47, x_48) → okC (x_47, x_48) ∧ ∀ (x_49 : Int) (x_50 : List Int) (x_51 : Int), (0 : Int) ≤ x_49 ∧ (x_49 < (65536 : Int) ∨ x_49 = (0 : Int)) ∧ okC (x_50, x_51) → ∃ (k_1
     : Int), ∃ (cs : List Int × Int), ∃ (e_1 : Echo), ∃ (n_1 : Notice), ∃ (u_1 : Dgram), ∃ (s_1 : Seg), (okC cs ∧ (0 : Int) ≤ k_1 ∧ k_1 ≤ (2 : Int) ∧ (↑(List.length e_1.2.2.2) : Int) ≤ (1600 : Int) ∧
     (↑(List.length n_1.2.2) : Int) ≤ (1600 : Int) ∧ (↑(List.length u_1.2.2) : Int) ≤ (1600 : Int) ∧ (↑(List.length s_1.2.2.2.2.2.2) : Int) ≤ (1600 : Int)) ∧ Int.toNat ((2 : Int) - k_1) < Int.toNat ((2 :
     Int) - k) ∧ x_11 = x_11 ∧ x_14 = x_14 ∧ IntKind.wrap IntKind.i64 (k + (1 : Int)) = k_1 ∧ e.1 = e_1.1 ∧ x = e_1.2.1 ∧ x_19 = e_1.2.2.1 ∧ e.2.2.2 = e_1.2.2.2 ∧ List.getD [(3 : Int), (11 : Int), (0 :
     Int)] (Int.toNat x_22) default = n_1.1 ∧ x_25 = n_1.2.1 ∧ n.2.2 = n_1.2.2 ∧ x_28 = u_1.1 ∧ x_31 = u_1.2.1 ∧ u.2.2 = u_1.2.2 ∧ x_34 = s_1.1 ∧ x_37 = s_1.2.1 ∧ x_40 = s_1.2.2.1 ∧ IntKind.wrap
     IntKind.i64 ((4294967295 : Int) - x_43) = s_1.2.2.2.1 ∧ x_46 = s_1.2.2.2.2.1 ∧ x_49 = s_1.2.2.2.2.2.1 ∧ s.2.2.2.2.2.2 = s_1.2.2.2.2.2.2 ∧ x_50 = cs.1 ∧ x_51 = cs.2 ∧ True)) ((↑(List.length e.2.2.2) :
     Int) ≤ (1073741824 : Int) ∧ (↑(List.length e.2.2.2) : Int) ≤ (1073741824 : Int) ∧ ∀ (b : Bool), b = decide (pseudo x_11 x_14 e.2.1 e.2.2.2 = pseudo x_11 x_14 e.2.1 e.2.2.2) → (b = true → (b = true → b
     = true) ∧ True) ∧ (b = true → (b = true → b = true) ∧ (b = true → b = true) ∧ (b = true → b = true) ∧ (↑(List.length e.2.2.2) : Int) ≤ (1073741824 : Int) ∧ True) ∧ (b = true → (b = true → b = true) ∧
     True) ∧ (b = true → (b = true → b = true) ∧ (b = true → b = true) ∧ (b = true → b = true) ∧ (↑(List.length e.2.2.2) : Int) ≤ (1073741824 : Int) ∧ True) ∧ (b = true → (b = true → b = true) ∧ (b = true
     → b = true) ∧ True) ∧ (b = true → b = true) ∧ (bif b then decide (pseudo x_11 x_14 (17 : Int) e.2.2.2 = pseudo x_11 x_14 (17 : Int) e.2.2.2) else false) = true)) := by
  rintro r i q el t k nl sp dp ul sg cl - -
  rintro b rfl
  refine ⟨by simp, by simp, by simp, by simp, ?_⟩
  rintro b rfl
  refine ⟨by simp, by simp, by simp, by simp, ?_⟩
  rintro b rfl
  refine ⟨by simp, by simp, by simp, by simp, ?_⟩
  rintro b rfl
  refine ⟨by simp, by simp, by simp, by simp, ?_⟩
  refine ifP_split (fun h => ?_) (fun hl => ?_)
  · (repeat (intro (b_ : Bool) (hb_ : b_ = _); (repeat refine ⟨(by first | (simp; done) | (rw [hb_]; simp; done) | (rw [hb_]; simp; omega) | (rw [hb_]; simp; intros; omega) | (rw [hb_]; simp +contextual; done)), ?_⟩); subst hb_))
    simpa using h
  have hl : ¬ ((1600 : Int) < el.length ∨ (1600 : Int) < nl.length ∨ (1600 : Int) < ul.length ∨ (1600 : Int) < sg.2.2.2.2.2.2.length) := by
    simp [Bool.cond_eq_ite] at hl; omega
  refine ⟨by omega, okC_new2 cl, ?_⟩
  rintro s l1 p1 ⟨hc, -⟩
  refine ⟨hc, ?_⟩
  rintro d l2 p2 ⟨hc, -⟩
  refine ⟨⟨0, (l2, p2), (r, i, q, el), (t, k, nl), (sp, dp, ul), sg, ⟨hc, by omega, by omega, by show (el.length : Int) ≤ 1600; omega, by show (nl.length : Int) ≤ 1600; omega, by show (ul.length : Int) ≤ 1600; omega, by omega⟩, (by repeat' first | exact trivial | refine ⟨(by with_reducible rfl), ?_⟩ | refine ⟨w64 (by omega) (by omega), ?_⟩ | refine ⟨rfl, ?_⟩)⟩, ?_⟩
  rintro k cs e n u g ⟨hc, k0, k2, le, ln, lu, lg⟩
  refine ifP_split (fun hk => ?_) (fun hk => ?_)
  · have hk := of_decide_eq_true hk
    refine ⟨by omega, by omega, by omega, by omega, by omega, by omega, by omega, by omega, ?_⟩
    (repeat (intro (b_ : Bool) (hb_ : b_ = _); (repeat refine ⟨(by first | (simp; done) | (rw [hb_]; simp; done) | (rw [hb_]; simp; omega) | (rw [hb_]; simp; intros; omega) | (rw [hb_]; simp +contextual; done)), ?_⟩); subst hb_))
    refine ifP_split (fun h => by simp at h) (fun _ => ⟨hc, ?_⟩)
    rintro a1 _ _ ⟨-, -, hc⟩
    refine ⟨hc, ?_⟩
    rintro a2 _ _ ⟨-, -, hc⟩
    refine ⟨hc, ?_⟩
    rintro a3 _ _ ⟨u3, v3, hc⟩
    refine ⟨u3, by simp only [List.length_cons, List.length_nil]; omega, hc, ?_⟩
    rintro a4 _ _ ⟨-, -, hc⟩
    refine ⟨hc, ?_⟩
    rintro a5 _ _ ⟨-, -, hc⟩
    refine ⟨hc, ?_⟩
    rintro a6 _ _ ⟨-, -, hc⟩
    refine ⟨hc, ?_⟩
    rintro a7 _ _ ⟨-, -, hc⟩
    refine ⟨hc, ?_⟩
    rintro a8 _ _ ⟨-, -, hc⟩
    refine ⟨hc, ?_⟩
    rintro a9 _ _ ⟨-, -, hc⟩
    refine ⟨hc, ?_⟩
    rintro b1 _ _ ⟨-, -, hc⟩
    refine ⟨hc, ?_⟩
    rintro b2 _ _ ⟨-, -, hc⟩
    refine ⟨hc, ?_⟩
    rintro b3 l3 p3 ⟨-, -, hc⟩
    exact ⟨k + 1, (l3, p3), (e.1, a1, a2, e.2.2.2), (_, a4, n.2.2), (a5, a6, u.2.2), (a7, a8, a9, _, b2, b3, g.2.2.2.2.2.2), ⟨hc, by omega, by omega, le, ln, lu, lg⟩, by omega, rfl, rfl, w64 (by omega) (by omega), rfl, rfl, rfl, rfl, rfl, rfl, rfl, rfl, rfl, rfl, rfl, rfl, rfl, rfl, rfl, rfl, rfl, rfl, rfl, trivial⟩
  · have le2 : (e.2.2.2.length : Int) ≤ 1073741824 := by omega
    refine ⟨le2, le2, ?_⟩
    (repeat (intro (b_ : Bool) (hb_ : b_ = _); (repeat refine ⟨(by first | (simp; done) | (rw [hb_]; simp; done) | (rw [hb_]; simp; omega) | (rw [hb_]; simp; intros; omega) | (rw [hb_]; simp +contextual; done)), ?_⟩); subst hb_))
    simp
theorem ok_law06_TransportEncodes : SpecOK Try.prog 4 ct_law06_TransportEncodes.spec := Ct.ok' _ Try.func4 (by kernel_rfl) (withSpec_ok (withSpec_ok (withSpec_ok (withSpec_ok (withSpec_ok (withSpec_ok (withSpec_ok (withSpec_ok (withSpec_ok (withSpec_ok (withSpec_ok (withSpec_ok (withSpec_ok (withSpec_ok (withSpec_ok noSpecs_ok ok_law06_awake) ok_draw_New) ok_draw_Codes_Address) ok_Next) ok_transport_EncodeEcho) ok_ref06_EncodeEcho) ok_transport_EncodeNotice) ok_ref06_EncodeNotice) ok_transport_EncodeUDP) ok_ref06_EncodeUDP) ok_transport_EncodeTCP) ok_ref06_EncodeTCP) ok_ref04_Equal) ok_transport_Pseudo) ok_ref06_Pseudo) hmix an_law06_TransportEncodes (Eq.mpr (by kernel_rfl) vc_law06_TransportEncodes)

def ct_law06_TransportSwaps : Ct := lawCt lpSwaps
def an_law06_TransportSwaps : PDs ct_law06_TransportSwaps.ps → Anns := (fun _ => {})
theorem vc_law06_TransportSwaps :
    ∀ (x x_1 : List Int), (List.length x ≤ maxLen ∧ ∀ (x_2 : Int), x_2 ∈ x → (0 : Int) ≤ x_2 ∧ x_2 ≤ (255 : Int)) ∧ (List.length x_1 ≤ maxLen ∧ ∀ (x : Int), x ∈ x_1 → (0 : Int) ≤ x ∧ x ≤ (255 : Int)) ∧
     True → True → ∀ (b : Bool), b = !true → ((!b) = true → ((!b) = true → (!b) = true) ∧ True) ∧ ((!b) = true → ((!b) = true → (!b) = true) ∧ True) ∧ (b = false → (!b) = true) ∧ ifP (bif b then true else
     decide ((1400 : Int) < (↑(List.length x_1) : Int))) (decide ((1400 : Int) < (↑(List.length x_1) : Int)) = true) ((0 : Int) ≤ (120 : Int) ∧ okC (if (↑(List.length x) : Int) ≤ (120 : Int) then x else
     List.take (Int.toNat (120 : Int)) x, (0 : Int)) ∧ ∀ (x : Int) (x_2 : List Int) (x_3 : Int), okC (x_2, x_3) ∧ (0 : Int) ≤ x ∧ x ≤ (4294967295 : Int) → okC (x_2, x_3) ∧ ∀ (x_4 : Int) (x_5 : List Int)
     (x_6 : Int), okC (x_5, x_6) ∧ (0 : Int) ≤ x_4 ∧ x_4 ≤ (4294967295 : Int) → okC (x_5, x_6) ∧ (↑(List.length x_1) : Int) ≤ (2000 : Int) ∧ ∀ (x_7 : List (List Int)) (x_8 : List Int) (x_9 : Int), msgs x
     x_4 x_1 x_7 ∧ okC (x_8, x_9) → (0 : Int) ≤ (2 : Int) ∧ (2 : Int) < (↑(List.length x_7) : Int) ∧ (↑(List.length (List.getD x_7 (Int.toNat (2 : Int)) default)) : Int) ≤ (1000000 : Int) ∧ (0 : Int) ≤ (2
     : Int) ∧ (2 : Int) < (↑(List.length x_7) : Int) ∧ (↑(List.length (List.getD x_7 (Int.toNat (2 : Int)) default)) : Int) ≤ (1000000 : Int) ∧ (0 : Int) ≤ (3 : Int) ∧ (3 : Int) < (↑(List.length x_7) :
     Int) ∧ (↑(List.length (List.getD x_7 (Int.toNat (3 : Int)) default)) : Int) ≤ (1000000 : Int) ∧ (0 : Int) ≤ (3 : Int) ∧ (3 : Int) < (↑(List.length x_7) : Int) ∧ (↑(List.length (List.getD x_7
     (Int.toNat (3 : Int)) default)) : Int) ≤ (1000000 : Int) ∧ ∀ (b : Bool), b = decide (unUDPErr x_4 x (List.getD x_7 (Int.toNat (2 : Int)) default) = (0 : Int)) → (b = true → (b = true → b = true) ∧
     True) ∧ (b = true → b = true) ∧ ∀ (b_1 : Bool), (b_1 = bif b then decide (unUDPErr x x_4 (List.getD x_7 (Int.toNat (2 : Int)) default) = (0 : Int)) else false) → (b_1 = true → (b_1 = true → b_1 =
     true) ∧ True) ∧ (b_1 = true → b_1 = true) ∧ ∀ (b : Bool), (b = bif b_1 then decide (unTCPErr x_4 x (List.getD x_7 (Int.toNat (3 : Int)) default) = (0 : Int)) else false) → (b = true → (b = true → b =
     true) ∧ True) ∧ (b = true → b = true) ∧ ∀ (b_2 : Bool), (b_2 = bif b then decide (unTCPErr x x_4 (List.getD x_7 (Int.toNat (3 : Int)) default) = (0 : Int)) else false) → (b_2 = true → (b_2 = true →
     b_2 = true) ∧ (b_2 = true → b_2 = true) ∧ True) ∧ (b_2 = true → b_2 = true) ∧ ∀ (b : Bool), (b = bif b_2 then decide (unUDP x_4 x (List.getD x_7 (Int.toNat (2 : Int)) default) = unUDP x x_4 (List.getD
     x_7 (Int.toNat (2 : Int)) default)) else false) → (b = true → (b = true → b = true) ∧ (b = true → b = true) ∧ True) ∧ (b = true → b = true) ∧ ∀ (b_3 : Bool), (b_3 = bif b then sameSeg (unTCP x_4 x
     (List.getD x_7 (Int.toNat (3 : Int)) default)) (unTCP x x_4 (List.getD x_7 (Int.toNat (3 : Int)) default)) else false) → (b_3 = true → (b_3 = true → b_3 = true) ∧ (b_3 = true → b_3 = true) ∧ (b_3 =
     true → b_3 = true) ∧ (↑(List.length x_1) : Int) ≤ (1073741824 : Int) ∧ True) ∧ (b_3 = true → (b_3 = true → b_3 = true) ∧ (b_3 = true → b_3 = true) ∧ (b_3 = true → b_3 = true) ∧ (↑(List.length x_1) :
     Int) ≤ (1073741824 : Int) ∧ True) ∧ (b_3 = true → (b_3 = true → b_3 = true) ∧ (b_3 = true → b_3 = true) ∧ True) ∧ (b_3 = true → b_3 = true) ∧ (bif b_3 then decide (pseudo x x_4 (6 : Int) x_1 = pseudo
     x_4 x (6 : Int) x_1) else false) = true) := by
  rintro cl data ⟨-, ⟨-, hd⟩, -⟩ -
  (repeat (intro (b_ : Bool) (hb_ : b_ = _); (repeat refine ⟨(by first | (simp; done) | (rw [hb_]; simp; done) | (rw [hb_]; simp; omega) | (rw [hb_]; simp; intros; omega) | (rw [hb_]; simp +contextual; done)), ?_⟩); subst hb_))
  refine ifP_split (fun h => ?_) (fun hl => ?_)
  · simpa using h
  have hl : ¬ (1400 : Int) < data.length := by simpa using hl
  refine ⟨by omega, okC_new2 cl, ?_⟩
  rintro s l1 p1 ⟨hc, -⟩
  refine ⟨hc, ?_⟩
  rintro d l1 p1 ⟨hc, -⟩
  refine ⟨hc, by omega, ?_⟩
  rintro l l2 p2 ⟨hm, -⟩
  obtain ⟨m4, mlen⟩ := msgs_len hm
  have x2 := mlen _ (getD_mem (xs := l) (i := 2) (by omega) (by omega))
  have x3 := mlen _ (getD_mem (xs := l) (i := 3) (by omega) (by omega))
  obtain ⟨e, n, u, t, rfl, he, hn, hu, ht⟩ := hm
  have g2 : List.getD [echoEnc e, noticeEnc n, udpEnc s d u, tcpEnc s d t] (Int.toNat 2) default = udpEnc s d u := rfl
  have g3 : List.getD [echoEnc e, noticeEnc n, udpEnc s d u, tcpEnc s d t] (Int.toNat 3) default = tcpEnc s d t := rfl
  rw [g2, g3]
  rw [g2] at x2
  rw [g3] at x3
  rw [unUDPErr_swap d s, unTCPErr_swap d s, unUDP_swap d s, unTCP_swap d s, pseudo_swap d s, (un_udp hu hd (by omega)).1, (un_tcp ht hd (by omega)).1]
  refine ⟨by omega, by simp, by omega, by omega, by simp, by omega, by omega, by simp, by omega, by omega, by simp, by omega, ?_⟩
  have hk : (data.length : Int) ≤ 1073741824 := by omega
  (repeat (intro (b_ : Bool) (hb_ : b_ = _); (repeat refine ⟨(by first | (simp; done) | (rw [hb_]; simp; done) | (rw [hb_]; simp; omega) | (rw [hb_]; simp; intros; omega) | (rw [hb_]; simp +contextual; done)), ?_⟩); subst hb_))
  simp [sameSeg]
theorem ok_law06_TransportSwaps : SpecOK Try.prog 5 ct_law06_TransportSwaps.spec := Ct.ok' _ Try.func5 (by kernel_rfl) (withSpec_ok (withSpec_ok (withSpec_ok (withSpec_ok (withSpec_ok (withSpec_ok (withSpec_ok (withSpec_ok (withSpec_ok noSpecs_ok ok_law06_awake) ok_draw_New) ok_draw_Codes_Address) ok_law06_messages) ok_transport_DecodeUDP) ok_transport_DecodeTCP) ok_ref06_SameDatagram) ok_ref06_SameSegment) ok_transport_Pseudo) hmix an_law06_TransportSwaps (Eq.mpr (by kernel_rfl) vc_law06_TransportSwaps)

def ct_law06_TransportDecodes : Ct := lawCt lpDecodes
def an_law06_TransportDecodes : PDs ct_law06_TransportDecodes.ps → Anns := (fun d => { loops := (fun n => match n with | 7 => some (fun S => { ι := Int × (List Int × Int), qn := ⟨fun k_ => ∀ (i : Int) (cs : (List Int × Int)), k_ (i, cs), fun k_ h_ i => h_ i.1 i.2, fun k_ => ∃ (i : Int) (cs : (List Int × Int)), k_ (i, cs), fun k_ ⟨i, cs, h_⟩ => ⟨_, h_⟩⟩, μ := fun i => (4 - i.1).toNat, inv := fun i => okC i.2 ∧ 0 ≤ i.1 ∧ i.1 ≤ 4, keep := [2, 7, 8, 9, 10], slots := fun i => [(11, .int .i64 i.1)], keepN := [688], names := fun i => [(544, .live (.cells 94 (flat cCodes i.2)))] }) | _ => none) })
theorem vc_law06_TransportDecodes :
    ∀ (x x_1 x_2 : List Int), (List.length x ≤ maxLen ∧ ∀ (x_3 : Int), x_3 ∈ x → (0 : Int) ≤ x_3 ∧ x_3 ≤ (255 : Int)) ∧ (List.length x_1 ≤ maxLen ∧ ∀ (x : Int), x ∈ x_1 → (0 : Int) ≤ x ∧ x ≤ (255 : Int))
     ∧ (List.length x_2 ≤ maxLen ∧ ∀ (x : Int), x ∈ x_2 → (0 : Int) ≤ x ∧ x ≤ (255 : Int)) ∧ True → True → ∀ (b : Bool), b = !true → ((!b) = true → ((!b) = true → (!b) = true) ∧ True) ∧ ((!b) = true →
     ((!b) = true → (!b) = true) ∧ True) ∧ (b = false → (!b) = true) ∧ ∀ (b_1 : Bool), (b_1 = bif b then true else decide ((1550 : Int) < (↑(List.length x_1) : Int))) → ((!b_1) = true → ((!b_1) = true →
     (!b_1) = true) ∧ True) ∧ ((!b_1) = true → ((!b_1) = true → (!b_1) = true) ∧ True) ∧ (b_1 = false → (!b_1) = true) ∧ ifP (bif b_1 then true else decide ((1600 : Int) < (↑(List.length x_2) : Int))) (∀
     (b : Bool), b = decide ((1550 : Int) < (↑(List.length x_1) : Int)) → ((!b) = true → ((!b) = true → (!b) = true) ∧ True) ∧ ((!b) = true → ((!b) = true → (!b) = true) ∧ True) ∧ (b = false → (!b) = true)
     ∧ (bif b then true else decide ((1600 : Int) < (↑(List.length x_2) : Int))) = true) ((0 : Int) ≤ (120 : Int) ∧ okC (if (↑(List.length x) : Int) ≤ (120 : Int) then x else List.take (Int.toNat (120 :
     Int)) x, (0 : Int)) ∧ ∀ (x : Int) (x_3 : List Int) (x_4 : Int), okC (x_3, x_4) ∧ (0 : Int) ≤ x ∧ x ≤ (4294967295 : Int) → okC (x_3, x_4) ∧ ∀ (x_5 : Int) (x_6 : List Int) (x_7 : Int), okC (x_6, x_7) ∧
     (0 : Int) ≤ x_5 ∧ x_5 ≤ (4294967295 : Int) → okC (x_6, x_7) ∧ (↑(List.length x_1) : Int) ≤ (2000 : Int) ∧ ∀ (x_8 : List (List Int)) (x_9 : List Int) (x_10 : Int), msgs x x_5 x_1 x_8 ∧ okC (x_9, x_10)
     → (∃ (i : Int), ∃ (cs : List Int × Int), (okC cs ∧ (0 : Int) ≤ i ∧ i ≤ (4 : Int)) ∧ x_2 = x_2 ∧ x = x ∧ x_5 = x_5 ∧ (0 : Int) = i ∧ x_8 = x_8 ∧ x_9 = cs.1 ∧ x_10 = cs.2 ∧ True) ∧ ∀ (i : Int) (cs :
     List Int × Int), okC cs ∧ (0 : Int) ≤ i ∧ i ≤ (4 : Int) → ifP (decide (i < (↑(List.length x_8) : Int))) ((0 : Int) ≤ i ∧ i < (↑(List.length x_8) : Int) ∧ (↑(List.length (List.getD x_8 (Int.toNat i)
     default)) : Int) ≤ (1000000 : Int) ∧ ∀ (b : Bool), b = !true → ((!b) = true → ((!b) = true → (!b) = true) ∧ ((!b) = true → (!b) = true) ∧ (0 : Int) ≤ i ∧ i < (↑(List.length x_8) : Int) ∧ True) ∧ ((!b)
     = true → ((!b) = true → (!b) = true) ∧ True) ∧ ifP (!b) (((!b) = true → (!b) = true) ∧ ((!b) = true → (!b) = true) ∧ okC cs ∧ (↑(List.length (List.getD x_8 (Int.toNat i) default)) : Int) ≤ (1000000 :
     Int) ∧ ∀ (x_11 x_12 : List Int) (x_13 : Int), (↑(List.length x_11) : Int) ≤ (↑(List.length (List.getD x_8 (Int.toNat i) default)) : Int) + (1 : Int) ∧ okC (x_12, x_13) → ((!b) = true → ((!b) = true →
     (!b) = true) ∧ ((!b) = true → (!b) = true) ∧ (↑(List.length x_11) : Int) ≤ (1000000 : Int) ∧ True) ∧ ((!b) = true → ((!b) = true → (!b) = true) ∧ True) ∧ (b = false → (!b) = true) ∧ ifP (bif b then
     true else !true) (false = true) (∃ (i_1 : Int), ∃ (cs : List Int × Int), (okC cs ∧ (0 : Int) ≤ i_1 ∧ i_1 ≤ (4 : Int)) ∧ Int.toNat ((4 : Int) - i_1) < Int.toNat ((4 : Int) - i) ∧ x_2 = x_2 ∧ x = x ∧
     x_5 = x_5 ∧ IntKind.wrap IntKind.i64 (i + (1 : Int)) = i_1 ∧ x_8 = x_8 ∧ x_12 = cs.1 ∧ x_13 = cs.2 ∧ True)) ((!b) = false ∧ (!b) = false ∧ (b = false → false = true) ∧ ifP (bif b then true else false)
     (false = true) (∃ (i_1 : Int), ∃ (cs_1 : List Int × Int), (okC cs_1 ∧ (0 : Int) ≤ i_1 ∧ i_1 ≤ (4 : Int)) ∧ Int.toNat ((4 : Int) - i_1) < Int.toNat ((4 : Int) - i) ∧ x_2 = x_2 ∧ x = x ∧ x_5 = x_5 ∧
     IntKind.wrap IntKind.i64 (i + (1 : Int)) = i_1 ∧ x_8 = x_8 ∧ cs.1 = cs_1.1 ∧ cs.2 = cs_1.2 ∧ True))) ((↑(List.length x_2) : Int) ≤ (1000000 : Int) ∧ true = true)) := by
  rintro cl data raw ⟨-, ⟨-, hd⟩, -⟩ -
  (repeat (intro (b_ : Bool) (hb_ : b_ = _); (repeat refine ⟨(by first | (simp; done) | (rw [hb_]; simp; done) | (rw [hb_]; simp; omega) | (rw [hb_]; simp; intros; omega) | (rw [hb_]; simp +contextual; done)), ?_⟩); subst hb_))
  refine ifP_split (fun h => ?_) (fun hl => ?_)
  · (repeat (intro (b_ : Bool) (hb_ : b_ = _); (repeat refine ⟨(by first | (simp; done) | (rw [hb_]; simp; done) | (rw [hb_]; simp; omega) | (rw [hb_]; simp; intros; omega) | (rw [hb_]; simp +contextual; done)), ?_⟩); subst hb_))
    simpa using h
  have hl : ¬ ((1550 : Int) < data.length ∨ (1600 : Int) < raw.length) := by simp [Bool.cond_eq_ite] at hl; omega
  refine ⟨by omega, okC_new2 cl, ?_⟩
  rintro s l1 p1 ⟨hc, -⟩
  refine ⟨hc, ?_⟩
  rintro d l1 p1 ⟨hc, -⟩
  refine ⟨hc, by omega, ?_⟩
  rintro l l2 p2 ⟨hm, hc⟩
  obtain ⟨m4, mlen⟩ := msgs_len hm
  refine ⟨⟨0, (l2, p2), ⟨hc, by omega, by omega⟩, (by repeat' first | exact trivial | refine ⟨(by with_reducible rfl), ?_⟩ | refine ⟨w64 (by omega) (by omega), ?_⟩ | refine ⟨rfl, ?_⟩)⟩, ?_⟩
  rintro i cs ⟨hc, i0, i4⟩
  refine ifP_split (fun hi => ?_) (fun hi => ⟨by omega, rfl⟩)
  have hi := of_decide_eq_true hi
  have x := mlen _ (getD_mem (xs := l) i0 hi)
  refine ⟨i0, hi, by omega, ?_⟩
  rintro b rfl
  refine ⟨by simp; omega, by simp, ifP_split (fun _ => ⟨by simp, by simp, hc, by omega, ?_⟩) (fun h => by simp at h)⟩
  rintro y l3 p3 ⟨hy, hc⟩
  refine ⟨by simp; omega, by simp, by simp, ifP_split (fun h => by simp at h) (fun _ => ?_)⟩
  exact ⟨i + 1, (l3, p3), ⟨hc, by omega, by omega⟩, by omega, (by repeat' first | exact trivial | refine ⟨(by with_reducible rfl), ?_⟩ | refine ⟨w64 (by omega) (by omega), ?_⟩ | refine ⟨rfl, ?_⟩)⟩
theorem ok_law06_TransportDecodes : SpecOK Try.prog 7 ct_law06_TransportDecodes.spec := Ct.ok' _ Try.func7 (by kernel_rfl) (withSpec_ok (withSpec_ok (withSpec_ok (withSpec_ok (withSpec_ok (withSpec_ok noSpecs_ok ok_law06_awake) ok_draw_New) ok_draw_Codes_Address) ok_law06_messages) ok_law06_decodes) ok_draw_Codes_Spoilt) hmix an_law06_TransportDecodes (Eq.mpr (by kernel_rfl) vc_law06_TransportDecodes)

def ct_law06_TransportDamage : Ct := lawCt lpDamage
def an_law06_TransportDamage : PDs ct_law06_TransportDamage.ps → Anns := (fun d => { loops := (fun n => match n with | 7 => some (fun S => { ι := Int, μ := fun i => (4 - i).toNat, inv := fun i => 0 ≤ i ∧ i ≤ 4, keep := [2, 3, 10, 11, 12], slots := fun i => [(13, .int .i64 i)], keepN := [736], names := fun i => [] }) | _ => none) })
theorem vc_law06_TransportDamage :
    ∀ (x x_1 : List Int) (x_2 x_3 : Int), (List.length x ≤ maxLen ∧ ∀ (x_4 : Int), x_4 ∈ x → (0 : Int) ≤ x_4 ∧ x_4 ≤ (255 : Int)) ∧ (List.length x_1 ≤ maxLen ∧ ∀ (x : Int), x ∈ x_1 → (0 : Int) ≤ x ∧ x ≤
     (255 : Int)) ∧ ((0 : Int) ≤ x_2 ∧ x_2 ≤ (65535 : Int)) ∧ ((0 : Int) ≤ x_3 ∧ x_3 ≤ (255 : Int)) ∧ True → True → ∀ (b : Bool), b = !true → ((!b) = true → ((!b) = true → (!b) = true) ∧ True) ∧ ((!b) =
     true → ((!b) = true → (!b) = true) ∧ True) ∧ (b = false → (!b) = true) ∧ ∀ (b_1 : Bool), (b_1 = bif b then true else decide ((1400 : Int) < (↑(List.length x_1) : Int))) → ((!b_1) = true → ((!b_1) =
     true → (!b_1) = true) ∧ True) ∧ (b_1 = false → (!b_1) = true) ∧ ifP (bif b_1 then true else decide (x_3 = (0 : Int))) (∀ (b : Bool), b = decide ((1400 : Int) < (↑(List.length x_1) : Int)) → ((!b) =
     true → ((!b) = true → (!b) = true) ∧ True) ∧ (b = false → (!b) = true) ∧ (bif b then true else decide (x_3 = (0 : Int))) = true) ((0 : Int) ≤ (120 : Int) ∧ okC (if (↑(List.length x) : Int) ≤ (120 :
     Int) then x else List.take (Int.toNat (120 : Int)) x, (0 : Int)) ∧ ∀ (x : Int) (x_4 : List Int) (x_5 : Int), okC (x_4, x_5) ∧ (0 : Int) ≤ x ∧ x ≤ (4294967295 : Int) → okC (x_4, x_5) ∧ ∀ (x_6 : Int)
     (x_7 : List Int) (x_8 : Int), okC (x_7, x_8) ∧ (0 : Int) ≤ x_6 ∧ x_6 ≤ (4294967295 : Int) → okC (x_7, x_8) ∧ (↑(List.length x_1) : Int) ≤ (2000 : Int) ∧ ∀ (x_9 : List (List Int)) (x_10 : List Int)
     (x_11 : Int), msgs x x_6 x_1 x_9 ∧ okC (x_10, x_11) → (∃ (x_12 : Int), ((0 : Int) ≤ x_12 ∧ x_12 ≤ (4 : Int)) ∧ x_2 = x_2 ∧ x_3 = x_3 ∧ x = x ∧ x_6 = x_6 ∧ (0 : Int) = x_12 ∧ x_9 = x_9 ∧ True) ∧ ∀
     (x_12 : Int), (0 : Int) ≤ x_12 ∧ x_12 ≤ (4 : Int) → ifP (decide (x_12 < (↑(List.length x_9) : Int))) ((0 : Int) ≤ x_12 ∧ x_12 < (↑(List.length x_9) : Int) ∧ List.length (List.getD x_9 (Int.toNat x_12)
     default) * (1 : Nat) ≤ (140737488355328 : Nat) ∧ (↑(List.length (List.getD x_9 (Int.toNat x_12) default)) : Int) ≠ (0 : Int) ∧ (0 : Int) ≤ Int.tmod (IntKind.wrap IntKind.i64 x_2) (↑(List.length
     (List.getD x_9 (Int.toNat x_12) default)) : Int) ∧ Int.tmod (IntKind.wrap IntKind.i64 x_2) (↑(List.length (List.getD x_9 (Int.toNat x_12) default)) : Int) < (↑(List.length (List.getD x_9 (Int.toNat
     x_12) default)) : Int) ∧ (0 : Int) ≤ Int.tmod (IntKind.wrap IntKind.i64 x_2) (↑(List.length (List.getD x_9 (Int.toNat x_12) default)) : Int) ∧ Int.tmod (IntKind.wrap IntKind.i64 x_2) (↑(List.length
     (List.getD x_9 (Int.toNat x_12) default)) : Int) < (↑(List.length (List.getD x_9 (Int.toNat x_12) default)) : Int) ∧ ifP (decide (x_12 = (0 : Int))) ((0 : Int) ≤ x_12 ∧ x_12 < (↑(List.length x_9) :
     Int) ∧ (↑(List.length (List.getD x_9 (Int.toNat x_12) default)) : Int) ≤ (1000000 : Int) ∧ (↑(List.length (List.set (List.getD x_9 (Int.toNat x_12) default) (Int.toNat (Int.tmod (IntKind.wrap
     IntKind.i64 x_2) (↑(List.length (List.getD x_9 (Int.toNat x_12) default)) : Int))) (bits BinOp.xor IntKind.u8 (List.getD (List.getD x_9 (Int.toNat x_12) default) (Int.toNat (Int.tmod (IntKind.wrap
     IntKind.i64 x_2) (↑(List.length (List.getD x_9 (Int.toNat x_12) default)) : Int))) default) x_3))) : Int) ≤ (1000000 : Int) ∧ ∀ (b : Bool), b = !decide (unEchoErr (List.getD x_9 (Int.toNat x_12)
     default) = (0 : Int)) → ((!b) = true → ((!b) = true → (!b) = true) ∧ True) ∧ (b = false → (!b) = true) ∧ ifP (bif b then true else decide (unEchoErr (List.set (List.getD x_9 (Int.toNat x_12) default)
     (Int.toNat (Int.tmod (IntKind.wrap IntKind.i64 x_2) (↑(List.length (List.getD x_9 (Int.toNat x_12) default)) : Int))) (bits BinOp.xor IntKind.u8 (List.getD (List.getD x_9 (Int.toNat x_12) default)
     (Int.toNat (Int.tmod (IntKind.wrap IntKind.i64 x_2) (↑(List.length (List.getD x_9 (Int.toNat x_12) default)) : Int))) default) x_3)) = (0 : Int))) (false = true) (∃ (x_13 : Int), ((0 : Int) ≤ x_13 ∧
     x_13 ≤ (4 : Int)) ∧ Int.toNat ((4 : Int) - x_13) < Int.toNat ((4 : Int) - x_12) ∧ x_2 = x_2 ∧ x_3 = x_3 ∧ x = x ∧ x_6 = x_6 ∧ IntKind.wrap IntKind.i64 (x_12 + (1 : Int)) = x_13 ∧ x_9 = x_9 ∧ True))
     (ifP (decide (x_12 = (1 : Int))) ((0 : Int) ≤ x_12 ∧ x_12 < (↑(List.length x_9) : Int) ∧ (↑(List.length (List.getD x_9 (Int.toNat x_12) default)) : Int) ≤ (1000000 : Int) ∧ (↑(List.length (List.set
     (List.getD x_9 (Int.toNat x_12) default) (Int.toNat (Int.tmod (IntKind.wrap IntKind.i64 x_2) (↑(List.length (List.getD x_9 (Int.toNat x_12) default)) : Int))) (bits BinOp.xor IntKind.u8 (List.getD
     (List.getD x_9 (Int.toNat x_12) default) (Int.toNat (Int.tmod (IntKind.wrap IntKind.i64 x_2) (↑(List.length (List.getD x_9 (Int.toNat x_12) default)) : Int))) default) x_3))) : Int) ≤ (1000000 : Int)
     ∧ ∀ (b : Bool), b = !decide (unNoticeErr (List.getD x_9 (Int.toNat x_12) default) = (0 : Int)) → ((!b) = true → ((!b) = true → (!b) = true) ∧ True) ∧ (b = false → (!b) = true) ∧ ifP (bif b then true
     else decide (unNoticeErr (List.set (List.getD x_9 (Int.toNat x_12) default) (Int.toNat (Int.tmod (IntKind.wrap IntKind.i64 x_2) (↑(List.length (List.getD x_9 (Int.toNat x_12) default)) : Int))) (bits
     BinOp.xor IntKind.u8 (List.getD (List.getD x_9 (Int.toNat x_12) default) (Int.toNat (Int.tmod (IntKind.wrap IntKind.i64 x_2) (↑(List.length (List.getD x_9 (Int.toNat x_12) default)) : Int))) default)
     x_3)) = (0 : Int))) (false = true) (∃ (x_13 : Int), ((0 : Int) ≤ x_13 ∧ x_13 ≤ (4 : Int)) ∧ Int.toNat ((4 : Int) - x_13) < Int.toNat ((4 : Int) - x_12) ∧ x_2 = x_2 ∧ x_3 = x_3 ∧ x = x ∧ x_6 = x_6 ∧
     IntKind.wrap IntKind.i64 (x_12 + (1 : Int)) = x_13 ∧ x_9 = x_9 ∧ True)) (ifP (decide (x_12 = (2 : Int))) ((0 : Int) ≤ x_12 ∧ x_12 < (↑(List.length x_9) : Int) ∧ (↑(List.length (List.getD x_9
     (Int.toNat x_12) default)) : Int) ≤ (1000000 : Int) ∧ (↑(List.length (List.set (List.getD x_9 (Int.toNat x_12) default) (Int.toNat (Int.tmod (IntKind.wrap IntKind.i64 x_2) (↑(List.length (List.getD
     x_9 (Int.toNat x_12) default)) : Int))) (bits BinOp.xor IntKind.u8 (List.getD (List.getD x_9 (Int.toNat x_12) default) (Int.toNat (Int.tmod (IntKind.wrap IntKind.i64 x_2) (↑(List.length (List.getD x_9
     (Int.toNat x_12) default)) : Int))) default) x_3))) : Int) ≤ (1000000 : Int) ∧ ∀ (b : Bool), b = !decide (unUDPErr x x_6 (List.getD x_9 (Int.toNat x_12) default) = (0 : Int)) → ((!b) = true → ((!b) =
     true → (!b) = true) ∧ True) ∧ (b = false → (!b) = true) ∧ ifP (bif b then true else decide (unUDPErr x x_6 (List.set (List.getD x_9 (Int.toNat x_12) default) (Int.toNat (Int.tmod (IntKind.wrap
     IntKind.i64 x_2) (↑(List.length (List.getD x_9 (Int.toNat x_12) default)) : Int))) (bits BinOp.xor IntKind.u8 (List.getD (List.getD x_9 (Int.toNat x_12) default) (Int.toNat (Int.tmod (IntKind.wrap
     IntKind.i64 x_2) (↑(List.length (List.getD x_9 (Int.toNat x_12) default)) : Int))) default) x_3)) = (0 : Int))) (false = true) (∃ (x_13 : Int), ((0 : Int) ≤ x_13 ∧ x_13 ≤ (4 : Int)) ∧ Int.toNat ((4 :
     Int) - x_13) < Int.toNat ((4 : Int) - x_12) ∧ x_2 = x_2 ∧ x_3 = x_3 ∧ x = x ∧ x_6 = x_6 ∧ IntKind.wrap IntKind.i64 (x_12 + (1 : Int)) = x_13 ∧ x_9 = x_9 ∧ True)) ((0 : Int) ≤ x_12 ∧ x_12 <
     (↑(List.length x_9) : Int) ∧ (↑(List.length (List.getD x_9 (Int.toNat x_12) default)) : Int) ≤ (1000000 : Int) ∧ (↑(List.length (List.set (List.getD x_9 (Int.toNat x_12) default) (Int.toNat (Int.tmod
     (IntKind.wrap IntKind.i64 x_2) (↑(List.length (List.getD x_9 (Int.toNat x_12) default)) : Int))) (bits BinOp.xor IntKind.u8 (List.getD (List.getD x_9 (Int.toNat x_12) default) (Int.toNat (Int.tmod
     (IntKind.wrap IntKind.i64 x_2) (↑(List.length (List.getD x_9 (Int.toNat x_12) default)) : Int))) default) x_3))) : Int) ≤ (1000000 : Int) ∧ ∀ (b : Bool), b = !decide (unTCPErr x x_6 (List.getD x_9
     (Int.toNat x_12) default) = (0 : Int)) → ((!b) = true → ((!b) = true → (!b) = true) ∧ True) ∧ (b = false → (!b) = true) ∧ ifP (bif b then true else decide (unTCPErr x x_6 (List.set (List.getD x_9
     (Int.toNat x_12) default) (Int.toNat (Int.tmod (IntKind.wrap IntKind.i64 x_2) (↑(List.length (List.getD x_9 (Int.toNat x_12) default)) : Int))) (bits BinOp.xor IntKind.u8 (List.getD (List.getD x_9
     (Int.toNat x_12) default) (Int.toNat (Int.tmod (IntKind.wrap IntKind.i64 x_2) (↑(List.length (List.getD x_9 (Int.toNat x_12) default)) : Int))) default) x_3)) = (0 : Int))) (false = true) (∃ (x_13 :
     Int), ((0 : Int) ≤ x_13 ∧ x_13 ≤ (4 : Int)) ∧ Int.toNat ((4 : Int) - x_13) < Int.toNat ((4 : Int) - x_12) ∧ x_2 = x_2 ∧ x_3 = x_3 ∧ x = x ∧ x_6 = x_6 ∧ IntKind.wrap IntKind.i64 (x_12 + (1 : Int)) =
     x_13 ∧ x_9 = x_9 ∧ True))))) (true = true)) := by
  rintro cl data at' by' ⟨-, ⟨-, hd⟩, ⟨at0, at1⟩, ⟨by0, by1⟩, -⟩ -
  rintro b rfl
  refine ⟨by simp, by simp, by simp, ?_⟩
  rintro b rfl
  refine ⟨by simp, by simp, ?_⟩
  refine ifP_split (fun h => ?_) (fun hl => ?_)
  · (repeat (intro (b_ : Bool) (hb_ : b_ = _); (repeat refine ⟨(by first | (simp; done) | (rw [hb_]; simp; done) | (rw [hb_]; simp; omega) | (rw [hb_]; simp; intros; omega) | (rw [hb_]; simp +contextual; done)), ?_⟩); subst hb_))
    simpa using h
  have hl : ¬ ((1400 : Int) < data.length ∨ by' = 0) := by simp [Bool.cond_eq_ite] at hl; omega
  refine ⟨by omega, okC_new2 cl, ?_⟩
  rintro s l1 p1 ⟨hc, -⟩
  refine ⟨hc, ?_⟩
  rintro d l1 p1 ⟨hc, -⟩
  refine ⟨hc, by omega, ?_⟩
  rintro l l2 p2 ⟨hm, -⟩
  obtain ⟨m4, mlen⟩ := msgs_len hm
  refine ⟨⟨0, by omega, (by repeat' first | exact trivial | refine ⟨(by with_reducible rfl), ?_⟩ | refine ⟨w64 (by omega) (by omega), ?_⟩ | refine ⟨rfl, ?_⟩)⟩, ?_⟩
  rintro i ⟨i0, i4⟩
  refine ifP_split (fun hi => ?_) (fun hi => rfl)
  have hi := of_decide_eq_true hi
  have hx := mlen _ (getD_mem (xs := l) i0 hi)
  obtain ⟨e, n, u, t, rfl, he, hn, hu, ht⟩ := hm
  have dl : (data.length : Int) ≤ 1400 := by omega
  have bn : bytes n.2.2 := by
    rw [hn.2]; refine bytes_app (fun x hx => ?_) hd
    have := List.eq_of_mem_replicate hx; omega
  have facts : ∀ m, m = List.getD [echoEnc e, noticeEnc n, udpEnc s d u, tcpEnc s d t] i.toNat default → bytes m ∧ (i = 0 → unEchoErr m = 0) ∧ (i = 1 → unNoticeErr m = 0) ∧ (i = 2 → unUDPErr s d m = 0) ∧ (i = 3 → unTCPErr s d m = 0) := by
    rintro m hm
    simp only [List.length_cons, List.length_nil] at hi
    have : i = 0 ∨ i = 1 ∨ i = 2 ∨ i = 3 := by omega
    rcases this with rfl | rfl | rfl | rfl
    · have hm : m = echoEnc e := hm
      subst hm
      refine ⟨?_, fun _ => (un_echo he hd (by omega)).1, by omega, by omega, by omega⟩
      rw [echoEnc, if_pos (echo_good he (by omega))]; exact bytes_setW (echo_bytes (by rw [he.2]; exact hd))
    · have hm : m = noticeEnc n := hm
      subst hm
      refine ⟨?_, by omega, fun _ => (un_notice hn hd (by omega)).1, by omega, by omega⟩
      rw [noticeEnc, if_pos (notice_good hn (by omega))]; exact bytes_setW (notice_bytes hn.1 bn)
    · have hm : m = udpEnc s d u := hm
      subst hm
      refine ⟨?_, by omega, by omega, fun _ => (un_udp hu hd (by omega)).1, by omega⟩
      rw [udpEnc, if_pos (udp_good hu (by omega))]; exact bytes_setW (udp_bytes (by rw [hu.2]; exact hd))
    · have hm : m = tcpEnc s d t := hm
      subst hm
      refine ⟨?_, by omega, by omega, by omega, fun _ => (un_tcp ht hd (by omega)).1⟩
      rw [tcpEnc, if_pos (tcp_good ht (by omega))]; exact bytes_setW (tcp_bytes ht.1 (by rw [ht.2]; exact hd))
  have facts := facts _ rfl
  generalize hm : List.getD [echoEnc e, noticeEnc n, udpEnc s d u, tcpEnc s d t] i.toNat default = m at *
  obtain ⟨mb, f0, f1, f2, f3⟩ := facts
  have m8 : 8 ≤ m.length := by
    simp only [List.length_cons, List.length_nil] at hi
    have : i = 0 ∨ i = 1 ∨ i = 2 ∨ i = 3 := by omega
    rcases this with h | h | h | h
    · exact (echo_zero (f0 h)).1
    · exact (notice_zero (f1 h)).1
    · exact (udp_zero (f2 h)).1
    · have := (tcp_zero (f3 h)).1; omega
  rw [w64 (n := at') (by omega) (by omega)]
  have j0 := tmod_lo (a := at') (b := (m.length : Int)) at0
  have j1 := tmod_hi (a := at') (b := (m.length : Int)) at0 (by omega)
  generalize Int.tmod at' (m.length : Int) = j at j0 j1
  have hj := mb _ (getD_mem j0 j1)
  have hv := xor_ne hj.1 hj.2 (b := by') (by omega) by1
  generalize bits .xor .u8 (m.getD j.toNat default) by' = v at hv
  have hjn : j.toNat < m.length := by omega
  refine ⟨i0, hi, by omega, by omega, j0, j1, j0, j1, ?_⟩
  rw [List.length_set]
  simp only [List.length_cons, List.length_nil] at hi
  refine ifP_split (fun h => ?_) (fun n0 => ifP_split (fun h => ?_) (fun n1 => ifP_split (fun h => ?_) (fun n2 => ?_)))
  · have h := f0 (of_decide_eq_true h)
    have h2 := dmg_echo mb hjn hv.2.1 hv.2.2 hv.1 h
    refine ⟨i0, by simp only [List.length_cons, List.length_nil]; omega, by omega, by omega, ?_⟩
    rw [h, decide_eq_false h2]
    (repeat (intro (b_ : Bool) (hb_ : b_ = _); (repeat refine ⟨(by first | (simp; done) | (rw [hb_]; simp; done) | (rw [hb_]; simp; omega) | (rw [hb_]; simp; intros; omega) | (rw [hb_]; simp +contextual; done)), ?_⟩); subst hb_))
    exact ifP_split (fun k => by simp at k) (fun _ => ⟨i + 1, by omega, by omega, (by repeat' first | exact trivial | refine ⟨(by with_reducible rfl), ?_⟩ | refine ⟨w64 (by omega) (by omega), ?_⟩ | refine ⟨rfl, ?_⟩)⟩)
  · have h := f1 (of_decide_eq_true h)
    have h2 := dmg_notice mb hjn hv.2.1 hv.2.2 hv.1 h
    refine ⟨i0, by simp only [List.length_cons, List.length_nil]; omega, by omega, by omega, ?_⟩
    rw [h, decide_eq_false h2]
    (repeat (intro (b_ : Bool) (hb_ : b_ = _); (repeat refine ⟨(by first | (simp; done) | (rw [hb_]; simp; done) | (rw [hb_]; simp; omega) | (rw [hb_]; simp; intros; omega) | (rw [hb_]; simp +contextual; done)), ?_⟩); subst hb_))
    exact ifP_split (fun k => by simp at k) (fun _ => ⟨i + 1, by omega, by omega, (by repeat' first | exact trivial | refine ⟨(by with_reducible rfl), ?_⟩ | refine ⟨w64 (by omega) (by omega), ?_⟩ | refine ⟨rfl, ?_⟩)⟩)
  · have h := f2 (of_decide_eq_true h)
    have h2 := dmg_udp (s := s) (d := d) mb hjn hv.2.1 hv.2.2 hv.1 h
    refine ⟨i0, by simp only [List.length_cons, List.length_nil]; omega, by omega, by omega, ?_⟩
    rw [h, decide_eq_false h2]
    (repeat (intro (b_ : Bool) (hb_ : b_ = _); (repeat refine ⟨(by first | (simp; done) | (rw [hb_]; simp; done) | (rw [hb_]; simp; omega) | (rw [hb_]; simp; intros; omega) | (rw [hb_]; simp +contextual; done)), ?_⟩); subst hb_))
    exact ifP_split (fun k => by simp at k) (fun _ => ⟨i + 1, by omega, by omega, (by repeat' first | exact trivial | refine ⟨(by with_reducible rfl), ?_⟩ | refine ⟨w64 (by omega) (by omega), ?_⟩ | refine ⟨rfl, ?_⟩)⟩)
  · have n0 := of_decide_eq_false n0
    have n1 := of_decide_eq_false n1
    have n2 := of_decide_eq_false n2
    have h := f3 (by omega)
    have h2 := dmg_tcp (s := s) (d := d) mb hjn hv.2.1 hv.2.2 hv.1 h
    refine ⟨i0, by simp only [List.length_cons, List.length_nil]; omega, by omega, by omega, ?_⟩
    rw [h, decide_eq_false h2]
    (repeat (intro (b_ : Bool) (hb_ : b_ = _); (repeat refine ⟨(by first | (simp; done) | (rw [hb_]; simp; done) | (rw [hb_]; simp; omega) | (rw [hb_]; simp; intros; omega) | (rw [hb_]; simp +contextual; done)), ?_⟩); subst hb_))
    exact ifP_split (fun k => by simp at k) (fun _ => ⟨i + 1, by omega, by omega, (by repeat' first | exact trivial | refine ⟨(by with_reducible rfl), ?_⟩ | refine ⟨w64 (by omega) (by omega), ?_⟩ | refine ⟨rfl, ?_⟩)⟩)
theorem ok_law06_TransportDamage : SpecOK Try.prog 8 ct_law06_TransportDamage.spec := Ct.ok' _ Try.func8 (by kernel_rfl) (withSpec_ok (withSpec_ok (withSpec_ok (withSpec_ok (withSpec_ok (withSpec_ok (withSpec_ok (withSpec_ok noSpecs_ok ok_law06_awake) ok_draw_New) ok_draw_Codes_Address) ok_law06_messages) ok_transport_DecodeEcho) ok_transport_DecodeNotice) ok_transport_DecodeUDP) ok_transport_DecodeTCP) hmix an_law06_TransportDamage (Eq.mpr (by kernel_rfl) vc_law06_TransportDamage)

def ct_law06_TransportBack : Ct := lawCt lpSwaps
def an_law06_TransportBack : PDs ct_law06_TransportBack.ps → Anns := (fun _ => {})
theorem vc_law06_TransportBack :
    ∀ (x x_1 : List Int), (List.length x ≤ maxLen ∧ ∀ (x_2 : Int), x_2 ∈ x → (0 : Int) ≤ x_2 ∧ x_2 ≤ (255 : Int)) ∧ (List.length x_1 ≤ maxLen ∧ ∀ (x : Int), x ∈ x_1 → (0 : Int) ≤ x ∧ x ≤ (255 : Int)) ∧
     True → True → ∀ (b : Bool), b = !true → ((!b) = true → ((!b) = true → (!b) = true) ∧ True) ∧ ((!b) = true → ((!b) = true → (!b) = true) ∧ True) ∧ (b = false → (!b) = true) ∧ ifP (bif b then true else
     decide ((1400 : Int) < (↑(List.length x_1) : Int))) (decide ((1400 : Int) < (↑(List.length x_1) : Int)) = true) ((0 : Int) ≤ (120 : Int) ∧ okC (if (↑(List.length x) : Int) ≤ (120 : Int) then x else
     List.take (Int.toNat (120 : Int)) x, (0 : Int)) ∧ ∀ (x : Int) (x_2 : List Int) (x_3 : Int), okC (x_2, x_3) ∧ (0 : Int) ≤ x ∧ x ≤ (4294967295 : Int) → okC (x_2, x_3) ∧ ∀ (x_4 : Int) (x_5 : List Int)
     (x_6 : Int), okC (x_5, x_6) ∧ (0 : Int) ≤ x_4 ∧ x_4 ≤ (4294967295 : Int) → okC (x_5, x_6) ∧ ∀ (x_7 : Int) (x_8 : List Int) (x_9 : Int), (0 : Int) ≤ x_7 ∧ (x_7 < (2 : Int) ∨ x_7 = (0 : Int)) ∧ okC
     (x_8, x_9) → okC (x_8, x_9) ∧ ∀ (x_10 : Int) (x_11 : List Int) (x_12 : Int), (0 : Int) ≤ x_10 ∧ (x_10 < (65536 : Int) ∨ x_10 = (0 : Int)) ∧ okC (x_11, x_12) → okC (x_11, x_12) ∧ ∀ (x_13 : Int) (x_14 :
     List Int) (x_15 : Int), (0 : Int) ≤ x_13 ∧ (x_13 < (65536 : Int) ∨ x_13 = (0 : Int)) ∧ okC (x_14, x_15) → okC (x_14, x_15) ∧ ∀ (x_16 : Int) (x_17 : List Int) (x_18 : Int), (0 : Int) ≤ x_16 ∧ (x_16 <
     (2 : Int) ∨ x_16 = (0 : Int)) ∧ okC (x_17, x_18) → (0 : Int) ≤ x_16 ∧ x_16 < (↑(List.length [(3 : Int), (11 : Int)]) : Int) ∧ okC (x_17, x_18) ∧ ∀ (x_19 : Int) (x_20 : List Int) (x_21 : Int), (0 :
     Int) ≤ x_19 ∧ (x_19 < (256 : Int) ∨ x_19 = (0 : Int)) ∧ okC (x_20, x_21) → (0 : Int) ≤ (28 : Int) ∧ (28 : Int) ≤ (28 : Int) ∧ (↑(1 : Nat) : Int) * (28 : Int) ≤ (281474976710656 : Int) ∧ (List.length
     (List.replicate (Int.toNat (28 : Int)) (0 : Int)) + List.length x_1) * (1 : Nat) ≤ (140737488355328 : Nat) ∧ okC (x_20, x_21) ∧ ∀ (x_22 : Int) (x_23 : List Int) (x_24 : Int), (0 : Int) ≤ x_22 ∧ (x_22
     < (65536 : Int) ∨ x_22 = (0 : Int)) ∧ okC (x_23, x_24) → okC (x_23, x_24) ∧ ∀ (x_25 : Int) (x_26 : List Int) (x_27 : Int), (0 : Int) ≤ x_25 ∧ (x_25 < (65536 : Int) ∨ x_25 = (0 : Int)) ∧ okC (x_26,
     x_27) → okC (x_26, x_27) ∧ ∀ (x_28 : Int) (x_29 : List Int) (x_30 : Int), (0 : Int) ≤ x_28 ∧ (x_28 < (65536 : Int) ∨ x_28 = (0 : Int)) ∧ okC (x_29, x_30) → okC (x_29, x_30) ∧ ∀ (x_31 : Int) (x_32 :
     List Int) (x_33 : Int), (0 : Int) ≤ x_31 ∧ (x_31 < (65536 : Int) ∨ x_31 = (0 : Int)) ∧ okC (x_32, x_33) → okC (x_32, x_33) ∧ ∀ (x_34 : Int) (x_35 : List Int) (x_36 : Int), (0 : Int) ≤ x_34 ∧ (x_34 <
     (65536 : Int) ∨ x_34 = (0 : Int)) ∧ okC (x_35, x_36) → (0 : Int) ≤ (16 : Int) ∧ okC (x_35, x_36) ∧ ∀ (x_37 : Int) (x_38 : List Int) (x_39 : Int), (0 : Int) ≤ x_37 ∧ (x_37 < (256 : Int) ∨ x_37 = (0 :
     Int)) ∧ okC (x_38, x_39) → okC (x_38, x_39) ∧ ∀ (x_40 : Int) (x_41 : List Int) (x_42 : Int), (0 : Int) ≤ x_40 ∧ (x_40 < (65536 : Int) ∨ x_40 = (0 : Int)) ∧ okC (x_41, x_42) → (↑(List.length x_1) :
     Int) ≤ (1073741824 : Int) ∧ (↑(List.length (List.replicate (Int.toNat (28 : Int)) (0 : Int) ++ x_1)) : Int) ≤ (1073741824 : Int) ∧ (↑(List.length x_1) : Int) ≤ (1073741824 : Int) ∧ (↑(List.length x_1)
     : Int) ≤ (1000000 : Int) ∧ (↑(List.length (echoEnc (decide (x_7 = (1 : Int)), x_10, x_13, x_1))) : Int) ≤ (1000000 : Int) ∧ (↑(List.length (noticeEnc (List.getD [(3 : Int), (11 : Int)] (Int.toNat
     x_16) default, x_19, List.replicate (Int.toNat (28 : Int)) (0 : Int) ++ x_1))) : Int) ≤ (1000000 : Int) ∧ (↑(List.length (udpEnc x x_4 (x_22, x_25, x_1))) : Int) ≤ (1000000 : Int) ∧ (↑(List.length
     (tcpEnc x x_4 (x_28, x_31, shlI IntKind.i64 x_34 (16 : Int), (4294967295 : Int), x_37, x_40, x_1))) : Int) ≤ (1000000 : Int) ∧ ∀ (b : Bool), b = decide (echoErr (decide (x_7 = (1 : Int)), x_10, x_13,
     x_1) = (0 : Int)) → (b = true → (b = true → b = true) ∧ True) ∧ (b = true → b = true) ∧ ∀ (b_1 : Bool), (b_1 = bif b then decide (noticeErr (List.getD [(3 : Int), (11 : Int)] (Int.toNat x_16) default,
     x_19, List.replicate (Int.toNat (28 : Int)) (0 : Int) ++ x_1) = (0 : Int)) else false) → (b_1 = true → (b_1 = true → b_1 = true) ∧ True) ∧ (b_1 = true → b_1 = true) ∧ ∀ (b : Bool), (b = bif b_1 then
     decide (udpErr (x_22, x_25, x_1) = (0 : Int)) else false) → (b = true → (b = true → b = true) ∧ True) ∧ (b = true → b = true) ∧ ∀ (b_2 : Bool), (b_2 = bif b then decide (tcpErr (x_28, x_31, shlI
     IntKind.i64 x_34 (16 : Int), (4294967295 : Int), x_37, x_40, x_1) = (0 : Int)) else false) → (b_2 = true → (b_2 = true → b_2 = true) ∧ True) ∧ (b_2 = true → b_2 = true) ∧ ∀ (b : Bool), (b = bif b_2
     then decide (unEchoErr (echoEnc (decide (x_7 = (1 : Int)), x_10, x_13, x_1)) = (0 : Int)) else false) → (b = true → (b = true → b = true) ∧ True) ∧ (b = true → b = true) ∧ ∀ (b_3 : Bool), (b_3 = bif b
     then decide (unNoticeErr (noticeEnc (List.getD [(3 : Int), (11 : Int)] (Int.toNat x_16) default, x_19, List.replicate (Int.toNat (28 : Int)) (0 : Int) ++ x_1)) = (0 : Int)) else false) → (b_3 = true →
     (b_3 = true → b_3 = true) ∧ True) ∧ (b_3 = true → b_3 = true) ∧ ∀ (b : Bool), (b = bif b_3 then decide (unUDPErr x x_4 (udpEnc x x_4 (x_22, x_25, x_1)) = (0 : Int)) else false) → (b = true → (b = true
     → b = true) ∧ True) ∧ (b = true → b = true) ∧ ∀ (b_4 : Bool), (b_4 = bif b then decide (unTCPErr x x_4 (tcpEnc x x_4 (x_28, x_31, shlI IntKind.i64 x_34 (16 : Int), (4294967295 : Int), x_37, x_40,
     x_1)) = (0 : Int)) else false) → (b_4 = true → (b_4 = true → b_4 = true) ∧ (b_4 = true → b_4 = true) ∧ True) ∧ (b_4 = true → b_4 = true) ∧ ∀ (b : Bool), (b = bif b_4 then decide ((decide (x_7 = (1 :
     Int)), x_10, x_13, x_1) = unEcho (echoEnc (decide (x_7 = (1 : Int)), x_10, x_13, x_1))) else false) → (b = true → (b = true → b = true) ∧ (b = true → b = true) ∧ True) ∧ (b = true → b = true) ∧ ∀ (b_5
     : Bool), (b_5 = bif b then decide ((List.getD [(3 : Int), (11 : Int)] (Int.toNat x_16) default, x_19, List.replicate (Int.toNat (28 : Int)) (0 : Int) ++ x_1) = unNotice (noticeEnc (List.getD [(3 :
     Int), (11 : Int)] (Int.toNat x_16) default, x_19, List.replicate (Int.toNat (28 : Int)) (0 : Int) ++ x_1))) else false) → (b_5 = true → (b_5 = true → b_5 = true) ∧ (b_5 = true → b_5 = true) ∧ True) ∧
     (b_5 = true → b_5 = true) ∧ ∀ (b : Bool), (b = bif b_5 then decide ((x_22, x_25, x_1) = unUDP x x_4 (udpEnc x x_4 (x_22, x_25, x_1))) else false) → (b = true → (b = true → b = true) ∧ (b = true → b =
     true) ∧ True) ∧ (b = true → b = true) ∧ (bif b then sameSeg (x_28, x_31, shlI IntKind.i64 x_34 (16 : Int), (4294967295 : Int), x_37, x_40, x_1) (unTCP x x_4 (tcpEnc x x_4 (x_28, x_31, shlI IntKind.i64
     x_34 (16 : Int), (4294967295 : Int), x_37, x_40, x_1))) else false) = true) := by
  rintro cl data ⟨-, ⟨-, hd⟩, -⟩ -
  (repeat (intro (b_ : Bool) (hb_ : b_ = _); (repeat refine ⟨(by first | (simp; done) | (rw [hb_]; simp; done) | (rw [hb_]; simp; omega) | (rw [hb_]; simp; intros; omega) | (rw [hb_]; simp +contextual; done)), ?_⟩); subst hb_))
  refine ifP_split (fun h => ?_) (fun hl => ?_)
  · simpa using h
  have hl : ¬ (1400 : Int) < data.length := by simpa using hl
  refine ⟨by omega, okC_new2 cl, ?_⟩
  rintro s _ _ ⟨hc, -⟩
  refine ⟨hc, ?_⟩
  rintro d _ _ ⟨hc, -⟩
  refine ⟨hc, ?_⟩
  rintro r _ _ ⟨-, -, hc⟩
  refine ⟨hc, ?_⟩
  rintro i _ _ ⟨i0, i1, hc⟩
  refine ⟨hc, ?_⟩
  rintro q _ _ ⟨q0, q1, hc⟩
  refine ⟨hc, ?_⟩
  rintro t _ _ ⟨t0, t1, hc⟩
  refine ⟨t0, by simp only [List.length_cons, List.length_nil]; omega, hc, ?_⟩
  have ht : ([3, 11] : List Int).getD t.toNat default = 3 ∨ ([3, 11] : List Int).getD t.toNat default = 11 :=
    getD_all (p := fun v => v = 3 ∨ v = 11) (by simp) t0 (by simp only [List.length_cons, List.length_nil]; omega)
  generalize ([3, 11] : List Int).getD t.toNat default = ty at ht ⊢
  rintro k _ _ ⟨k0, k1, hc⟩
  have hl28 : (List.replicate (Int.toNat 28) (0 : Int) ++ data).length = 28 + data.length := by
    rw [List.length_append, List.length_replicate]; rfl
  refine ⟨by omega, by omega, by omega, by rw [List.length_replicate]; show (28 + data.length) * 1 ≤ _; omega, hc, ?_⟩
  rintro sp _ _ ⟨sp0, sp1, hc⟩
  refine ⟨hc, ?_⟩
  rintro dp _ _ ⟨dp0, dp1, hc⟩
  refine ⟨hc, ?_⟩
  rintro x1 _ _ ⟨u1, v1, hc⟩
  refine ⟨hc, ?_⟩
  rintro x2 _ _ ⟨u2, v2, hc⟩
  refine ⟨hc, ?_⟩
  rintro x3 _ _ ⟨u3, v3, hc⟩
  refine ⟨by omega, hc, ?_⟩
  rintro x5 _ _ ⟨u5, v5, hc⟩
  refine ⟨hc, ?_⟩
  rintro x6 _ _ ⟨u6, v6, hc⟩
  have hsh : shlI .i64 x3 16 = x3 * 65536 := by
    show IntKind.i64.wrap (x3 * 2 ^ (min 16 64)) = _
    rw [w64 (by simp; omega) (by simp; omega)]; rfl
  rw [hsh]
  have he : okEcho data (decide (r = 1), i, q, data) := by
    refine ⟨⟨(word16_iff _).2 ⟨i0, ?_⟩, (word16_iff _).2 ⟨q0, ?_⟩⟩, rfl⟩ <;> simp only <;> omega
  have hn : okNotice data (ty, k, List.replicate (Int.toNat 28) 0 ++ data) := by
    refine ⟨⟨ht, k0, ?_⟩, rfl⟩; simp only; omega
  have hu : okDgram data (sp, dp, data) := by
    refine ⟨⟨(word16_iff _).2 ⟨sp0, ?_⟩, (word16_iff _).2 ⟨dp0, ?_⟩⟩, rfl⟩ <;> simp only <;> omega
  have hs : okSeg data (x1, x2, x3 * 65536, 4294967295, x5, x6, data) := by
    refine ⟨⟨(word16_iff _).2 ⟨u1, ?_⟩, (word16_iff _).2 ⟨u2, ?_⟩, ⟨?_, ?_⟩, ⟨?_, ?_⟩, ⟨u5, ?_⟩, (word16_iff _).2 ⟨u6, ?_⟩⟩, rfl⟩ <;> simp only <;> omega
  have e1 := echo_good he (by omega)
  have e2 := notice_good hn (by omega)
  have e3 := udp_good hu (by omega)
  have e4 := tcp_good hs (by omega)
  obtain ⟨f1, g1⟩ := un_echo he hd (by omega)
  obtain ⟨f2, g2⟩ := un_notice hn hd (by omega)
  obtain ⟨f3, g3⟩ := un_udp (s := s) (d := d) hu hd (by omega)
  obtain ⟨f4, g4⟩ := un_tcp (s := s) (d := d) hs hd (by omega)
  have l1 := enc_len (decide (r = 1), i, q, data)
  have l2 := notice_enc_len (ty, k, List.replicate (Int.toNat 28) 0 ++ data)
  have l3 := udp_enc_len s d (sp, dp, data)
  have l4 := tcp_enc_len s d (x1, x2, x3 * 65536, 4294967295, x5, x6, data)
  rw [e1, e2, e3, e4, f1, f2, f3, f4, g1, g2, g3, g4]
  refine ⟨by omega, by rw [hl28]; omega, by omega, by omega, by omega, by omega, by omega, by omega, ?_⟩
  (repeat (intro (b_ : Bool) (hb_ : b_ = _); (repeat refine ⟨(by first | (simp; done) | (rw [hb_]; simp; done) | (rw [hb_]; simp; omega) | (rw [hb_]; simp; intros; omega) | (rw [hb_]; simp +contextual; done)), ?_⟩); subst hb_))
  simp [sameSeg]
theorem ok_law06_TransportBack : SpecOK Try.prog 11 ct_law06_TransportBack.spec := Ct.ok' _ Try.func11 (by kernel_rfl) (withSpec_ok (withSpec_ok (withSpec_ok (withSpec_ok (withSpec_ok (withSpec_ok (withSpec_ok (withSpec_ok (withSpec_ok (withSpec_ok (withSpec_ok (withSpec_ok (withSpec_ok (withSpec_ok (withSpec_ok (withSpec_ok noSpecs_ok ok_law06_awake) ok_draw_New) ok_draw_Codes_Address) ok_Next) ok_transport_EncodeEcho) ok_transport_EncodeNotice) ok_transport_EncodeUDP) ok_transport_EncodeTCP) ok_transport_DecodeEcho) ok_transport_DecodeNotice) ok_transport_DecodeUDP) ok_transport_DecodeTCP) ok_ref06_SameEcho) ok_ref06_SameNotice) ok_ref06_SameDatagram) ok_ref06_SameSegment) hmix an_law06_TransportBack (Eq.mpr (by kernel_rfl) vc_law06_TransportBack)
end Go.RS

