/- Law10: the laws of balance. -/
import Derived.Test.YtbamghnnnngdeaaBalance
namespace Go.RS
open Go.SX Go.Proofs
set_option maxRecDepth 100000
set_option linter.unusedVariables false

theorem modI_range (x : Int) {n : Int} (h0 : 0 < n) (h1 : n ≤ 4611686018427387904) : 0 ≤ modI x n ∧ modI x n < n := by
  have a := Int.tmod_lt_of_pos x h0
  have b : -n < x.tmod n := Int.lt_tmod_of_pos x h0
  unfold modI
  rw [w64 (by omega) (by omega)]
  exact ⟨tmod_lo (by omega), tmod_hi (by omega) h0⟩
theorem choose_in {way seed : Int} {k : Key} {count n : Int} (h0 : 0 < n) (h1 : n ≤ 16) (h2 : 0 ≤ count) (h3 : 1 ≤ way ∧ way ≤ 3) : (choose way seed k count n).2 = 0 ∧ 0 ≤ (choose way seed k count n).1 ∧ (choose way seed k count n).1 < n := by
  unfold choose
  rw [if_neg (by omega)]
  have hr := fun k => hash_range seed k
  refine ⟨rfl, ?_⟩
  simp only
  split
  · exact ⟨tmod_lo (hr k).1, tmod_hi (hr k).1 h0⟩
  · split
    · exact ⟨tmod_lo (hr _).1, tmod_hi (hr _).1 h0⟩
    · exact ⟨tmod_lo h2, tmod_hi h2 h0⟩
def lpExact10 : LPs := [(false, cU64), (false, cI), (true, cKey), (false, cI), (false, cI), (false, cI), (false, .sl cU8)]
def ct_law10_BalanceExact : Ct := lawCt lpExact10
def an_law10_BalanceExact : PDs ct_law10_BalanceExact.ps → Anns := (fun d => { loops := (fun n => match n with | 7 => some (fun S => { ι := Int × Int × Int × (Int × Int × Int × Int × Int) × (List Int × Int) × Int, qn := ⟨fun k_ => ∀ (way : Int) (count : Int) (n : Int) (k : (Int × Int × Int × Int × Int)) (cs : (List Int × Int)) (j : Int), k_ (way, count, n, k, cs, j), fun k_ h_ i => h_ i.1 i.2.1 i.2.2.1 i.2.2.2.1 i.2.2.2.2.1 i.2.2.2.2.2, fun k_ => ∃ (way : Int) (count : Int) (n : Int) (k : (Int × Int × Int × Int × Int)) (cs : (List Int × Int)) (j : Int), k_ (way, count, n, k, cs, j), fun k_ ⟨way, count, n, k, cs, j, h_⟩ => ⟨_, h_⟩⟩, μ := fun i => (4 - i.2.2.2.2.2).toNat, inv := fun i => okC i.2.2.2.2.1 ∧ 0 ≤ i.2.2.2.2.2 ∧ i.2.2.2.2.2 ≤ 4, keep := [1, 9, 15], slots := fun i => [(3, .int .i64 i.1), (4, .int .i64 i.2.1), (5, .int .i64 i.2.2.1), (16, .int .i64 i.2.2.2.2.2)], names := fun i => [(160, .live (.cells 46 (flat cKey i.2.2.2.1))), (400, .live (.cells 75 (flat cCodes i.2.2.2.2.1)))] }) | _ => none) })
theorem vc_law10_BalanceExact :
    ∀ (x x_1 x_2 x_3 x_4 x_5 x_6 x_7 x_8 x_9 : Int) (x_10 : List Int), ((0 : Int) ≤ x ∧ x ≤ (18446744073709551615 : Int)) ∧ ((-9223372036854775808 : Int) ≤ x_1 ∧ x_1 ≤ (9223372036854775807 : Int)) ∧ (((0
     : Int) ≤ x_2 ∧ x_2 ≤ (4294967295 : Int)) ∧ ((0 : Int) ≤ x_3 ∧ x_3 ≤ (4294967295 : Int)) ∧ ((-9223372036854775808 : Int) ≤ x_4 ∧ x_4 ≤ (9223372036854775807 : Int)) ∧ ((-9223372036854775808 : Int) ≤ x_5
     ∧ x_5 ≤ (9223372036854775807 : Int)) ∧ (-9223372036854775808 : Int) ≤ x_6 ∧ x_6 ≤ (9223372036854775807 : Int)) ∧ ((-9223372036854775808 : Int) ≤ x_7 ∧ x_7 ≤ (9223372036854775807 : Int)) ∧
     ((-9223372036854775808 : Int) ≤ x_8 ∧ x_8 ≤ (9223372036854775807 : Int)) ∧ ((-9223372036854775808 : Int) ≤ x_9 ∧ x_9 ≤ (9223372036854775807 : Int)) ∧ (List.length x_10 ≤ maxLen ∧ ∀ (x : Int), x ∈ x_10
     → (0 : Int) ≤ x ∧ x ≤ (255 : Int)) ∧ True → True → (0 : Int) ≤ (60 : Int) ∧ ∀ (b : Bool), b = !decide (mix x = mix x) → ((!b) = true → ((!b) = true → (!b) = true) ∧ ((!b) = true → (!b) = true) ∧ True)
     ∧ ((!b) = true → ((!b) = true → (!b) = true) ∧ ((!b) = true → (!b) = true) ∧ True) ∧ ((!b) = true → ((!b) = true → (!b) = true) ∧ ((!b) = true → (!b) = true) ∧ True) ∧ (b = false → (!b) = true) ∧ ifP
     (bif b then true else !decide (hash x_1 (x_2, x_3, x_4, x_5, x_6) = hash x_1 (x_2, x_3, x_4, x_5, x_6))) (false = true) ((∃ way count n k cs j, (okC cs ∧ (0 : Int) ≤ j ∧ j ≤ (4 : Int)) ∧ x_1 = x_1 ∧
     x_7 = way ∧ x_8 = count ∧ x_9 = n ∧ (0 : Int) = j ∧ x_2 = Prod.fst k ∧ x_3 = Prod.fst (Prod.snd k) ∧ x_4 = Prod.fst (Prod.snd (Prod.snd k)) ∧ x_5 = Prod.fst (Prod.snd (Prod.snd (Prod.snd k))) ∧ x_6 =
     Prod.snd (Prod.snd (Prod.snd (Prod.snd k))) ∧ (if ↑(List.length x_10) ≤ (60 : Int) then x_10 else List.take (Int.toNat (60 : Int)) x_10) = Prod.fst cs ∧ (0 : Int) = Prod.snd cs ∧ True) ∧ ∀ (way count
     n : Int) (k : Int × Int × Int × Int × Int) (cs : List Int × Int) (j : Int), okC cs ∧ (0 : Int) ≤ j ∧ j ≤ (4 : Int) → ifP (decide (j < (4 : Int))) (∀ (x x_11 : Int), x = Prod.fst (choose way x_1 k
     count n) ∧ x_11 = Prod.snd (choose way x_1 k count n) → ∀ (x_12 x_13 : Int), x_12 = Prod.fst (choose way x_1 k count n) ∧ x_13 = Prod.snd (choose way x_1 k count n) → ∀ (b : Bool), b = !decide (x =
     x_12) → ((!b) = true → ((!b) = true → (!b) = true) ∧ ((!b) = true → (!b) = true) ∧ True) ∧ (b = false → (!b) = true) ∧ ifP (bif b then true else !decide (x_11 = x_13)) (false = true) (okC cs ∧ ∀ (x :
     Int) (x_14 : List Int) (x_15 : Int), (0 : Int) ≤ x ∧ (x < (4 : Int) ∨ x = (0 : Int)) ∧ okC (x_14, x_15) → okC (x_14, x_15) ∧ ∀ (x_16 : Int) (x_17 : List Int) (x_18 : Int), okC (x_17, x_18) ∧
     (-9223372036854775808 : Int) ≤ x_16 ∧ x_16 ≤ (9223372036854775807 : Int) → okC (x_17, x_18) ∧ ∀ (x_19 : Int) (x_20 : List Int) (x_21 : Int), (0 : Int) ≤ x_19 ∧ (x_19 < (18 : Int) ∨ x_19 = (0 : Int)) ∧
     okC (x_20, x_21) → okC (x_20, x_21) ∧ ∀ (x_22 : Int) (x_23 : List Int) (x_24 : Int), okC (x_23, x_24) ∧ (0 : Int) ≤ x_22 ∧ x_22 ≤ (4294967295 : Int) → okC (x_23, x_24) ∧ ∀ (x_25 : Int) (x_26 : List
     Int) (x_27 : Int), okC (x_26, x_27) ∧ (0 : Int) ≤ x_25 ∧ x_25 ≤ (4294967295 : Int) → okC (x_26, x_27) ∧ ∀ (x_28 : Int) (x_29 : List Int) (x_30 : Int), okC (x_29, x_30) ∧ (x_28 = (17 : Int) ∨ x_28 = (1
     : Int) ∨ x_28 = (6 : Int)) → okC (x_29, x_30) ∧ ∀ (x_31 : Int) (x_32 : List Int) (x_33 : Int), (0 : Int) ≤ x_31 ∧ (x_31 < (65536 : Int) ∨ x_31 = (0 : Int)) ∧ okC (x_32, x_33) → okC (x_32, x_33) ∧ ∀
     (x_34 : Int) (x_35 : List Int) (x_36 : Int), (0 : Int) ≤ x_34 ∧ (x_34 < (65536 : Int) ∨ x_34 = (0 : Int)) ∧ okC (x_35, x_36) → ∃ way count n k cs j_1, (okC cs ∧ (0 : Int) ≤ j_1 ∧ j_1 ≤ (4 : Int)) ∧
     Int.toNat ((4 : Int) - j_1) < Int.toNat ((4 : Int) - j) ∧ x_1 = x_1 ∧ IntKind.wrap IntKind.i64 ((1 : Int) + x) = way ∧ x_16 = count ∧ x_19 = n ∧ IntKind.wrap IntKind.i64 (j + (1 : Int)) = j_1 ∧ x_22 =
     Prod.fst k ∧ x_25 = Prod.fst (Prod.snd k) ∧ x_28 = Prod.fst (Prod.snd (Prod.snd k)) ∧ x_31 = Prod.fst (Prod.snd (Prod.snd (Prod.snd k))) ∧ x_34 = Prod.snd (Prod.snd (Prod.snd (Prod.snd k))) ∧ x_35 =
     Prod.fst cs ∧ x_36 = Prod.snd cs ∧ True)) (true = true)) := by
  rintro x seed a b c e f way count n cl - -
  refine ⟨by omega, ?_⟩
  (repeat (intro (b_ : Bool) (hb_ : b_ = _); (repeat refine ⟨(by simp; done), ?_⟩); subst hb_))
  refine ifP_split (fun h => by simp at h) (fun _ => ?_)
  refine ⟨⟨_, _, _, (a, b, c, e, f), ((if (cl.length : Int) ≤ 60 then cl else cl.take (Int.toNat 60)), 0), 0, ⟨?_, by omega, by omega⟩, (by repeat' first | exact trivial | refine ⟨rfl, ?_⟩)⟩, ?_⟩
  · split <;> simp [okC]
  rintro way count n k cs j ⟨hc, h0, h1⟩
  refine ifP_split (fun hj => ?_) (fun _ => rfl)
  have hj := of_decide_eq_true hj
  rintro r e1 ⟨rfl, rfl⟩ r e1 ⟨rfl, rfl⟩
  (repeat (intro (b_ : Bool) (hb_ : b_ = _); (repeat refine ⟨(by simp; done), ?_⟩); subst hb_))
  refine ifP_split (fun h => by simp at h) (fun _ => ?_)
  refine ⟨hc, ?_⟩
  rintro v1 l1 p1 ⟨-, -, h⟩
  refine ⟨h, ?_⟩
  rintro v2 l1 p1 ⟨h, -, -⟩
  refine ⟨h, ?_⟩
  rintro v3 l1 p1 ⟨-, -, h⟩
  refine ⟨h, ?_⟩
  rintro v4 l1 p1 ⟨h, -, -⟩
  refine ⟨h, ?_⟩
  rintro v5 l1 p1 ⟨h, -, -⟩
  refine ⟨h, ?_⟩
  rintro v6 l1 p1 ⟨h, -⟩
  refine ⟨h, ?_⟩
  rintro v7 l1 p1 ⟨-, -, h⟩
  refine ⟨h, ?_⟩
  rintro v8 l1 p1 ⟨-, -, h⟩
  exact ⟨_, _, _, (v4, v5, v6, v7, v8), (l1, p1), j + 1, ⟨h, by omega, by omega⟩, by omega, rfl, rfl, rfl, rfl, w64 (by omega) (by omega), (by repeat' first | exact trivial | refine ⟨rfl, ?_⟩)⟩
theorem ok_law10_BalanceExact : SpecOK Try.prog 7 ct_law10_BalanceExact.spec := Ct.ok' _ Try.func7 (by kernel_rfl) (withSpec_ok (withSpec_ok (withSpec_ok (withSpec_ok (withSpec_ok (withSpec_ok (withSpec_ok (withSpec_ok (withSpec_ok (withSpec_ok (withSpec_ok (withSpec_ok noSpecs_ok ok_law10_awake) ok_draw_New) ok_balance_Mix) ok_ref10_Mix) ok_balance_Hash) ok_ref10_Hash) (Ct.named ok_balance_Choose)) (Ct.named ok_ref10_Choose)) ok_Next) ok_draw_Codes_Int) ok_draw_Codes_Address) ok_draw_Codes_Proto) hmix an_law10_BalanceExact (Eq.mpr (by kernel_rfl) vc_law10_BalanceExact)
def lpKeys10 : LPs := [(false, cI), (true, cKey), (false, cI), (false, cI), (false, cI), (false, .sl cU8)]
def ct_law10_BalanceKeys : Ct := lawCt lpKeys10
def an_law10_BalanceKeys : PDs ct_law10_BalanceKeys.ps → Anns := (fun _ => {})
theorem vc_law10_BalanceKeys :
    ∀ (x x_1 x_2 x_3 x_4 x_5 x_6 x_7 x_8 : Int) (x_9 : List Int), ((-9223372036854775808 : Int) ≤ x ∧ x ≤ (9223372036854775807 : Int)) ∧ (((0 : Int) ≤ x_1 ∧ x_1 ≤ (4294967295 : Int)) ∧ ((0 : Int) ≤ x_2 ∧
     x_2 ≤ (4294967295 : Int)) ∧ ((-9223372036854775808 : Int) ≤ x_3 ∧ x_3 ≤ (9223372036854775807 : Int)) ∧ ((-9223372036854775808 : Int) ≤ x_4 ∧ x_4 ≤ (9223372036854775807 : Int)) ∧ (-9223372036854775808
     : Int) ≤ x_5 ∧ x_5 ≤ (9223372036854775807 : Int)) ∧ ((-9223372036854775808 : Int) ≤ x_6 ∧ x_6 ≤ (9223372036854775807 : Int)) ∧ ((-9223372036854775808 : Int) ≤ x_7 ∧ x_7 ≤ (9223372036854775807 : Int))
     ∧ ((-9223372036854775808 : Int) ≤ x_8 ∧ x_8 ≤ (9223372036854775807 : Int)) ∧ (List.length x_9 ≤ maxLen ∧ ∀ (x : Int), x ∈ x_9 → (0 : Int) ≤ x ∧ x ≤ (255 : Int)) ∧ True → True → (0 : Int) ≤ (40 : Int)
     ∧ (16 : Int) ≠ (0 : Int) ∧ ∀ (x_10 : Int), x_10 = modI x_8 (16 : Int) → okC (if ↑(List.length x_9) ≤ (40 : Int) then x_9 else List.take (Int.toNat (40 : Int)) x_9, (0 : Int)) ∧ ∀ (x_11 : Int) (x_12 :
     List Int) (x_13 : Int), okC (x_12, x_13) ∧ (x_11 = (17 : Int) ∨ x_11 = (1 : Int) ∨ x_11 = (6 : Int)) → okC (x_12, x_13) ∧ ∀ (x_14 : Int) (x_15 : List Int) (x_16 : Int), (0 : Int) ≤ x_14 ∧ (x_14 < (100
     : Int) ∨ x_14 = (0 : Int)) ∧ okC (x_15, x_16) → ∀ (x_17 x_18 : Int), x_17 = Prod.fst (choose (1 : Int) x (x_1, x_2, x_3, x_4, x_5) x_14 (IntKind.wrap IntKind.i64 ((1 : Int) + x_10))) ∧ x_18 = Prod.snd
     (choose (1 : Int) x (x_1, x_2, x_3, x_4, x_5) x_14 (IntKind.wrap IntKind.i64 ((1 : Int) + x_10))) → okC (x_15, x_16) ∧ ∀ (x_19 : Int) (x_20 : List Int) (x_21 : Int), (0 : Int) ≤ x_19 ∧ (x_19 < (100 :
     Int) ∨ x_19 = (0 : Int)) ∧ okC (x_20, x_21) → ∀ (x_22 x_23 : Int), x_22 = Prod.fst (choose (1 : Int) x (x_1, x_2, x_3, x_4, x_5) x_19 (IntKind.wrap IntKind.i64 ((1 : Int) + x_10))) ∧ x_23 = Prod.snd
     (choose (1 : Int) x (x_1, x_2, x_3, x_4, x_5) x_19 (IntKind.wrap IntKind.i64 ((1 : Int) + x_10))) → ∀ (x_24 x_25 : Int), x_24 = Prod.fst (choose (2 : Int) x (x_1, x_2, x_3, x_4, x_5) (0 : Int)
     (IntKind.wrap IntKind.i64 ((1 : Int) + x_10))) ∧ x_25 = Prod.snd (choose (2 : Int) x (x_1, x_2, x_3, x_4, x_5) (0 : Int) (IntKind.wrap IntKind.i64 ((1 : Int) + x_10))) → okC (x_20, x_21) ∧ ∀ (x_26 :
     Int) (x_27 : List Int) (x_28 : Int), (0 : Int) ≤ x_26 ∧ (x_26 < (100 : Int) ∨ x_26 = (0 : Int)) ∧ okC (x_27, x_28) → ∀ (x_29 x_30 : Int), x_29 = Prod.fst (choose (2 : Int) x (x_1, x_2, x_11, x_6, x_7)
     x_26 (IntKind.wrap IntKind.i64 ((1 : Int) + x_10))) ∧ x_30 = Prod.snd (choose (2 : Int) x (x_1, x_2, x_11, x_6, x_7) x_26 (IntKind.wrap IntKind.i64 ((1 : Int) + x_10))) → ∀ (b : Bool), b = decide
     (x_18 = (0 : Int)) → (b = true → (b = true → b = true) ∧ True) ∧ (b = true → b = true) ∧ ∀ (b_1 : Bool), (b_1 = bif b then decide (x_23 = (0 : Int)) else false) → (b_1 = true → (b_1 = true → b_1 =
     true) ∧ True) ∧ (b_1 = true → b_1 = true) ∧ ∀ (b : Bool), (b = bif b_1 then decide (x_25 = (0 : Int)) else false) → (b = true → (b = true → b = true) ∧ True) ∧ (b = true → b = true) ∧ ∀ (b_2 : Bool),
     (b_2 = bif b then decide (x_30 = (0 : Int)) else false) → (b_2 = true → (b_2 = true → b_2 = true) ∧ (b_2 = true → b_2 = true) ∧ True) ∧ (b_2 = true → b_2 = true) ∧ ∀ (b : Bool), (b = bif b_2 then
     decide (x_17 = x_22) else false) → (b = true → (b = true → b = true) ∧ (b = true → b = true) ∧ True) ∧ (b = true → b = true) ∧ ∀ (b_3 : Bool), (b_3 = bif b then decide (x_24 = x_29) else false) → (b_3
     = true → (b_3 = true → b_3 = true) ∧ True) ∧ (b_3 = true → b_3 = true) ∧ ∀ (b : Bool), (b = bif b_3 then decide ((0 : Int) ≤ x_17) else false) → (b = true → (b = true → b = true) ∧ (b = true → b =
     true) ∧ True) ∧ (b = true → b = true) ∧ ∀ (b_4 : Bool), (b_4 = bif b then decide (x_17 < IntKind.wrap IntKind.i64 ((1 : Int) + x_10)) else false) → (b_4 = true → (b_4 = true → b_4 = true) ∧ True) ∧
     (b_4 = true → b_4 = true) ∧ ∀ (b : Bool), (b = bif b_4 then decide ((0 : Int) ≤ x_24) else false) → (b = true → (b = true → b = true) ∧ (b = true → b = true) ∧ True) ∧ (b = true → b = true) ∧ (bif b
     then decide (x_24 < IntKind.wrap IntKind.i64 ((1 : Int) + x_10)) else false) = true := by
  rintro seed k1 k2 k3 k4 k5 a b n cl - -
  refine ⟨by omega, by omega, ?_⟩
  rintro m rfl
  refine ⟨by split <;> simp [okC], ?_⟩
  rintro v1 l1 p1 ⟨h, -⟩
  refine ⟨h, ?_⟩
  have hm := modI_range n (n := 16) (by omega) (by omega)
  generalize modI n 16 = m at hm ⊢
  rw [w64 (n := 1 + m) (by omega) (by omega)]
  rintro c1 l1 p1 ⟨hc0, -, h⟩ r1 e1 ⟨hr1, he1⟩
  refine ⟨h, ?_⟩
  rintro c2 l1 p1 ⟨hd0, -, h⟩ r2 e2 ⟨hr2, he2⟩ r3 e3 ⟨hr3, he3⟩
  refine ⟨h, ?_⟩
  rintro c4 l1 p1 ⟨hf0, -, h⟩ r4 e4 ⟨hr4, he4⟩
  have q1 := choose_in (way := 1) (seed := seed) (k := (k1, k2, k3, k4, k5)) (count := c1) (n := 1 + m) (by omega) (by omega) (by omega) (by omega)
  have q3 := choose_in (way := 2) (seed := seed) (k := (k1, k2, k3, k4, k5)) (count := 0) (n := 1 + m) (by omega) (by omega) (by omega) (by omega)
  have q2 : choose 1 seed (k1, k2, k3, k4, k5) c2 (1 + m) = choose 1 seed (k1, k2, k3, k4, k5) c1 (1 + m) := by
    have e1 : ¬ (1 + m < 1 ∨ 16 < 1 + m ∨ c1 < 0 ∨ (1 : Int) < 1 ∨ 3 < (1 : Int)) := by omega
    have e2 : ¬ (1 + m < 1 ∨ 16 < 1 + m ∨ c2 < 0 ∨ (1 : Int) < 1 ∨ 3 < (1 : Int)) := by omega
    simp only [choose, if_neg e1, if_neg e2, if_pos]
  have q4 : choose 2 seed (k1, k2, v1, a, b) c4 (1 + m) = choose 2 seed (k1, k2, k3, k4, k5) 0 (1 + m) := by
    have e1 : ¬ (1 + m < 1 ∨ 16 < 1 + m ∨ c4 < 0 ∨ (2 : Int) < 1 ∨ 3 < (2 : Int)) := by omega
    have e2 : ¬ (1 + m < 1 ∨ 16 < 1 + m ∨ (0 : Int) < 0 ∨ (2 : Int) < 1 ∨ 3 < (2 : Int)) := by omega
    simp only [choose, if_neg e1, if_neg e2]
    simp
  rw [q2] at hr2 he2
  rw [q4] at hr4 he4
  rw [← hr1] at hr2
  rw [← hr3] at hr4
  rw [← he1] at he2
  rw [← he3] at he4
  rw [← hr1, ← he1] at q1
  rw [← hr3, ← he3] at q3
  obtain ⟨rfl, q11, q12⟩ := q1
  obtain ⟨rfl, q31, q32⟩ := q3
  subst hr2 hr4 he2 he4
  (repeat (intro (b_ : Bool) (hb_ : b_ = _); (repeat refine ⟨(by simp; done), ?_⟩); subst hb_))
  simp [q11, q12, q31, q32]
theorem ok_law10_BalanceKeys : SpecOK Try.prog 8 ct_law10_BalanceKeys.spec := Ct.ok' _ Try.func8 (by kernel_rfl) (withSpec_ok (withSpec_ok (withSpec_ok (withSpec_ok (withSpec_ok (withSpec_ok noSpecs_ok ok_law10_awake) ok_draw_New) (Ct.named ok_draw_Mod)) ok_draw_Codes_Proto) ok_Next) (Ct.named ok_balance_Choose)) hmix an_law10_BalanceKeys (Eq.mpr (by kernel_rfl) vc_law10_BalanceKeys)
def lpTurns10 : LPs := [(false, cI), (true, cKey), (false, cU32), (false, cU8)]
/-- The links that were taken. -/
def seenInv (c m : Int) (sn : List Bool) (j : Int) : Prop := 0 ≤ j ∧ j ≤ m ∧ (sn.length : Int) = m ∧ ∀ (x : Int), 0 ≤ x → x < m → sn.getD x.toNat default = true → ∃ t, 0 ≤ t ∧ t < j ∧ (c + t).tmod m = x
def ct_law10_BalanceTurns : Ct := lawCt lpTurns10
def an_law10_BalanceTurns : PDs ct_law10_BalanceTurns.ps → Anns := (fun d => { loops := (fun n => match n with | 6 => some (fun S => { ι := (List Bool) × Int, qn := ⟨fun k_ => ∀ (sn : (List Bool)) (j : Int), k_ (sn, j), fun k_ h_ i => h_ i.1 i.2, fun k_ => ∃ (sn : (List Bool)) (j : Int), k_ (sn, j), fun k_ ⟨sn, j, h_⟩ => ⟨_, h_⟩⟩, μ := fun i => (S.i 9 - i.2).toNat, inv := fun i => seenInv d.2.2.1 (S.i 9) i.1 i.2, keep := [0, 2, 5, 9], slots := fun i => [(10, .own 352 1), (11, .int .i64 i.2)], keepN := [96], names := fun i => [(352, .live (.row 4 .bool i.1))] }) | _ => none), nms := [19] })
theorem vc_law10_BalanceTurns :
    ∀ (x x_1 x_2 x_3 x_4 x_5 x_6 x_7 : Int), ((-9223372036854775808 : Int) ≤ x ∧ x ≤ (9223372036854775807 : Int)) ∧ (((0 : Int) ≤ x_1 ∧ x_1 ≤ (4294967295 : Int)) ∧ ((0 : Int) ≤ x_2 ∧ x_2 ≤ (4294967295 :
     Int)) ∧ ((-9223372036854775808 : Int) ≤ x_3 ∧ x_3 ≤ (9223372036854775807 : Int)) ∧ ((-9223372036854775808 : Int) ≤ x_4 ∧ x_4 ≤ (9223372036854775807 : Int)) ∧ (-9223372036854775808 : Int) ≤ x_5 ∧ x_5 ≤
     (9223372036854775807 : Int)) ∧ ((0 : Int) ≤ x_6 ∧ x_6 ≤ (4294967295 : Int)) ∧ ((0 : Int) ≤ x_7 ∧ x_7 ≤ (255 : Int)) ∧ True → True → (16 : Int) ≠ (0 : Int) ∧ ∀ (n : Int), n = IntKind.wrap IntKind.i64
     ((1 : Int) + Int.tmod (IntKind.wrap IntKind.i64 x_7) (16 : Int)) → (0 : Int) ≤ n ∧ n ≤ n ∧ ↑(1 : Nat) * n ≤ (281474976710656 : Int) ∧ (∃ sn j, seenInv x_6 n sn j ∧ x = x ∧ x_6 = x_6 ∧ n = n ∧ (0 :
     Int) = j ∧ x_1 = x_1 ∧ x_2 = x_2 ∧ x_3 = x_3 ∧ x_4 = x_4 ∧ x_5 = x_5 ∧ List.replicate (Int.toNat n) false = sn ∧ True) ∧ ∀ (sn : List Bool) (j : Int), seenInv x_6 n sn j → ifP (decide (j < n)) (∀ (x_8
     x_9 : Int), x_8 = Prod.fst (choose (3 : Int) x (x_1, x_2, x_3, x_4, x_5) (IntKind.wrap IntKind.i64 (IntKind.wrap IntKind.i64 x_6 + j)) n) ∧ x_9 = Prod.snd (choose (3 : Int) x (x_1, x_2, x_3, x_4, x_5)
     (IntKind.wrap IntKind.i64 (IntKind.wrap IntKind.i64 x_6 + j)) n) → ∀ (b : Bool), b = !decide (x_9 = (0 : Int)) → ((!b) = true → ((!b) = true → (!b) = true) ∧ True) ∧ (b = false → (!b) = true) ∧ ∀ (b_1
     : Bool), (b_1 = bif b then true else decide (x_8 < (0 : Int))) → ((!b_1) = true → ((!b_1) = true → (!b_1) = true) ∧ ((!b_1) = true → (!b_1) = true) ∧ True) ∧ (b_1 = false → (!b_1) = true) ∧ ∀ (b :
     Bool), (b = bif b_1 then true else decide (n ≤ x_8)) → ((!b) = true → ((!b) = true → (!b) = true) ∧ ((!b) = true → (!b) = true) ∧ (0 : Int) ≤ x_8 ∧ x_8 < ↑(List.length sn) ∧ True) ∧ ((!b) = true →
     ((!b) = true → (!b) = true) ∧ True) ∧ (b = false → (!b) = true) ∧ ifP (bif b then true else List.getD sn (Int.toNat x_8) default) (false = true) ((0 : Int) ≤ x_8 ∧ x_8 < ↑(List.length sn) ∧ ∃ sn_1
     j_1, seenInv x_6 n sn_1 j_1 ∧ Int.toNat (n - j_1) < Int.toNat (n - j) ∧ x = x ∧ x_6 = x_6 ∧ n = n ∧ IntKind.wrap IntKind.i64 (j + (1 : Int)) = j_1 ∧ x_1 = x_1 ∧ x_2 = x_2 ∧ x_3 = x_3 ∧ x_4 = x_4 ∧ x_5
     = x_5 ∧ List.set sn (Int.toNat x_8) true = sn_1 ∧ True)) (true = true) := by
  rintro seed k1 k2 k3 k4 k5 c n0 ⟨-, -, ⟨c0, c1⟩, ⟨n0', n1'⟩, -⟩ -
  refine ⟨by omega, ?_⟩
  have t0 := tmod_lo (b := 16) n0'
  have t1 := tmod_hi (b := 16) n0' (by omega)
  rw [w64 (n := n0) (by omega) (by omega), w64 (n := 1 + _) (by omega) (by omega), w64 (n := c) (by omega) (by omega)]
  generalize n0.tmod 16 = q at t0 t1 ⊢
  rintro n rfl
  refine ⟨by omega, by omega, by simp; omega, ⟨List.replicate (Int.toNat (1 + q)) false, 0, ⟨by omega, by omega, by simp; omega, ?_⟩, (by repeat' first | exact trivial | refine ⟨rfl, ?_⟩)⟩, ?_⟩
  · intro x hx0 hx1 h
    rw [List.getD_eq_getElem?_getD, List.getElem?_replicate] at h
    split at h <;> simp at h
  rintro sn j ⟨j0, j1, hl, hs⟩
  refine ifP_split (fun hj => ?_) (fun _ => rfl)
  have hj := of_decide_eq_true hj
  rw [w64 (n := c + j) (by omega) (by omega)]
  rintro r e ⟨hr, he⟩
  have hch : choose 3 seed (k1, k2, k3, k4, k5) (c + j) (1 + q) = ((c + j).tmod (1 + q), 0) := by
    unfold choose; rw [if_neg (by omega), if_neg (by omega), if_neg (by omega)]
  rw [hch] at hr he
  simp only at hr he
  subst he
  have r0 : 0 ≤ r := by rw [hr]; exact tmod_lo (by omega)
  have r1 : r < 1 + q := by rw [hr]; exact tmod_hi (by omega) (by omega)
  have hb2 : (decide (r < 0)) = false := by simp; omega
  have hb3 : (decide (1 + q ≤ r)) = false := by simp; omega
  have hnot : sn.getD r.toNat default = false := by
    cases hb : sn.getD r.toNat default with
    | false => rfl
    | true =>
      obtain ⟨t, ht0, ht1, ht2⟩ := hs r r0 r1 hb
      exfalso
      rw [hr, Int.tmod_eq_emod_of_nonneg (by omega), Int.tmod_eq_emod_of_nonneg (by omega)] at ht2
      have hmod := Int.emod_emod_of_dvd (c + j - (c + t)) (Int.dvd_refl (1 + q))
      have h3 : (c + j - (c + t)) % (1 + q) = 0 := by
        rw [Int.sub_emod, ht2]; simp
      have h4 : (c + j - (c + t)) % (1 + q) = c + j - (c + t) := Int.emod_eq_of_lt (by omega) (by omega)
      omega
  rintro b1 rfl
  refine ⟨(by simp), (by simp), ?_⟩
  rintro b2 rfl
  refine ⟨(by simp), (by simp), ?_⟩
  rintro b3 rfl
  rw [hb2, hb3, hnot]
  refine ⟨fun _ => ⟨fun _ => rfl, fun _ => rfl, r0, by omega, trivial⟩, fun _ => ⟨fun _ => rfl, trivial⟩, fun _ => rfl, ifP_split (fun h => by simp at h) (fun _ => ?_)⟩
  refine ⟨r0, by omega, sn.set r.toNat true, j + 1, ⟨by omega, by omega, by simpa using hl, ?_⟩, by omega, rfl, rfl, rfl, w64 (by omega) (by omega), (by repeat' first | exact trivial | refine ⟨rfl, ?_⟩)⟩
  intro x hx0 hx1 h
  by_cases hxr : x = r
  · exact ⟨j, j0, by omega, by rw [hxr]; exact hr.symm⟩
  · rw [List.getD_eq_getElem?_getD, List.getElem?_set_ne (by omega), ← List.getD_eq_getElem?_getD] at h
    obtain ⟨t, ht0, ht1, ht2⟩ := hs x hx0 hx1 h
    exact ⟨t, ht0, by omega, ht2⟩
theorem ok_law10_BalanceTurns : SpecOK Try.prog 9 ct_law10_BalanceTurns.spec := Ct.ok' _ Try.func9 (by kernel_rfl) (withSpec_ok (withSpec_ok noSpecs_ok ok_law10_awake) (Ct.named ok_balance_Choose)) hmix an_law10_BalanceTurns (Eq.mpr (by kernel_rfl) vc_law10_BalanceTurns)
end Go.RS

