/- Transp: messages of three protocols. -/
import Derived.Test.YtdegakknelbjiaaGreatDoorWire
namespace Go.RS
open Go.SX Go.Proofs
set_option maxRecDepth 100000
set_option linter.unusedVariables false

abbrev cEcho : CT := .pair .bool (.pair cI (.pair cI (.sl cU8)))
abbrev cNotice : CT := .pair cI (.pair cI (.sl cU8))
abbrev cDgram : CT := .pair cI (.pair cI (.sl cU8))
abbrev cSeg : CT := .pair cI (.pair cI (.pair cI (.pair cI (.pair cI (.pair cI (.sl cU8))))))
abbrev Echo : Type := Bool × Int × Int × List Int
abbrev Notice : Type := Int × Int × List Int
abbrev Dgram : Type := Int × Int × List Int
abbrev Seg : Type := Int × Int × Int × Int × Int × Int × List Int
def allIn (lim : Int) (l : List Int) : Bool := l.all fun n => decide (0 ≤ n ∧ n ≤ lim)
def w2 (n : Int) : List Int := [n / 256 % 256, n % 256]
def w4 (n : Int) : List Int := [n / 16777216 % 256, n / 65536 % 256, n / 256 % 256, n % 256]
def csum (b : List Int) : Int := 65535 - oc (sumF true b)
def setW (b : List Int) (at' : Nat) (n : Int) : List Int := (b.set at' (n / 256 % 256)).set (at' + 1) (n % 256)
def wordAt (b : List Int) (at' : Nat) : Int := numB ((b.drop at').take 2)
def ct_transport_within_1 : Ct := ⟨[.val cI, .box 3 cI], [.val .bool], fun _ => [], fun d => ((decide (d.1 < 0 ∨ d.2.1 < d.1), ()), (d.2.1, ()))⟩
def an_transport_within_1 : PDs ct_transport_within_1.ps → Anns := (fun _ => {})
theorem vc_transport_within_1 :
    ∀ (x x_1 : Int), ((-9223372036854775808 : Int) ≤ x ∧ x ≤ (9223372036854775807 : Int)) ∧ ((-9223372036854775808 : Int) ≤ x_1 ∧ x_1 ≤ (9223372036854775807 : Int)) ∧ True → True → ∀ (b : Bool), b =
     decide (x < (0 : Int)) → ((!b) = true → ((!b) = true → (!b) = true) ∧ ((!b) = true → (!b) = true) ∧ True) ∧ (b = false → (!b) = true) ∧ (bif b then true else decide (x_1 < x)) = decide (x < (0 : Int)
     ∨ x_1 < x) ∧ x_1 = x_1 := by
  rintro n lim - -
  rintro b rfl
  refine ⟨by simp, by simp, ?_, rfl⟩
  rw [Bool.cond_eq_ite]
  by_cases h : n < 0 <;> simp [h]
theorem ok_transport_within_1 : SpecOK Tryz.prog GL 133 ct_transport_within_1.spec := Ct.ok' _ Tryz.func133 (by kernel_rfl) noSpecs_ok hmix an_transport_within_1 (Eq.mpr (by kernel_rfl) vc_transport_within_1)

def ct_IndexWithin : Cn := ⟨[.val (.sl cI), .fn 133 1, .box 3 cI], [.val cI], fun _ => [], fun d y => y.2.1 = d.2.2.1 ∧ -1 ≤ y.1.1 ∧ (y.1.1 = -1 ↔ allIn d.2.2.1 d.1 = true), fun d h => ⟨((if allIn d.2.2.1 d.1 = true then -1 else 0, ()), (d.2.2.1, ())), rfl, by by_cases h : allIn d.2.2.1 d.1 = true <;> simp [h]⟩⟩
def an_IndexWithin : PDs ct_IndexWithin.ps → Anns := (fun d => { loops := (fun n => match n with | 2 => some (fun S => { ι := Int, μ := fun i => (d.1.length - i).toNat, inv := fun i => 0 ≤ i ∧ i ≤ d.1.length ∧ allIn d.2.2.1 (d.1.take i.toNat) = true, keep := [0, 1, 6, 7], slots := fun i => [(8, .int .i64 i)], keepN := [1048576], names := fun i => [] }) | _ => none) })
theorem vc_IndexWithin :
    ∀ (x : List Int) (x_1 : Int), (List.length x ≤ maxLen ∧ ∀ (x_2 : Int), x_2 ∈ x → (-9223372036854775808 : Int) ≤ x_2 ∧ x_2 ≤ (9223372036854775807 : Int)) ∧ True ∧ ((-9223372036854775808 : Int) ≤ x_1 ∧
     x_1 ≤ (9223372036854775807 : Int)) ∧ True → True → (∃ (x_2 : Int), ((0 : Int) ≤ x_2 ∧ x_2 ≤ (↑(List.length x) : Int) ∧ allIn x_1 (List.take (Int.toNat x_2) x) = true) ∧ x = x ∧ x = x ∧ (↑(List.length
     x) : Int) = (↑(List.length x) : Int) ∧ (0 : Int) = x_2 ∧ x_1 = x_1 ∧ True) ∧ ∀ (x_2 : Int), (0 : Int) ≤ x_2 ∧ x_2 ≤ (↑(List.length x) : Int) ∧ allIn x_1 (List.take (Int.toNat x_2) x) = true → ifP
     (decide (x_2 < (↑(List.length x) : Int))) ((0 : Int) ≤ x_2 ∧ x_2 < (↑(List.length x) : Int) ∧ ifP (decide (List.getD x (Int.toNat x_2) default < (0 : Int) ∨ x_1 < List.getD x (Int.toNat x_2) default))
     (x_1 = x_1 ∧ (-1 : Int) ≤ x_2 ∧ (x_2 = (-1 : Int) ↔ allIn x_1 x = true)) (∃ (x_3 : Int), ((0 : Int) ≤ x_3 ∧ x_3 ≤ (↑(List.length x) : Int) ∧ allIn x_1 (List.take (Int.toNat x_3) x) = true) ∧ Int.toNat
     ((↑(List.length x) : Int) - x_3) < Int.toNat ((↑(List.length x) : Int) - x_2) ∧ x = x ∧ x = x ∧ (↑(List.length x) : Int) = (↑(List.length x) : Int) ∧ IntKind.wrap IntKind.i64 (x_2 + (1 : Int)) = x_3 ∧
     x_1 = x_1 ∧ True)) (x_1 = x_1 ∧ (-1 : Int) ≤ (-1 : Int) ∧ ((-1 : Int) = (-1 : Int) ↔ allIn x_1 x = true)) := by
  rintro l lim ⟨⟨hl, -⟩, -⟩ -
  simp only [maxLen] at hl
  refine ⟨⟨0, ⟨by omega, by omega, by simp [allIn]⟩, (by repeat' first | exact trivial | refine ⟨trivial, ?_⟩ | refine ⟨(by with_reducible rfl), ?_⟩ | refine ⟨w64 (by omega) (by omega), ?_⟩ | refine ⟨rfl, ?_⟩)⟩, ?_⟩
  rintro j ⟨j0, j1, j2⟩
  refine ifP_split (fun hj => ?_) (fun hj => ?_)
  · have hj := of_decide_eq_true hj
    have ht := take_snoc j0 hj
    have hm := getD_mem (xs := l) j0 hj
    generalize l.getD j.toNat default = x at *
    refine ⟨j0, hj, ifP_split (fun hb => ?_) (fun hb => ?_)⟩
    · have hb := of_decide_eq_true hb
      refine ⟨rfl, by omega, ⟨fun h => by omega, fun h => ?_⟩⟩
      unfold allIn at h
      have := of_decide_eq_true (List.all_eq_true.1 h x hm)
      omega
    · have hb := of_decide_eq_false hb
      refine ⟨j + 1, ⟨by omega, by omega, ?_⟩, by omega, (by repeat' first | exact trivial | refine ⟨trivial, ?_⟩ | refine ⟨(by with_reducible rfl), ?_⟩ | refine ⟨w64 (by omega) (by omega), ?_⟩ | refine ⟨rfl, ?_⟩)⟩
      rw [ht]; unfold allIn at j2 ⊢
      rw [List.all_append, j2]; simp; omega
  · have hj := of_decide_eq_false hj
    rw [List.take_of_length_le (by omega)] at j2
    simp [j2]
theorem ok_IndexWithin : SpecOK Tryz.prog GL 135 ct_IndexWithin.spec := Cn.ok' _ Tryz.func135 (by kernel_rfl) (withSpec_ok noSpecs_ok ok_transport_within_1) hmix an_IndexWithin (Eq.mpr (by kernel_rfl) vc_IndexWithin)

def ct_ContainsWithin : Ct := ⟨[.val (.sl cI), .fn 133 1, .box 3 cI], [.val .bool], fun _ => [], fun d => ((!allIn d.2.2.1 d.1, ()), (d.2.2.1, ()))⟩
def an_ContainsWithin : PDs ct_ContainsWithin.ps → Anns := (fun _ => {})
theorem vc_ContainsWithin :
    ∀ (x : List Int) (x_1 : Int), (List.length x ≤ maxLen ∧ ∀ (x_2 : Int), x_2 ∈ x → (-9223372036854775808 : Int) ≤ x_2 ∧ x_2 ≤ (9223372036854775807 : Int)) ∧ True ∧ ((-9223372036854775808 : Int) ≤ x_1 ∧
     x_1 ≤ (9223372036854775807 : Int)) ∧ True → True → ∀ (x_2 x_3 : Int), x_3 = x_1 ∧ (-1 : Int) ≤ x_2 ∧ (x_2 = (-1 : Int) ↔ allIn x_1 x = true) → decide ((0 : Int) ≤ x_2) = !allIn x_1 x ∧ x_3 = x_1 := by
  rintro l lim - - i b ⟨rfl, h1, h2⟩
  refine ⟨?_, rfl⟩
  cases h : allIn b l with
  | true => rw [h2.2 h]; rfl
  | false =>
    have : ¬ i = -1 := fun e => by rw [h2.1 e] at h; cases h
    simp; omega
theorem ok_ContainsWithin : SpecOK Tryz.prog GL 132 ct_ContainsWithin.spec := Ct.ok' _ Tryz.func132 (by kernel_rfl) (withSpec_ok noSpecs_ok ok_IndexWithin) hmix an_ContainsWithin (Eq.mpr (by kernel_rfl) vc_ContainsWithin)

def ct_transport_within : Ct := ⟨[.val cI, .val (.sl cI)], [.val .bool], fun _ => [], fun d => ((allIn d.1 d.2.1, ()), ())⟩
def an_transport_within : PDs ct_transport_within.ps → Anns := (fun _ => {})
theorem vc_transport_within :
    ∀ (x : Int) (x_1 : List Int), ((-9223372036854775808 : Int) ≤ x ∧ x ≤ (9223372036854775807 : Int)) ∧ (List.length x_1 ≤ maxLen ∧ ∀ (x : Int), x ∈ x_1 → (-9223372036854775808 : Int) ≤ x ∧ x ≤
     (9223372036854775807 : Int)) ∧ True → True → (!!allIn x x_1) = allIn x x_1 := by
  rintro lim l - -
  simp
theorem ok_transport_within : SpecOK Tryz.prog GL 123 ct_transport_within.spec := Ct.ok' _ Tryz.func123 (by kernel_rfl) (withSpec_ok noSpecs_ok ok_ContainsWithin) hmix an_transport_within (Eq.mpr (by kernel_rfl) vc_transport_within)
theorem flat_w2 (l : List Int) : (l.flatMap w2).length = 2 * l.length := by
  induction l with
  | nil => rfl
  | cons x l ih => rw [List.flatMap_cons, List.length_append, ih, List.length_cons]; simp [w2]; omega
theorem beT2 (n : Int) : beT n 2 2 = w2 n := by
  simp [beT, w2, List.range, List.range.loop]
theorem beT4 (n : Int) : beT n 4 4 = w4 n := by
  simp [beT, w4, List.range, List.range.loop]
theorem beT1 (n : Int) : beT n 1 1 = [n % 256] := by
  simp [beT, List.range, List.range.loop]
theorem putB_2 {b : List Int} {n : Int} (h0 : 0 ≤ n) (h1 : n ≤ 65535) : putB b n 2 = b ++ w2 n := by
  rw [putB, if_neg, ← beT2]
  · rfl
  · unfold putBad
    have : (256 : Int) ^ (2 : Int).toNat = 65536 := rfl
    rw [this]; omega
theorem putB_4 {b : List Int} {n : Int} (h0 : 0 ≤ n) (h1 : n ≤ 4294967295) : putB b n 4 = b ++ w4 n := by
  rw [putB, if_neg, ← beT4]
  · rfl
  · unfold putBad
    have : (256 : Int) ^ (4 : Int).toNat = 4294967296 := rfl
    rw [this]; omega
theorem putB_1 {b : List Int} {n : Int} (h0 : 0 ≤ n) (h1 : n ≤ 255) : putB b n 1 = b ++ [n] := by
  rw [putB, if_neg, show beT n (1 : Int).toNat (1 : Int).toNat = [n] from by
    have := beT1 n
    rw [Int.emod_eq_of_lt h0 (by omega)] at this
    exact this]
  unfold putBad
  have : (256 : Int) ^ (1 : Int).toNat = 256 := rfl
  rw [this]; omega
def ct_transport_put : Ct := ⟨[.nils, .val (.sl cI)], [.own 5 cU8], fun d => [allIn 65535 d.2.1 = true, (d.2.1.length : Int) ≤ 1073741824], fun d => ((d.2.1.flatMap w2, ()), ())⟩
def an_transport_put : PDs ct_transport_put.ps → Anns := (fun d => { loops := (fun n => match n with | 2 => some (fun S => { ι := Int × (List Int), qn := ⟨fun k_ => ∀ (j : Int) (ys : (List Int)), k_ (j, ys), fun k_ h_ i => h_ i.1 i.2, fun k_ => ∃ (j : Int) (ys : (List Int)), k_ (j, ys), fun k_ ⟨j, ys, h_⟩ => ⟨_, h_⟩⟩, μ := fun i => (d.2.1.length - i.1).toNat, inv := fun i => 0 ≤ i.1 ∧ i.1 ≤ d.2.1.length ∧ i.2 = (d.2.1.take i.1.toNat).flatMap w2, keep := [7, 8], slots := fun i => [(0, .own 524288 1), (9, .int .i64 i.1)], names := fun i => [(524288, .live (.row 5 cU8 i.2))] }) | _ => none) })
theorem vc_transport_put :
    ∀ (x : List Int), True ∧ (List.length x ≤ maxLen ∧ ∀ (x_1 : Int), x_1 ∈ x → (-9223372036854775808 : Int) ≤ x_1 ∧ x_1 ≤ (9223372036854775807 : Int)) ∧ True → allIn (65535 : Int) x = true ∧
     (↑(List.length x) : Int) ≤ (1073741824 : Int) → (∃ (j : Int), ∃ (ys : List Int), ((0 : Int) ≤ j ∧ j ≤ (↑(List.length x) : Int) ∧ ys = List.flatMap w2 (List.take (Int.toNat j) x)) ∧ x = x ∧
     (↑(List.length x) : Int) = (↑(List.length x) : Int) ∧ (0 : Int) = j ∧ ys = ([] : List Int) ∧ True) ∧ ∀ (j : Int) (ys : List Int), (0 : Int) ≤ j ∧ j ≤ (↑(List.length x) : Int) ∧ ys = List.flatMap w2
     (List.take (Int.toNat j) x) → ifP (decide (j < (↑(List.length x) : Int))) ((0 : Int) ≤ j ∧ j < (↑(List.length x) : Int) ∧ (↑(List.length ys) : Int) ≤ (1099511627776 : Int) ∧ ∃ (j_1 : Int), ∃ (ys_1 :
     List Int), ((0 : Int) ≤ j_1 ∧ j_1 ≤ (↑(List.length x) : Int) ∧ ys_1 = List.flatMap w2 (List.take (Int.toNat j_1) x)) ∧ Int.toNat ((↑(List.length x) : Int) - j_1) < Int.toNat ((↑(List.length x) : Int)
     - j) ∧ x = x ∧ (↑(List.length x) : Int) = (↑(List.length x) : Int) ∧ IntKind.wrap IntKind.i64 (j + (1 : Int)) = j_1 ∧ putB ys (List.getD x (Int.toNat j) default) (2 : Int) = ys_1 ∧ True) (ys =
     List.flatMap w2 x) := by
  rintro l ⟨-, ⟨hl, -⟩, -⟩ ⟨ha, hk⟩
  refine ⟨⟨0, [], ⟨by omega, by omega, by simp⟩, (by repeat' first | exact trivial | refine ⟨trivial, ?_⟩ | refine ⟨(by with_reducible rfl), ?_⟩ | refine ⟨w64 (by omega) (by omega), ?_⟩ | refine ⟨rfl, ?_⟩)⟩, ?_⟩
  rintro j ys ⟨j0, j1, rfl⟩
  refine ifP_split (fun hj => ?_) (fun hj => ?_)
  · have hj := of_decide_eq_true hj
    have ht := take_snoc j0 hj
    have hm := getD_mem (xs := l) j0 hj
    have hlen : ((l.take j.toNat).flatMap w2).length = 2 * j.toNat := by
      rw [flat_w2, List.length_take]; omega
    generalize l.getD j.toNat default = x at *
    have hx := of_decide_eq_true (List.all_eq_true.1 ha x hm)
    refine ⟨j0, hj, by omega, j + 1, _, ⟨by omega, by omega, rfl⟩, by omega, rfl, rfl, w64 (by omega) (by omega), ?_, trivial⟩
    rw [ht, List.flatMap_append, putB_2 hx.1 hx.2]; simp
  · have hj := of_decide_eq_false hj
    rw [List.take_of_length_le (by omega)]
theorem ok_transport_put : SpecOK Tryz.prog GL 124 ct_transport_put.spec := Ct.ok' _ Tryz.func124 (by kernel_rfl) (withSpec_ok noSpecs_ok ok_wire_Put) hmix an_transport_put (Eq.mpr (by kernel_rfl) vc_transport_put)

def ct_transport_word : Ct := ⟨[.val (.sl cU8), .val cI], [.val cI], fun d => [0 ≤ d.2.1, d.2.1 + 2 ≤ d.1.length, (d.1.length : Int) ≤ 1099511627776], fun d => ((wordAt d.1 d.2.1.toNat, ()), ())⟩
def an_transport_word : PDs ct_transport_word.ps → Anns := (fun _ => {})
theorem vc_transport_word :
    ∀ (x : List Int) (x_1 : Int), (List.length x ≤ maxLen ∧ ∀ (x_2 : Int), x_2 ∈ x → (0 : Int) ≤ x_2 ∧ x_2 ≤ (255 : Int)) ∧ ((-9223372036854775808 : Int) ≤ x_1 ∧ x_1 ≤ (9223372036854775807 : Int)) ∧ True
     → (0 : Int) ≤ x_1 ∧ x_1 + (2 : Int) ≤ (↑(List.length x) : Int) ∧ (↑(List.length x) : Int) ≤ (1099511627776 : Int) → (↑(List.length x) : Int) ≤ (1099511627776 : Int) ∧ getV x x_1 (2 : Int) = wordAt x
     (Int.toNat x_1) := by
  rintro b a - ⟨h0, h1, h2⟩
  refine ⟨h2, ?_⟩
  rw [getV, if_neg (by omega)]; rfl
theorem ok_transport_word : SpecOK Tryz.prog GL 116 ct_transport_word.spec := Ct.ok' _ Tryz.func116 (by kernel_rfl) (withSpec_ok noSpecs_ok ok_wire_Get) hmix an_transport_word (Eq.mpr (by kernel_rfl) vc_transport_word)
theorem shr8 {n : Int} (h0 : 0 ≤ n) : shrI .i64 n 8 = n / 256 := by
  have e := shr_pow (n := n) (k := 1) h0 (by omega)
  exact e
def ct_transport_replaced : Ct := ⟨[.val (.sl cU8), .val cI, .val cI], [.own 5 cU8], fun d => [0 ≤ d.2.1, d.2.1 + 2 ≤ d.1.length, (d.1.length : Int) ≤ 1099511627776, 0 ≤ d.2.2.1, d.2.2.1 ≤ 65535], fun d => ((setW d.1 d.2.1.toNat d.2.2.1, ()), ())⟩
def an_transport_replaced : PDs ct_transport_replaced.ps → Anns := (fun _ => {})
theorem vc_transport_replaced :
    ∀ (x : List Int) (x_1 x_2 : Int), (List.length x ≤ maxLen ∧ ∀ (x_3 : Int), x_3 ∈ x → (0 : Int) ≤ x_3 ∧ x_3 ≤ (255 : Int)) ∧ ((-9223372036854775808 : Int) ≤ x_1 ∧ x_1 ≤ (9223372036854775807 : Int)) ∧
     ((-9223372036854775808 : Int) ≤ x_2 ∧ x_2 ≤ (9223372036854775807 : Int)) ∧ True → (0 : Int) ≤ x_1 ∧ x_1 + (2 : Int) ≤ (↑(List.length x) : Int) ∧ (↑(List.length x) : Int) ≤ (1099511627776 : Int) ∧ (0 :
     Int) ≤ x_2 ∧ x_2 ≤ (65535 : Int) → (↑(List.length x) : Int) ≤ (1099511627776 : Int) ∧ (0 : Int) ≤ (8 : Int) ∧ (0 : Int) ≤ x_1 ∧ x_1 < (↑(List.length x) : Int) ∧ (0 : Int) ≤ IntKind.wrap IntKind.i64
     (x_1 + (1 : Int)) ∧ IntKind.wrap IntKind.i64 (x_1 + (1 : Int)) < (↑(List.length (List.set x (Int.toNat x_1) (IntKind.wrap IntKind.u8 (shrI IntKind.i64 x_2 (8 : Int))))) : Int) ∧ List.set (List.set x
     (Int.toNat x_1) (IntKind.wrap IntKind.u8 (shrI IntKind.i64 x_2 (8 : Int)))) (Int.toNat (IntKind.wrap IntKind.i64 (x_1 + (1 : Int)))) (IntKind.wrap IntKind.u8 x_2) = setW x (Int.toNat x_1) x_2 := by
  rintro b a n - ⟨h0, h1, h2, n0, n1⟩
  rw [w64 (n := a + 1) (by omega) (by omega), shr8 n0, IntKind.wrap_u8', IntKind.wrap_u8', List.length_set]
  refine ⟨by omega, by omega, by omega, by omega, by omega, by omega, ?_⟩
  rw [setW, show (a + 1).toNat = a.toNat + 1 from by omega]
theorem ok_transport_replaced : SpecOK Tryz.prog GL 130 ct_transport_replaced.spec := Ct.ok' _ Tryz.func130 (by kernel_rfl) (withSpec_ok noSpecs_ok ok_slices_Clone_b979) hmix an_transport_replaced (Eq.mpr (by kernel_rfl) vc_transport_replaced)

def ct_transport_limited : Ct := ⟨[.val (.sl cU8), .val cI, .val cI], [.own 5 cU8, .val cI], fun d => [0 ≤ d.2.1, d.2.1 + 2 ≤ d.1.length, (d.1.length : Int) ≤ 1099511627776, 0 ≤ d.2.2.1, d.2.2.1 ≤ 65535], fun d => ((if (1480 : Int) < d.1.length then [] else setW d.1 d.2.1.toNat d.2.2.1, if (1480 : Int) < d.1.length then 5 else 0, ()), ())⟩
def an_transport_limited : PDs ct_transport_limited.ps → Anns := (fun _ => {})
theorem vc_transport_limited :
    ∀ (x : List Int) (x_1 x_2 : Int), (List.length x ≤ maxLen ∧ ∀ (x_3 : Int), x_3 ∈ x → (0 : Int) ≤ x_3 ∧ x_3 ≤ (255 : Int)) ∧ ((-9223372036854775808 : Int) ≤ x_1 ∧ x_1 ≤ (9223372036854775807 : Int)) ∧
     ((-9223372036854775808 : Int) ≤ x_2 ∧ x_2 ≤ (9223372036854775807 : Int)) ∧ True → (0 : Int) ≤ x_1 ∧ x_1 + (2 : Int) ≤ (↑(List.length x) : Int) ∧ (↑(List.length x) : Int) ≤ (1099511627776 : Int) ∧ (0 :
     Int) ≤ x_2 ∧ x_2 ≤ (65535 : Int) → ifP (decide ((1480 : Int) < (↑(List.length x) : Int))) ((([] : List Int) = if (1480 : Int) < (↑(List.length x) : Int) then ([] : List Int) else setW x (Int.toNat
     x_1) x_2) ∧ (5 : Int) = if (1480 : Int) < (↑(List.length x) : Int) then (5 : Int) else (0 : Int)) ((0 : Int) ≤ x_1 ∧ x_1 + (2 : Int) ≤ (↑(List.length x) : Int) ∧ (↑(List.length x) : Int) ≤
     (1099511627776 : Int) ∧ (0 : Int) ≤ x_2 ∧ x_2 ≤ (65535 : Int) ∧ (setW x (Int.toNat x_1) x_2 = if (1480 : Int) < (↑(List.length x) : Int) then ([] : List Int) else setW x (Int.toNat x_1) x_2) ∧ (0 :
     Int) = if (1480 : Int) < (↑(List.length x) : Int) then (5 : Int) else (0 : Int)) := by
  rintro b a n - ⟨h0, h1, h2, n0, n1⟩
  refine ifP_split (fun hb => ?_) (fun hb => ?_)
  · have hb := of_decide_eq_true hb
    rw [if_pos hb, if_pos hb]; exact ⟨rfl, rfl⟩
  · have hb := of_decide_eq_false hb
    rw [if_neg hb, if_neg hb]; exact ⟨h0, h1, h2, n0, n1, rfl, rfl⟩
theorem ok_transport_limited : SpecOK Tryz.prog GL 125 ct_transport_limited.spec := Ct.ok' _ Tryz.func125 (by kernel_rfl) (withSpec_ok noSpecs_ok ok_transport_replaced) hmix an_transport_limited (Eq.mpr (by kernel_rfl) vc_transport_limited)

def ct_transport_bare : Ct := ⟨[.val (.sl cU8), .val cI], [.own 5 cU8, .val cI], fun d => [0 ≤ d.2.1, d.2.1 + 2 ≤ d.1.length, (d.1.length : Int) ≤ 1099511627776], fun d => ((setW d.1 d.2.1.toNat 0, wordAt d.1 d.2.1.toNat, ()), ())⟩
def an_transport_bare : PDs ct_transport_bare.ps → Anns := (fun _ => {})
theorem vc_transport_bare :
    ∀ (x : List Int) (x_1 : Int), (List.length x ≤ maxLen ∧ ∀ (x_2 : Int), x_2 ∈ x → (0 : Int) ≤ x_2 ∧ x_2 ≤ (255 : Int)) ∧ ((-9223372036854775808 : Int) ≤ x_1 ∧ x_1 ≤ (9223372036854775807 : Int)) ∧ True
     → (0 : Int) ≤ x_1 ∧ x_1 + (2 : Int) ≤ (↑(List.length x) : Int) ∧ (↑(List.length x) : Int) ≤ (1099511627776 : Int) → (0 : Int) ≤ x_1 ∧ x_1 + (2 : Int) ≤ (↑(List.length x) : Int) ∧ (↑(List.length x) :
     Int) ≤ (1099511627776 : Int) ∧ (0 : Int) ≤ (0 : Int) ∧ (0 : Int) ≤ (65535 : Int) ∧ (0 : Int) ≤ x_1 ∧ x_1 + (2 : Int) ≤ (↑(List.length x) : Int) ∧ (↑(List.length x) : Int) ≤ (1099511627776 : Int) ∧
     setW x (Int.toNat x_1) (0 : Int) = setW x (Int.toNat x_1) (0 : Int) ∧ wordAt x (Int.toNat x_1) = wordAt x (Int.toNat x_1) := by
  rintro b a - ⟨h0, h1, h2⟩
  exact ⟨h0, h1, h2, by omega, by omega, h0, h1, h2, rfl, rfl⟩
theorem ok_transport_bare : SpecOK Tryz.prog GL 115 ct_transport_bare.spec := Ct.ok' _ Tryz.func115 (by kernel_rfl) (withSpec_ok (withSpec_ok noSpecs_ok ok_transport_replaced) ok_transport_word) hmix an_transport_bare (Eq.mpr (by kernel_rfl) vc_transport_bare)

def ct_ref06_put : Ct := ⟨[.val (.sl cU8), .val cI, .val cI], [.own 5 cU8], fun d => [0 ≤ d.2.1, d.2.1 + 2 ≤ d.1.length, (d.1.length : Int) ≤ 1099511627776, 0 ≤ d.2.2.1, d.2.2.1 ≤ 65535], fun d => ((setW d.1 d.2.1.toNat d.2.2.1, ()), ())⟩
def an_ref06_put : PDs ct_ref06_put.ps → Anns := (fun _ => {})
theorem vc_ref06_put :
    ∀ (x : List Int) (x_1 x_2 : Int), (List.length x ≤ maxLen ∧ ∀ (x_3 : Int), x_3 ∈ x → (0 : Int) ≤ x_3 ∧ x_3 ≤ (255 : Int)) ∧ ((-9223372036854775808 : Int) ≤ x_1 ∧ x_1 ≤ (9223372036854775807 : Int)) ∧
     ((-9223372036854775808 : Int) ≤ x_2 ∧ x_2 ≤ (9223372036854775807 : Int)) ∧ True → (0 : Int) ≤ x_1 ∧ x_1 + (2 : Int) ≤ (↑(List.length x) : Int) ∧ (↑(List.length x) : Int) ≤ (1099511627776 : Int) ∧ (0 :
     Int) ≤ x_2 ∧ x_2 ≤ (65535 : Int) → List.length x * (1 : Nat) ≤ (140737488355328 : Nat) ∧ (0 : Int) ≤ (8 : Int) ∧ (0 : Int) ≤ x_1 ∧ x_1 < (↑(List.length x) : Int) ∧ (0 : Int) ≤ IntKind.wrap IntKind.i64
     (x_1 + (1 : Int)) ∧ IntKind.wrap IntKind.i64 (x_1 + (1 : Int)) < (↑(List.length (List.set x (Int.toNat x_1) (IntKind.wrap IntKind.u8 (shrI IntKind.i64 x_2 (8 : Int))))) : Int) ∧ List.set (List.set x
     (Int.toNat x_1) (IntKind.wrap IntKind.u8 (shrI IntKind.i64 x_2 (8 : Int)))) (Int.toNat (IntKind.wrap IntKind.i64 (x_1 + (1 : Int)))) (IntKind.wrap IntKind.u8 x_2) = setW x (Int.toNat x_1) x_2 := by
  rintro b a n - ⟨h0, h1, h2, n0, n1⟩
  rw [w64 (n := a + 1) (by omega) (by omega), shr8 n0, IntKind.wrap_u8', IntKind.wrap_u8', List.length_set]
  refine ⟨by omega, by omega, by omega, by omega, by omega, by omega, ?_⟩
  rw [setW, show (a + 1).toNat = a.toNat + 1 from by omega]
theorem ok_ref06_put : SpecOK Tryz.prog GL 97 ct_ref06_put.spec := Ct.ok' _ Tryz.func97 (by kernel_rfl) noSpecs_ok hmix an_ref06_put (Eq.mpr (by kernel_rfl) vc_ref06_put)

def ct_ref06_word : Ct := ⟨[.val cI], [.val .bool], fun d => [], fun d => ((word16 d.1, ()), ())⟩
def an_ref06_word : PDs ct_ref06_word.ps → Anns := (fun _ => {})
theorem vc_ref06_word :
    ∀ (x : Int), ((-9223372036854775808 : Int) ≤ x ∧ x ≤ (9223372036854775807 : Int)) ∧ True → True → ∀ (b : Bool), b = decide ((0 : Int) ≤ x) → (b = true → (b = true → b = true) ∧ True) ∧ (b = true → b =
     true) ∧ (bif b then decide (x ≤ (65535 : Int)) else false) = word16 x := by
  rintro n - -
  (repeat (intro (b_ : Bool) (hb_ : b_ = _); (repeat refine ⟨(by first | (simp; done) | (rw [hb_]; simp; done) | (rw [hb_]; simp; omega) | (rw [hb_]; simp; intros; omega) | (rw [hb_]; simp +contextual; done)), ?_⟩); subst hb_))
  unfold word16
  by_cases h : 0 ≤ n <;> simp [h] <;> omega
theorem ok_ref06_word : SpecOK Tryz.prog GL 106 ct_ref06_word.spec := Ct.ok' _ Tryz.func106 (by kernel_rfl) noSpecs_ok hmix an_ref06_word (Eq.mpr (by kernel_rfl) vc_ref06_word)

def ct_ref06_octet : Ct := ⟨[.val cI], [.val .bool], fun d => [], fun d => ((decide (0 ≤ d.1 ∧ d.1 ≤ 255), ()), ())⟩
def an_ref06_octet : PDs ct_ref06_octet.ps → Anns := (fun _ => {})
theorem vc_ref06_octet :
    ∀ (x : Int), ((-9223372036854775808 : Int) ≤ x ∧ x ≤ (9223372036854775807 : Int)) ∧ True → True → ∀ (b : Bool), b = decide ((0 : Int) ≤ x) → (b = true → (b = true → b = true) ∧ True) ∧ (b = true → b =
     true) ∧ (bif b then decide (x ≤ (255 : Int)) else false) = decide ((0 : Int) ≤ x ∧ x ≤ (255 : Int)) := by
  rintro n - -
  (repeat (intro (b_ : Bool) (hb_ : b_ = _); (repeat refine ⟨(by first | (simp; done) | (rw [hb_]; simp; done) | (rw [hb_]; simp; omega) | (rw [hb_]; simp; intros; omega) | (rw [hb_]; simp +contextual; done)), ?_⟩); subst hb_))
  by_cases h : 0 ≤ n <;> simp [h] <;> omega
theorem ok_ref06_octet : SpecOK Tryz.prog GL 96 ct_ref06_octet.spec := Ct.ok' _ Tryz.func96 (by kernel_rfl) noSpecs_ok hmix an_ref06_octet (Eq.mpr (by kernel_rfl) vc_ref06_octet)

def ct_ref06_long : Ct := ⟨[.val cI], [.val .bool], fun d => [], fun d => ((decide (0 ≤ d.1 ∧ d.1 ≤ 4294967295), ()), ())⟩
def an_ref06_long : PDs ct_ref06_long.ps → Anns := (fun _ => {})
theorem vc_ref06_long :
    ∀ (x : Int), ((-9223372036854775808 : Int) ≤ x ∧ x ≤ (9223372036854775807 : Int)) ∧ True → True → ∀ (b : Bool), b = decide ((0 : Int) ≤ x) → (b = true → (b = true → b = true) ∧ True) ∧ (b = true → b =
     true) ∧ (bif b then decide (x < (4294967296 : Int)) else false) = decide ((0 : Int) ≤ x ∧ x ≤ (4294967295 : Int)) := by
  rintro n - -
  (repeat (intro (b_ : Bool) (hb_ : b_ = _); (repeat refine ⟨(by first | (simp; done) | (rw [hb_]; simp; done) | (rw [hb_]; simp; omega) | (rw [hb_]; simp; intros; omega) | (rw [hb_]; simp +contextual; done)), ?_⟩); subst hb_))
  by_cases h : 0 ≤ n <;> simp [h] <;> omega
theorem ok_ref06_long : SpecOK Tryz.prog GL 107 ct_ref06_long.spec := Ct.ok' _ Tryz.func107 (by kernel_rfl) noSpecs_ok hmix an_ref06_long (Eq.mpr (by kernel_rfl) vc_ref06_long)
/-- Echoes: the error, the bytes. -/
def echoErr (e : Echo) : Int := if ¬ (word16 e.2.1 = true ∧ word16 e.2.2.1 = true) then 1 else if (1472 : Int) < e.2.2.2.length then 5 else 0
def echoBody (e : Echo) : List Int := [if e.1 then 0 else 8, 0, 0, 0] ++ (w2 e.2.1 ++ (w2 e.2.2.1 ++ e.2.2.2))
def echoEnc (e : Echo) : List Int := if echoErr e = 0 then setW (echoBody e) 2 (csum (echoBody e)) else []
def noticeErr (n : Notice) : Int := if ¬ ((n.1 = 3 ∨ n.1 = 11) ∧ 0 ≤ n.2.1 ∧ n.2.1 ≤ 255) then 1 else if (n.2.2.length : Int) < 28 then 3 else if (1472 : Int) < n.2.2.length then 5 else 0
def noticeBody (n : Notice) : List Int := [n.1, n.2.1, 0, 0, 0, 0, 0, 0] ++ n.2.2
def noticeEnc (n : Notice) : List Int := if noticeErr n = 0 then setW (noticeBody n) 2 (csum (noticeBody n)) else []
def pseudoB (src dst proto : Int) (b : List Int) : List Int := w4 src ++ (w4 dst ++ (w2 proto ++ (w2 b.length ++ b)))
def pseudo (src dst proto : Int) (b : List Int) : Int := if ¬ (0 ≤ proto ∧ proto ≤ 255) ∨ (65535 : Int) < b.length then 0 else csum (pseudoB src dst proto b)
def sumU (src dst : Int) (b : List Int) : Int := if pseudo src dst 17 b = 0 then 65535 else pseudo src dst 17 b
def udpErr (u : Dgram) : Int := if ¬ (word16 u.1 = true ∧ word16 u.2.1 = true) then 1 else if (1472 : Int) < u.2.2.length then 5 else 0
def udpBody (u : Dgram) : List Int := w2 u.1 ++ (w2 u.2.1 ++ (w2 (8 + u.2.2.length) ++ ([0, 0] ++ u.2.2)))
def udpEnc (src dst : Int) (u : Dgram) : List Int := if udpErr u = 0 then setW (udpBody u) 6 (sumU src dst (udpBody u)) else []
def tcpOK (s : Seg) : Prop := word16 s.1 = true ∧ word16 s.2.1 = true ∧ (0 ≤ s.2.2.1 ∧ s.2.2.1 ≤ 4294967295) ∧ (0 ≤ s.2.2.2.1 ∧ s.2.2.2.1 ≤ 4294967295) ∧ (0 ≤ s.2.2.2.2.1 ∧ s.2.2.2.2.1 ≤ 255) ∧ word16 s.2.2.2.2.2.1 = true
instance (s : Seg) : Decidable (tcpOK s) := by unfold tcpOK; infer_instance
def tcpErr (s : Seg) : Int := if ¬ tcpOK s then 1 else if (1460 : Int) < s.2.2.2.2.2.2.length then 5 else 0
def tcpBody (s : Seg) : List Int := w2 s.1 ++ (w2 s.2.1 ++ (w4 s.2.2.1 ++ (w4 s.2.2.2.1 ++ ([80, s.2.2.2.2.1] ++ (w2 s.2.2.2.2.2.1 ++ ([0, 0, 0, 0] ++ s.2.2.2.2.2.2))))))
def tcpEnc (src dst : Int) (s : Seg) : List Int := if tcpErr s = 0 then setW (tcpBody s) 16 (pseudo src dst 6 (tcpBody s)) else []
def bytes (l : List Int) : Prop := ∀ x ∈ l, 0 ≤ x ∧ x ≤ 255
theorem bytes_app {a b : List Int} (ha : bytes a) (hb : bytes b) : bytes (a ++ b) := fun x h => (List.mem_append.1 h).elim (ha x) (hb x)
theorem bytes_w2 (n : Int) : bytes (w2 n) := by intro x h; simp [w2] at h; omega
theorem bytes_w4 (n : Int) : bytes (w4 n) := by intro x h; simp [w4] at h; omega
theorem bytes_cons {a : Int} {l : List Int} (h0 : 0 ≤ a) (h1 : a ≤ 255) (h : bytes l) : bytes (a :: l) := by
  intro x hx
  rcases List.mem_cons.1 hx with rfl | hx
  · exact ⟨h0, h1⟩
  · exact h x hx
theorem bytes_nil : bytes [] := by intro x h; cases h
theorem csum_range {b : List Int} (h : bytes b) : 0 ≤ csum b ∧ csum b ≤ 65535 := by
  have := oc_range (sumF_range true b h).1
  unfold csum; omega
theorem lim_fin {p data B enc : List Int} {a c err : Int} (hp : p ++ data = B) (ha : 0 ≤ a) (h8 : a + 2 ≤ p.length) (hp1 : p.length ≤ 100) (hd : (data.length : Int) ≤ 1073741824) (c0 : 0 ≤ c) (c1 : c ≤ 65535)
    (he : enc = if (1480 : Int) < B.length then [] else setW B a.toNat c) (hr : err = if (1480 : Int) < B.length then 5 else 0) :
    0 ≤ a ∧ a + 2 ≤ ((p ++ data).length : Int) ∧ ((p ++ data).length : Int) ≤ 1099511627776 ∧ 0 ≤ c ∧ c ≤ 65535 ∧ (if (1480 : Int) < ((p ++ data).length : Int) then [] else setW (p ++ data) a.toNat c) = enc ∧ (if (1480 : Int) < ((p ++ data).length : Int) then (5 : Int) else 0) = err := by
  have hl : (p ++ data).length = p.length + data.length := List.length_append
  rw [hp] at hl ⊢
  exact ⟨ha, by omega, by omega, c0, c1, he.symm, hr.symm⟩
theorem app_lim {p data : List Int} (hp1 : p.length ≤ 100) (hd : (data.length : Int) ≤ 1073741824) : (p.length + data.length) * 1 ≤ 140737488355328 ∧ ((p ++ data).length : Int) ≤ 1099511627776 := by
  rw [List.length_append]; omega
theorem allIn2 (lim a b : Int) : allIn lim [a, b] = true ↔ (0 ≤ a ∧ a ≤ lim) ∧ 0 ≤ b ∧ b ≤ lim := by simp [allIn]
theorem allIn1 (lim a : Int) : allIn lim [a] = true ↔ 0 ≤ a ∧ a ≤ lim := by simp [allIn]
theorem word16_iff (n : Int) : word16 n = true ↔ 0 ≤ n ∧ n ≤ 65535 := by simp [word16]
theorem echo_len (e : Echo) : (echoBody e).length = 8 + e.2.2.2.length := by simp [echoBody, w2]; omega
theorem echo_bad {e : Echo} (h : ¬ (word16 e.2.1 = true ∧ word16 e.2.2.1 = true)) : [] = echoEnc e ∧ 1 = echoErr e := by
  have : echoErr e = 1 := by rw [echoErr, if_pos h]
  rw [echoEnc, this]; simp
theorem echo_ok {e : Echo} (h : word16 e.2.1 = true ∧ word16 e.2.2.1 = true) : (echoEnc e = if (1480 : Int) < (echoBody e).length then [] else setW (echoBody e) 2 (csum (echoBody e))) ∧ echoErr e = if (1480 : Int) < (echoBody e).length then 5 else 0 := by
  have hl := echo_len e
  have he : echoErr e = if (1480 : Int) < (echoBody e).length then 5 else 0 := by
    rw [echoErr, if_neg (fun k => k h)]
    by_cases hd : (1472 : Int) < e.2.2.2.length
    · rw [if_pos hd, if_pos (by omega)]
    · rw [if_neg hd, if_neg (by omega)]
  refine ⟨?_, he⟩
  rw [echoEnc, he]
  by_cases hd : (1480 : Int) < (echoBody e).length
  · rw [if_pos hd, if_pos hd]; rfl
  · rw [if_neg hd, if_neg hd]; rfl
theorem echo_bytes {e : Echo} (h : bytes e.2.2.2) : bytes (echoBody e) := by
  refine bytes_app (bytes_cons ?_ ?_ (bytes_cons (by omega) (by omega) (bytes_cons (by omega) (by omega) (bytes_cons (by omega) (by omega) bytes_nil)))) (bytes_app (bytes_w2 _) (bytes_app (bytes_w2 _) h))
  · split <;> omega
  · split <;> omega
theorem w2_split (n : Int) (r : List Int) : w2 (n / 65536) ++ (w2 (n % 65536) ++ r) = w4 n ++ r := by
  unfold w2 w4
  simp only [List.cons_append, List.nil_append]
  have e1 : n / 65536 / 256 % 256 = n / 16777216 % 256 := by omega
  have e2 : n % 65536 / 256 % 256 = n / 256 % 256 := by omega
  have e3 : n % 65536 % 256 = n % 256 := by omega
  rw [e1, e2, e3]
theorem w2_pair {t k : Int} (t0 : 0 ≤ t) (t1 : t ≤ 255) (k0 : 0 ≤ k) (k1 : k ≤ 255) : w2 (t * 256 + k) = [t, k] := by
  unfold w2
  have e1 : (t * 256 + k) / 256 % 256 = t := by omega
  have e2 : (t * 256 + k) % 256 = k := by omega
  rw [e1, e2]
theorem or8' {n x : Int} (h0 : 0 ≤ n) (h1 : n ≤ 65535) (h2 : 0 ≤ x) (h3 : x ≤ 255) : bits .or .i64 (shlI .i64 n 8) x = n * 256 + x := by
  have := or8 h0 (by omega) h2 h3
  rwa [w64 (n := x) (by omega) (by omega)] at this
theorem shr16 {n : Int} (h0 : 0 ≤ n) : shrI .i64 n 16 = n / 65536 := by
  have e := shr_pow (n := n) (k := 2) h0 (by omega)
  exact e
theorem shr16u {n : Int} (h0 : 0 ≤ n) (h1 : n ≤ 4294967295) : IntKind.wrap .i64 (shrI .u32 n 16) = n / 65536 := by
  have : shrI .u32 n 16 = n / 65536 := by
    unfold shrI
    rw [Int.fdiv_eq_ediv_of_nonneg _ (by decide)]
    rfl
  rw [this, w64 (by omega) (by omega)]
theorem and16u {n : Int} (h0 : 0 ≤ n) (h1 : n ≤ 4294967295) : IntKind.wrap .i64 (bits .and .u32 n 65535) = n % 65536 := by
  rw [u32_and n 65535 h0 (by omega) (by decide) (by decide)]
  have : (n.toNat &&& Int.toNat 65535) = n.toNat % 65536 := Nat.and_two_pow_sub_one_eq_mod n.toNat 16
  rw [this, w64 (by omega) (by omega)]; omega
theorem notice_len (e : Notice) : (noticeBody e).length = 8 + e.2.2.length := by simp [noticeBody]; omega
theorem notice_bad {e : Notice} (h : ¬ ((e.1 = 3 ∨ e.1 = 11) ∧ 0 ≤ e.2.1 ∧ e.2.1 ≤ 255)) : [] = noticeEnc e ∧ 1 = noticeErr e := by
  have : noticeErr e = 1 := by rw [noticeErr, if_pos h]
  rw [noticeEnc, this]; simp
theorem notice_short {e : Notice} (h : (e.1 = 3 ∨ e.1 = 11) ∧ 0 ≤ e.2.1 ∧ e.2.1 ≤ 255) (h2 : (e.2.2.length : Int) < 28) : [] = noticeEnc e ∧ 3 = noticeErr e := by
  have : noticeErr e = 3 := by rw [noticeErr, if_neg (fun k => k h), if_pos h2]
  rw [noticeEnc, this]; simp
theorem notice_ok {e : Notice} (h : (e.1 = 3 ∨ e.1 = 11) ∧ 0 ≤ e.2.1 ∧ e.2.1 ≤ 255) (h2 : ¬ (e.2.2.length : Int) < 28) : (noticeEnc e = if (1480 : Int) < (noticeBody e).length then [] else setW (noticeBody e) 2 (csum (noticeBody e))) ∧ noticeErr e = if (1480 : Int) < (noticeBody e).length then 5 else 0 := by
  have hl := notice_len e
  have he : noticeErr e = if (1480 : Int) < (noticeBody e).length then 5 else 0 := by
    rw [noticeErr, if_neg (fun k => k h), if_neg h2]
    by_cases hd : (1472 : Int) < e.2.2.length
    · rw [if_pos hd, if_pos (by omega)]
    · rw [if_neg hd, if_neg (by omega)]
  refine ⟨?_, he⟩
  rw [noticeEnc, he]
  by_cases hd : (1480 : Int) < (noticeBody e).length
  · rw [if_pos hd, if_pos hd]; rfl
  · rw [if_neg hd, if_neg hd]; rfl
theorem notice_bytes {e : Notice} (h : (e.1 = 3 ∨ e.1 = 11) ∧ 0 ≤ e.2.1 ∧ e.2.1 ≤ 255) (hd : bytes e.2.2) : bytes (noticeBody e) := by
  refine bytes_app (bytes_cons (by omega) (by omega) (bytes_cons h.2.1 h.2.2 ?_)) hd
  intro x hx; simp at hx; omega
theorem udp_len (e : Dgram) : (udpBody e).length = 8 + e.2.2.length := by simp [udpBody, w2]; omega
theorem udp_bad {a b : Int} {e : Dgram} (h : ¬ (word16 e.1 = true ∧ word16 e.2.1 = true)) : [] = udpEnc a b e ∧ 1 = udpErr e := by
  have : udpErr e = 1 := by rw [udpErr, if_pos h]
  rw [udpEnc, this]; simp
theorem udp_ok {a b : Int} {e : Dgram} (h : word16 e.1 = true ∧ word16 e.2.1 = true) : (udpEnc a b e = if (1480 : Int) < (udpBody e).length then [] else setW (udpBody e) 6 (sumU a b (udpBody e))) ∧ udpErr e = if (1480 : Int) < (udpBody e).length then 5 else 0 := by
  have hl := udp_len e
  have he : udpErr e = if (1480 : Int) < (udpBody e).length then 5 else 0 := by
    rw [udpErr, if_neg (fun k => k h)]
    by_cases hd : (1472 : Int) < e.2.2.length
    · rw [if_pos hd, if_pos (by omega)]
    · rw [if_neg hd, if_neg (by omega)]
  refine ⟨?_, he⟩
  rw [udpEnc, he]
  by_cases hd : (1480 : Int) < (udpBody e).length
  · rw [if_pos hd, if_pos hd]; rfl
  · rw [if_neg hd, if_neg hd]; rfl
theorem udp_bytes {e : Dgram} (h : bytes e.2.2) : bytes (udpBody e) :=
  bytes_app (bytes_w2 _) (bytes_app (bytes_w2 _) (bytes_app (bytes_w2 _) (bytes_app (bytes_cons (by omega) (by omega) (bytes_cons (by omega) (by omega) bytes_nil)) h)))
theorem tcp_len (e : Seg) : (tcpBody e).length = 20 + e.2.2.2.2.2.2.length := by simp [tcpBody, w2, w4]; omega
theorem tcp_bad {a b : Int} {e : Seg} (h : ¬ tcpOK e) : [] = tcpEnc a b e ∧ 1 = tcpErr e := by
  have : tcpErr e = 1 := by rw [tcpErr, if_pos h]
  rw [tcpEnc, this]; simp
theorem tcp_ok {a b : Int} {e : Seg} (h : tcpOK e) : (tcpEnc a b e = if (1480 : Int) < (tcpBody e).length then [] else setW (tcpBody e) 16 (pseudo a b 6 (tcpBody e))) ∧ tcpErr e = if (1480 : Int) < (tcpBody e).length then 5 else 0 := by
  have hl := tcp_len e
  have he : tcpErr e = if (1480 : Int) < (tcpBody e).length then 5 else 0 := by
    rw [tcpErr, if_neg (fun k => k h)]
    by_cases hd : (1460 : Int) < e.2.2.2.2.2.2.length
    · rw [if_pos hd, if_pos (by omega)]
    · rw [if_neg hd, if_neg (by omega)]
  refine ⟨?_, he⟩
  rw [tcpEnc, he]
  by_cases hd : (1480 : Int) < (tcpBody e).length
  · rw [if_pos hd, if_pos hd]; rfl
  · rw [if_neg hd, if_neg hd]; rfl
theorem tcp_bytes {e : Seg} (h : tcpOK e) (hd : bytes e.2.2.2.2.2.2) : bytes (tcpBody e) := by
  obtain ⟨-, -, -, -, hf, -⟩ := h
  refine bytes_app (bytes_w2 _) (bytes_app (bytes_w2 _) (bytes_app (bytes_w4 _) (bytes_app (bytes_w4 _) (bytes_app (bytes_cons (by omega) (by omega) (bytes_cons hf.1 hf.2 bytes_nil)) (bytes_app (bytes_w2 _) (bytes_app ?_ hd))))))
  intro x hx; simp at hx; omega
theorem pseudo_bytes {a b p : Int} {l : List Int} (h : bytes l) : bytes (pseudoB a b p l) := bytes_app (bytes_w4 _) (bytes_app (bytes_w4 _) (bytes_app (bytes_w2 _) (bytes_app (bytes_w2 _) h)))
theorem pseudo_range {a b p : Int} {l : List Int} (h : bytes l) : 0 ≤ pseudo a b p l ∧ pseudo a b p l ≤ 65535 := by
  unfold pseudo; split
  · omega
  · exact csum_range (pseudo_bytes h)
theorem sumU_range {a b : Int} {l : List Int} (h : bytes l) : 0 ≤ sumU a b l ∧ sumU a b l ≤ 65535 := by
  have := pseudo_range (a := a) (b := b) (p := 17) h
  unfold sumU; split <;> omega
theorem low5 {err n : Int} (h : err = if (1480 : Int) < n then 5 else 0) (hn : ¬ (1480 : Int) < n) : 0 = err := by rw [h, if_neg hn]
def ct_transport_EncodeEcho : Ct := ⟨[.agg cEcho], [.own 5 cU8, .val cI], fun d => [(d.1.2.2.2.length : Int) ≤ 1073741824], fun d => ((echoEnc d.1, echoErr d.1, ()), ())⟩
def an_transport_EncodeEcho : PDs ct_transport_EncodeEcho.ps → Anns := (fun _ => {})
theorem vc_transport_EncodeEcho :
    ∀ (x : Bool) (x_1 x_2 : Int) (x_3 : List Int), (True ∧ ((-9223372036854775808 : Int) ≤ x_1 ∧ x_1 ≤ (9223372036854775807 : Int)) ∧ ((-9223372036854775808 : Int) ≤ x_2 ∧ x_2 ≤ (9223372036854775807 :
     Int)) ∧ List.length x_3 ≤ maxLen ∧ ∀ (x : Int), x ∈ x_3 → (0 : Int) ≤ x ∧ x ≤ (255 : Int)) ∧ True → (↑(List.length x_3) : Int) ≤ (1073741824 : Int) → ifP (!allIn (65535 : Int) [x_1, x_2]) (([] : List
     Int) = echoEnc (x, x_1, x_2, x_3) ∧ (1 : Int) = echoErr (x, x_1, x_2, x_3)) (ifP x ((0 : Int) ≤ (8 : Int) ∧ allIn (65535 : Int) [shlI IntKind.i64 (0 : Int) (8 : Int), (0 : Int), x_1, x_2] = true ∧
     (↑(List.length [shlI IntKind.i64 (0 : Int) (8 : Int), (0 : Int), x_1, x_2]) : Int) ≤ (1073741824 : Int) ∧ ∀ (x_4 : List Int), x_4 = List.flatMap w2 [shlI IntKind.i64 (0 : Int) (8 : Int), (0 : Int),
     x_1, x_2] → (List.length x_4 + List.length x_3) * (1 : Nat) ≤ (140737488355328 : Nat) ∧ (↑(List.length (x_4 ++ x_3)) : Int) ≤ (1099511627776 : Int) ∧ ∀ (x_5 : Int), x_5 = (65535 : Int) - oc (sumF true
     (x_4 ++ x_3)) → (0 : Int) ≤ (2 : Int) ∧ (2 : Int) + (2 : Int) ≤ (↑(List.length (x_4 ++ x_3)) : Int) ∧ (↑(List.length (x_4 ++ x_3)) : Int) ≤ (1099511627776 : Int) ∧ (0 : Int) ≤ x_5 ∧ x_5 ≤ (65535 :
     Int) ∧ (if (1480 : Int) < (↑(List.length (x_4 ++ x_3)) : Int) then ([] : List Int) else setW (x_4 ++ x_3) (Int.toNat (2 : Int)) x_5) = echoEnc (x, x_1, x_2, x_3) ∧ (if (1480 : Int) < (↑(List.length
     (x_4 ++ x_3)) : Int) then (5 : Int) else (0 : Int)) = echoErr (x, x_1, x_2, x_3)) ((0 : Int) ≤ (8 : Int) ∧ allIn (65535 : Int) [shlI IntKind.i64 (8 : Int) (8 : Int), (0 : Int), x_1, x_2] = true ∧
     (↑(List.length [shlI IntKind.i64 (8 : Int) (8 : Int), (0 : Int), x_1, x_2]) : Int) ≤ (1073741824 : Int) ∧ ∀ (x_4 : List Int), x_4 = List.flatMap w2 [shlI IntKind.i64 (8 : Int) (8 : Int), (0 : Int),
     x_1, x_2] → (List.length x_4 + List.length x_3) * (1 : Nat) ≤ (140737488355328 : Nat) ∧ (↑(List.length (x_4 ++ x_3)) : Int) ≤ (1099511627776 : Int) ∧ ∀ (x_5 : Int), x_5 = (65535 : Int) - oc (sumF true
     (x_4 ++ x_3)) → (0 : Int) ≤ (2 : Int) ∧ (2 : Int) + (2 : Int) ≤ (↑(List.length (x_4 ++ x_3)) : Int) ∧ (↑(List.length (x_4 ++ x_3)) : Int) ≤ (1099511627776 : Int) ∧ (0 : Int) ≤ x_5 ∧ x_5 ≤ (65535 :
     Int) ∧ (if (1480 : Int) < (↑(List.length (x_4 ++ x_3)) : Int) then ([] : List Int) else setW (x_4 ++ x_3) (Int.toNat (2 : Int)) x_5) = echoEnc (x, x_1, x_2, x_3) ∧ (if (1480 : Int) < (↑(List.length
     (x_4 ++ x_3)) : Int) then (5 : Int) else (0 : Int)) = echoErr (x, x_1, x_2, x_3))) := by
  rintro r i q data ⟨⟨-, -, -, -, hd⟩, -⟩ hl
  refine ifP_split (fun h => ?_) (fun h => ?_)
  · apply echo_bad
    simp only [Bool.not_eq_true', ← Bool.not_eq_true, allIn2] at h
    simp only [word16_iff]; exact h
  have hw : word16 i = true ∧ word16 q = true := by
    simp only [Bool.not_eq_false', allIn2] at h
    simp only [word16_iff]; exact h
  have hw' := hw
  simp only [word16_iff] at hw'
  obtain ⟨e1, e2⟩ := echo_ok (e := (r, i, q, data)) hw
  have hB := csum_range (echo_bytes (e := (r, i, q, data)) hd)
  cases r with
  | true =>
    refine ifP_split (fun _ => ?_) (fun hr => by cases hr)
    refine ⟨by omega, by rw [show shlI .i64 0 8 = 0 from by decide]; simp [allIn]; omega, by simp, ?_⟩
    intro p hpe
    have hp8 : p.length = 8 := by rw [hpe]; simp [w2]
    have hp : p ++ data = echoBody (true, i, q, data) := by
      rw [hpe, show shlI .i64 0 8 = 0 from by decide]; simp [w2, echoBody]
    refine ⟨(app_lim (by omega) hl).1, (app_lim (by omega) hl).2, ?_⟩
    intro c hc
    have hc : c = csum (echoBody (true, i, q, data)) := by rw [hc, hp]; rfl
    exact lim_fin (a := 2) hp (by omega) (by omega) (by omega) hl (by rw [hc]; exact hB.1) (by rw [hc]; exact hB.2) (by rw [hc]; exact e1) e2
  | false =>
    refine ifP_split (fun hr => by cases hr) (fun _ => ?_)
    refine ⟨by omega, by rw [show shlI .i64 8 8 = 2048 from by decide]; simp [allIn]; omega, by simp, ?_⟩
    intro p hpe
    have hp8 : p.length = 8 := by rw [hpe]; simp [w2]
    have hp : p ++ data = echoBody (false, i, q, data) := by
      rw [hpe, show shlI .i64 8 8 = 2048 from by decide]; simp [w2, echoBody]
    refine ⟨(app_lim (by omega) hl).1, (app_lim (by omega) hl).2, ?_⟩
    intro c hc
    have hc : c = csum (echoBody (false, i, q, data)) := by rw [hc, hp]; rfl
    exact lim_fin (a := 2) hp (by omega) (by omega) (by omega) hl (by rw [hc]; exact hB.1) (by rw [hc]; exact hB.2) (by rw [hc]; exact e1) e2
theorem ok_transport_EncodeEcho : SpecOK Tryz.prog GL 108 ct_transport_EncodeEcho.spec := Ct.ok' _ Tryz.func108 (by kernel_rfl) (withSpec_ok (withSpec_ok (withSpec_ok (withSpec_ok noSpecs_ok ok_transport_within) (Ct.named ok_transport_put)) (Ct.named ok_wire_Checksum)) ok_transport_limited) hmix an_transport_EncodeEcho (Eq.mpr (by kernel_rfl) vc_transport_EncodeEcho)

def ct_ref06_EncodeEcho : Ct := ⟨[.agg cEcho], [.own 5 cU8, .val cI], fun d => [(d.1.2.2.2.length : Int) ≤ 1073741824], fun d => ((echoEnc d.1, echoErr d.1, ()), ())⟩
def an_ref06_EncodeEcho : PDs ct_ref06_EncodeEcho.ps → Anns := (fun _ => {})
theorem vc_ref06_EncodeEcho :
    ∀ (x : Bool) (x_1 x_2 : Int) (x_3 : List Int), (True ∧ ((-9223372036854775808 : Int) ≤ x_1 ∧ x_1 ≤ (9223372036854775807 : Int)) ∧ ((-9223372036854775808 : Int) ≤ x_2 ∧ x_2 ≤ (9223372036854775807 :
     Int)) ∧ List.length x_3 ≤ maxLen ∧ ∀ (x : Int), x ∈ x_3 → (0 : Int) ≤ x ∧ x ≤ (255 : Int)) ∧ True → (↑(List.length x_3) : Int) ≤ (1073741824 : Int) → ∀ (b : Bool), b = !word16 x_1 → ((!b) = true →
     ((!b) = true → (!b) = true) ∧ True) ∧ ((!b) = true → ((!b) = true → (!b) = true) ∧ True) ∧ ((!b) = true → ((!b) = true → (!b) = true) ∧ True) ∧ (b = false → (!b) = true) ∧ ifP (bif b then true else
     !word16 x_2) (([] : List Int) = echoEnc (x, x_1, x_2, x_3) ∧ (1 : Int) = echoErr (x, x_1, x_2, x_3)) (ifP (decide ((1480 : Int) < IntKind.wrap IntKind.i64 ((↑(List.length x_3) : Int) + (8 : Int))))
     (([] : List Int) = echoEnc (x, x_1, x_2, x_3) ∧ (5 : Int) = echoErr (x, x_1, x_2, x_3)) (ifP x ((↑(List.length [IntKind.wrap IntKind.u8 (0 : Int), (0 : Int), (0 : Int), (0 : Int)]) : Int) ≤
     (1099511627776 : Int) ∧ ∀ (x_4 : List Int), x_4 = putB [IntKind.wrap IntKind.u8 (0 : Int), (0 : Int), (0 : Int), (0 : Int)] x_1 (2 : Int) → (↑(List.length x_4) : Int) ≤ (1099511627776 : Int) ∧ ∀ (x_5
     : List Int), x_5 = putB x_4 x_2 (2 : Int) → (List.length x_5 + List.length x_3) * (1 : Nat) ≤ (140737488355328 : Nat) ∧ (↑(List.length (x_5 ++ x_3)) : Int) ≤ (1099511627776 : Int) ∧ ∀ (x_6 : Int), x_6
     = (65535 : Int) - oc (sumF true (x_5 ++ x_3)) → (0 : Int) ≤ (2 : Int) ∧ (2 : Int) + (2 : Int) ≤ (↑(List.length (x_5 ++ x_3)) : Int) ∧ (↑(List.length (x_5 ++ x_3)) : Int) ≤ (1099511627776 : Int) ∧ (0 :
     Int) ≤ x_6 ∧ x_6 ≤ (65535 : Int) ∧ setW (x_5 ++ x_3) (Int.toNat (2 : Int)) x_6 = echoEnc (x, x_1, x_2, x_3) ∧ (0 : Int) = echoErr (x, x_1, x_2, x_3)) ((↑(List.length [IntKind.wrap IntKind.u8 (8 :
     Int), (0 : Int), (0 : Int), (0 : Int)]) : Int) ≤ (1099511627776 : Int) ∧ ∀ (x_4 : List Int), x_4 = putB [IntKind.wrap IntKind.u8 (8 : Int), (0 : Int), (0 : Int), (0 : Int)] x_1 (2 : Int) →
     (↑(List.length x_4) : Int) ≤ (1099511627776 : Int) ∧ ∀ (x_5 : List Int), x_5 = putB x_4 x_2 (2 : Int) → (List.length x_5 + List.length x_3) * (1 : Nat) ≤ (140737488355328 : Nat) ∧ (↑(List.length (x_5
     ++ x_3)) : Int) ≤ (1099511627776 : Int) ∧ ∀ (x_6 : Int), x_6 = (65535 : Int) - oc (sumF true (x_5 ++ x_3)) → (0 : Int) ≤ (2 : Int) ∧ (2 : Int) + (2 : Int) ≤ (↑(List.length (x_5 ++ x_3)) : Int) ∧
     (↑(List.length (x_5 ++ x_3)) : Int) ≤ (1099511627776 : Int) ∧ (0 : Int) ≤ x_6 ∧ x_6 ≤ (65535 : Int) ∧ setW (x_5 ++ x_3) (Int.toNat (2 : Int)) x_6 = echoEnc (x, x_1, x_2, x_3) ∧ (0 : Int) = echoErr (x,
     x_1, x_2, x_3)))) := by
  rintro r i q data ⟨⟨-, -, -, -, hd⟩, -⟩ hl
  rintro b rfl
  refine ⟨by simp, by simp, by simp, by simp, ?_⟩
  rw [w64 (n := (data.length : Int) + 8) (by omega) (by omega)]
  refine ifP_split (fun h => ?_) (fun h => ?_)
  · apply echo_bad
    rintro ⟨h1, h2⟩
    simp at h1 h2
    simp [h1, h2] at h
  have hw : word16 i = true ∧ word16 q = true := by
    simp [Bool.cond_eq_ite] at h; exact h
  have hw' := hw
  simp only [word16_iff] at hw'
  obtain ⟨e1, e2⟩ := echo_ok (e := (r, i, q, data)) hw
  have hB := csum_range (echo_bytes (e := (r, i, q, data)) hd)
  have hbl := echo_len (r, i, q, data)
  refine ifP_split (fun h5 => ?_) (fun h5 => ?_)
  · have h5 := of_decide_eq_true h5
    rw [e1, e2, if_pos (by simp only at hbl; omega), if_pos (by simp only at hbl; omega)]; exact ⟨rfl, rfl⟩
  have h5 := of_decide_eq_false h5
  have h5 : ¬ (1480 : Int) < (echoBody (r, i, q, data)).length := by simp only at hbl; omega
  rw [if_neg h5] at e1
  cases r with
  | true =>
    refine ifP_split (fun _ => ?_) (fun hr => by cases hr)
    refine ⟨by simp, ?_⟩
    rintro p rfl
    rw [putB_2 hw'.1.1 hw'.1.2]
    refine ⟨by simp [w2], ?_⟩
    intro p hpe
    rw [putB_2 hw'.2.1 hw'.2.2] at hpe
    have hp8 : p.length = 8 := by rw [hpe]; simp [w2]
    have hp : p ++ data = echoBody (true, i, q, data) := by
      rw [hpe, show IntKind.wrap .u8 0 = 0 from by decide]; simp [w2, echoBody]
    refine ⟨(app_lim (by omega) hl).1, (app_lim (by omega) hl).2, ?_⟩
    intro c hc
    have hc : c = csum (echoBody (true, i, q, data)) := by rw [hc, hp]; rfl
    rw [hp, hc]
    exact ⟨by omega, by omega, by omega, hB.1, hB.2, e1.symm, low5 e2 h5⟩
  | false =>
    refine ifP_split (fun hr => by cases hr) (fun _ => ?_)
    refine ⟨by simp, ?_⟩
    rintro p rfl
    rw [putB_2 hw'.1.1 hw'.1.2]
    refine ⟨by simp [w2], ?_⟩
    intro p hpe
    rw [putB_2 hw'.2.1 hw'.2.2] at hpe
    have hp8 : p.length = 8 := by rw [hpe]; simp [w2]
    have hp : p ++ data = echoBody (false, i, q, data) := by
      rw [hpe, show IntKind.wrap .u8 8 = 8 from by decide]; simp [w2, echoBody]
    refine ⟨(app_lim (by omega) hl).1, (app_lim (by omega) hl).2, ?_⟩
    intro c hc
    have hc : c = csum (echoBody (false, i, q, data)) := by rw [hc, hp]; rfl
    rw [hp, hc]
    exact ⟨by omega, by omega, by omega, hB.1, hB.2, e1.symm, low5 e2 h5⟩
theorem ok_ref06_EncodeEcho : SpecOK Tryz.prog GL 77 ct_ref06_EncodeEcho.spec := Ct.ok' _ Tryz.func77 (by kernel_rfl) (withSpec_ok (withSpec_ok (withSpec_ok (withSpec_ok noSpecs_ok ok_ref06_word) (Ct.named ok_ref04_Push)) (Ct.named ok_ref04_Checksum)) ok_ref06_put) hmix an_ref06_EncodeEcho (Eq.mpr (by kernel_rfl) vc_ref06_EncodeEcho)


def ct_ref06_EncodeNotice : Ct := ⟨[.agg cNotice], [.own 5 cU8, .val cI], fun d => [(d.1.2.2.length : Int) ≤ 1073741824], fun d => ((noticeEnc d.1, noticeErr d.1, ()), ())⟩
def an_ref06_EncodeNotice : PDs ct_ref06_EncodeNotice.ps → Anns := (fun _ => {})
theorem vc_ref06_EncodeNotice :
    ∀ (x x_1 : Int) (x_2 : List Int), (((-9223372036854775808 : Int) ≤ x ∧ x ≤ (9223372036854775807 : Int)) ∧ ((-9223372036854775808 : Int) ≤ x_1 ∧ x_1 ≤ (9223372036854775807 : Int)) ∧ List.length x_2 ≤
     maxLen ∧ ∀ (x : Int), x ∈ x_2 → (0 : Int) ≤ x ∧ x ≤ (255 : Int)) ∧ True → (↑(List.length x_2) : Int) ≤ (1073741824 : Int) → ∀ (b : Bool), b = !decide (x = (3 : Int)) → (b = true → (b = true → b =
     true) ∧ True) ∧ (b = true → (b = true → b = true) ∧ True) ∧ (b = true → b = true) ∧ ∀ (b_1 : Bool), (b_1 = bif b then !decide (x = (11 : Int)) else false) → ((!b_1) = true → ((!b_1) = true → (!b_1) =
     true) ∧ True) ∧ ((!b_1) = true → ((!b_1) = true → (!b_1) = true) ∧ True) ∧ ((!b_1) = true → ((!b_1) = true → (!b_1) = true) ∧ True) ∧ (b_1 = false → (!b_1) = true) ∧ ifP (bif b_1 then true else
     !decide ((0 : Int) ≤ x_1 ∧ x_1 ≤ (255 : Int))) (([] : List Int) = noticeEnc (x, x_1, x_2) ∧ (1 : Int) = noticeErr (x, x_1, x_2)) (ifP (decide ((↑(List.length x_2) : Int) < (28 : Int))) (([] : List
     Int) = noticeEnc (x, x_1, x_2) ∧ (3 : Int) = noticeErr (x, x_1, x_2)) (ifP (decide ((1480 : Int) < IntKind.wrap IntKind.i64 ((↑(List.length x_2) : Int) + (8 : Int)))) (([] : List Int) = noticeEnc (x,
     x_1, x_2) ∧ (5 : Int) = noticeErr (x, x_1, x_2)) ((List.length [IntKind.wrap IntKind.u8 x, IntKind.wrap IntKind.u8 x_1, (0 : Int), (0 : Int), (0 : Int), (0 : Int), (0 : Int), (0 : Int)] + List.length
     x_2) * (1 : Nat) ≤ (140737488355328 : Nat) ∧ (↑(List.length ([IntKind.wrap IntKind.u8 x, IntKind.wrap IntKind.u8 x_1, (0 : Int), (0 : Int), (0 : Int), (0 : Int), (0 : Int), (0 : Int)] ++ x_2)) : Int)
     ≤ (1099511627776 : Int) ∧ ∀ (x_3 : Int), x_3 = (65535 : Int) - oc (sumF true ([IntKind.wrap IntKind.u8 x, IntKind.wrap IntKind.u8 x_1, (0 : Int), (0 : Int), (0 : Int), (0 : Int), (0 : Int), (0 : Int)]
     ++ x_2)) → (0 : Int) ≤ (2 : Int) ∧ (2 : Int) + (2 : Int) ≤ (↑(List.length ([IntKind.wrap IntKind.u8 x, IntKind.wrap IntKind.u8 x_1, (0 : Int), (0 : Int), (0 : Int), (0 : Int), (0 : Int), (0 : Int)] ++
     x_2)) : Int) ∧ (↑(List.length ([IntKind.wrap IntKind.u8 x, IntKind.wrap IntKind.u8 x_1, (0 : Int), (0 : Int), (0 : Int), (0 : Int), (0 : Int), (0 : Int)] ++ x_2)) : Int) ≤ (1099511627776 : Int) ∧ (0 :
     Int) ≤ x_3 ∧ x_3 ≤ (65535 : Int) ∧ setW ([IntKind.wrap IntKind.u8 x, IntKind.wrap IntKind.u8 x_1, (0 : Int), (0 : Int), (0 : Int), (0 : Int), (0 : Int), (0 : Int)] ++ x_2) (Int.toNat (2 : Int)) x_3 =
     noticeEnc (x, x_1, x_2) ∧ (0 : Int) = noticeErr (x, x_1, x_2)))) := by
  rintro t k data ⟨⟨-, -, -, hd⟩, -⟩ hl
  rintro b rfl
  refine ⟨by simp, by simp, by simp, ?_⟩
  intro b hb
  refine ⟨by simp, by simp, by simp, by simp, ?_⟩
  rw [w64 (n := (data.length : Int) + 8) (by omega) (by omega)]
  refine ifP_split (fun h => ?_) (fun h => ?_)
  · apply notice_bad
    rintro ⟨h1, h2⟩
    have : b = false := by rw [hb]; rcases h1 with rfl | rfl <;> simp
    rw [this, decide_eq_true h2] at h; cases h
  have ht : t = 3 ∨ t = 11 := by
    cases b with
    | true => cases h
    | false =>
      by_cases h3 : t = 3
      · exact .inl h3
      · simp [h3] at hb; exact .inr hb
  have hk : 0 ≤ k ∧ k ≤ 255 := by
    cases b with
    | true => cases h
    | false => exact Classical.byContradiction fun hk => by rw [decide_eq_false hk] at h; cases h
  refine ifP_split (fun h2 => notice_short ⟨ht, hk⟩ (of_decide_eq_true h2)) (fun h2 => ?_)
  have h2 := of_decide_eq_false h2
  obtain ⟨e1, e2⟩ := notice_ok (e := (t, k, data)) ⟨ht, hk⟩ h2
  have hB := csum_range (notice_bytes (e := (t, k, data)) ⟨ht, hk⟩ hd)
  have hbl := notice_len (t, k, data)
  refine ifP_split (fun h5 => ?_) (fun h5 => ?_)
  · have h5 := of_decide_eq_true h5
    rw [e1, e2, if_pos (by simp only at hbl; omega), if_pos (by simp only at hbl; omega)]; exact ⟨rfl, rfl⟩
  have h5 := of_decide_eq_false h5
  have h5 : ¬ (1480 : Int) < (noticeBody (t, k, data)).length := by simp only at hbl; omega
  rw [if_neg h5] at e1
  rw [wu8 (n := t) (by omega) (by omega), wu8 hk.1 hk.2]
  have hp : [t, k, 0, 0, 0, 0, 0, 0] ++ data = noticeBody (t, k, data) := rfl
  refine ⟨(app_lim (by simp) hl).1, (app_lim (by simp) hl).2, ?_⟩
  intro c hc
  have hc : c = csum (noticeBody (t, k, data)) := by rw [hc, hp]; rfl
  rw [hp, hc]
  exact ⟨by omega, by omega, by omega, hB.1, hB.2, e1.symm, low5 e2 h5⟩
theorem ok_ref06_EncodeNotice : SpecOK Tryz.prog GL 63 ct_ref06_EncodeNotice.spec := Ct.ok' _ Tryz.func63 (by kernel_rfl) (withSpec_ok (withSpec_ok (withSpec_ok noSpecs_ok ok_ref06_octet) (Ct.named ok_ref04_Checksum)) ok_ref06_put) hmix an_ref06_EncodeNotice (Eq.mpr (by kernel_rfl) vc_ref06_EncodeNotice)

def ct_transport_Pseudo : Ct := ⟨[.val cU32, .val cU32, .val cI, .val (.sl cU8)], [.val cI], fun d => [(d.2.2.2.1.length : Int) ≤ 1073741824], fun d => ((pseudo d.1 d.2.1 d.2.2.1 d.2.2.2.1, ()), ())⟩
def an_transport_Pseudo : PDs ct_transport_Pseudo.ps → Anns := (fun _ => {})
theorem vc_transport_Pseudo :
    ∀ (x x_1 x_2 : Int) (x_3 : List Int), ((0 : Int) ≤ x ∧ x ≤ (4294967295 : Int)) ∧ ((0 : Int) ≤ x_1 ∧ x_1 ≤ (4294967295 : Int)) ∧ ((-9223372036854775808 : Int) ≤ x_2 ∧ x_2 ≤ (9223372036854775807 : Int))
     ∧ (List.length x_3 ≤ maxLen ∧ ∀ (x : Int), x ∈ x_3 → (0 : Int) ≤ x ∧ x ≤ (255 : Int)) ∧ True → (↑(List.length x_3) : Int) ≤ (1073741824 : Int) → ∀ (b : Bool), b = !allIn (255 : Int) [x_2] → ((!b) =
     true → ((!b) = true → (!b) = true) ∧ True) ∧ ((!b) = true → ((!b) = true → (!b) = true) ∧ True) ∧ (b = false → (!b) = true) ∧ ifP (bif b then true else decide ((65535 : Int) < (↑(List.length x_3) :
     Int))) ((0 : Int) = pseudo x x_1 x_2 x_3) ((0 : Int) ≤ (16 : Int) ∧ (0 : Int) ≤ (16 : Int) ∧ allIn (65535 : Int) [IntKind.wrap IntKind.i64 (shrI IntKind.u32 x (16 : Int)), IntKind.wrap IntKind.i64
     (bits BinOp.and IntKind.u32 x (65535 : Int)), IntKind.wrap IntKind.i64 (shrI IntKind.u32 x_1 (16 : Int)), IntKind.wrap IntKind.i64 (bits BinOp.and IntKind.u32 x_1 (65535 : Int)), x_2, (↑(List.length
     x_3) : Int)] = true ∧ (↑(List.length [IntKind.wrap IntKind.i64 (shrI IntKind.u32 x (16 : Int)), IntKind.wrap IntKind.i64 (bits BinOp.and IntKind.u32 x (65535 : Int)), IntKind.wrap IntKind.i64 (shrI
     IntKind.u32 x_1 (16 : Int)), IntKind.wrap IntKind.i64 (bits BinOp.and IntKind.u32 x_1 (65535 : Int)), x_2, (↑(List.length x_3) : Int)]) : Int) ≤ (1073741824 : Int) ∧ ∀ (x_4 : List Int), x_4 =
     List.flatMap w2 [IntKind.wrap IntKind.i64 (shrI IntKind.u32 x (16 : Int)), IntKind.wrap IntKind.i64 (bits BinOp.and IntKind.u32 x (65535 : Int)), IntKind.wrap IntKind.i64 (shrI IntKind.u32 x_1 (16 :
     Int)), IntKind.wrap IntKind.i64 (bits BinOp.and IntKind.u32 x_1 (65535 : Int)), x_2, (↑(List.length x_3) : Int)] → (List.length x_4 + List.length x_3) * (1 : Nat) ≤ (140737488355328 : Nat) ∧
     (↑(List.length (x_4 ++ x_3)) : Int) ≤ (1099511627776 : Int) ∧ ∀ (x_5 : Int), x_5 = (65535 : Int) - oc (sumF true (x_4 ++ x_3)) → x_5 = pseudo x x_1 x_2 x_3) := by
  rintro a b p data ⟨⟨a0, a1⟩, ⟨b0, b1⟩, -, ⟨-, hd⟩, -⟩ hl
  rintro x rfl
  refine ⟨by simp, by simp, by simp, ?_⟩
  refine ifP_split (fun h => ?_) (fun h => ?_)
  · rw [pseudo, if_pos]
    cases hx : allIn 255 [p] with
    | false => exact .inl (fun k => by rw [(allIn1 255 p).2 k] at hx; cases hx)
    | true => rw [hx] at h; exact .inr (of_decide_eq_true h)
  have hp : 0 ≤ p ∧ p ≤ 255 := by
    apply (allIn1 255 p).1
    cases hx : allIn 255 [p] with
    | true => rfl
    | false => rw [hx] at h; cases h
  have hn : ¬ (65535 : Int) < data.length := by
    rw [(allIn1 255 p).2 hp] at h; exact of_decide_eq_false h
  rw [shr16u a0 a1, shr16u b0 b1, and16u a0 a1, and16u b0 b1]
  refine ⟨by omega, by omega, by simp [allIn]; omega, by simp, ?_⟩
  intro q hq
  have hp8 : q.length = 12 := by rw [hq]; simp [w2]
  have hB : q ++ data = pseudoB a b p data := by
    rw [hq]
    simp only [List.flatMap_cons, List.flatMap_nil, List.append_nil, List.append_assoc, w2_split]
    rfl
  refine ⟨(app_lim (by omega) hl).1, (app_lim (by omega) hl).2, ?_⟩
  rintro c rfl
  rw [hB, pseudo, if_neg (by omega)]; rfl
theorem ok_transport_Pseudo : SpecOK Tryz.prog GL 117 ct_transport_Pseudo.spec := Ct.ok' _ Tryz.func117 (by kernel_rfl) (withSpec_ok (withSpec_ok (withSpec_ok noSpecs_ok ok_transport_within) (Ct.named ok_transport_put)) (Ct.named ok_wire_Checksum)) hmix an_transport_Pseudo (Eq.mpr (by kernel_rfl) vc_transport_Pseudo)

def ct_ref06_Pseudo : Ct := ⟨[.val cU32, .val cU32, .val cI, .val (.sl cU8)], [.val cI], fun d => [(d.2.2.2.1.length : Int) ≤ 1073741824], fun d => ((pseudo d.1 d.2.1 d.2.2.1 d.2.2.2.1, ()), ())⟩
def an_ref06_Pseudo : PDs ct_ref06_Pseudo.ps → Anns := (fun _ => {})
theorem vc_ref06_Pseudo :
    ∀ (x x_1 x_2 : Int) (x_3 : List Int), ((0 : Int) ≤ x ∧ x ≤ (4294967295 : Int)) ∧ ((0 : Int) ≤ x_1 ∧ x_1 ≤ (4294967295 : Int)) ∧ ((-9223372036854775808 : Int) ≤ x_2 ∧ x_2 ≤ (9223372036854775807 : Int))
     ∧ (List.length x_3 ≤ maxLen ∧ ∀ (x : Int), x ∈ x_3 → (0 : Int) ≤ x ∧ x ≤ (255 : Int)) ∧ True → (↑(List.length x_3) : Int) ≤ (1073741824 : Int) → ∀ (b : Bool), b = !decide ((0 : Int) ≤ x_2 ∧ x_2 ≤ (255
     : Int)) → ((!b) = true → ((!b) = true → (!b) = true) ∧ True) ∧ ((!b) = true → ((!b) = true → (!b) = true) ∧ True) ∧ (b = false → (!b) = true) ∧ ifP (bif b then true else decide ((65535 : Int) <
     (↑(List.length x_3) : Int))) ((0 : Int) = pseudo x x_1 x_2 x_3) ((↑(0 : Nat) : Int) ≤ (1099511627776 : Int) ∧ ∀ (x_4 : List Int), x_4 = putB ([] : List Int) (IntKind.wrap IntKind.i64 x) (4 : Int) →
     (↑(List.length x_4) : Int) ≤ (1099511627776 : Int) ∧ ∀ (x_5 : List Int), x_5 = putB x_4 (IntKind.wrap IntKind.i64 x_1) (4 : Int) → (↑(List.length x_5) : Int) ≤ (1099511627776 : Int) ∧ ∀ (x_6 : List
     Int), x_6 = putB x_5 x_2 (2 : Int) → (↑(List.length x_6) : Int) ≤ (1099511627776 : Int) ∧ ∀ (x_7 : List Int), x_7 = putB x_6 (↑(List.length x_3) : Int) (2 : Int) → (List.length x_7 + List.length x_3)
     * (1 : Nat) ≤ (140737488355328 : Nat) ∧ (↑(List.length (x_7 ++ x_3)) : Int) ≤ (1099511627776 : Int) ∧ ∀ (x_8 : Int), x_8 = (65535 : Int) - oc (sumF true (x_7 ++ x_3)) → x_8 = pseudo x x_1 x_2 x_3) := by
  rintro a b p data ⟨⟨a0, a1⟩, ⟨b0, b1⟩, -, ⟨-, hd⟩, -⟩ hl
  rintro x rfl
  refine ⟨by simp, by simp, by simp, ?_⟩
  refine ifP_split (fun h => ?_) (fun h => ?_)
  · rw [pseudo, if_pos]
    by_cases hx : 0 ≤ p ∧ p ≤ 255
    · rw [decide_eq_true hx] at h; exact .inr (of_decide_eq_true h)
    · exact .inl hx
  have hp : 0 ≤ p ∧ p ≤ 255 := Classical.byContradiction fun hk => by rw [decide_eq_false hk] at h; cases h
  have hn : ¬ (65535 : Int) < data.length := by
    rw [decide_eq_true hp] at h; exact of_decide_eq_false h
  refine ⟨by simp, ?_⟩
  intro q1 h1
  rw [w64 (n := a) (by omega) (by omega), putB_4 a0 a1, List.nil_append] at h1
  refine ⟨by rw [h1]; simp [w4], ?_⟩
  intro q2 h2
  rw [w64 (n := b) (by omega) (by omega), putB_4 b0 b1] at h2
  refine ⟨by rw [h2, h1]; simp [w4], ?_⟩
  intro q3 h3
  rw [putB_2 hp.1 (by omega)] at h3
  refine ⟨by rw [h3, h2, h1]; simp [w2, w4], ?_⟩
  intro q hq
  rw [putB_2 (by omega) (by omega)] at hq
  have hp8 : q.length = 12 := by rw [hq, h3, h2, h1]; simp [w2, w4]
  have hB : q ++ data = pseudoB a b p data := by
    rw [hq, h3, h2, h1]
    simp only [List.append_assoc]
    rfl
  refine ⟨(app_lim (by omega) hl).1, (app_lim (by omega) hl).2, ?_⟩
  rintro c rfl
  rw [hB, pseudo, if_neg (by omega)]; rfl
theorem ok_ref06_Pseudo : SpecOK Tryz.prog GL 104 ct_ref06_Pseudo.spec := Ct.ok' _ Tryz.func104 (by kernel_rfl) (withSpec_ok (withSpec_ok (withSpec_ok noSpecs_ok ok_ref06_octet) (Ct.named ok_ref04_Push)) (Ct.named ok_ref04_Checksum)) hmix an_ref06_Pseudo (Eq.mpr (by kernel_rfl) vc_ref06_Pseudo)

def ct_transport_sumUDP : Ct := ⟨[.val cU32, .val cU32, .val (.sl cU8)], [.val cI], fun d => [(d.2.2.1.length : Int) ≤ 1073741824], fun d => ((sumU d.1 d.2.1 d.2.2.1, ()), ())⟩
def an_transport_sumUDP : PDs ct_transport_sumUDP.ps → Anns := (fun _ => {})
theorem vc_transport_sumUDP :
    ∀ (x x_1 : Int) (x_2 : List Int), ((0 : Int) ≤ x ∧ x ≤ (4294967295 : Int)) ∧ ((0 : Int) ≤ x_1 ∧ x_1 ≤ (4294967295 : Int)) ∧ (List.length x_2 ≤ maxLen ∧ ∀ (x : Int), x ∈ x_2 → (0 : Int) ≤ x ∧ x ≤ (255
     : Int)) ∧ True → (↑(List.length x_2) : Int) ≤ (1073741824 : Int) → (↑(List.length x_2) : Int) ≤ (1073741824 : Int) ∧ ifP (!decide (pseudo x x_1 (17 : Int) x_2 = (0 : Int))) (pseudo x x_1 (17 : Int)
     x_2 = sumU x x_1 x_2) ((65535 : Int) = sumU x x_1 x_2) := by
  rintro a b data - hl
  refine ⟨hl, ifP_split (fun h => ?_) (fun h => ?_)⟩
  · rw [sumU, if_neg]; intro k; rw [decide_eq_true k] at h; cases h
  · rw [sumU, if_pos]
    exact Classical.byContradiction fun k => by rw [decide_eq_false k] at h; cases h
theorem ok_transport_sumUDP : SpecOK Tryz.prog GL 127 ct_transport_sumUDP.spec := Ct.ok' _ Tryz.func127 (by kernel_rfl) (withSpec_ok noSpecs_ok ok_transport_Pseudo) hmix an_transport_sumUDP (Eq.mpr (by kernel_rfl) vc_transport_sumUDP)

def ct_transport_EncodeUDP : Ct := ⟨[.val cU32, .val cU32, .agg cDgram], [.own 5 cU8, .val cI], fun d => [(d.2.2.1.2.2.length : Int) ≤ 1073741824], fun d => ((udpEnc d.1 d.2.1 d.2.2.1, udpErr d.2.2.1, ()), ())⟩
def an_transport_EncodeUDP : PDs ct_transport_EncodeUDP.ps → Anns := (fun _ => {})
theorem vc_transport_EncodeUDP :
    ∀ (x x_1 x_2 x_3 : Int) (x_4 : List Int), ((0 : Int) ≤ x ∧ x ≤ (4294967295 : Int)) ∧ ((0 : Int) ≤ x_1 ∧ x_1 ≤ (4294967295 : Int)) ∧ (((-9223372036854775808 : Int) ≤ x_2 ∧ x_2 ≤ (9223372036854775807 :
     Int)) ∧ ((-9223372036854775808 : Int) ≤ x_3 ∧ x_3 ≤ (9223372036854775807 : Int)) ∧ List.length x_4 ≤ maxLen ∧ ∀ (x : Int), x ∈ x_4 → (0 : Int) ≤ x ∧ x ≤ (255 : Int)) ∧ True → (↑(List.length x_4) :
     Int) ≤ (1073741824 : Int) → ifP (!allIn (65535 : Int) [x_2, x_3]) (([] : List Int) = udpEnc x x_1 (x_2, x_3, x_4) ∧ (1 : Int) = udpErr (x_2, x_3, x_4)) (ifP (decide ((1472 : Int) < (↑(List.length x_4)
     : Int))) (([] : List Int) = udpEnc x x_1 (x_2, x_3, x_4) ∧ (5 : Int) = udpErr (x_2, x_3, x_4)) (allIn (65535 : Int) [x_2, x_3, IntKind.wrap IntKind.i64 ((8 : Int) + (↑(List.length x_4) : Int)), (0 :
     Int)] = true ∧ (↑(List.length [x_2, x_3, IntKind.wrap IntKind.i64 ((8 : Int) + (↑(List.length x_4) : Int)), (0 : Int)]) : Int) ≤ (1073741824 : Int) ∧ ∀ (x_5 : List Int), x_5 = List.flatMap w2 [x_2,
     x_3, IntKind.wrap IntKind.i64 ((8 : Int) + (↑(List.length x_4) : Int)), (0 : Int)] → (List.length x_5 + List.length x_4) * (1 : Nat) ≤ (140737488355328 : Nat) ∧ (↑(List.length (x_5 ++ x_4)) : Int) ≤
     (1073741824 : Int) ∧ ∀ (x_6 : Int), x_6 = sumU x x_1 (x_5 ++ x_4) → (0 : Int) ≤ (6 : Int) ∧ (6 : Int) + (2 : Int) ≤ (↑(List.length (x_5 ++ x_4)) : Int) ∧ (↑(List.length (x_5 ++ x_4)) : Int) ≤
     (1099511627776 : Int) ∧ (0 : Int) ≤ x_6 ∧ x_6 ≤ (65535 : Int) ∧ (if (1480 : Int) < (↑(List.length (x_5 ++ x_4)) : Int) then ([] : List Int) else setW (x_5 ++ x_4) (Int.toNat (6 : Int)) x_6) = udpEnc x
     x_1 (x_2, x_3, x_4) ∧ (if (1480 : Int) < (↑(List.length (x_5 ++ x_4)) : Int) then (5 : Int) else (0 : Int)) = udpErr (x_2, x_3, x_4))) := by
  rintro a b sp dp data ⟨-, -, ⟨-, -, -, hd⟩, -⟩ hl
  refine ifP_split (fun h => ?_) (fun h => ?_)
  · apply udp_bad
    simp only [Bool.not_eq_true', ← Bool.not_eq_true, allIn2] at h
    simp only [word16_iff]; exact h
  have hw : word16 sp = true ∧ word16 dp = true := by
    simp only [Bool.not_eq_false', allIn2] at h
    simp only [word16_iff]; exact h
  have hw' := hw
  simp only [word16_iff] at hw'
  obtain ⟨e1, e2⟩ := udp_ok (a := a) (b := b) (e := (sp, dp, data)) hw
  have hB := sumU_range (a := a) (b := b) (udp_bytes (e := (sp, dp, data)) hd)
  have hbl := udp_len (sp, dp, data)
  refine ifP_split (fun h5 => ?_) (fun h5 => ?_)
  · have h5 := of_decide_eq_true h5
    rw [e1, e2, if_pos (by simp only at hbl; omega), if_pos (by simp only at hbl; omega)]; exact ⟨rfl, rfl⟩
  have h5 := of_decide_eq_false h5
  rw [w64 (n := 8 + (data.length : Int)) (by omega) (by omega)]
  refine ⟨by simp [allIn]; omega, by simp, ?_⟩
  intro p hpe
  have hp8 : p.length = 8 := by rw [hpe]; simp [w2]
  have hp : p ++ data = udpBody (sp, dp, data) := by
    rw [hpe]
    simp only [List.flatMap_cons, List.flatMap_nil, List.append_nil, List.append_assoc, show w2 0 = [0, 0] from rfl]
    rfl
  refine ⟨(app_lim (by omega) hl).1, by rw [List.length_append]; omega, ?_⟩
  intro c hc
  have hc : c = sumU a b (udpBody (sp, dp, data)) := by rw [hc, hp]
  exact lim_fin (a := 6) hp (by omega) (by omega) (by omega) hl (by rw [hc]; exact hB.1) (by rw [hc]; exact hB.2) (by rw [hc]; exact e1) e2
theorem ok_transport_EncodeUDP : SpecOK Tryz.prog GL 110 ct_transport_EncodeUDP.spec := Ct.ok' _ Tryz.func110 (by kernel_rfl) (withSpec_ok (withSpec_ok (withSpec_ok (withSpec_ok noSpecs_ok ok_transport_within) (Ct.named ok_transport_put)) (Ct.named ok_transport_sumUDP)) ok_transport_limited) hmix an_transport_EncodeUDP (Eq.mpr (by kernel_rfl) vc_transport_EncodeUDP)

def ct_ref06_EncodeUDP : Ct := ⟨[.val cU32, .val cU32, .agg cDgram], [.own 5 cU8, .val cI], fun d => [(d.2.2.1.2.2.length : Int) ≤ 1073741824], fun d => ((udpEnc d.1 d.2.1 d.2.2.1, udpErr d.2.2.1, ()), ())⟩
def an_ref06_EncodeUDP : PDs ct_ref06_EncodeUDP.ps → Anns := (fun _ => {})
theorem vc_ref06_EncodeUDP :
    ∀ (x x_1 x_2 x_3 : Int) (x_4 : List Int), ((0 : Int) ≤ x ∧ x ≤ (4294967295 : Int)) ∧ ((0 : Int) ≤ x_1 ∧ x_1 ≤ (4294967295 : Int)) ∧ (((-9223372036854775808 : Int) ≤ x_2 ∧ x_2 ≤ (9223372036854775807 :
     Int)) ∧ ((-9223372036854775808 : Int) ≤ x_3 ∧ x_3 ≤ (9223372036854775807 : Int)) ∧ List.length x_4 ≤ maxLen ∧ ∀ (x : Int), x ∈ x_4 → (0 : Int) ≤ x ∧ x ≤ (255 : Int)) ∧ True → (↑(List.length x_4) :
     Int) ≤ (1073741824 : Int) → ∀ (b : Bool), b = !word16 x_2 → ((!b) = true → ((!b) = true → (!b) = true) ∧ True) ∧ ((!b) = true → ((!b) = true → (!b) = true) ∧ True) ∧ ((!b) = true → ((!b) = true → (!b)
     = true) ∧ True) ∧ (b = false → (!b) = true) ∧ ifP (bif b then true else !word16 x_3) (([] : List Int) = udpEnc x x_1 (x_2, x_3, x_4) ∧ (1 : Int) = udpErr (x_2, x_3, x_4)) (ifP (decide ((1480 : Int) <
     IntKind.wrap IntKind.i64 ((↑(List.length x_4) : Int) + (8 : Int)))) (([] : List Int) = udpEnc x x_1 (x_2, x_3, x_4) ∧ (5 : Int) = udpErr (x_2, x_3, x_4)) ((↑(0 : Nat) : Int) ≤ (1099511627776 : Int) ∧
     ∀ (x_5 : List Int), x_5 = putB ([] : List Int) x_2 (2 : Int) → (↑(List.length x_5) : Int) ≤ (1099511627776 : Int) ∧ ∀ (x_6 : List Int), x_6 = putB x_5 x_3 (2 : Int) → (↑(List.length x_6) : Int) ≤
     (1099511627776 : Int) ∧ ∀ (x_7 : List Int), x_7 = putB x_6 (IntKind.wrap IntKind.i64 ((↑(List.length x_4) : Int) + (8 : Int))) (2 : Int) → (List.length x_7 + List.length [(0 : Int), (0 : Int)]) * (1 :
     Nat) ≤ (140737488355328 : Nat) ∧ (List.length (x_7 ++ [(0 : Int), (0 : Int)]) + List.length x_4) * (1 : Nat) ≤ (140737488355328 : Nat) ∧ (↑(List.length (x_7 ++ [(0 : Int), (0 : Int)] ++ x_4)) : Int) ≤
     (1073741824 : Int) ∧ ∀ (x_8 : Int), x_8 = pseudo x x_1 (17 : Int) (x_7 ++ [(0 : Int), (0 : Int)] ++ x_4) → ifP (decide (x_8 = (0 : Int))) ((0 : Int) ≤ (6 : Int) ∧ (6 : Int) + (2 : Int) ≤
     (↑(List.length (x_7 ++ [(0 : Int), (0 : Int)] ++ x_4)) : Int) ∧ (↑(List.length (x_7 ++ [(0 : Int), (0 : Int)] ++ x_4)) : Int) ≤ (1099511627776 : Int) ∧ (0 : Int) ≤ (65535 : Int) ∧ (65535 : Int) ≤
     (65535 : Int) ∧ setW (x_7 ++ [(0 : Int), (0 : Int)] ++ x_4) (Int.toNat (6 : Int)) (65535 : Int) = udpEnc x x_1 (x_2, x_3, x_4) ∧ (0 : Int) = udpErr (x_2, x_3, x_4)) ((0 : Int) ≤ (6 : Int) ∧ (6 : Int)
     + (2 : Int) ≤ (↑(List.length (x_7 ++ [(0 : Int), (0 : Int)] ++ x_4)) : Int) ∧ (↑(List.length (x_7 ++ [(0 : Int), (0 : Int)] ++ x_4)) : Int) ≤ (1099511627776 : Int) ∧ (0 : Int) ≤ x_8 ∧ x_8 ≤ (65535 :
     Int) ∧ setW (x_7 ++ [(0 : Int), (0 : Int)] ++ x_4) (Int.toNat (6 : Int)) x_8 = udpEnc x x_1 (x_2, x_3, x_4) ∧ (0 : Int) = udpErr (x_2, x_3, x_4)))) := by
  rintro a b sp dp data ⟨-, -, ⟨-, -, -, hd⟩, -⟩ hl
  rintro x rfl
  refine ⟨by simp, by simp, by simp, by simp, ?_⟩
  rw [w64 (n := (data.length : Int) + 8) (by omega) (by omega)]
  refine ifP_split (fun h => ?_) (fun h => ?_)
  · apply udp_bad
    rintro ⟨h1, h2⟩
    simp at h1 h2
    simp [h1, h2] at h
  have hw : word16 sp = true ∧ word16 dp = true := by
    simp [Bool.cond_eq_ite] at h; exact h
  have hw' := hw
  simp only [word16_iff] at hw'
  obtain ⟨e1, e2⟩ := udp_ok (a := a) (b := b) (e := (sp, dp, data)) hw
  have hB := sumU_range (a := a) (b := b) (udp_bytes (e := (sp, dp, data)) hd)
  have hbl := udp_len (sp, dp, data)
  refine ifP_split (fun h5 => ?_) (fun h5 => ?_)
  · have h5 := of_decide_eq_true h5
    rw [e1, e2, if_pos (by simp only at hbl; omega), if_pos (by simp only at hbl; omega)]; exact ⟨rfl, rfl⟩
  have h5 := of_decide_eq_false h5
  have h5' : ¬ (1480 : Int) < (udpBody (sp, dp, data)).length := by simp only at hbl; omega
  rw [if_neg h5'] at e1
  refine ⟨by simp, ?_⟩
  intro q1 h1
  rw [putB_2 hw'.1.1 hw'.1.2, List.nil_append] at h1
  refine ⟨by rw [h1]; simp [w2], ?_⟩
  intro q2 h2
  rw [putB_2 hw'.2.1 hw'.2.2] at h2
  refine ⟨by rw [h2, h1]; simp [w2], ?_⟩
  intro q3 h3
  rw [putB_2 (by omega) (by omega)] at h3
  have hp8 : q3.length = 6 := by rw [h3, h2, h1]; simp [w2]
  have hp : q3 ++ [0, 0] ++ data = udpBody (sp, dp, data) := by
    rw [h3, h2, h1]
    simp only [List.append_assoc, udpBody]
    rw [Int.add_comm 8]
  rw [hp]
  refine ⟨by simp only [List.length_cons, List.length_nil]; omega, by simp only [List.length_append, List.length_cons, List.length_nil]; omega, by simp only at hbl; omega, ?_⟩
  rintro c rfl
  have hs : ∀ c, c = sumU a b (udpBody (sp, dp, data)) → setW (udpBody (sp, dp, data)) (Int.toNat 6) c = udpEnc a b (sp, dp, data) ∧ 0 = udpErr (sp, dp, data) := by
    rintro c rfl; exact ⟨e1.symm, low5 e2 h5'⟩
  refine ifP_split (fun hz => ?_) (fun hz => ?_)
  · have hz := of_decide_eq_true hz
    exact ⟨by omega, by simp only at hbl; omega, by simp only at hbl; omega, by omega, by omega, hs _ (by rw [sumU, if_pos hz])⟩
  · have hz := of_decide_eq_false hz
    have hr := pseudo_range (a := a) (b := b) (p := 17) (udp_bytes (e := (sp, dp, data)) hd)
    exact ⟨by omega, by simp only at hbl; omega, by simp only at hbl; omega, hr.1, hr.2, hs _ (by rw [sumU, if_neg hz])⟩
theorem ok_ref06_EncodeUDP : SpecOK Tryz.prog GL 105 ct_ref06_EncodeUDP.spec := Ct.ok' _ Tryz.func105 (by kernel_rfl) (withSpec_ok (withSpec_ok (withSpec_ok (withSpec_ok noSpecs_ok ok_ref06_word) (Ct.named ok_ref04_Push)) (Ct.named ok_ref06_Pseudo)) ok_ref06_put) hmix an_ref06_EncodeUDP (Eq.mpr (by kernel_rfl) vc_ref06_EncodeUDP)
theorem or20480 {f : Int} (h0 : 0 ≤ f) (h1 : f ≤ 255) : bits .or .i64 20480 f = 80 * 256 + f := by
  have := or8' (n := 80) (x := f) (by omega) (by omega) h0 h1
  rwa [show shlI .i64 80 8 = 20480 from by decide] at this
theorem w2_20480 {f : Int} (h0 : 0 ≤ f) (h1 : f ≤ 255) : w2 (80 * 256 + f) = [80, f] := w2_pair (by omega) (by omega) h0 h1
def ct_transport_EncodeTCP : Ct := ⟨[.val cU32, .val cU32, .agg cSeg], [.own 5 cU8, .val cI], fun d => [(d.2.2.1.2.2.2.2.2.2.length : Int) ≤ 1000000], fun d => ((tcpEnc d.1 d.2.1 d.2.2.1, tcpErr d.2.2.1, ()), ())⟩
def an_transport_EncodeTCP : PDs ct_transport_EncodeTCP.ps → Anns := (fun _ => {})
theorem vc_transport_EncodeTCP :
    ∀ (x x_1 : Int) (d : Int × Int × Int × Int × Int × Int × List Int), ((0 : Int) ≤ x ∧ x ≤ (4294967295 : Int)) ∧ ((0 : Int) ≤ x_1 ∧ x_1 ≤ (4294967295 : Int)) ∧ CT.wf cSeg d ∧ True → (↑(List.length
     d.2.2.2.2.2.2) : Int) ≤ (1000000 : Int) → ∀ (b : Bool), b = !allIn (65535 : Int) [d.1, d.2.1, d.2.2.2.2.2.1] → ((!b) = true → ((!b) = true → (!b) = true) ∧ True) ∧ ((!b) = true → ((!b) = true → (!b) =
     true) ∧ True) ∧ ifP (!b) (((!b) = true → (!b) = true) ∧ ((!b) = true → (!b) = true) ∧ ((!b) = true → ((!b) = true → (!b) = true) ∧ True) ∧ (b = false → (!b) = true) ∧ ∀ (b_1 : Bool), (b_1 = bif b then
     true else !allIn (4294967295 : Int) [d.2.2.1, d.2.2.2.1]) → ((!b_1) = true → ((!b_1) = true → (!b_1) = true) ∧ True) ∧ ifP (!b_1) (((!b_1) = true → (!b_1) = true) ∧ ((!b_1) = true → ((!b_1) = true →
     (!b_1) = true) ∧ True) ∧ (b_1 = false → (!b_1) = true) ∧ ifP (bif b_1 then true else !allIn (255 : Int) [d.2.2.2.2.1]) (([] : List Int) = tcpEnc x x_1 d ∧ (1 : Int) = tcpErr d) ((0 : Int) ≤ (16 : Int)
     ∧ (0 : Int) ≤ (16 : Int) ∧ allIn (65535 : Int) [d.1, d.2.1, shrI IntKind.i64 d.2.2.1 (16 : Int), bits BinOp.and IntKind.i64 d.2.2.1 (65535 : Int), shrI IntKind.i64 d.2.2.2.1 (16 : Int), bits BinOp.and
     IntKind.i64 d.2.2.2.1 (65535 : Int), bits BinOp.or IntKind.i64 (20480 : Int) d.2.2.2.2.1, d.2.2.2.2.2.1, (0 : Int), (0 : Int)] = true ∧ (↑(List.length [d.1, d.2.1, shrI IntKind.i64 d.2.2.1 (16 : Int),
     bits BinOp.and IntKind.i64 d.2.2.1 (65535 : Int), shrI IntKind.i64 d.2.2.2.1 (16 : Int), bits BinOp.and IntKind.i64 d.2.2.2.1 (65535 : Int), bits BinOp.or IntKind.i64 (20480 : Int) d.2.2.2.2.1,
     d.2.2.2.2.2.1, (0 : Int), (0 : Int)]) : Int) ≤ (1073741824 : Int) ∧ ∀ (x_2 : List Int), x_2 = List.flatMap w2 [d.1, d.2.1, shrI IntKind.i64 d.2.2.1 (16 : Int), bits BinOp.and IntKind.i64 d.2.2.1
     (65535 : Int), shrI IntKind.i64 d.2.2.2.1 (16 : Int), bits BinOp.and IntKind.i64 d.2.2.2.1 (65535 : Int), bits BinOp.or IntKind.i64 (20480 : Int) d.2.2.2.2.1, d.2.2.2.2.2.1, (0 : Int), (0 : Int)] →
     (List.length x_2 + List.length d.2.2.2.2.2.2) * (1 : Nat) ≤ (140737488355328 : Nat) ∧ (↑(List.length (x_2 ++ d.2.2.2.2.2.2)) : Int) ≤ (1073741824 : Int) ∧ ∀ (x_3 : Int), x_3 = pseudo x x_1 (6 : Int)
     (x_2 ++ d.2.2.2.2.2.2) → (0 : Int) ≤ (16 : Int) ∧ (16 : Int) + (2 : Int) ≤ (↑(List.length (x_2 ++ d.2.2.2.2.2.2)) : Int) ∧ (↑(List.length (x_2 ++ d.2.2.2.2.2.2)) : Int) ≤ (1099511627776 : Int) ∧ (0 :
     Int) ≤ x_3 ∧ x_3 ≤ (65535 : Int) ∧ (if (1480 : Int) < (↑(List.length (x_2 ++ d.2.2.2.2.2.2)) : Int) then ([] : List Int) else setW (x_2 ++ d.2.2.2.2.2.2) (Int.toNat (16 : Int)) x_3) = tcpEnc x x_1 d ∧
     (if (1480 : Int) < (↑(List.length (x_2 ++ d.2.2.2.2.2.2)) : Int) then (5 : Int) else (0 : Int)) = tcpErr d)) ((!b_1) = false ∧ (!b_1) = false ∧ (b_1 = false → false = true) ∧ ifP (bif b_1 then true
     else false) (([] : List Int) = tcpEnc x x_1 d ∧ (1 : Int) = tcpErr d) ((0 : Int) ≤ (16 : Int) ∧ (0 : Int) ≤ (16 : Int) ∧ allIn (65535 : Int) [d.1, d.2.1, shrI IntKind.i64 d.2.2.1 (16 : Int), bits
     BinOp.and IntKind.i64 d.2.2.1 (65535 : Int), shrI IntKind.i64 d.2.2.2.1 (16 : Int), bits BinOp.and IntKind.i64 d.2.2.2.1 (65535 : Int), bits BinOp.or IntKind.i64 (20480 : Int) d.2.2.2.2.1,
     d.2.2.2.2.2.1, (0 : Int), (0 : Int)] = true ∧ (↑(List.length [d.1, d.2.1, shrI IntKind.i64 d.2.2.1 (16 : Int), bits BinOp.and IntKind.i64 d.2.2.1 (65535 : Int), shrI IntKind.i64 d.2.2.2.1 (16 : Int),
     bits BinOp.and IntKind.i64 d.2.2.2.1 (65535 : Int), bits BinOp.or IntKind.i64 (20480 : Int) d.2.2.2.2.1, d.2.2.2.2.2.1, (0 : Int), (0 : Int)]) : Int) ≤ (1073741824 : Int) ∧ ∀ (x_2 : List Int), x_2 =
     List.flatMap w2 [d.1, d.2.1, shrI IntKind.i64 d.2.2.1 (16 : Int), bits BinOp.and IntKind.i64 d.2.2.1 (65535 : Int), shrI IntKind.i64 d.2.2.2.1 (16 : Int), bits BinOp.and IntKind.i64 d.2.2.2.1 (65535 :
     Int), bits BinOp.or IntKind.i64 (20480 : Int) d.2.2.2.2.1, d.2.2.2.2.2.1, (0 : Int), (0 : Int)] → (List.length x_2 + List.length d.2.2.2.2.2.2) * (1 : Nat) ≤ (140737488355328 : Nat) ∧ (↑(List.length
     (x_2 ++ d.2.2.2.2.2.2)) : Int) ≤ (1073741824 : Int) ∧ ∀ (x_3 : Int), x_3 = pseudo x x_1 (6 : Int) (x_2 ++ d.2.2.2.2.2.2) → (0 : Int) ≤ (16 : Int) ∧ (16 : Int) + (2 : Int) ≤ (↑(List.length (x_2 ++
     d.2.2.2.2.2.2)) : Int) ∧ (↑(List.length (x_2 ++ d.2.2.2.2.2.2)) : Int) ≤ (1099511627776 : Int) ∧ (0 : Int) ≤ x_3 ∧ x_3 ≤ (65535 : Int) ∧ (if (1480 : Int) < (↑(List.length (x_2 ++ d.2.2.2.2.2.2)) :
     Int) then ([] : List Int) else setW (x_2 ++ d.2.2.2.2.2.2) (Int.toNat (16 : Int)) x_3) = tcpEnc x x_1 d ∧ (if (1480 : Int) < (↑(List.length (x_2 ++ d.2.2.2.2.2.2)) : Int) then (5 : Int) else (0 :
     Int)) = tcpErr d))) ((!b) = false ∧ (!b) = false ∧ (b = false → false = true) ∧ ∀ (b_1 : Bool), (b_1 = bif b then true else false) → ((!b_1) = true → ((!b_1) = true → (!b_1) = true) ∧ True) ∧ ifP
     (!b_1) (((!b_1) = true → (!b_1) = true) ∧ ((!b_1) = true → ((!b_1) = true → (!b_1) = true) ∧ True) ∧ (b_1 = false → (!b_1) = true) ∧ ifP (bif b_1 then true else !allIn (255 : Int) [d.2.2.2.2.1]) (([]
     : List Int) = tcpEnc x x_1 d ∧ (1 : Int) = tcpErr d) ((0 : Int) ≤ (16 : Int) ∧ (0 : Int) ≤ (16 : Int) ∧ allIn (65535 : Int) [d.1, d.2.1, shrI IntKind.i64 d.2.2.1 (16 : Int), bits BinOp.and IntKind.i64
     d.2.2.1 (65535 : Int), shrI IntKind.i64 d.2.2.2.1 (16 : Int), bits BinOp.and IntKind.i64 d.2.2.2.1 (65535 : Int), bits BinOp.or IntKind.i64 (20480 : Int) d.2.2.2.2.1, d.2.2.2.2.2.1, (0 : Int), (0 :
     Int)] = true ∧ (↑(List.length [d.1, d.2.1, shrI IntKind.i64 d.2.2.1 (16 : Int), bits BinOp.and IntKind.i64 d.2.2.1 (65535 : Int), shrI IntKind.i64 d.2.2.2.1 (16 : Int), bits BinOp.and IntKind.i64
     d.2.2.2.1 (65535 : Int), bits BinOp.or IntKind.i64 (20480 : Int) d.2.2.2.2.1, d.2.2.2.2.2.1, (0 : Int), (0 : Int)]) : Int) ≤ (1073741824 : Int) ∧ ∀ (x_2 : List Int), x_2 = List.flatMap w2 [d.1, d.2.1,
     shrI IntKind.i64 d.2.2.1 (16 : Int), bits BinOp.and IntKind.i64 d.2.2.1 (65535 : Int), shrI IntKind.i64 d.2.2.2.1 (16 : Int), bits BinOp.and IntKind.i64 d.2.2.2.1 (65535 : Int), bits BinOp.or
     IntKind.i64 (20480 : Int) d.2.2.2.2.1, d.2.2.2.2.2.1, (0 : Int), (0 : Int)] → (List.length x_2 + List.length d.2.2.2.2.2.2) * (1 : Nat) ≤ (140737488355328 : Nat) ∧ (↑(List.length (x_2 ++
     d.2.2.2.2.2.2)) : Int) ≤ (1073741824 : Int) ∧ ∀ (x_3 : Int), x_3 = pseudo x x_1 (6 : Int) (x_2 ++ d.2.2.2.2.2.2) → (0 : Int) ≤ (16 : Int) ∧ (16 : Int) + (2 : Int) ≤ (↑(List.length (x_2 ++
     d.2.2.2.2.2.2)) : Int) ∧ (↑(List.length (x_2 ++ d.2.2.2.2.2.2)) : Int) ≤ (1099511627776 : Int) ∧ (0 : Int) ≤ x_3 ∧ x_3 ≤ (65535 : Int) ∧ (if (1480 : Int) < (↑(List.length (x_2 ++ d.2.2.2.2.2.2)) :
     Int) then ([] : List Int) else setW (x_2 ++ d.2.2.2.2.2.2) (Int.toNat (16 : Int)) x_3) = tcpEnc x x_1 d ∧ (if (1480 : Int) < (↑(List.length (x_2 ++ d.2.2.2.2.2.2)) : Int) then (5 : Int) else (0 :
     Int)) = tcpErr d)) ((!b_1) = false ∧ (!b_1) = false ∧ (b_1 = false → false = true) ∧ ifP (bif b_1 then true else false) (([] : List Int) = tcpEnc x x_1 d ∧ (1 : Int) = tcpErr d) ((0 : Int) ≤ (16 :
     Int) ∧ (0 : Int) ≤ (16 : Int) ∧ allIn (65535 : Int) [d.1, d.2.1, shrI IntKind.i64 d.2.2.1 (16 : Int), bits BinOp.and IntKind.i64 d.2.2.1 (65535 : Int), shrI IntKind.i64 d.2.2.2.1 (16 : Int), bits
     BinOp.and IntKind.i64 d.2.2.2.1 (65535 : Int), bits BinOp.or IntKind.i64 (20480 : Int) d.2.2.2.2.1, d.2.2.2.2.2.1, (0 : Int), (0 : Int)] = true ∧ (↑(List.length [d.1, d.2.1, shrI IntKind.i64 d.2.2.1
     (16 : Int), bits BinOp.and IntKind.i64 d.2.2.1 (65535 : Int), shrI IntKind.i64 d.2.2.2.1 (16 : Int), bits BinOp.and IntKind.i64 d.2.2.2.1 (65535 : Int), bits BinOp.or IntKind.i64 (20480 : Int)
     d.2.2.2.2.1, d.2.2.2.2.2.1, (0 : Int), (0 : Int)]) : Int) ≤ (1073741824 : Int) ∧ ∀ (x_2 : List Int), x_2 = List.flatMap w2 [d.1, d.2.1, shrI IntKind.i64 d.2.2.1 (16 : Int), bits BinOp.and IntKind.i64
     d.2.2.1 (65535 : Int), shrI IntKind.i64 d.2.2.2.1 (16 : Int), bits BinOp.and IntKind.i64 d.2.2.2.1 (65535 : Int), bits BinOp.or IntKind.i64 (20480 : Int) d.2.2.2.2.1, d.2.2.2.2.2.1, (0 : Int), (0 :
     Int)] → (List.length x_2 + List.length d.2.2.2.2.2.2) * (1 : Nat) ≤ (140737488355328 : Nat) ∧ (↑(List.length (x_2 ++ d.2.2.2.2.2.2)) : Int) ≤ (1073741824 : Int) ∧ ∀ (x_3 : Int), x_3 = pseudo x x_1 (6
     : Int) (x_2 ++ d.2.2.2.2.2.2) → (0 : Int) ≤ (16 : Int) ∧ (16 : Int) + (2 : Int) ≤ (↑(List.length (x_2 ++ d.2.2.2.2.2.2)) : Int) ∧ (↑(List.length (x_2 ++ d.2.2.2.2.2.2)) : Int) ≤ (1099511627776 : Int)
     ∧ (0 : Int) ≤ x_3 ∧ x_3 ≤ (65535 : Int) ∧ (if (1480 : Int) < (↑(List.length (x_2 ++ d.2.2.2.2.2.2)) : Int) then ([] : List Int) else setW (x_2 ++ d.2.2.2.2.2.2) (Int.toNat (16 : Int)) x_3) = tcpEnc x
     x_1 d ∧ (if (1480 : Int) < (↑(List.length (x_2 ++ d.2.2.2.2.2.2)) : Int) then (5 : Int) else (0 : Int)) = tcpErr d))) := by
  rintro a b e ⟨-, -, ⟨-, -, -, -, -, -, -, hd⟩, -⟩ hl
  intro b1 hb1
  refine ⟨by simp, by simp, ?_⟩
  cases b1 with
  | true =>
    have hbad : ¬ tcpOK e := by
      rintro ⟨h1, h2, -, -, -, h3⟩
      rw [word16_iff] at h1 h2 h3
      rw [show allIn 65535 [e.1, e.2.1, e.2.2.2.2.2.1] = true from by simp [allIn]; omega] at hb1; cases hb1
    refine ifP_split (fun h => by cases h) (fun _ => ⟨rfl, rfl, by simp, ?_⟩)
    intro b2 hb2
    have hb2 : b2 = true := hb2
    subst hb2
    exact ⟨by simp, ifP_split (fun h => by cases h) (fun _ => ⟨rfl, rfl, by simp, ifP_split (fun _ => tcp_bad hbad) (fun h => by cases h)⟩)⟩
  | false =>
    have h1 : (0 ≤ e.1 ∧ e.1 ≤ 65535) ∧ (0 ≤ e.2.1 ∧ e.2.1 ≤ 65535) ∧ 0 ≤ e.2.2.2.2.2.1 ∧ e.2.2.2.2.2.1 ≤ 65535 := by
      have : allIn 65535 [e.1, e.2.1, e.2.2.2.2.2.1] = true := by
        cases hx : allIn 65535 [e.1, e.2.1, e.2.2.2.2.2.1] with
        | true => rfl
        | false => rw [hx] at hb1; cases hb1
      simpa [allIn] using this
    refine ifP_split (fun _ => ⟨by simp, by simp, by simp, by simp, ?_⟩) (fun h => by cases h)
    intro b2 hb2
    refine ⟨by simp, ?_⟩
    cases b2 with
    | true =>
      have hbad : ¬ tcpOK e := by
        rintro ⟨-, -, h3, h4, -, -⟩
        have : allIn 4294967295 [e.2.2.1, e.2.2.2.1] = true := (allIn2 _ _ _).2 ⟨h3, h4⟩
        rw [this] at hb2; cases hb2
      exact ifP_split (fun h => by cases h) (fun _ => ⟨rfl, rfl, by simp, ifP_split (fun _ => tcp_bad hbad) (fun h => by cases h)⟩)
    | false =>
      have h2 : (0 ≤ e.2.2.1 ∧ e.2.2.1 ≤ 4294967295) ∧ 0 ≤ e.2.2.2.1 ∧ e.2.2.2.1 ≤ 4294967295 := by
        apply (allIn2 _ _ _).1
        cases hx : allIn 4294967295 [e.2.2.1, e.2.2.2.1] with
        | true => rfl
        | false => rw [hx] at hb2; cases hb2
      refine ifP_split (fun _ => ⟨by simp, by simp, by simp, ifP_split (fun h => ?_) (fun h => ?_)⟩) (fun h => by cases h)
      · apply tcp_bad
        rintro ⟨-, -, -, -, h3, -⟩
        rw [(allIn1 _ _).2 h3] at h; cases h
      have h3 : 0 ≤ e.2.2.2.2.1 ∧ e.2.2.2.2.1 ≤ 255 := by
        apply (allIn1 _ _).1
        cases hx : allIn 255 [e.2.2.2.2.1] with
        | true => rfl
        | false => rw [hx] at h; cases h
      have hok : tcpOK e := ⟨(word16_iff _).2 h1.1, (word16_iff _).2 h1.2.1, h2.1, h2.2, h3, (word16_iff _).2 h1.2.2⟩
      obtain ⟨e1, e2⟩ := tcp_ok (a := a) (b := b) hok
      have hB := pseudo_range (a := a) (b := b) (p := 6) (tcp_bytes hok hd)
      have hbl := tcp_len e
      rw [shr16 h2.1.1, shr16 h2.2.1, i64_and65535, i64_and65535, or20480 h3.1 h3.2]
      refine ⟨by omega, by omega, by simp [allIn]; omega, by simp, ?_⟩
      intro p hpe
      have hp8 : p.length = 20 := by rw [hpe]; simp [w2]
      have hp : p ++ e.2.2.2.2.2.2 = tcpBody e := by
        rw [hpe]
        simp only [List.flatMap_cons, List.flatMap_nil, List.append_nil, List.append_assoc, w2_split, show w2 0 = [0, 0] from rfl, w2_20480 h3.1 h3.2]
        rfl
      refine ⟨(app_lim (by omega) (by omega)).1, by rw [List.length_append]; omega, ?_⟩
      intro c hc
      have hc : c = pseudo a b 6 (tcpBody e) := by rw [hc, hp]
      exact lim_fin (a := 16) hp (by omega) (by omega) (by omega) (by omega) (by rw [hc]; exact hB.1) (by rw [hc]; exact hB.2) (by rw [hc]; exact e1) e2
theorem ok_transport_EncodeTCP : SpecOK Tryz.prog GL 111 ct_transport_EncodeTCP.spec := Ct.ok' _ Tryz.func111 (by kernel_rfl) (withSpec_ok (withSpec_ok (withSpec_ok (withSpec_ok noSpecs_ok ok_transport_within) (Ct.named ok_transport_put)) (Ct.named ok_transport_Pseudo)) ok_transport_limited) hmix an_transport_EncodeTCP (Eq.mpr (by kernel_rfl) vc_transport_EncodeTCP)

def ct_ref06_EncodeTCP : Ct := ⟨[.val cU32, .val cU32, .agg cSeg], [.own 5 cU8, .val cI], fun d => [(d.2.2.1.2.2.2.2.2.2.length : Int) ≤ 1000000], fun d => ((tcpEnc d.1 d.2.1 d.2.2.1, tcpErr d.2.2.1, ()), ())⟩
def an_ref06_EncodeTCP : PDs ct_ref06_EncodeTCP.ps → Anns := (fun _ => {})
theorem vc_ref06_EncodeTCP :
    ∀ (x x_1 : Int) (d : Int × Int × Int × Int × Int × Int × List Int), ((0 : Int) ≤ x ∧ x ≤ (4294967295 : Int)) ∧ ((0 : Int) ≤ x_1 ∧ x_1 ≤ (4294967295 : Int)) ∧ CT.wf cSeg d ∧ True → (↑(List.length
     d.2.2.2.2.2.2) : Int) ≤ (1000000 : Int) → ∀ (b : Bool), b = !word16 d.1 → ((!b) = true → ((!b) = true → (!b) = true) ∧ True) ∧ ((!b) = true → ((!b) = true → (!b) = true) ∧ True) ∧ ((!b) = true → ((!b)
     = true → (!b) = true) ∧ True) ∧ (b = false → (!b) = true) ∧ ∀ (b_1 : Bool), (b_1 = bif b then true else !word16 d.2.1) → ((!b_1) = true → ((!b_1) = true → (!b_1) = true) ∧ True) ∧ ((!b_1) = true →
     ((!b_1) = true → (!b_1) = true) ∧ True) ∧ ((!b_1) = true → ((!b_1) = true → (!b_1) = true) ∧ True) ∧ (b_1 = false → (!b_1) = true) ∧ ∀ (b : Bool), (b = bif b_1 then true else !decide ((0 : Int) ≤
     d.2.2.1 ∧ d.2.2.1 ≤ (4294967295 : Int))) → ((!b) = true → ((!b) = true → (!b) = true) ∧ True) ∧ ((!b) = true → ((!b) = true → (!b) = true) ∧ True) ∧ ((!b) = true → ((!b) = true → (!b) = true) ∧ True)
     ∧ (b = false → (!b) = true) ∧ ∀ (b_2 : Bool), (b_2 = bif b then true else !decide ((0 : Int) ≤ d.2.2.2.1 ∧ d.2.2.2.1 ≤ (4294967295 : Int))) → ((!b_2) = true → ((!b_2) = true → (!b_2) = true) ∧ True) ∧
     ((!b_2) = true → ((!b_2) = true → (!b_2) = true) ∧ True) ∧ ((!b_2) = true → ((!b_2) = true → (!b_2) = true) ∧ True) ∧ (b_2 = false → (!b_2) = true) ∧ ∀ (b : Bool), (b = bif b_2 then true else !decide
     ((0 : Int) ≤ d.2.2.2.2.1 ∧ d.2.2.2.2.1 ≤ (255 : Int))) → ((!b) = true → ((!b) = true → (!b) = true) ∧ True) ∧ ((!b) = true → ((!b) = true → (!b) = true) ∧ True) ∧ ((!b) = true → ((!b) = true → (!b) =
     true) ∧ True) ∧ (b = false → (!b) = true) ∧ ifP (bif b then true else !word16 d.2.2.2.2.2.1) (([] : List Int) = tcpEnc x x_1 d ∧ (1 : Int) = tcpErr d) (ifP (decide ((1480 : Int) < IntKind.wrap
     IntKind.i64 ((↑(List.length d.2.2.2.2.2.2) : Int) + (20 : Int)))) (([] : List Int) = tcpEnc x x_1 d ∧ (5 : Int) = tcpErr d) ((↑(0 : Nat) : Int) ≤ (1099511627776 : Int) ∧ ∀ (x_2 : List Int), x_2 = putB
     ([] : List Int) d.1 (2 : Int) → (↑(List.length x_2) : Int) ≤ (1099511627776 : Int) ∧ ∀ (x_3 : List Int), x_3 = putB x_2 d.2.1 (2 : Int) → (↑(List.length x_3) : Int) ≤ (1099511627776 : Int) ∧ ∀ (x_4 :
     List Int), x_4 = putB x_3 d.2.2.1 (4 : Int) → (↑(List.length x_4) : Int) ≤ (1099511627776 : Int) ∧ ∀ (x_5 : List Int), x_5 = putB x_4 d.2.2.2.1 (4 : Int) → (↑(List.length x_5) : Int) ≤ (1099511627776
     : Int) ∧ ∀ (x_6 : List Int), x_6 = putB x_5 (80 : Int) (1 : Int) → (↑(List.length x_6) : Int) ≤ (1099511627776 : Int) ∧ ∀ (x_7 : List Int), x_7 = putB x_6 d.2.2.2.2.1 (1 : Int) → (↑(List.length x_7) :
     Int) ≤ (1099511627776 : Int) ∧ ∀ (x_8 : List Int), x_8 = putB x_7 d.2.2.2.2.2.1 (2 : Int) → (List.length x_8 + List.length [(0 : Int), (0 : Int), (0 : Int), (0 : Int)]) * (1 : Nat) ≤ (140737488355328
     : Nat) ∧ (List.length (x_8 ++ [(0 : Int), (0 : Int), (0 : Int), (0 : Int)]) + List.length d.2.2.2.2.2.2) * (1 : Nat) ≤ (140737488355328 : Nat) ∧ (↑(List.length (x_8 ++ [(0 : Int), (0 : Int), (0 :
     Int), (0 : Int)] ++ d.2.2.2.2.2.2)) : Int) ≤ (1073741824 : Int) ∧ ∀ (x_9 : Int), x_9 = pseudo x x_1 (6 : Int) (x_8 ++ [(0 : Int), (0 : Int), (0 : Int), (0 : Int)] ++ d.2.2.2.2.2.2) → (0 : Int) ≤ (16 :
     Int) ∧ (16 : Int) + (2 : Int) ≤ (↑(List.length (x_8 ++ [(0 : Int), (0 : Int), (0 : Int), (0 : Int)] ++ d.2.2.2.2.2.2)) : Int) ∧ (↑(List.length (x_8 ++ [(0 : Int), (0 : Int), (0 : Int), (0 : Int)] ++
     d.2.2.2.2.2.2)) : Int) ≤ (1099511627776 : Int) ∧ (0 : Int) ≤ x_9 ∧ x_9 ≤ (65535 : Int) ∧ setW (x_8 ++ [(0 : Int), (0 : Int), (0 : Int), (0 : Int)] ++ d.2.2.2.2.2.2) (Int.toNat (16 : Int)) x_9 = tcpEnc
     x x_1 d ∧ (0 : Int) = tcpErr d)) := by
  rintro a b e ⟨-, -, ⟨-, -, -, -, -, -, -, hd⟩, -⟩ hl
  intro b1 h1
  refine ⟨by simp, by simp, by simp, by simp, ?_⟩
  intro b2 h2
  refine ⟨by simp, by simp, by simp, by simp, ?_⟩
  intro b3 h3
  refine ⟨by simp, by simp, by simp, by simp, ?_⟩
  intro b4 h4
  refine ⟨by simp, by simp, by simp, by simp, ?_⟩
  intro b5 h5
  refine ⟨by simp, by simp, by simp, by simp, ?_⟩
  rw [w64 (n := (e.2.2.2.2.2.2.length : Int) + 20) (by omega) (by omega)]
  have hall : (bif b5 then true else !word16 e.2.2.2.2.2.1) = !decide (tcpOK e) := by
    rw [h5, h4, h3, h2, h1]
    by_cases w1 : word16 e.1 = true
    all_goals by_cases w2 : word16 e.2.1 = true
    all_goals by_cases w3 : word16 e.2.2.2.2.2.1 = true
    all_goals by_cases q1 : 0 ≤ e.2.2.1 ∧ e.2.2.1 ≤ 4294967295
    all_goals by_cases q2 : 0 ≤ e.2.2.2.1 ∧ e.2.2.2.1 ≤ 4294967295
    all_goals by_cases q3 : 0 ≤ e.2.2.2.2.1 ∧ e.2.2.2.2.1 ≤ 255
    all_goals simp [tcpOK, w1, w2, w3, q1, q2, q3]
  rw [hall]
  refine ifP_split (fun h => tcp_bad (by simpa using h)) (fun h => ?_)
  have hok : tcpOK e := by simpa using h
  obtain ⟨e1, e2⟩ := tcp_ok (a := a) (b := b) hok
  have hB := pseudo_range (a := a) (b := b) (p := 6) (tcp_bytes hok hd)
  have hbl := tcp_len e
  refine ifP_split (fun h5 => ?_) (fun h5 => ?_)
  · have h5 := of_decide_eq_true h5
    rw [e1, e2, if_pos (by omega), if_pos (by omega)]; exact ⟨rfl, rfl⟩
  have h5 := of_decide_eq_false h5
  have h5' : ¬ (1480 : Int) < (tcpBody e).length := by omega
  rw [if_neg h5'] at e1
  obtain ⟨k1, k2, k3, k4, k5, k6⟩ := hok
  rw [word16_iff] at k1 k2 k6
  refine ⟨by simp, ?_⟩
  intro q1 h1
  rw [putB_2 k1.1 k1.2, List.nil_append] at h1
  have l1 : q1.length = 2 := by rw [h1]; rfl
  refine ⟨by omega, ?_⟩
  intro q2 h2
  rw [putB_2 k2.1 k2.2] at h2
  have l2 : q2.length = 4 := by rw [h2, List.length_append, l1]; rfl
  refine ⟨by omega, ?_⟩
  intro q3 h3
  rw [putB_4 k3.1 k3.2] at h3
  have l3 : q3.length = 8 := by rw [h3, List.length_append, l2]; rfl
  refine ⟨by omega, ?_⟩
  intro q4 h4
  rw [putB_4 k4.1 k4.2] at h4
  have l4 : q4.length = 12 := by rw [h4, List.length_append, l3]; rfl
  refine ⟨by omega, ?_⟩
  intro q5 h5
  rw [putB_1 (by omega) (by omega)] at h5
  have l5 : q5.length = 13 := by rw [h5, List.length_append, l4]; rfl
  refine ⟨by omega, ?_⟩
  intro q6 h6
  rw [putB_1 k5.1 k5.2] at h6
  have l6 : q6.length = 14 := by rw [h6, List.length_append, l5]; rfl
  refine ⟨by omega, ?_⟩
  intro q7 h7
  rw [putB_2 k6.1 k6.2] at h7
  have l7 : q7.length = 16 := by rw [h7, List.length_append, l6]; rfl
  have hp : q7 ++ [0, 0, 0, 0] ++ e.2.2.2.2.2.2 = tcpBody e := by
    rw [h7, h6, h5, h4, h3, h2, h1]
    simp only [List.append_assoc]
    rfl
  rw [hp]
  refine ⟨by simp only [List.length_cons, List.length_nil]; omega, by simp only [List.length_append, List.length_cons, List.length_nil]; omega, by omega, ?_⟩
  rintro c rfl
  exact ⟨by omega, by omega, by omega, hB.1, hB.2, e1.symm, low5 e2 h5'⟩
theorem ok_ref06_EncodeTCP : SpecOK Tryz.prog GL 79 ct_ref06_EncodeTCP.spec := Ct.ok' _ Tryz.func79 (by kernel_rfl) (withSpec_ok (withSpec_ok (withSpec_ok (withSpec_ok (withSpec_ok (withSpec_ok noSpecs_ok ok_ref06_word) ok_ref06_octet) ok_ref06_long) (Ct.named ok_ref04_Push)) (Ct.named ok_ref06_Pseudo)) ok_ref06_put) hmix an_ref06_EncodeTCP (Eq.mpr (by kernel_rfl) vc_ref06_EncodeTCP)
end Go.RS

