/- Addr: prefixes, and functions of Go's library over numbers. -/
import Derived.Test.YtnpjmdldhdhdkaaBalance
import Derived.Laws.BitsAllLaws
namespace Go.RS
open Go.SX Go.Proofs
set_option maxRecDepth 100000
set_option linter.unusedVariables false

abbrev cPfx : CT := .pair cU32 cI
/-- Three ways. -/
def icmp (a b : Int) : Int := if a < b then -1 else if b < a then 1 else 0
abbrev Pfx : Type := Int × Int
def pcmp (p q : Pfx) : Int := if icmp p.1 q.1 ≠ 0 then icmp p.1 q.1 else icmp p.2 q.2
def firstNZ : List Int → Int
  | [] => 0
  | x :: xs => if x ≠ 0 then x else firstNZ xs
theorem drop_getD {l : List Int} {j : Int} (h0 : 0 ≤ j) (h1 : j < l.length) : l.drop j.toNat = l.getD j.toNat default :: l.drop (j + 1).toNat := by
  have hj : j.toNat < l.length := by omega
  rw [List.drop_eq_getElem_cons hj, List.getD_eq_getElem?_getD, List.getElem?_eq_getElem hj, Option.getD_some]
  congr 2; omega
theorem mem_take_succ {α : Type} [Inhabited α] {l : List α} {j : Int} (h0 : 0 ≤ j) (h1 : j < l.length) {y : α} (hy : y ∈ l.take (j + 1).toNat) : y ∈ l.take j.toNat ∨ y = l.getD j.toNat default := by
  have hj : j.toNat < l.length := by omega
  have e : (j + 1).toNat = j.toNat + 1 := by omega
  rw [e, List.take_succ_eq_append_getElem hj] at hy
  rcases List.mem_append.1 hy with hy | hy
  · exact .inl hy
  · right
    simp at hy
    rw [List.getD_eq_getElem?_getD, List.getElem?_eq_getElem hj, Option.getD_some]; exact hy
theorem idxOf_at {l : List Int} {v j : Int} (h0 : 0 ≤ j) (h1 : j < l.length) (hv : l.getD j.toNat default = v) (h2 : ∀ y ∈ l.take j.toNat, y ≠ v) : l.idxOf v = j.toNat := by
  have hj : j.toNat < l.length := by omega
  rw [List.getD_eq_getElem?_getD, List.getElem?_eq_getElem hj, Option.getD_some] at hv
  have e : l = l.take j.toNat ++ l[j.toNat] :: l.drop (j.toNat + 1) := by
    rw [← List.drop_eq_getElem_cons hj, List.take_append_drop]
  rw [e, List.idxOf_append, if_neg (fun hm => h2 v hm rfl), hv, List.idxOf_cons_self]
  simp; omega
def ct_cmp_isNaN_bef2 : Ct := ⟨[.val cI], [.val .bool], fun _ => [], fun _ => ((false, ()), ())⟩
def an_cmp_isNaN_bef2 : PDs ct_cmp_isNaN_bef2.ps → Anns := (fun _ => {})
theorem vc_cmp_isNaN_bef2 :
    ∀ (x : Int), ((-9223372036854775808 : Int) ≤ x ∧ x ≤ (9223372036854775807 : Int)) ∧ True → True → (!decide (x = x)) = false := by
  rintro x - -
  simp
theorem ok_cmp_isNaN_bef2 : SpecOK Try.prog 110 ct_cmp_isNaN_bef2.spec := Ct.ok' _ Try.func110 (by kernel_rfl) noSpecs_ok hmix an_cmp_isNaN_bef2 (Eq.mpr (by kernel_rfl) vc_cmp_isNaN_bef2)

def ct_cmp_isNaN_1748 : Ct := ⟨[.val cU32], [.val .bool], fun _ => [], fun _ => ((false, ()), ())⟩
def an_cmp_isNaN_1748 : PDs ct_cmp_isNaN_1748.ps → Anns := (fun _ => {})
theorem vc_cmp_isNaN_1748 :
    ∀ (x : Int), ((0 : Int) ≤ x ∧ x ≤ (4294967295 : Int)) ∧ True → True → (!decide (x = x)) = false := by
  rintro x - -
  simp
theorem ok_cmp_isNaN_1748 : SpecOK Try.prog 109 ct_cmp_isNaN_1748.spec := Ct.ok' _ Try.func109 (by kernel_rfl) noSpecs_ok hmix an_cmp_isNaN_1748 (Eq.mpr (by kernel_rfl) vc_cmp_isNaN_1748)

def ct_cmp_Compare_bef2 : Ct := ⟨[.val cI, .val cI], [.val cI], fun _ => [], fun d => ((icmp d.1 d.2.1, ()), ())⟩
def an_cmp_Compare_bef2 : PDs ct_cmp_Compare_bef2.ps → Anns := (fun _ => {})
theorem vc_cmp_Compare_bef2 :
    ∀ (x x_1 : Int), ((-9223372036854775808 : Int) ≤ x ∧ x ≤ (9223372036854775807 : Int)) ∧ ((-9223372036854775808 : Int) ≤ x_1 ∧ x_1 ≤ (9223372036854775807 : Int)) ∧ True → True → ifP (decide (x < x_1))
     ((-1 : Int) = icmp x x_1) (ifP (decide (x_1 < x)) ((1 : Int) = icmp x x_1) ((0 : Int) = icmp x x_1)) := by
  rintro x y - -
  unfold icmp
  refine ifP_split (fun h => ?_) (fun h => ifP_split (fun h2 => ?_) (fun h2 => ?_))
  · rw [if_pos (of_decide_eq_true h)]
  · rw [if_neg (of_decide_eq_false h), if_pos (of_decide_eq_true h2)]
  · rw [if_neg (of_decide_eq_false h), if_neg (of_decide_eq_false h2)]
theorem ok_cmp_Compare_bef2 : SpecOK Try.prog 101 ct_cmp_Compare_bef2.spec := Ct.ok' _ Try.func101 (by kernel_rfl) (withSpec_ok noSpecs_ok ok_cmp_isNaN_bef2) hmix an_cmp_Compare_bef2 (Eq.mpr (by kernel_rfl) vc_cmp_Compare_bef2)

def ct_cmp_Compare_1748 : Ct := ⟨[.val cU32, .val cU32], [.val cI], fun _ => [], fun d => ((icmp d.1 d.2.1, ()), ())⟩
def an_cmp_Compare_1748 : PDs ct_cmp_Compare_1748.ps → Anns := (fun _ => {})
theorem vc_cmp_Compare_1748 :
    ∀ (x x_1 : Int), ((0 : Int) ≤ x ∧ x ≤ (4294967295 : Int)) ∧ ((0 : Int) ≤ x_1 ∧ x_1 ≤ (4294967295 : Int)) ∧ True → True → ifP (decide (x < x_1)) ((-1 : Int) = icmp x x_1) (ifP (decide (x_1 < x)) ((1 :
     Int) = icmp x x_1) ((0 : Int) = icmp x x_1)) := by
  rintro x y - -
  unfold icmp
  refine ifP_split (fun h => ?_) (fun h => ifP_split (fun h2 => ?_) (fun h2 => ?_))
  · rw [if_pos (of_decide_eq_true h)]
  · rw [if_neg (of_decide_eq_false h), if_pos (of_decide_eq_true h2)]
  · rw [if_neg (of_decide_eq_false h), if_neg (of_decide_eq_false h2)]
theorem ok_cmp_Compare_1748 : SpecOK Try.prog 100 ct_cmp_Compare_1748.spec := Ct.ok' _ Try.func100 (by kernel_rfl) (withSpec_ok noSpecs_ok ok_cmp_isNaN_1748) hmix an_cmp_Compare_1748 (Eq.mpr (by kernel_rfl) vc_cmp_Compare_1748)

def ct_cmp_Or_bef2 : Ct := ⟨[.val (.sl cI)], [.val cI], fun _ => [], fun d => ((firstNZ d.1, ()), ())⟩
def an_cmp_Or_bef2 : PDs ct_cmp_Or_bef2.ps → Anns := (fun d => { loops := (fun n => match n with | 3 => some (fun S => { ι := Int, μ := fun i => (d.1.length - i).toNat, inv := fun i => 0 ≤ i ∧ i ≤ d.1.length ∧ firstNZ d.1 = firstNZ (d.1.drop i.toNat), keep := [3, 6, 7], slots := fun i => [(8, .int .i64 i)], names := fun i => [] }) | _ => none) })
theorem vc_cmp_Or_bef2 :
    ∀ (x : List Int), (List.length x ≤ maxLen ∧ ∀ (x_1 : Int), x_1 ∈ x → (-9223372036854775808 : Int) ≤ x_1 ∧ x_1 ≤ (9223372036854775807 : Int)) ∧ True → True → (∃ (x_1 : Int), ((0 : Int) ≤ x_1 ∧ x_1 ≤
     (↑(List.length x) : Int) ∧ firstNZ x = firstNZ (List.drop (Int.toNat x_1) x)) ∧ (0 : Int) = (0 : Int) ∧ x = x ∧ (↑(List.length x) : Int) = (↑(List.length x) : Int) ∧ (0 : Int) = x_1 ∧ True) ∧ ∀ (x_1 :
     Int), (0 : Int) ≤ x_1 ∧ x_1 ≤ (↑(List.length x) : Int) ∧ firstNZ x = firstNZ (List.drop (Int.toNat x_1) x) → ifP (decide (x_1 < (↑(List.length x) : Int))) ((0 : Int) ≤ x_1 ∧ x_1 < (↑(List.length x) :
     Int) ∧ ifP (!decide (List.getD x (Int.toNat x_1) default = (0 : Int))) (List.getD x (Int.toNat x_1) default = firstNZ x) (∃ (x_2 : Int), ((0 : Int) ≤ x_2 ∧ x_2 ≤ (↑(List.length x) : Int) ∧ firstNZ x =
     firstNZ (List.drop (Int.toNat x_2) x)) ∧ Int.toNat ((↑(List.length x) : Int) - x_2) < Int.toNat ((↑(List.length x) : Int) - x_1) ∧ (0 : Int) = (0 : Int) ∧ x = x ∧ (↑(List.length x) : Int) =
     (↑(List.length x) : Int) ∧ IntKind.wrap IntKind.i64 (x_1 + (1 : Int)) = x_2 ∧ True)) ((0 : Int) = firstNZ x) := by
  rintro x ⟨⟨hl, -⟩, -⟩ -
  simp only [maxLen] at hl
  refine ⟨⟨0, ⟨by omega, by omega, rfl⟩, (by repeat' first | exact trivial | refine ⟨(by with_reducible rfl), ?_⟩ | refine ⟨w64 (by omega) (by omega), ?_⟩ | refine ⟨rfl, ?_⟩)⟩, ?_⟩
  rintro j ⟨h0, h1, h2⟩
  refine ifP_split (fun hj => ?_) (fun hj => ?_)
  · have hj := of_decide_eq_true hj
    have e := drop_getD (l := x) h0 hj
    rw [e] at h2
    refine ⟨h0, hj, ifP_split (fun hz => ?_) (fun hz => ?_)⟩
    · have hz : x.getD j.toNat default ≠ 0 := by simpa only [Bool.not_eq_true', decide_eq_false_iff_not] using hz
      rw [h2, firstNZ, if_pos hz]
    · have hz : ¬ x.getD j.toNat default ≠ 0 := by simpa only [Bool.not_eq_false', decide_eq_true_eq, ne_eq, Decidable.not_not] using hz
      rw [firstNZ, if_neg hz] at h2
      exact ⟨j + 1, ⟨by omega, by omega, h2⟩, by omega, (by repeat' first | exact trivial | refine ⟨(by with_reducible rfl), ?_⟩ | refine ⟨w64 (by omega) (by omega), ?_⟩ | refine ⟨rfl, ?_⟩)⟩
  · have hj := of_decide_eq_false hj
    rw [h2, List.drop_eq_nil_of_le (by omega)]; rfl
theorem ok_cmp_Or_bef2 : SpecOK Try.prog 99 ct_cmp_Or_bef2.spec := Ct.ok' _ Try.func99 (by kernel_rfl) noSpecs_ok hmix an_cmp_Or_bef2 (Eq.mpr (by kernel_rfl) vc_cmp_Or_bef2)

def ct_address_Compare : Ct := ⟨[.agg cPfx, .agg cPfx], [.val cI], fun _ => [], fun d => ((pcmp d.1 d.2.1, ()), ())⟩
def an_address_Compare : PDs ct_address_Compare.ps → Anns := (fun _ => {})
theorem vc_address_Compare :
    ∀ (x x_1 x_2 x_3 : Int), (((0 : Int) ≤ x ∧ x ≤ (4294967295 : Int)) ∧ (-9223372036854775808 : Int) ≤ x_1 ∧ x_1 ≤ (9223372036854775807 : Int)) ∧ (((0 : Int) ≤ x_2 ∧ x_2 ≤ (4294967295 : Int)) ∧
     (-9223372036854775808 : Int) ≤ x_3 ∧ x_3 ≤ (9223372036854775807 : Int)) ∧ True → True → firstNZ [icmp x x_2, icmp x_1 x_3] = pcmp (x, x_1) (x_2, x_3) := by
  rintro x y z u - -
  simp only [firstNZ, pcmp]
  split
  · rfl
  · split
    · rfl
    · rename_i h; simp at h; exact h.symm
theorem ok_address_Compare : SpecOK Try.prog 78 ct_address_Compare.spec := Ct.ok' _ Try.func78 (by kernel_rfl) (withSpec_ok (withSpec_ok (withSpec_ok noSpecs_ok ok_cmp_Compare_1748) ok_cmp_Compare_bef2) ok_cmp_Or_bef2) hmix an_address_Compare (Eq.mpr (by kernel_rfl) vc_address_Compare)

def ct_ref01_Order : Ct := ⟨[.val cI, .val cI], [.val cI], fun _ => [], fun d => ((icmp d.1 d.2.1, ()), ())⟩
def an_ref01_Order : PDs ct_ref01_Order.ps → Anns := (fun _ => {})
theorem vc_ref01_Order :
    ∀ (x x_1 : Int), ((-9223372036854775808 : Int) ≤ x ∧ x ≤ (9223372036854775807 : Int)) ∧ ((-9223372036854775808 : Int) ≤ x_1 ∧ x_1 ≤ (9223372036854775807 : Int)) ∧ True → True → ifP (decide (x < x_1))
     ((-1 : Int) = icmp x x_1) (ifP (decide (x_1 < x)) ((1 : Int) = icmp x x_1) ((0 : Int) = icmp x x_1)) := by
  rintro x y - -
  unfold icmp
  refine ifP_split (fun h => ?_) (fun h => ifP_split (fun h2 => ?_) (fun h2 => ?_))
  · rw [if_pos (of_decide_eq_true h)]
  · rw [if_neg (of_decide_eq_false h), if_pos (of_decide_eq_true h2)]
  · rw [if_neg (of_decide_eq_false h), if_neg (of_decide_eq_false h2)]
theorem ok_ref01_Order : SpecOK Try.prog 103 ct_ref01_Order.spec := Ct.ok' _ Try.func103 (by kernel_rfl) noSpecs_ok hmix an_ref01_Order (Eq.mpr (by kernel_rfl) vc_ref01_Order)

def ct_ref01_Compare : Ct := ⟨[.agg cPfx, .agg cPfx], [.val cI], fun _ => [], fun d => ((pcmp d.1 d.2.1, ()), ())⟩
def an_ref01_Compare : PDs ct_ref01_Compare.ps → Anns := (fun _ => {})
theorem vc_ref01_Compare :
    ∀ (x x_1 x_2 x_3 : Int), (((0 : Int) ≤ x ∧ x ≤ (4294967295 : Int)) ∧ (-9223372036854775808 : Int) ≤ x_1 ∧ x_1 ≤ (9223372036854775807 : Int)) ∧ (((0 : Int) ≤ x_2 ∧ x_2 ≤ (4294967295 : Int)) ∧
     (-9223372036854775808 : Int) ≤ x_3 ∧ x_3 ≤ (9223372036854775807 : Int)) ∧ True → True → ifP (!decide (x = x_2)) (icmp (IntKind.wrap IntKind.i64 x) (IntKind.wrap IntKind.i64 x_2) = pcmp (x, x_1) (x_2,
     x_3)) (icmp x_1 x_3 = pcmp (x, x_1) (x_2, x_3)) := by
  rintro x y z u ⟨⟨⟨h0, h1⟩, -⟩, ⟨⟨h2, h3⟩, -⟩, -⟩ -
  unfold pcmp
  refine ifP_split (fun h => ?_) (fun h => ?_)
  · simp at h
    rw [w64 (by omega) (by omega), w64 (by omega) (by omega), if_pos (by simp only [icmp]; split <;> first | omega | (split <;> omega))]
  · simp at h
    subst h
    rw [if_neg (by simp [icmp])]
theorem ok_ref01_Compare : SpecOK Try.prog 82 ct_ref01_Compare.spec := Ct.ok' _ Try.func82 (by kernel_rfl) (withSpec_ok noSpecs_ok ok_ref01_Order) hmix an_ref01_Compare (Eq.mpr (by kernel_rfl) vc_ref01_Compare)
/-- How many addresses a prefix has. -/
def sz (n : Int) : Int := 2 ^ (32 - n).toNat
def pValid (p : Pfx) : Bool := decide (0 ≤ p.2 ∧ p.2 ≤ 32 ∧ p.1 % sz p.2 = 0)
def contains (p : Pfx) (a : Int) : Bool := pValid p && decide (p.1 ≤ a ∧ a < p.1 + sz p.2)
def bounds (p : Pfx) : (Int × Int) × Int := if pValid p then ((p.1, p.1 + sz p.2 - 1), 0) else ((0, 0), 10)
theorem sz_pos (n : Int) : 0 < sz n := Int.pow_pos (by decide)
theorem sz_le {n : Int} (h0 : 0 ≤ n) : sz n ≤ 4294967296 := by
  unfold sz
  have h : (32 - n).toNat ≤ 32 := by omega
  have : (2 : Nat) ^ (32 - n).toNat ≤ 2 ^ 32 := Nat.pow_le_pow_right (by decide) h
  have e : ((2 : Int) ^ (32 - n).toNat) = ((2 ^ (32 - n).toNat : Nat) : Int) := by rw [Int.natCast_pow]; rfl
  rw [e]; omega
theorem sz_nat (n : Int) : sz n = ((2 ^ (32 - n).toNat : Nat) : Int) := by unfold sz; rw [Int.natCast_pow]; rfl
theorem sz_cases {n : Int} (h0 : 0 ≤ n) (h1 : n ≤ 32) : ∃ k : Nat, k ≤ 32 ∧ n = 32 - k ∧ sz n = ((2 ^ k : Nat) : Int) := ⟨(32 - n).toNat, by omega, by omega, sz_nat n⟩
theorem mask_eq {n : Int} (h0 : 0 ≤ n) (h1 : n ≤ 32) : shlI .u32 4294967295 (32 - n) = 4294967296 - sz n := by
  obtain ⟨k, hk, rfl, e⟩ := sz_cases h0 h1
  rw [e]
  have : (32 : Int) - (32 - (k : Int)) = (k : Int) := by omega
  rw [this]
  unfold shlI
  rw [IntKind.wrap_u32]
  have hm : min ((k : Int)).toNat IntKind.u32.bits = k := by simp only [IntKind.bits, Int.toNat_natCast]; omega
  rw [hm]
  have hd : ∀ k : Nat, k ≤ 32 → (4294967295 * 2 ^ k : Int) % 4294967296 = 4294967296 - ((2 ^ k : Nat) : Int) := by decide
  exact hd k hk
theorem size_eq {n : Int} (h0 : 0 ≤ n) (h1 : n ≤ 32) : shlI .i64 1 (32 - n) = sz n := by
  obtain ⟨k, hk, rfl, e⟩ := sz_cases h0 h1
  rw [e]
  have : (32 : Int) - (32 - (k : Int)) = (k : Int) := by omega
  rw [this]
  unfold shlI
  have hm : min ((k : Int)).toNat IntKind.i64.bits = k := by simp only [IntKind.bits, Int.toNat_natCast]; omega
  rw [hm, Int.one_mul]
  have e2 : ((2 : Int) ^ k) = ((2 ^ k : Nat) : Int) := by rw [Int.natCast_pow]; rfl
  have : (2 : Nat) ^ k ≤ 2 ^ 32 := Nat.pow_le_pow_right (by decide) hk
  rw [e2]
  generalize 2 ^ k = s at this ⊢
  exact w64 (by omega) (by omega)
theorem mask_not {x n : Int} (h0 : 0 ≤ x) (h1 : x ≤ 4294967295) (h2 : 0 ≤ n) (h3 : n ≤ 32) : bits .andNot .u32 x (4294967296 - sz n) = x % sz n := by
  obtain ⟨k, hk, rfl, e⟩ := sz_cases h2 h3
  have hp : (2 : Nat) ^ k ≤ 2 ^ 32 := Nat.pow_le_pow_right (by decide) hk
  have hp0 : 0 < (2 : Nat) ^ k := Nat.two_pow_pos k
  rw [e, u32_andNot _ _ h0 (by omega) (by omega) (by omega)]
  have e1 : 4294967295 - ((4294967296 : Int) - ((2 ^ k : Nat) : Int)).toNat = 2 ^ k - 1 := by omega
  rw [e1, Nat.and_two_pow_sub_one_eq_mod]
  obtain ⟨m, rfl⟩ := Int.eq_ofNat_of_zero_le h0
  rw [Int.toNat_natCast, Int.natCast_emod]
theorem and_high {a k : Nat} (hk : k ≤ 32) (ha : a < 4294967296) : a &&& (4294967296 - 2 ^ k) = a / 2 ^ k * 2 ^ k := by
  have e : 4294967296 - 2 ^ k = (2 ^ (32 - k) - 1) <<< k := by
    rw [Nat.shiftLeft_eq, Nat.sub_mul, ← Nat.pow_add, Nat.one_mul]
    congr 1
    rw [show 32 - k + k = 32 from by omega]
  rw [e, ← Nat.shiftRight_eq_div_pow, ← Nat.shiftLeft_eq]
  apply Nat.eq_of_testBit_eq
  intro i
  simp only [Nat.testBit_and, Nat.testBit_shiftLeft, Nat.testBit_two_pow_sub_one, Nat.testBit_shiftRight]
  by_cases hi : k ≤ i
  · have e2 : k + (i - k) = i := by omega
    simp only [hi, decide_true, Bool.true_and, e2]
    by_cases h32 : i < 32
    · have : i - k < 32 - k := by omega
      simp [this]
    · have : a.testBit i = false := Nat.testBit_lt_two_pow (Nat.lt_of_lt_of_le ha (Nat.pow_le_pow_right (show 0 < 2 by decide) (by omega : 32 ≤ i)))
      simp [this]
  · simp [hi]
theorem mask_and {a n x : Int} (h0 : 0 ≤ a) (h1 : a ≤ 4294967295) (h2 : 0 ≤ n) (h3 : n ≤ 32) (hx : 0 ≤ x) (hm : x % sz n = 0) :
    (bits .and .u32 a (4294967296 - sz n) = x) ↔ (x ≤ a ∧ a < x + sz n) := by
  obtain ⟨k, hk, rfl, e⟩ := sz_cases h2 h3
  have hp : (2 : Nat) ^ k ≤ 2 ^ 32 := Nat.pow_le_pow_right (by decide) hk
  have hp0 : 0 < (2 : Nat) ^ k := Nat.two_pow_pos k
  rw [e] at hm ⊢
  rw [u32_and _ _ h0 (by omega) (by omega) (by omega)]
  have e1 : ((4294967296 : Int) - ((2 ^ k : Nat) : Int)).toNat = 4294967296 - 2 ^ k := by omega
  rw [e1, and_high hk (by omega)]
  obtain ⟨m, rfl⟩ := Int.eq_ofNat_of_zero_le h0
  obtain ⟨y, rfl⟩ := Int.eq_ofNat_of_zero_le hx
  rw [Int.toNat_natCast]
  have hm : y % 2 ^ k = 0 := by
    have : ((y % 2 ^ k : Nat) : Int) = 0 := by rw [Int.natCast_emod]; exact hm
    omega
  generalize 2 ^ k = s at *
  have d := Nat.div_add_mod m s
  have dl := Nat.mod_lt m hp0
  have dy := Nat.div_add_mod y s
  rw [hm] at dy
  rw [Nat.mul_comm] at d
  constructor
  · intro h; omega
  · rintro ⟨h, h'⟩
    have hq : m / s = y / s := by
      apply Nat.le_antisymm
      · have : m < (y / s + 1) * s := by rw [Nat.add_mul, Nat.one_mul, Nat.mul_comm (y / s)]; omega
        have := Nat.div_lt_of_lt_mul (Nat.mul_comm _ _ ▸ this : m < s * (y / s + 1))
        omega
      · exact Nat.div_le_div_right (by omega)
    rw [hq, Nat.mul_comm]; omega
theorem sz_fit {x n : Int} (h2 : 0 ≤ n) (h3 : n ≤ 32) (h0 : 0 ≤ x) (h1 : x ≤ 4294967295) (hm : x % sz n = 0) : x + sz n ≤ 4294967296 := by
  obtain ⟨k, hk, rfl, e⟩ := sz_cases h2 h3
  rw [e] at hm ⊢
  have hd : (4294967296 : Nat) = 2 ^ k * 2 ^ (32 - k) := by rw [← Nat.pow_add, show k + (32 - k) = 32 from by omega]
  have hp0 : 0 < (2 : Nat) ^ k := Nat.two_pow_pos k
  obtain ⟨y, rfl⟩ := Int.eq_ofNat_of_zero_le h0
  have hm : y % 2 ^ k = 0 := by
    have : ((y % 2 ^ k : Nat) : Int) = 0 := by rw [Int.natCast_emod]; exact hm
    omega
  have dy := Nat.div_add_mod y (2 ^ k)
  rw [hm] at dy
  generalize 2 ^ (32 - k) = q at hd
  generalize 2 ^ k = s at *
  have : y / s < q := by
    rcases Nat.lt_or_ge (y / s) q with h | h
    · exact h
    · have := Nat.mul_le_mul_left s h
      omega
  have := Nat.mul_le_mul_left s (show y / s + 1 ≤ q from this)
  rw [Nat.mul_add, Nat.mul_one] at this
  omega
theorem shift_valid {a n : Int} (h2 : 0 ≤ n) (h3 : n ≤ 32) (h0 : 0 ≤ a) (h1 : a ≤ 4294967295) : pValid (shlI .u32 (shrI .u32 a (32 - n)) (32 - n), n) = true := by
  obtain ⟨k, hk, rfl, e⟩ := sz_cases h2 h3
  have hp : (2 : Nat) ^ k ≤ 2 ^ 32 := Nat.pow_le_pow_right (by decide) hk
  have hp0 : 0 < (2 : Nat) ^ k := Nat.two_pow_pos k
  have : (32 : Int) - (32 - (k : Int)) = (k : Int) := by omega
  simp only [pValid, e, this, decide_eq_true_eq]
  refine ⟨by omega, by omega, ?_⟩
  unfold shlI shrI
  have hm : min ((k : Int)).toNat IntKind.u32.bits = k := by simp only [IntKind.bits, Int.toNat_natCast]; omega
  rw [hm]
  have e2 : ((2 : Int) ^ k) = ((2 ^ k : Nat) : Int) := by rw [Int.natCast_pow]; rfl
  obtain ⟨m, rfl⟩ := Int.eq_ofNat_of_zero_le h0
  rw [e2, Int.fdiv_eq_ediv_of_nonneg _ (by omega), ← Int.natCast_ediv, ← Int.natCast_mul, wu32 (by omega) (by
    have := Nat.div_mul_le_self m (2 ^ k)
    omega), ← Int.natCast_emod, Nat.mul_mod_left]
  rfl
def ct_address_mask : Ct := ⟨[.val cI], [.val cU32], fun d => [0 ≤ d.1 ∧ d.1 ≤ 32], fun d => ((4294967296 - sz d.1, ()), ())⟩
def an_address_mask : PDs ct_address_mask.ps → Anns := (fun _ => {})
theorem vc_address_mask :
    ∀ (x : Int), ((-9223372036854775808 : Int) ≤ x ∧ x ≤ (9223372036854775807 : Int)) ∧ True → (0 : Int) ≤ x ∧ x ≤ (32 : Int) → (0 : Int) ≤ IntKind.wrap IntKind.i64 ((32 : Int) - x) ∧ shlI IntKind.u32
     (4294967295 : Int) (IntKind.wrap IntKind.i64 ((32 : Int) - x)) = (4294967296 : Int) - sz x := by
  rintro x - ⟨h0, h1⟩
  rw [w64 (by omega) (by omega)]
  exact ⟨by omega, mask_eq h0 h1⟩
theorem ok_address_mask : SpecOK Try.prog 87 ct_address_mask.spec := Ct.ok' _ Try.func87 (by kernel_rfl) noSpecs_ok hmix an_address_mask (Eq.mpr (by kernel_rfl) vc_address_mask)

def ct_address_Valid : Ct := ⟨[.agg cPfx], [.val .bool], fun _ => [], fun d => ((pValid d.1, ()), ())⟩
def an_address_Valid : PDs ct_address_Valid.ps → Anns := (fun _ => {})
theorem vc_address_Valid :
    ∀ (x x_1 : Int), (((0 : Int) ≤ x ∧ x ≤ (4294967295 : Int)) ∧ (-9223372036854775808 : Int) ≤ x_1 ∧ x_1 ≤ (9223372036854775807 : Int)) ∧ True → True → ∀ (b : Bool), b = decide ((0 : Int) ≤ x_1) → (b =
     true → (b = true → b = true) ∧ True) ∧ (b = true → (b = true → b = true) ∧ True) ∧ (b = true → b = true) ∧ ∀ (b_1 : Bool), (b_1 = bif b then decide (x_1 ≤ (32 : Int)) else false) → (b_1 = true → (b_1
     = true → b_1 = true) ∧ True) ∧ (b_1 = true → (b_1 = true → b_1 = true) ∧ True) ∧ (b_1 = true → (b_1 = true → b_1 = true) ∧ ((0 : Int) ≤ x_1 ∧ x_1 ≤ (32 : Int)) ∧ True) ∧ (b_1 = true → (b_1 = true →
     b_1 = true) ∧ (b_1 = true → b_1 = true) ∧ True) ∧ (b_1 = true → (b_1 = true → b_1 = true) ∧ True) ∧ (b_1 = true → b_1 = true) ∧ (bif b_1 then decide (bits BinOp.andNot IntKind.u32 x ((4294967296 :
     Int) - sz x_1) = (0 : Int)) else false) = pValid (x, x_1) := by
  rintro x n ⟨⟨⟨h0, h1⟩, -⟩, -⟩ -
  (repeat (intro (b_ : Bool) (hb_ : b_ = _); (repeat refine ⟨(by first | (simp; done) | (rw [hb_]; simp; done) | (rw [hb_]; simp; omega) | (rw [hb_]; simp; intros; omega)), ?_⟩); subst hb_))
  by_cases hn : 0 ≤ n ∧ n ≤ 32
  · have := mask_not (n := n) h0 h1 hn.1 hn.2
    simp [pValid, hn, this]
  · simp only [pValid]
    by_cases h2 : 0 ≤ n
    · have : ¬ n ≤ 32 := fun h => hn ⟨h2, h⟩
      simp [this]
    · simp [h2]
theorem ok_address_Valid : SpecOK Try.prog 77 ct_address_Valid.spec := Ct.ok' _ Try.func77 (by kernel_rfl) (withSpec_ok noSpecs_ok ok_address_mask) hmix an_address_Valid (Eq.mpr (by kernel_rfl) vc_address_Valid)

def ct_address_Contains : Ct := ⟨[.agg cPfx, .val cU32], [.val .bool], fun _ => [], fun d => ((contains d.1 d.2.1, ()), ())⟩
def an_address_Contains : PDs ct_address_Contains.ps → Anns := (fun _ => {})
theorem vc_address_Contains :
    ∀ (x x_1 x_2 : Int), (((0 : Int) ≤ x ∧ x ≤ (4294967295 : Int)) ∧ (-9223372036854775808 : Int) ≤ x_1 ∧ x_1 ≤ (9223372036854775807 : Int)) ∧ ((0 : Int) ≤ x_2 ∧ x_2 ≤ (4294967295 : Int)) ∧ True → True →
     ∀ (b : Bool), b = pValid (x, x_1) → (b = true → (b = true → b = true) ∧ True) ∧ (b = true → (b = true → b = true) ∧ ((0 : Int) ≤ x_1 ∧ x_1 ≤ (32 : Int)) ∧ True) ∧ (b = true → (b = true → b = true) ∧
     (b = true → b = true) ∧ True) ∧ (b = true → (b = true → b = true) ∧ True) ∧ (b = true → (b = true → b = true) ∧ (b = true → b = true) ∧ True) ∧ (b = true → b = true) ∧ (bif b then decide (bits
     BinOp.and IntKind.u32 x_2 ((4294967296 : Int) - sz x_1) = x) else false) = contains (x, x_1) x_2 := by
  rintro x n a ⟨⟨⟨h0, h1⟩, -⟩, ⟨h2, h3⟩, -⟩ -
  have hv : ∀ b : Bool, b = pValid (x, n) → b = true → 0 ≤ n ∧ n ≤ 32 ∧ x % sz n = 0 := by
    rintro b rfl h; simpa [pValid] using h
  rintro b hb
  have hr := hv b hb
  refine ⟨by simp, fun h => ⟨fun _ => h, ⟨(hr h).1, (hr h).2.1⟩, trivial⟩, by simp, by simp, by simp, by simp, ?_⟩
  unfold contains
  rw [← hb]
  cases b with
  | false => rfl
  | true =>
    obtain ⟨r1, r2, r3⟩ := hr rfl
    have := mask_and (n := n) (x := x) h2 h3 r1 r2 h0 r3
    rw [Bool.eq_iff_iff]; simpa using this
theorem ok_address_Contains : SpecOK Try.prog 55 ct_address_Contains.spec := Ct.ok' _ Try.func55 (by kernel_rfl) (withSpec_ok (withSpec_ok noSpecs_ok ok_address_mask) ok_address_Valid) hmix an_address_Contains (Eq.mpr (by kernel_rfl) vc_address_Contains)

def ct_ref01_size : Ct := ⟨[.val cI], [.val cI], fun d => [0 ≤ d.1 ∧ d.1 ≤ 32], fun d => ((sz d.1, ()), ())⟩
def an_ref01_size : PDs ct_ref01_size.ps → Anns := (fun _ => {})
theorem vc_ref01_size :
    ∀ (x : Int), ((-9223372036854775808 : Int) ≤ x ∧ x ≤ (9223372036854775807 : Int)) ∧ True → (0 : Int) ≤ x ∧ x ≤ (32 : Int) → (0 : Int) ≤ IntKind.wrap IntKind.i64 ((32 : Int) - x) ∧ shlI IntKind.i64 (1
     : Int) (IntKind.wrap IntKind.i64 ((32 : Int) - x)) = sz x := by
  rintro x - ⟨h0, h1⟩
  rw [w64 (by omega) (by omega)]
  exact ⟨by omega, size_eq h0 h1⟩
theorem ok_ref01_size : SpecOK Try.prog 81 ct_ref01_size.spec := Ct.ok' _ Try.func81 (by kernel_rfl) noSpecs_ok hmix an_ref01_size (Eq.mpr (by kernel_rfl) vc_ref01_size)

def ct_ref01_Valid : Ct := ⟨[.agg cPfx], [.val .bool], fun _ => [], fun d => ((pValid d.1, ()), ())⟩
def an_ref01_Valid : PDs ct_ref01_Valid.ps → Anns := (fun _ => {})
theorem vc_ref01_Valid :
    ∀ (x x_1 : Int), (((0 : Int) ≤ x ∧ x ≤ (4294967295 : Int)) ∧ (-9223372036854775808 : Int) ≤ x_1 ∧ x_1 ≤ (9223372036854775807 : Int)) ∧ True → True → ∀ (b : Bool), b = decide ((0 : Int) ≤ x_1) → (b =
     true → (b = true → b = true) ∧ True) ∧ (b = true → (b = true → b = true) ∧ True) ∧ (b = true → b = true) ∧ ∀ (b_1 : Bool), (b_1 = bif b then decide (x_1 ≤ (32 : Int)) else false) → (b_1 = true → (b_1
     = true → b_1 = true) ∧ True) ∧ (b_1 = true → (b_1 = true → b_1 = true) ∧ True) ∧ (b_1 = true → (b_1 = true → b_1 = true) ∧ True) ∧ (b_1 = true → (b_1 = true → b_1 = true) ∧ ((0 : Int) ≤ x_1 ∧ x_1 ≤
     (32 : Int)) ∧ True) ∧ (b_1 = true → (b_1 = true → b_1 = true) ∧ (b_1 = true → b_1 = true) ∧ sz x_1 ≠ (0 : Int) ∧ True) ∧ (b_1 = true → (b_1 = true → b_1 = true) ∧ True) ∧ (b_1 = true → b_1 = true) ∧
     (bif b_1 then decide (Int.tmod (IntKind.wrap IntKind.i64 x) (sz x_1) = (0 : Int)) else false) = pValid (x, x_1) := by
  rintro x n ⟨⟨⟨h0, h1⟩, -⟩, -⟩ -
  have hp := sz_pos n
  (repeat (intro (b_ : Bool) (hb_ : b_ = _); (repeat refine ⟨(by first | (simp; done) | (rw [hb_]; simp; done) | (rw [hb_]; simp; omega) | (rw [hb_]; simp; intros; omega)), ?_⟩); subst hb_))
  rw [w64 (by omega) (by omega), Int.tmod_eq_emod_of_nonneg h0]
  simp only [pValid]
  by_cases h2 : 0 ≤ n
  · by_cases h3 : n ≤ 32
    · simp [h2, h3]
    · simp [h2, h3]
  · simp [h2]
theorem ok_ref01_Valid : SpecOK Try.prog 80 ct_ref01_Valid.spec := Ct.ok' _ Try.func80 (by kernel_rfl) (withSpec_ok noSpecs_ok ok_ref01_size) hmix an_ref01_Valid (Eq.mpr (by kernel_rfl) vc_ref01_Valid)

def ct_ref01_Bounds : Ct := ⟨[.agg cPfx], [.agg (.pair cU32 cU32), .val cI], fun _ => [], fun d => (((bounds d.1).1, (bounds d.1).2, ()), ())⟩
def an_ref01_Bounds : PDs ct_ref01_Bounds.ps → Anns := (fun _ => {})
theorem vc_ref01_Bounds :
    ∀ (x x_1 : Int), (((0 : Int) ≤ x ∧ x ≤ (4294967295 : Int)) ∧ (-9223372036854775808 : Int) ≤ x_1 ∧ x_1 ≤ (9223372036854775807 : Int)) ∧ True → True → ifP (!pValid (x, x_1)) (((0 : Int), (0 : Int)) =
     (bounds (x, x_1)).1 ∧ (10 : Int) = (bounds (x, x_1)).2) (((0 : Int) ≤ x_1 ∧ x_1 ≤ (32 : Int)) ∧ (x, IntKind.wrap IntKind.u32 (IntKind.wrap IntKind.i64 (IntKind.wrap IntKind.i64 (IntKind.wrap
     IntKind.i64 x + sz x_1) - (1 : Int)))) = (bounds (x, x_1)).1 ∧ (0 : Int) = (bounds (x, x_1)).2) := by
  rintro x n ⟨⟨⟨h0, h1⟩, -⟩, -⟩ -
  unfold bounds
  refine ifP_split (fun h => ?_) (fun h => ?_)
  · have h : ¬ pValid (x, n) = true := by simpa using h
    rw [if_neg h]; exact ⟨rfl, rfl⟩
  · have h : pValid (x, n) = true := by simpa using h
    rw [if_pos h]
    have hv : 0 ≤ n ∧ n ≤ 32 ∧ x % sz n = 0 := by simpa [pValid] using h
    have hfit := sz_fit hv.1 hv.2.1 h0 h1 hv.2.2
    have hp := sz_pos n
    have hle := sz_le hv.1
    refine ⟨⟨hv.1, hv.2.1⟩, ?_, rfl⟩
    rw [w64 (n := x) (by omega) (by omega), w64 (n := x + sz n) (by omega) (by omega), w64 (n := x + sz n - 1) (by omega) (by omega), wu32 (by omega) (by omega)]
theorem ok_ref01_Bounds : SpecOK Try.prog 46 ct_ref01_Bounds.spec := Ct.ok' _ Try.func46 (by kernel_rfl) (withSpec_ok (withSpec_ok noSpecs_ok ok_ref01_Valid) ok_ref01_size) hmix an_ref01_Bounds (Eq.mpr (by kernel_rfl) vc_ref01_Bounds)

def ct_ref01_Contains : Ct := ⟨[.agg cPfx, .val cU32], [.val .bool], fun _ => [], fun d => ((contains d.1 d.2.1, ()), ())⟩
def an_ref01_Contains : PDs ct_ref01_Contains.ps → Anns := (fun _ => {})
theorem vc_ref01_Contains :
    ∀ (x x_1 x_2 : Int), (((0 : Int) ≤ x ∧ x ≤ (4294967295 : Int)) ∧ (-9223372036854775808 : Int) ≤ x_1 ∧ x_1 ≤ (9223372036854775807 : Int)) ∧ ((0 : Int) ≤ x_2 ∧ x_2 ≤ (4294967295 : Int)) ∧ True → True →
     ∀ (x_3 x_4 x_5 : Int), (x_3, x_4) = (bounds (x, x_1)).1 ∧ x_5 = (bounds (x, x_1)).2 → ∀ (b : Bool), b = decide (x_5 = (0 : Int)) → (b = true → (b = true → b = true) ∧ True) ∧ (b = true → (b = true → b
     = true) ∧ (b = true → b = true) ∧ True) ∧ (b = true → b = true) ∧ ∀ (b_1 : Bool), (b_1 = bif b then decide (x_3 ≤ x_2) else false) → (b_1 = true → (b_1 = true → b_1 = true) ∧ True) ∧ (b_1 = true →
     (b_1 = true → b_1 = true) ∧ (b_1 = true → b_1 = true) ∧ True) ∧ (b_1 = true → b_1 = true) ∧ (bif b_1 then decide (x_2 ≤ x_4) else false) = contains (x, x_1) x_2 := by
  rintro x n a - -
  rintro lo hi e ⟨h1, h2⟩
  unfold contains
  unfold bounds at h1 h2
  cases hv : pValid (x, n) with
  | false =>
    rw [hv] at h1 h2
    simp at h1 h2
    obtain ⟨rfl, rfl⟩ := h1
    subst h2
    (repeat (intro (b_ : Bool) (hb_ : b_ = _); (repeat refine ⟨(by first | (simp; done) | (rw [hb_]; simp; done) | (rw [hb_]; simp; omega) | (rw [hb_]; simp; intros; omega)), ?_⟩); subst hb_))
    simp
  | true =>
    rw [hv] at h1 h2
    simp at h1 h2
    obtain ⟨rfl, rfl⟩ := h1
    subst h2
    (repeat (intro (b_ : Bool) (hb_ : b_ = _); (repeat refine ⟨(by first | (simp; done) | (rw [hb_]; simp; done) | (rw [hb_]; simp; omega) | (rw [hb_]; simp; intros; omega)), ?_⟩); subst hb_))
    simp only [Bool.cond_eq_ite, Bool.true_and]
    by_cases h3 : lo ≤ a
    · simp [h3]; omega
    · simp [h3]
theorem ok_ref01_Contains : SpecOK Try.prog 18 ct_ref01_Contains.spec := Ct.ok' _ Try.func18 (by kernel_rfl) (withSpec_ok noSpecs_ok (Ct.named ok_ref01_Bounds)) hmix an_ref01_Contains (Eq.mpr (by kernel_rfl) vc_ref01_Contains)

def ct_slices_Index_263e : Ct := ⟨[.val (.sl cI), .val cI], [.val cI], fun _ => [], fun d => ((if d.2.1 ∈ d.1 then (d.1.idxOf d.2.1 : Int) else -1, ()), ())⟩
def an_slices_Index_263e : PDs ct_slices_Index_263e.ps → Anns := (fun d => { loops := (fun n => match n with | 2 => some (fun S => { ι := Int, μ := fun i => (d.1.length - i).toNat, inv := fun i => 0 ≤ i ∧ i ≤ d.1.length ∧ ∀ y ∈ d.1.take i.toNat, y ≠ d.2.1, keep := [0, 1, 6, 7], slots := fun i => [(8, .int .i64 i)], names := fun i => [] }) | _ => none) })
theorem vc_slices_Index_263e :
    ∀ (x : List Int) (x_1 : Int), (List.length x ≤ maxLen ∧ ∀ (x_2 : Int), x_2 ∈ x → (-9223372036854775808 : Int) ≤ x_2 ∧ x_2 ≤ (9223372036854775807 : Int)) ∧ ((-9223372036854775808 : Int) ≤ x_1 ∧ x_1 ≤
     (9223372036854775807 : Int)) ∧ True → True → (∃ (x_2 : Int), ((0 : Int) ≤ x_2 ∧ x_2 ≤ (↑(List.length x) : Int) ∧ ∀ (y : Int), y ∈ List.take (Int.toNat x_2) x → y ≠ x_1) ∧ x = x ∧ x_1 = x_1 ∧ x = x ∧
     (↑(List.length x) : Int) = (↑(List.length x) : Int) ∧ (0 : Int) = x_2 ∧ True) ∧ ∀ (x_2 : Int), ((0 : Int) ≤ x_2 ∧ x_2 ≤ (↑(List.length x) : Int) ∧ ∀ (y : Int), y ∈ List.take (Int.toNat x_2) x → y ≠
     x_1) → ifP (decide (x_2 < (↑(List.length x) : Int))) ((0 : Int) ≤ x_2 ∧ x_2 < (↑(List.length x) : Int) ∧ ifP (decide (x_1 = List.getD x (Int.toNat x_2) default)) (x_2 = if x_1 ∈ x then (↑(List.idxOf
     x_1 x) : Int) else (-1 : Int)) (∃ (x_3 : Int), ((0 : Int) ≤ x_3 ∧ x_3 ≤ (↑(List.length x) : Int) ∧ ∀ (y : Int), y ∈ List.take (Int.toNat x_3) x → y ≠ x_1) ∧ Int.toNat ((↑(List.length x) : Int) - x_3)
     < Int.toNat ((↑(List.length x) : Int) - x_2) ∧ x = x ∧ x_1 = x_1 ∧ x = x ∧ (↑(List.length x) : Int) = (↑(List.length x) : Int) ∧ IntKind.wrap IntKind.i64 (x_2 + (1 : Int)) = x_3 ∧ True)) ((-1 : Int) =
     if x_1 ∈ x then (↑(List.idxOf x_1 x) : Int) else (-1 : Int)) := by
  rintro x v ⟨⟨hl, -⟩, -⟩ -
  simp only [maxLen] at hl
  refine ⟨⟨0, ⟨by omega, by omega, by simp⟩, (by repeat' first | exact trivial | refine ⟨(by with_reducible rfl), ?_⟩ | refine ⟨w64 (by omega) (by omega), ?_⟩ | refine ⟨rfl, ?_⟩)⟩, ?_⟩
  rintro j ⟨h0, h1, h2⟩
  refine ifP_split (fun hj => ?_) (fun hj => ?_)
  · have hj := of_decide_eq_true hj
    refine ⟨h0, hj, ifP_split (fun hz => ?_) (fun hz => ?_)⟩
    · have hz := of_decide_eq_true hz
      have hm : v ∈ x := by rw [hz]; exact getD_mem h0 hj
      rw [if_pos hm]
      have := idxOf_at (l := x) (v := v) h0 hj hz.symm h2
      omega
    · have hz := of_decide_eq_false hz
      refine ⟨j + 1, ⟨by omega, by omega, fun y hy => ?_⟩, by omega, (by repeat' first | exact trivial | refine ⟨(by with_reducible rfl), ?_⟩ | refine ⟨w64 (by omega) (by omega), ?_⟩ | refine ⟨rfl, ?_⟩)⟩
      rcases mem_take_succ h0 hj hy with hy | rfl
      · exact h2 y hy
      · exact fun e => hz e.symm
  · have hj := of_decide_eq_false hj
    rw [List.take_of_length_le (by omega)] at h2
    rw [if_neg (fun hm => h2 v hm rfl)]
theorem ok_slices_Index_263e : SpecOK Try.prog 111 ct_slices_Index_263e.spec := Ct.ok' _ Try.func111 (by kernel_rfl) noSpecs_ok hmix an_slices_Index_263e (Eq.mpr (by kernel_rfl) vc_slices_Index_263e)

def ct_slices_Contains_263e : Ct := ⟨[.val (.sl cI), .val cI], [.val .bool], fun _ => [], fun d => ((decide (d.2.1 ∈ d.1), ()), ())⟩
def an_slices_Contains_263e : PDs ct_slices_Contains_263e.ps → Anns := (fun _ => {})
theorem vc_slices_Contains_263e :
    ∀ (x : List Int) (x_1 : Int), (List.length x ≤ maxLen ∧ ∀ (x_2 : Int), x_2 ∈ x → (-9223372036854775808 : Int) ≤ x_2 ∧ x_2 ≤ (9223372036854775807 : Int)) ∧ ((-9223372036854775808 : Int) ≤ x_1 ∧ x_1 ≤
     (9223372036854775807 : Int)) ∧ True → True → decide ((0 : Int) ≤ if x_1 ∈ x then (↑(List.idxOf x_1 x) : Int) else (-1 : Int)) = decide (x_1 ∈ x) := by
  rintro x v - -
  by_cases h : v ∈ x
  · rw [if_pos h]; simp [h]; 
  · rw [if_neg h]; simp [h]
theorem ok_slices_Contains_263e : SpecOK Try.prog 102 ct_slices_Contains_263e.spec := Ct.ok' _ Try.func102 (by kernel_rfl) (withSpec_ok noSpecs_ok ok_slices_Index_263e) hmix an_slices_Contains_263e (Eq.mpr (by kernel_rfl) vc_slices_Contains_263e)

def ct_draw_Codes_Prefix : Cn := ⟨[.box 94 cCodes], [.agg cPfx], fun d => [okC d.1], fun d y => okC y.2.1 ∧ pValid y.1.1 = true, fun d h => ⟨(((0, 0), ()), (d.1, ())), h.1, by simp [pValid]⟩⟩
def an_draw_Codes_Prefix : PDs ct_draw_Codes_Prefix.ps → Anns := (fun _ => {})
theorem vc_draw_Codes_Prefix :
    ∀ (x : List Int) (x_1 : Int), ((List.length x ≤ maxLen ∧ ∀ (x_2 : Int), x_2 ∈ x → (0 : Int) ≤ x_2 ∧ x_2 ≤ (255 : Int)) ∧ (-9223372036854775808 : Int) ≤ x_1 ∧ x_1 ≤ (9223372036854775807 : Int)) ∧ True
     → (0 : Int) ≤ x_1 ∧ x_1 ≤ (↑(List.length x) : Int) → okC (x, x_1) ∧ ∀ (x : Int) (x_2 : List Int) (x_3 : Int), (0 : Int) ≤ x ∧ (x < (8 : Int) ∨ x = (0 : Int)) ∧ okC (x_2, x_3) → (0 : Int) ≤ x ∧ x <
     (↑(List.length [(0 : Int), (8 : Int), (16 : Int), (24 : Int), (29 : Int), (30 : Int), (31 : Int), (32 : Int)]) : Int) ∧ ifP (decide (List.getD [(0 : Int), (8 : Int), (16 : Int), (24 : Int), (29 :
     Int), (30 : Int), (31 : Int), (32 : Int)] (Int.toNat x) default = (0 : Int))) (okC (x_2, x_3) ∧ pValid ((0 : Int), (0 : Int)) = true) (okC (x_2, x_3) ∧ ∀ (x_4 : Int) (x_5 : List Int) (x_6 : Int), okC
     (x_5, x_6) ∧ (0 : Int) ≤ x_4 ∧ x_4 ≤ (4294967295 : Int) → (0 : Int) ≤ IntKind.wrap IntKind.i64 ((32 : Int) - List.getD [(0 : Int), (8 : Int), (16 : Int), (24 : Int), (29 : Int), (30 : Int), (31 :
     Int), (32 : Int)] (Int.toNat x) default) ∧ (0 : Int) ≤ IntKind.wrap IntKind.i64 ((32 : Int) - List.getD [(0 : Int), (8 : Int), (16 : Int), (24 : Int), (29 : Int), (30 : Int), (31 : Int), (32 : Int)]
     (Int.toNat x) default) ∧ okC (x_5, x_6) ∧ pValid (shlI IntKind.u32 (shrI IntKind.u32 x_4 (IntKind.wrap IntKind.i64 ((32 : Int) - List.getD [(0 : Int), (8 : Int), (16 : Int), (24 : Int), (29 : Int),
     (30 : Int), (31 : Int), (32 : Int)] (Int.toNat x) default))) (IntKind.wrap IntKind.i64 ((32 : Int) - List.getD [(0 : Int), (8 : Int), (16 : Int), (24 : Int), (29 : Int), (30 : Int), (31 : Int), (32 :
     Int)] (Int.toNat x) default)), List.getD [(0 : Int), (8 : Int), (16 : Int), (24 : Int), (29 : Int), (30 : Int), (31 : Int), (32 : Int)] (Int.toNat x) default) = true) := by
  rintro l p - h
  refine ⟨h, ?_⟩
  rintro r l2 p2 ⟨h1, h2, h3⟩
  have hk : 0 ≤ ([0, 8, 16, 24, 29, 30, 31, 32] : List Int).getD r.toNat default ∧ ([0, 8, 16, 24, 29, 30, 31, 32] : List Int).getD r.toNat default ≤ 32 :=
    getD_all (p := fun v => 0 ≤ v ∧ v ≤ (32 : Int)) (by simp) h1 (by simp; omega)
  generalize ([0, 8, 16, 24, 29, 30, 31, 32] : List Int).getD r.toNat default = n at hk ⊢
  refine ⟨h1, by simp; omega, ifP_split (fun hz => ⟨h3, by simp [pValid]⟩) (fun hz => ⟨h3, ?_⟩)⟩
  rintro a l3 p3 ⟨h4, h5, h6⟩
  rw [w64 (by omega) (by omega)]
  exact ⟨by omega, by omega, h4, shift_valid hk.1 hk.2 h5 h6⟩
theorem ok_draw_Codes_Prefix : SpecOK Try.prog 71 ct_draw_Codes_Prefix.spec := Cn.ok' _ Try.func71 (by kernel_rfl) (withSpec_ok (withSpec_ok noSpecs_ok ok_Next) ok_draw_Codes_Address) hmix an_draw_Codes_Prefix (Eq.mpr (by kernel_rfl) vc_draw_Codes_Prefix)
end Go.RS

