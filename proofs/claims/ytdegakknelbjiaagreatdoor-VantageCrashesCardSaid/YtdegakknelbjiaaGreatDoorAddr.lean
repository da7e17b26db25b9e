/- Addr: prefixes, and functions of Go's library over numbers. -/
import Derived.Test.YtdegakknelbjiaaGreatDoorBalance
import Derived.Laws.BitsAllLaws
namespace Go.RS
open Go.SX Go.Proofs
set_option maxRecDepth 100000
set_option linter.unusedVariables false

abbrev cPfx : CT := .pair cU32 cI
/-- Three ways. -/
def icmp (a b : Int) : Int := if a < b then -1 else if b < a then 1 else 0
abbrev Pfx : Type := Int × Int
def pcmp (p q : Pfx) : Int := if icmp p.1 q.1 ≠ 0 then icmp p.1 q.1 else icmp p.2 q.2
def firstNZ : List Int → Int
  | [] => 0
  | x :: xs => if x ≠ 0 then x else firstNZ xs
theorem drop_getD {l : List Int} {j : Int} (h0 : 0 ≤ j) (h1 : j < l.length) : l.drop j.toNat = l.getD j.toNat default :: l.drop (j + 1).toNat := by
  have hj : j.toNat < l.length := by omega
  rw [List.drop_eq_getElem_cons hj, List.getD_eq_getElem?_getD, List.getElem?_eq_getElem hj, Option.getD_some]
  congr 2; omega
theorem mem_take_succ {α : Type} [Inhabited α] {l : List α} {j : Int} (h0 : 0 ≤ j) (h1 : j < l.length) {y : α} (hy : y ∈ l.take (j + 1).toNat) : y ∈ l.take j.toNat ∨ y = l.getD j.toNat default := by
  have hj : j.toNat < l.length := by omega
  have e : (j + 1).toNat = j.toNat + 1 := by omega
  rw [e, List.take_succ_eq_append_getElem hj] at hy
  rcases List.mem_append.1 hy with hy | hy
  · exact .inl hy
  · right
    simp at hy
    rw [List.getD_eq_getElem?_getD, List.getElem?_eq_getElem hj, Option.getD_some]; exact hy
theorem idxOf_at {l : List Int} {v j : Int} (h0 : 0 ≤ j) (h1 : j < l.length) (hv : l.getD j.toNat default = v) (h2 : ∀ y ∈ l.take j.toNat, y ≠ v) : l.idxOf v = j.toNat := by
  have hj : j.toNat < l.length := by omega
  rw [List.getD_eq_getElem?_getD, List.getElem?_eq_getElem hj, Option.getD_some] at hv
  have e : l = l.take j.toNat ++ l[j.toNat] :: l.drop (j.toNat + 1) := by
    rw [← List.drop_eq_getElem_cons hj, List.take_append_drop]
  rw [e, List.idxOf_append, if_neg (fun hm => h2 v hm rfl), hv, List.idxOf_cons_self]
  simp; omega







/-- How many addresses a prefix has. -/
def sz (n : Int) : Int := 2 ^ (32 - n).toNat
def pValid (p : Pfx) : Bool := decide (0 ≤ p.2 ∧ p.2 ≤ 32 ∧ p.1 % sz p.2 = 0)
def contains (p : Pfx) (a : Int) : Bool := pValid p && decide (p.1 ≤ a ∧ a < p.1 + sz p.2)
def bounds (p : Pfx) : (Int × Int) × Int := if pValid p then ((p.1, p.1 + sz p.2 - 1), 0) else ((0, 0), 10)
theorem sz_pos (n : Int) : 0 < sz n := Int.pow_pos (by decide)
theorem sz_le {n : Int} (h0 : 0 ≤ n) : sz n ≤ 4294967296 := by
  unfold sz
  have h : (32 - n).toNat ≤ 32 := by omega
  have : (2 : Nat) ^ (32 - n).toNat ≤ 2 ^ 32 := Nat.pow_le_pow_right (by decide) h
  have e : ((2 : Int) ^ (32 - n).toNat) = ((2 ^ (32 - n).toNat : Nat) : Int) := by rw [Int.natCast_pow]; rfl
  rw [e]; omega
theorem sz_nat (n : Int) : sz n = ((2 ^ (32 - n).toNat : Nat) : Int) := by unfold sz; rw [Int.natCast_pow]; rfl
theorem sz_cases {n : Int} (h0 : 0 ≤ n) (h1 : n ≤ 32) : ∃ k : Nat, k ≤ 32 ∧ n = 32 - k ∧ sz n = ((2 ^ k : Nat) : Int) := ⟨(32 - n).toNat, by omega, by omega, sz_nat n⟩
theorem mask_eq {n : Int} (h0 : 0 ≤ n) (h1 : n ≤ 32) : shlI .u32 4294967295 (32 - n) = 4294967296 - sz n := by
  obtain ⟨k, hk, rfl, e⟩ := sz_cases h0 h1
  rw [e]
  have : (32 : Int) - (32 - (k : Int)) = (k : Int) := by omega
  rw [this]
  unfold shlI
  rw [IntKind.wrap_u32]
  have hm : min ((k : Int)).toNat IntKind.u32.bits = k := by simp only [IntKind.bits, Int.toNat_natCast]; omega
  rw [hm]
  have hd : ∀ k : Nat, k ≤ 32 → (4294967295 * 2 ^ k : Int) % 4294967296 = 4294967296 - ((2 ^ k : Nat) : Int) := by decide
  exact hd k hk
theorem size_eq {n : Int} (h0 : 0 ≤ n) (h1 : n ≤ 32) : shlI .i64 1 (32 - n) = sz n := by
  obtain ⟨k, hk, rfl, e⟩ := sz_cases h0 h1
  rw [e]
  have : (32 : Int) - (32 - (k : Int)) = (k : Int) := by omega
  rw [this]
  unfold shlI
  have hm : min ((k : Int)).toNat IntKind.i64.bits = k := by simp only [IntKind.bits, Int.toNat_natCast]; omega
  rw [hm, Int.one_mul]
  have e2 : ((2 : Int) ^ k) = ((2 ^ k : Nat) : Int) := by rw [Int.natCast_pow]; rfl
  have : (2 : Nat) ^ k ≤ 2 ^ 32 := Nat.pow_le_pow_right (by decide) hk
  rw [e2]
  generalize 2 ^ k = s at this ⊢
  exact w64 (by omega) (by omega)
theorem mask_not {x n : Int} (h0 : 0 ≤ x) (h1 : x ≤ 4294967295) (h2 : 0 ≤ n) (h3 : n ≤ 32) : bits .andNot .u32 x (4294967296 - sz n) = x % sz n := by
  obtain ⟨k, hk, rfl, e⟩ := sz_cases h2 h3
  have hp : (2 : Nat) ^ k ≤ 2 ^ 32 := Nat.pow_le_pow_right (by decide) hk
  have hp0 : 0 < (2 : Nat) ^ k := Nat.two_pow_pos k
  rw [e, u32_andNot _ _ h0 (by omega) (by omega) (by omega)]
  have e1 : 4294967295 - ((4294967296 : Int) - ((2 ^ k : Nat) : Int)).toNat = 2 ^ k - 1 := by omega
  rw [e1, Nat.and_two_pow_sub_one_eq_mod]
  obtain ⟨m, rfl⟩ := Int.eq_ofNat_of_zero_le h0
  rw [Int.toNat_natCast, Int.natCast_emod]
theorem and_high {a k : Nat} (hk : k ≤ 32) (ha : a < 4294967296) : a &&& (4294967296 - 2 ^ k) = a / 2 ^ k * 2 ^ k := by
  have e : 4294967296 - 2 ^ k = (2 ^ (32 - k) - 1) <<< k := by
    rw [Nat.shiftLeft_eq, Nat.sub_mul, ← Nat.pow_add, Nat.one_mul]
    congr 1
    rw [show 32 - k + k = 32 from by omega]
  rw [e, ← Nat.shiftRight_eq_div_pow, ← Nat.shiftLeft_eq]
  apply Nat.eq_of_testBit_eq
  intro i
  simp only [Nat.testBit_and, Nat.testBit_shiftLeft, Nat.testBit_two_pow_sub_one, Nat.testBit_shiftRight]
  by_cases hi : k ≤ i
  · have e2 : k + (i - k) = i := by omega
    simp only [hi, decide_true, Bool.true_and, e2]
    by_cases h32 : i < 32
    · have : i - k < 32 - k := by omega
      simp [this]
    · have : a.testBit i = false := Nat.testBit_lt_two_pow (Nat.lt_of_lt_of_le ha (Nat.pow_le_pow_right (show 0 < 2 by decide) (by omega : 32 ≤ i)))
      simp [this]
  · simp [hi]
theorem mask_and {a n x : Int} (h0 : 0 ≤ a) (h1 : a ≤ 4294967295) (h2 : 0 ≤ n) (h3 : n ≤ 32) (hx : 0 ≤ x) (hm : x % sz n = 0) :
    (bits .and .u32 a (4294967296 - sz n) = x) ↔ (x ≤ a ∧ a < x + sz n) := by
  obtain ⟨k, hk, rfl, e⟩ := sz_cases h2 h3
  have hp : (2 : Nat) ^ k ≤ 2 ^ 32 := Nat.pow_le_pow_right (by decide) hk
  have hp0 : 0 < (2 : Nat) ^ k := Nat.two_pow_pos k
  rw [e] at hm ⊢
  rw [u32_and _ _ h0 (by omega) (by omega) (by omega)]
  have e1 : ((4294967296 : Int) - ((2 ^ k : Nat) : Int)).toNat = 4294967296 - 2 ^ k := by omega
  rw [e1, and_high hk (by omega)]
  obtain ⟨m, rfl⟩ := Int.eq_ofNat_of_zero_le h0
  obtain ⟨y, rfl⟩ := Int.eq_ofNat_of_zero_le hx
  rw [Int.toNat_natCast]
  have hm : y % 2 ^ k = 0 := by
    have : ((y % 2 ^ k : Nat) : Int) = 0 := by rw [Int.natCast_emod]; exact hm
    omega
  generalize 2 ^ k = s at *
  have d := Nat.div_add_mod m s
  have dl := Nat.mod_lt m hp0
  have dy := Nat.div_add_mod y s
  rw [hm] at dy
  rw [Nat.mul_comm] at d
  constructor
  · intro h; omega
  · rintro ⟨h, h'⟩
    have hq : m / s = y / s := by
      apply Nat.le_antisymm
      · have : m < (y / s + 1) * s := by rw [Nat.add_mul, Nat.one_mul, Nat.mul_comm (y / s)]; omega
        have := Nat.div_lt_of_lt_mul (Nat.mul_comm _ _ ▸ this : m < s * (y / s + 1))
        omega
      · exact Nat.div_le_div_right (by omega)
    rw [hq, Nat.mul_comm]; omega
theorem sz_fit {x n : Int} (h2 : 0 ≤ n) (h3 : n ≤ 32) (h0 : 0 ≤ x) (h1 : x ≤ 4294967295) (hm : x % sz n = 0) : x + sz n ≤ 4294967296 := by
  obtain ⟨k, hk, rfl, e⟩ := sz_cases h2 h3
  rw [e] at hm ⊢
  have hd : (4294967296 : Nat) = 2 ^ k * 2 ^ (32 - k) := by rw [← Nat.pow_add, show k + (32 - k) = 32 from by omega]
  have hp0 : 0 < (2 : Nat) ^ k := Nat.two_pow_pos k
  obtain ⟨y, rfl⟩ := Int.eq_ofNat_of_zero_le h0
  have hm : y % 2 ^ k = 0 := by
    have : ((y % 2 ^ k : Nat) : Int) = 0 := by rw [Int.natCast_emod]; exact hm
    omega
  have dy := Nat.div_add_mod y (2 ^ k)
  rw [hm] at dy
  generalize 2 ^ (32 - k) = q at hd
  generalize 2 ^ k = s at *
  have : y / s < q := by
    rcases Nat.lt_or_ge (y / s) q with h | h
    · exact h
    · have := Nat.mul_le_mul_left s h
      omega
  have := Nat.mul_le_mul_left s (show y / s + 1 ≤ q from this)
  rw [Nat.mul_add, Nat.mul_one] at this
  omega
theorem shift_valid {a n : Int} (h2 : 0 ≤ n) (h3 : n ≤ 32) (h0 : 0 ≤ a) (h1 : a ≤ 4294967295) : pValid (shlI .u32 (shrI .u32 a (32 - n)) (32 - n), n) = true := by
  obtain ⟨k, hk, rfl, e⟩ := sz_cases h2 h3
  have hp : (2 : Nat) ^ k ≤ 2 ^ 32 := Nat.pow_le_pow_right (by decide) hk
  have hp0 : 0 < (2 : Nat) ^ k := Nat.two_pow_pos k
  have : (32 : Int) - (32 - (k : Int)) = (k : Int) := by omega
  simp only [pValid, e, this, decide_eq_true_eq]
  refine ⟨by omega, by omega, ?_⟩
  unfold shlI shrI
  have hm : min ((k : Int)).toNat IntKind.u32.bits = k := by simp only [IntKind.bits, Int.toNat_natCast]; omega
  rw [hm]
  have e2 : ((2 : Int) ^ k) = ((2 ^ k : Nat) : Int) := by rw [Int.natCast_pow]; rfl
  obtain ⟨m, rfl⟩ := Int.eq_ofNat_of_zero_le h0
  rw [e2, Int.fdiv_eq_ediv_of_nonneg _ (by omega), ← Int.natCast_ediv, ← Int.natCast_mul, wu32 (by omega) (by
    have := Nat.div_mul_le_self m (2 ^ k)
    omega), ← Int.natCast_emod, Nat.mul_mod_left]
  rfl
def ct_address_mask : Ct := ⟨[.val cI], [.val cU32], fun d => [0 ≤ d.1 ∧ d.1 ≤ 32], fun d => ((4294967296 - sz d.1, ()), ())⟩
def an_address_mask : PDs ct_address_mask.ps → Anns := (fun _ => {})
theorem vc_address_mask :
    ∀ (x : Int), ((-9223372036854775808 : Int) ≤ x ∧ x ≤ (9223372036854775807 : Int)) ∧ True → (0 : Int) ≤ x ∧ x ≤ (32 : Int) → (0 : Int) ≤ IntKind.wrap IntKind.i64 ((32 : Int) - x) ∧ shlI IntKind.u32
     (4294967295 : Int) (IntKind.wrap IntKind.i64 ((32 : Int) - x)) = (4294967296 : Int) - sz x := by
  rintro x - ⟨h0, h1⟩
  rw [w64 (by omega) (by omega)]
  exact ⟨by omega, mask_eq h0 h1⟩
theorem ok_address_mask : SpecOK Tryz.prog GL 120 ct_address_mask.spec := Ct.ok' _ Tryz.func120 (by kernel_rfl) noSpecs_ok hmix an_address_mask (Eq.mpr (by kernel_rfl) vc_address_mask)

def ct_address_Valid : Ct := ⟨[.agg cPfx], [.val .bool], fun _ => [], fun d => ((pValid d.1, ()), ())⟩
def an_address_Valid : PDs ct_address_Valid.ps → Anns := (fun _ => {})
theorem vc_address_Valid :
    ∀ (x x_1 : Int), (((0 : Int) ≤ x ∧ x ≤ (4294967295 : Int)) ∧ (-9223372036854775808 : Int) ≤ x_1 ∧ x_1 ≤ (9223372036854775807 : Int)) ∧ True → True → ∀ (b : Bool), b = decide ((0 : Int) ≤ x_1) → (b =
     true → (b = true → b = true) ∧ True) ∧ (b = true → (b = true → b = true) ∧ True) ∧ (b = true → b = true) ∧ ∀ (b_1 : Bool), (b_1 = bif b then decide (x_1 ≤ (32 : Int)) else false) → (b_1 = true → (b_1
     = true → b_1 = true) ∧ True) ∧ (b_1 = true → (b_1 = true → b_1 = true) ∧ True) ∧ (b_1 = true → (b_1 = true → b_1 = true) ∧ ((0 : Int) ≤ x_1 ∧ x_1 ≤ (32 : Int)) ∧ True) ∧ (b_1 = true → (b_1 = true →
     b_1 = true) ∧ (b_1 = true → b_1 = true) ∧ True) ∧ (b_1 = true → (b_1 = true → b_1 = true) ∧ True) ∧ (b_1 = true → b_1 = true) ∧ (bif b_1 then decide (bits BinOp.andNot IntKind.u32 x ((4294967296 :
     Int) - sz x_1) = (0 : Int)) else false) = pValid (x, x_1) := by
  rintro x n ⟨⟨⟨h0, h1⟩, -⟩, -⟩ -
  (repeat (intro (b_ : Bool) (hb_ : b_ = _); (repeat refine ⟨(by first | (simp; done) | (rw [hb_]; simp; done) | (rw [hb_]; simp; omega) | (rw [hb_]; simp; intros; omega) | (rw [hb_]; simp +contextual; done)), ?_⟩); subst hb_))
  by_cases hn : 0 ≤ n ∧ n ≤ 32
  · have := mask_not (n := n) h0 h1 hn.1 hn.2
    simp [pValid, hn, this]
  · simp only [pValid]
    by_cases h2 : 0 ≤ n
    · have : ¬ n ≤ 32 := fun h => hn ⟨h2, h⟩
      simp [this]
    · simp [h2]
theorem ok_address_Valid : SpecOK Tryz.prog GL 119 ct_address_Valid.spec := Ct.ok' _ Tryz.func119 (by kernel_rfl) (withSpec_ok noSpecs_ok ok_address_mask) hmix an_address_Valid (Eq.mpr (by kernel_rfl) vc_address_Valid)

def ct_address_Contains : Ct := ⟨[.agg cPfx, .val cU32], [.val .bool], fun _ => [], fun d => ((contains d.1 d.2.1, ()), ())⟩
def an_address_Contains : PDs ct_address_Contains.ps → Anns := (fun _ => {})
theorem vc_address_Contains :
    ∀ (x x_1 x_2 : Int), (((0 : Int) ≤ x ∧ x ≤ (4294967295 : Int)) ∧ (-9223372036854775808 : Int) ≤ x_1 ∧ x_1 ≤ (9223372036854775807 : Int)) ∧ ((0 : Int) ≤ x_2 ∧ x_2 ≤ (4294967295 : Int)) ∧ True → True →
     ∀ (b : Bool), b = pValid (x, x_1) → (b = true → (b = true → b = true) ∧ True) ∧ (b = true → (b = true → b = true) ∧ ((0 : Int) ≤ x_1 ∧ x_1 ≤ (32 : Int)) ∧ True) ∧ (b = true → (b = true → b = true) ∧
     (b = true → b = true) ∧ True) ∧ (b = true → (b = true → b = true) ∧ True) ∧ (b = true → (b = true → b = true) ∧ (b = true → b = true) ∧ True) ∧ (b = true → b = true) ∧ (bif b then decide (bits
     BinOp.and IntKind.u32 x_2 ((4294967296 : Int) - sz x_1) = x) else false) = contains (x, x_1) x_2 := by
  rintro x n a ⟨⟨⟨h0, h1⟩, -⟩, ⟨h2, h3⟩, -⟩ -
  have hv : ∀ b : Bool, b = pValid (x, n) → b = true → 0 ≤ n ∧ n ≤ 32 ∧ x % sz n = 0 := by
    rintro b rfl h; simpa [pValid] using h
  rintro b hb
  have hr := hv b hb
  refine ⟨by simp, fun h => ⟨fun _ => h, ⟨(hr h).1, (hr h).2.1⟩, trivial⟩, by simp, by simp, by simp, by simp, ?_⟩
  unfold contains
  rw [← hb]
  cases b with
  | false => rfl
  | true =>
    obtain ⟨r1, r2, r3⟩ := hr rfl
    have := mask_and (n := n) (x := x) h2 h3 r1 r2 h0 r3
    rw [Bool.eq_iff_iff]; simpa using this
theorem ok_address_Contains : SpecOK Tryz.prog GL 99 ct_address_Contains.spec := Ct.ok' _ Tryz.func99 (by kernel_rfl) (withSpec_ok (withSpec_ok noSpecs_ok ok_address_mask) ok_address_Valid) hmix an_address_Contains (Eq.mpr (by kernel_rfl) vc_address_Contains)







end Go.RS

