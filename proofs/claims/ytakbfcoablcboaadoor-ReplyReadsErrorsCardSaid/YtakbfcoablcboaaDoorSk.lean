/- SX, plain lemmas for what is to be shown of functions. -/
import Derived.Test.YtakbfcoablcboaaDoorSx24
namespace Go.SX
set_option linter.unusedVariables false
theorem w8 {n : Int} (h : -128 ≤ n) (h' : n ≤ 127) : IntKind.i8.wrap n = n := IntWalk.i8_in n ⟨h, h'⟩
theorem w64 {n : Int} (h : -9223372036854775808 ≤ n) (h' : n ≤ 9223372036854775807) : IntKind.i64.wrap n = n := IntWalk.i64_in n ⟨h, h'⟩
theorem wu8 {n : Int} (h : 0 ≤ n) (h' : n ≤ 255) : IntKind.u8.wrap n = n := IntWalk.u8_in n ⟨h, h'⟩
theorem wu16 {n : Int} (h : 0 ≤ n) (h' : n ≤ 65535) : IntKind.u16.wrap n = n := IntWalk.u16_in n ⟨h, h'⟩
theorem wu32 {n : Int} (h : 0 ≤ n) (h' : n ≤ 4294967295) : IntKind.u32.wrap n = n := IntWalk.u32_in n ⟨h, h'⟩
theorem wu64 {n : Int} (h : 0 ≤ n) (h' : n ≤ 18446744073709551615) : IntKind.u64.wrap n = n := IntWalk.u64_in n ⟨h, h'⟩
theorem ifP_t {y n : Prop} : ifP true y n ↔ y := Iff.rfl
theorem ifP_f {y n : Prop} : ifP false y n ↔ n := Iff.rfl
theorem getD_mem {α : Type} [Inhabited α] {xs : List α} {i : Int} (h0 : 0 ≤ i) (h1 : i < xs.length) : xs.getD i.toNat default ∈ xs := by
  have h : i.toNat < xs.length := by omega
  rw [List.getD_eq_getElem?_getD, List.getElem?_eq_getElem h]; exact List.getElem_mem h
theorem tmod_lo {a b : Int} (ha : 0 ≤ a) : 0 ≤ a.tmod b := Int.tmod_nonneg b ha
theorem tmod_hi {a b : Int} (ha : 0 ≤ a) (hb : 0 < b) : a.tmod b < b := Int.tmod_lt_of_pos a hb
/-- From a test to what it says. -/
theorem ifP_split {b : Bool} {y n : Prop} (hy : b = true → y) (hn : b = false → n) : ifP b y n := ifP_iff.2 ⟨hy, hn⟩
theorem guard_taut {a b : Bool} {p : Prop} (h : a = true → b = true) (k : p) : (a = true → b = true) ∧ p := ⟨h, k⟩
theorem ri64 (n : Int) : -9223372036854775808 ≤ IntKind.i64.wrap n ∧ IntKind.i64.wrap n ≤ 9223372036854775807 := IntKind.wrap_has .i64 n
theorem ru8 (n : Int) : 0 ≤ IntKind.u8.wrap n ∧ IntKind.u8.wrap n ≤ 255 := IntKind.wrap_has .u8 n
theorem ru16 (n : Int) : 0 ≤ IntKind.u16.wrap n ∧ IntKind.u16.wrap n ≤ 65535 := IntKind.wrap_has .u16 n
theorem ru32 (n : Int) : 0 ≤ IntKind.u32.wrap n ∧ IntKind.u32.wrap n ≤ 4294967295 := IntKind.wrap_has .u32 n
theorem ru64 (n : Int) : 0 ≤ IntKind.u64.wrap n ∧ IntKind.u64.wrap n ≤ 18446744073709551615 := IntKind.wrap_has .u64 n
/-- What is so of each element is so of the one at a place. -/
theorem getD_all {α : Type} [Inhabited α] {p : α → Prop} {xs : List α} (h : ∀ x ∈ xs, p x) {i : Int} (h0 : 0 ≤ i) (h1 : i < xs.length) : p (xs.getD i.toNat default) := h _ (getD_mem h0 h1)
end Go.SX
