/- SX, plain lemmas for what is to be shown of functions. -/
import Derived.Test.YtdegakknelbjiaaGreatDoorSx24
namespace Go.SX
set_option linter.unusedVariables false
theorem w8 {n : Int} (h : -128 ≤ n) (h' : n ≤ 127) : IntKind.i8.wrap n = n := IntWalk.i8_in n ⟨h, h'⟩
theorem w64 {n : Int} (h : -9223372036854775808 ≤ n) (h' : n ≤ 9223372036854775807) : IntKind.i64.wrap n = n := IntWalk.i64_in n ⟨h, h'⟩
theorem wu8 {n : Int} (h : 0 ≤ n) (h' : n ≤ 255) : IntKind.u8.wrap n = n := IntWalk.u8_in n ⟨h, h'⟩
theorem wu16 {n : Int} (h : 0 ≤ n) (h' : n ≤ 65535) : IntKind.u16.wrap n = n := IntWalk.u16_in n ⟨h, h'⟩
theorem wu32 {n : Int} (h : 0 ≤ n) (h' : n ≤ 4294967295) : IntKind.u32.wrap n = n := IntWalk.u32_in n ⟨h, h'⟩
theorem wu64 {n : Int} (h : 0 ≤ n) (h' : n ≤ 18446744073709551615) : IntKind.u64.wrap n = n := IntWalk.u64_in n ⟨h, h'⟩
theorem ifP_t {y n : Prop} : ifP true y n ↔ y := Iff.rfl
theorem ifP_f {y n : Prop} : ifP false y n ↔ n := Iff.rfl
theorem getD_mem {α : Type} [Inhabited α] {xs : List α} {i : Int} (h0 : 0 ≤ i) (h1 : i < xs.length) : xs.getD i.toNat default ∈ xs := by
  have h : i.toNat < xs.length := by omega
  rw [List.getD_eq_getElem?_getD, List.getElem?_eq_getElem h]; exact List.getElem_mem h
theorem tmod_lo {a b : Int} (ha : 0 ≤ a) : 0 ≤ a.tmod b := Int.tmod_nonneg b ha
theorem tmod_hi {a b : Int} (ha : 0 ≤ a) (hb : 0 < b) : a.tmod b < b := Int.tmod_lt_of_pos a hb
/-- From a test to what it says. -/
theorem ifP_split {b : Bool} {y n : Prop} (hy : b = true → y) (hn : b = false → n) : ifP b y n := ifP_iff.2 ⟨hy, hn⟩
theorem guard_taut {a b : Bool} {p : Prop} (h : a = true → b = true) (k : p) : (a = true → b = true) ∧ p := ⟨h, k⟩
theorem ri64 (n : Int) : -9223372036854775808 ≤ IntKind.i64.wrap n ∧ IntKind.i64.wrap n ≤ 9223372036854775807 := IntKind.wrap_has .i64 n
theorem ru8 (n : Int) : 0 ≤ IntKind.u8.wrap n ∧ IntKind.u8.wrap n ≤ 255 := IntKind.wrap_has .u8 n
theorem ru16 (n : Int) : 0 ≤ IntKind.u16.wrap n ∧ IntKind.u16.wrap n ≤ 65535 := IntKind.wrap_has .u16 n
theorem ru32 (n : Int) : 0 ≤ IntKind.u32.wrap n ∧ IntKind.u32.wrap n ≤ 4294967295 := IntKind.wrap_has .u32 n
theorem ru64 (n : Int) : 0 ≤ IntKind.u64.wrap n ∧ IntKind.u64.wrap n ≤ 18446744073709551615 := IntKind.wrap_has .u64 n
/-- What is so of each element is so of the one at a place. -/
theorem getD_all {α : Type} [Inhabited α] {p : α → Prop} {xs : List α} (h : ∀ x ∈ xs, p x) {i : Int} (h0 : 0 ≤ i) (h1 : i < xs.length) : p (xs.getD i.toNat default) := h _ (getD_mem h0 h1)
theorem nd_t {p : Prop} [Decidable p] (h : (!decide p) = true) : ¬ p := of_decide_eq_false (by simpa only [Bool.not_eq_true'] using h)
theorem nd_f {p : Prop} [Decidable p] (h : (!decide p) = false) : p := of_decide_eq_true (by simpa only [Bool.not_eq_false'] using h)
theorem ifP_or {a b : Bool} {y n : Prop} (hy : a = true ∨ b = true → y) (hn : a = false → b = false → n) : ifP (bif a then true else b) y n := by
  cases a with
  | true => exact hy (.inl rfl)
  | false => cases b with
    | true => exact hy (.inr rfl)
    | false => exact hn rfl rfl
theorem ifP_and {a b : Bool} {y n : Prop} (hy : a = true → b = true → y) (hn : a = false ∨ b = false → n) : ifP (bif a then b else false) y n := by
  cases a with
  | false => exact hn (.inl rfl)
  | true => cases b with
    | true => exact hy rfl rfl
    | false => exact hn (.inr rfl)
theorem getD_set {α : Type} [Inhabited α] {l : List α} {i : Nat} {a : α} (h : i < l.length) : (l.set i a).getD i default = a := by
  rw [List.getD_eq_getElem?_getD, List.getElem?_set_self h]; rfl
theorem getD_set_ne {α : Type} [Inhabited α] {l : List α} {i j : Nat} {a : α} (h : i ≠ j) : (l.set i a).getD j default = l.getD j default := by
  rw [List.getD_eq_getElem?_getD, List.getD_eq_getElem?_getD, List.getElem?_set_ne h]
theorem findI_at {α : Type} [Inhabited α] {q : α → Bool} {l : List α} {j : Int} (h0 : 0 ≤ j) (h1 : j < l.length) (h2 : ∀ x ∈ l.take j.toNat, q x = false) (h3 : q (l.getD j.toNat default) = true) :
    j = if l.findIdx q < l.length then (l.findIdx q : Int) else -1 := by
  have hj : j.toNat < l.length := by omega
  rw [List.getD_eq_getElem?_getD, List.getElem?_eq_getElem hj, Option.getD_some] at h3
  have e : l.findIdx q = j.toNat := (List.findIdx_eq hj).2 ⟨h3, fun k hk => h2 _ (List.mem_take_iff_getElem.2 ⟨k, by omega, rfl⟩)⟩
  rw [e, if_pos hj]; omega
theorem findI_none {α : Type} [Inhabited α] {q : α → Bool} {l : List α} {j : Int} (h1 : ¬ j < l.length) (h2 : ∀ x ∈ l.take j.toNat, q x = false) :
    (-1 : Int) = if l.findIdx q < l.length then (l.findIdx q : Int) else -1 := by
  rw [List.take_of_length_le (by omega)] at h2
  rw [List.findIdx_eq_length_of_false h2, if_neg (Nat.lt_irrefl _)]
theorem all_next {α : Type} [Inhabited α] {P : α → Prop} {l : List α} {j : Int} (h0 : 0 ≤ j) (h1 : j < l.length) (h2 : ∀ x ∈ l.take j.toNat, P x) (h3 : P (l.getD j.toNat default)) :
    ∀ x ∈ l.take (j + 1).toNat, P x := by
  intro x hx
  have hj : j.toNat < l.length := by omega
  rw [show (j + 1).toNat = j.toNat + 1 by omega, List.take_add_one, List.getElem?_eq_getElem hj] at hx
  rw [List.getD_eq_getElem?_getD, List.getElem?_eq_getElem hj, Option.getD_some] at h3
  rcases List.mem_append.1 hx with hx | hx
  · exact h2 x hx
  · simp at hx; rw [hx]; exact h3
end Go.SX
