/- Balance: mixing, hashing, choosing; the law's draws. -/
import Derived.Test.YtbamghnnnngdeaaDraw
import Derived.Test.YtbamghnnnngdeaaMix
namespace Go.RS
open Go.SX Go.Proofs
set_option maxRecDepth 100000
set_option linter.unusedVariables false

def ct_draw_Codes_Int : Cn := ⟨[.box 75 cCodes], [.val cI], fun d => [okC d.1], fun d y => okC y.2.1 ∧ -9223372036854775808 ≤ y.1.1 ∧ y.1.1 ≤ 9223372036854775807, fun d h => ⟨((0, ()), (d.1, ())), h.1, by simp, by simp⟩⟩
def an_draw_Codes_Int : PDs ct_draw_Codes_Int.ps → Anns := (fun _ => {})
theorem vc_draw_Codes_Int :
    ∀ (x : List Int) (x_1 : Int), ((List.length x ≤ maxLen ∧ ∀ (x_2 : Int), x_2 ∈ x → (0 : Int) ≤ x_2 ∧ x_2 ≤ (255 : Int)) ∧ (-9223372036854775808 : Int) ≤ x_1 ∧ x_1 ≤ (9223372036854775807 : Int)) ∧ True
     → (0 : Int) ≤ x_1 ∧ x_1 ≤ ↑(List.length x) → okC (x, x_1) ∧ ∀ (x : Int) (x_2 : List Int) (x_3 : Int), (0 : Int) ≤ x ∧ (x < (10 : Int) ∨ x = (0 : Int)) ∧ okC (x_2, x_3) → ifP (decide (x = (0 : Int)))
     (okC (x_2, x_3) ∧ ∀ (x : Int) (x_4 : List Int) (x_5 : Int), (0 : Int) ≤ x ∧ (x < (3 : Int) ∨ x = (0 : Int)) ∧ okC (x_4, x_5) → okC (x_4, x_5) ∧ (-9223372036854775808 : Int) ≤ IntKind.wrap IntKind.i64
     ((-1 : Int) - x) ∧ IntKind.wrap IntKind.i64 ((-1 : Int) - x) ≤ (9223372036854775807 : Int)) (ifP (decide (x = (1 : Int))) (okC (x_2, x_3) ∧ ∀ (x : Int) (x_4 : List Int) (x_5 : Int), (0 : Int) ≤ x ∧ (x
     < (14 : Int) ∨ x = (0 : Int)) ∧ okC (x_4, x_5) → (0 : Int) ≤ x ∧ x < ↑(List.length [(9223372036854775807 : Int), (-9223372036854775808 : Int), (1125899906842624 : Int), (1125899906842625 : Int),
     (65535 : Int), (65536 : Int), (255 : Int), (256 : Int), (1023 : Int), (1024 : Int), (65534 : Int), (65535 : Int), (4294967296 : Int), (4611686018427387905 : Int)]) ∧ okC (x_4, x_5) ∧
     (-9223372036854775808 : Int) ≤ List.getD [(9223372036854775807 : Int), (-9223372036854775808 : Int), (1125899906842624 : Int), (1125899906842625 : Int), (65535 : Int), (65536 : Int), (255 : Int), (256
     : Int), (1023 : Int), (1024 : Int), (65534 : Int), (65535 : Int), (4294967296 : Int), (4611686018427387905 : Int)] (Int.toNat x) default ∧ List.getD [(9223372036854775807 : Int), (-9223372036854775808
     : Int), (1125899906842624 : Int), (1125899906842625 : Int), (65535 : Int), (65536 : Int), (255 : Int), (256 : Int), (1023 : Int), (1024 : Int), (65534 : Int), (65535 : Int), (4294967296 : Int),
     (4611686018427387905 : Int)] (Int.toNat x) default ≤ (9223372036854775807 : Int)) (ifP (decide (x = (2 : Int))) (okC (x_2, x_3) ∧ ∀ (x : Int) (x_4 : List Int) (x_5 : Int), (0 : Int) ≤ x ∧ (x < (256 :
     Int) ∨ x = (0 : Int)) ∧ okC (x_4, x_5) → okC (x_4, x_5) ∧ ∀ (x_6 : Int) (x_7 : List Int) (x_8 : Int), (0 : Int) ≤ x_6 ∧ (x_6 < (256 : Int) ∨ x_6 = (0 : Int)) ∧ okC (x_7, x_8) → okC (x_7, x_8) ∧
     (-9223372036854775808 : Int) ≤ IntKind.wrap IntKind.i64 (IntKind.wrap IntKind.i64 ((256 : Int) * x) + x_6) ∧ IntKind.wrap IntKind.i64 (IntKind.wrap IntKind.i64 ((256 : Int) * x) + x_6) ≤
     (9223372036854775807 : Int)) (okC (x_2, x_3) ∧ ∀ (x : Int) (x_4 : List Int) (x_5 : Int), (0 : Int) ≤ x ∧ (x < (40 : Int) ∨ x = (0 : Int)) ∧ okC (x_4, x_5) → okC (x_4, x_5) ∧ (-9223372036854775808 :
     Int) ≤ x ∧ x ≤ (9223372036854775807 : Int)))) := by
  rintro l p - h
  refine ⟨h, ?_⟩
  rintro r l2 p2 ⟨h1, h2, h3⟩
  refine ifP_split (fun hb => ⟨h3, ?_⟩) (fun hb => ifP_split (fun hb => ⟨h3, ?_⟩) (fun hb => ifP_split (fun hb => ⟨h3, ?_⟩) (fun hb => ⟨h3, ?_⟩)))
  · rintro a l4 p4 ⟨h4, h5, h6⟩
    exact ⟨h6, ri64 _⟩
  · rintro a l4 p4 ⟨h4, h5, h6⟩
    refine ⟨h4, by simp; omega, h6, ?_⟩
    exact getD_all (p := fun v => -9223372036854775808 ≤ v ∧ v ≤ 9223372036854775807) (by simp) h4 (by simp; omega)
  · rintro a l4 p4 ⟨h4, h5, h6⟩
    refine ⟨h6, ?_⟩
    rintro a l4 p4 ⟨h4, h5, h6⟩
    exact ⟨h6, ri64 _⟩
  · rintro a l4 p4 ⟨h4, h5, h6⟩
    exact ⟨h6, by omega, by omega⟩
theorem ok_draw_Codes_Int : SpecOK Try.prog 29 ct_draw_Codes_Int.spec := Cn.ok' _ Try.func29 (by kernel_rfl) (withSpec_ok noSpecs_ok ok_Next) hmix an_draw_Codes_Int (Eq.mpr (by kernel_rfl) vc_draw_Codes_Int)

def ct_draw_Codes_Address : Cn := ⟨[.box 75 cCodes], [.val cU32], fun d => [okC d.1], fun d y => okC y.2.1 ∧ 0 ≤ y.1.1 ∧ y.1.1 ≤ 4294967295, fun d h => ⟨((0, ()), (d.1, ())), h.1, by simp, by simp⟩⟩
def an_draw_Codes_Address : PDs ct_draw_Codes_Address.ps → Anns := (fun _ => {})
theorem vc_draw_Codes_Address :
    ∀ (x : List Int) (x_1 : Int), ((List.length x ≤ maxLen ∧ ∀ (x_2 : Int), x_2 ∈ x → (0 : Int) ≤ x_2 ∧ x_2 ≤ (255 : Int)) ∧ (-9223372036854775808 : Int) ≤ x_1 ∧ x_1 ≤ (9223372036854775807 : Int)) ∧ True
     → (0 : Int) ≤ x_1 ∧ x_1 ≤ ↑(List.length x) → okC (x, x_1) ∧ ∀ (x : Int) (x_2 : List Int) (x_3 : Int), (0 : Int) ≤ x ∧ (x < (12 : Int) ∨ x = (0 : Int)) ∧ okC (x_2, x_3) → ifP (decide (x = (11 : Int)))
     (okC (x_2, x_3) ∧ ∀ (x : Int) (x_4 : List Int) (x_5 : Int), (0 : Int) ≤ x ∧ (x < (65536 : Int) ∨ x = (0 : Int)) ∧ okC (x_4, x_5) → (0 : Int) ≤ (16 : Int) ∧ okC (x_4, x_5) ∧ ∀ (x_6 : Int) (x_7 : List
     Int) (x_8 : Int), (0 : Int) ≤ x_6 ∧ (x_6 < (65536 : Int) ∨ x_6 = (0 : Int)) ∧ okC (x_7, x_8) → okC (x_7, x_8) ∧ (0 : Int) ≤ IntKind.wrap IntKind.u32 (IntKind.wrap IntKind.i64 (shlI IntKind.i64 x (16 :
     Int) + x_6)) ∧ IntKind.wrap IntKind.u32 (IntKind.wrap IntKind.i64 (shlI IntKind.i64 x (16 : Int) + x_6)) ≤ (4294967295 : Int)) (okC (x_2, x_3) ∧ ∀ (x : Int) (x_4 : List Int) (x_5 : Int), (0 : Int) ≤ x
     ∧ (x < (3 : Int) ∨ x = (0 : Int)) ∧ okC (x_4, x_5) → (0 : Int) ≤ (16 : Int) ∧ okC (x_4, x_5) ∧ ∀ (x_6 : Int) (x_7 : List Int) (x_8 : Int), (0 : Int) ≤ x_6 ∧ (x_6 < (8 : Int) ∨ x_6 = (0 : Int)) ∧ okC
     (x_7, x_8) → okC (x_7, x_8) ∧ (0 : Int) ≤ IntKind.wrap IntKind.u32 (IntKind.wrap IntKind.i64 (IntKind.wrap IntKind.i64 ((167772160 : Int) + shlI IntKind.i64 x (16 : Int)) + x_6)) ∧ IntKind.wrap
     IntKind.u32 (IntKind.wrap IntKind.i64 (IntKind.wrap IntKind.i64 ((167772160 : Int) + shlI IntKind.i64 x (16 : Int)) + x_6)) ≤ (4294967295 : Int)) := by
  rintro l p - h
  refine ⟨h, ?_⟩
  rintro r l2 p2 ⟨h1, h2, h3⟩
  refine ifP_split (fun hb => ⟨h3, ?_⟩) (fun hb => ⟨h3, ?_⟩)
  · rintro a l4 p4 ⟨h4, h5, h6⟩
    refine ⟨by omega, h6, ?_⟩
    rintro a l4 p4 ⟨h4, h5, h6⟩
    exact ⟨h6, ru32 _⟩
  · rintro a l4 p4 ⟨h4, h5, h6⟩
    refine ⟨by omega, h6, ?_⟩
    rintro a l4 p4 ⟨h4, h5, h6⟩
    exact ⟨h6, ru32 _⟩
theorem ok_draw_Codes_Address : SpecOK Try.prog 30 ct_draw_Codes_Address.spec := Cn.ok' _ Try.func30 (by kernel_rfl) (withSpec_ok noSpecs_ok ok_Next) hmix an_draw_Codes_Address (Eq.mpr (by kernel_rfl) vc_draw_Codes_Address)

def ct_draw_Codes_Proto : Cn := ⟨[.box 75 cCodes], [.val cI], fun d => [okC d.1], fun d y => okC y.2.1 ∧ (y.1.1 = 17 ∨ y.1.1 = 1 ∨ y.1.1 = 6), fun d h => ⟨((1, ()), (d.1, ())), h.1, by simp⟩⟩
def an_draw_Codes_Proto : PDs ct_draw_Codes_Proto.ps → Anns := (fun _ => {})
theorem vc_draw_Codes_Proto :
    ∀ (x : List Int) (x_1 : Int), ((List.length x ≤ maxLen ∧ ∀ (x_2 : Int), x_2 ∈ x → (0 : Int) ≤ x_2 ∧ x_2 ≤ (255 : Int)) ∧ (-9223372036854775808 : Int) ≤ x_1 ∧ x_1 ≤ (9223372036854775807 : Int)) ∧ True
     → (0 : Int) ≤ x_1 ∧ x_1 ≤ ↑(List.length x) → okC (x, x_1) ∧ ∀ (x : Int) (x_2 : List Int) (x_3 : Int), (0 : Int) ≤ x ∧ (x < (3 : Int) ∨ x = (0 : Int)) ∧ okC (x_2, x_3) → (0 : Int) ≤ x ∧ x <
     ↑(List.length [(17 : Int), (1 : Int), (6 : Int)]) ∧ okC (x_2, x_3) ∧ (List.getD [(17 : Int), (1 : Int), (6 : Int)] (Int.toNat x) default = (17 : Int) ∨ List.getD [(17 : Int), (1 : Int), (6 : Int)]
     (Int.toNat x) default = (1 : Int) ∨ List.getD [(17 : Int), (1 : Int), (6 : Int)] (Int.toNat x) default = (6 : Int)) := by
  rintro l p - h
  refine ⟨h, ?_⟩
  rintro r l2 p2 ⟨h1, h2, h3⟩
  refine ⟨h1, by simp; omega, h3, ?_⟩
  exact getD_all (p := fun v => v = 17 ∨ v = 1 ∨ v = 6) (by simp) h1 (by simp; omega)
theorem ok_draw_Codes_Proto : SpecOK Try.prog 31 ct_draw_Codes_Proto.spec := Cn.ok' _ Try.func31 (by kernel_rfl) (withSpec_ok noSpecs_ok ok_Next) hmix an_draw_Codes_Proto (Eq.mpr (by kernel_rfl) vc_draw_Codes_Proto)
def modI (x n : Int) : Int := (IntKind.wrap .i64 (x.tmod n + n)).tmod n
def ct_draw_Mod : Ct := ⟨[.val cI, .val cI], [.val cI], fun d => [d.2.1 ≠ 0], fun d => ((modI d.1 d.2.1, ()), ())⟩
def an_draw_Mod : PDs ct_draw_Mod.ps → Anns := (fun _ => {})
theorem vc_draw_Mod :
    ∀ (x x_1 : Int), ((-9223372036854775808 : Int) ≤ x ∧ x ≤ (9223372036854775807 : Int)) ∧ ((-9223372036854775808 : Int) ≤ x_1 ∧ x_1 ≤ (9223372036854775807 : Int)) ∧ True → (x_1 = (0 : Int) → False) →
     x_1 ≠ (0 : Int) ∧ x_1 ≠ (0 : Int) ∧ Int.tmod (IntKind.wrap IntKind.i64 (Int.tmod x x_1 + x_1)) x_1 = modI x x_1 := by
  rintro x n - h
  exact ⟨h, h, rfl⟩
theorem ok_draw_Mod : SpecOK Try.prog 32 ct_draw_Mod.spec := Ct.ok' _ Try.func32 (by kernel_rfl) noSpecs_ok hmix an_draw_Mod (Eq.mpr (by kernel_rfl) vc_draw_Mod)

theorem modI_range (x : Int) {n : Int} (h0 : 0 < n) (h1 : n ≤ 4611686018427387904) : 0 ≤ modI x n ∧ modI x n < n := by
  have a := Int.tmod_lt_of_pos x h0
  have b : -n < x.tmod n := Int.lt_tmod_of_pos x h0
  unfold modI
  rw [w64 (by omega) (by omega)]
  exact ⟨tmod_lo (by omega), tmod_hi (by omega) h0⟩

def ct_balance_Mix : Ct := ⟨[.val cU64], [.val cU64], fun _ => [], fun d => ((mix d.1, ()), ())⟩
def an_balance_Mix : PDs ct_balance_Mix.ps → Anns := (fun _ => {})
theorem vc_balance_Mix :
    ∀ (x : Int), ((0 : Int) ≤ x ∧ x ≤ (18446744073709551615 : Int)) ∧ True → True → (0 : Int) ≤ (30 : Int) ∧ (0 : Int) ≤ (27 : Int) ∧ (0 : Int) ≤ (31 : Int) ∧ bits BinOp.xor IntKind.u64 (IntKind.wrap
     IntKind.u64 (bits BinOp.xor IntKind.u64 (IntKind.wrap IntKind.u64 (bits BinOp.xor IntKind.u64 (IntKind.wrap IntKind.u64 (x + (11400714819323198485 : Int))) (shrI IntKind.u64 (IntKind.wrap IntKind.u64
     (x + (11400714819323198485 : Int))) (30 : Int)) * (13787848793156543929 : Int))) (shrI IntKind.u64 (IntKind.wrap IntKind.u64 (bits BinOp.xor IntKind.u64 (IntKind.wrap IntKind.u64 (x +
     (11400714819323198485 : Int))) (shrI IntKind.u64 (IntKind.wrap IntKind.u64 (x + (11400714819323198485 : Int))) (30 : Int)) * (13787848793156543929 : Int))) (27 : Int)) * (10723151780598845931 : Int)))
     (shrI IntKind.u64 (IntKind.wrap IntKind.u64 (bits BinOp.xor IntKind.u64 (IntKind.wrap IntKind.u64 (bits BinOp.xor IntKind.u64 (IntKind.wrap IntKind.u64 (x + (11400714819323198485 : Int))) (shrI
     IntKind.u64 (IntKind.wrap IntKind.u64 (x + (11400714819323198485 : Int))) (30 : Int)) * (13787848793156543929 : Int))) (shrI IntKind.u64 (IntKind.wrap IntKind.u64 (bits BinOp.xor IntKind.u64
     (IntKind.wrap IntKind.u64 (x + (11400714819323198485 : Int))) (shrI IntKind.u64 (IntKind.wrap IntKind.u64 (x + (11400714819323198485 : Int))) (30 : Int)) * (13787848793156543929 : Int))) (27 : Int)) *
     (10723151780598845931 : Int))) (31 : Int)) = mix x := by
  rintro x ⟨⟨h0, h1⟩, -⟩ -
  refine ⟨by decide, by decide, by decide, ?_⟩
  have h0 : 0 ≤ x := h0
  obtain ⟨n, rfl⟩ := Int.eq_ofNat_of_zero_le h0
  have e0 : IntKind.u64.wrap ((n : Int) + 11400714819323198485) = (((n + 11400714819323198485) % 18446744073709551616 : Nat) : Int) := wrap_u64_nat (n + 11400714819323198485)
  have hm : (n + 11400714819323198485) % 18446744073709551616 < 18446744073709551616 := by omega
  have e1 := xs_u64 _ 30 (by decide) hm
  have e2 := mu_u64 (xs 30 ((n + 11400714819323198485) % 18446744073709551616)) 13787848793156543929
  have e3 := xs_u64 _ 27 (by decide) (mu_lt (c := 13787848793156543929) (a := xs 30 ((n + 11400714819323198485) % 18446744073709551616)))
  have e4 := mu_u64 (xs 27 (mu 13787848793156543929 (xs 30 ((n + 11400714819323198485) % 18446744073709551616)))) 10723151780598845931
  have e5 := xs_u64 _ 31 (by decide) (mu_lt (c := 10723151780598845931) (a := xs 27 (mu 13787848793156543929 (xs 30 ((n + 11400714819323198485) % 18446744073709551616)))))
  have c1 : ((30 : Nat) : Int) = 30 := rfl
  have c2 : ((27 : Nat) : Int) = 27 := rfl
  have c3 : ((31 : Nat) : Int) = 31 := rfl
  have c4 : ((13787848793156543929 : Nat) : Int) = 13787848793156543929 := rfl
  have c5 : ((10723151780598845931 : Nat) : Int) = 10723151780598845931 := rfl
  rw [c1] at e1
  rw [c4] at e2
  rw [c2] at e3
  rw [c5] at e4
  rw [c3] at e5
  rw [e0, e1, e2, e3, e4, e5]
  unfold mix mixN
  rw [Int.toNat_natCast]
theorem ok_balance_Mix : SpecOK Try.prog 14 ct_balance_Mix.spec := Ct.ok' _ Try.func14 (by kernel_rfl) noSpecs_ok hmix an_balance_Mix (Eq.mpr (by kernel_rfl) vc_balance_Mix)

def ct_ref10_Mix : Ct := ⟨[.val cU64], [.val cU64], fun _ => [], fun d => ((mix d.1, ()), ())⟩
def an_ref10_Mix : PDs ct_ref10_Mix.ps → Anns := (fun _ => {})
theorem vc_ref10_Mix :
    ∀ (x : Int), ((0 : Int) ≤ x ∧ x ≤ (18446744073709551615 : Int)) ∧ True → True → (0 : Int) ≤ (30 : Int) ∧ (0 : Int) ≤ (27 : Int) ∧ (0 : Int) ≤ (31 : Int) ∧ bits BinOp.xor IntKind.u64 (IntKind.wrap
     IntKind.u64 (bits BinOp.xor IntKind.u64 (IntKind.wrap IntKind.u64 (bits BinOp.xor IntKind.u64 (IntKind.wrap IntKind.u64 (x + (11400714819323198485 : Int))) (shrI IntKind.u64 (IntKind.wrap IntKind.u64
     (x + (11400714819323198485 : Int))) (30 : Int)) * (13787848793156543929 : Int))) (shrI IntKind.u64 (IntKind.wrap IntKind.u64 (bits BinOp.xor IntKind.u64 (IntKind.wrap IntKind.u64 (x +
     (11400714819323198485 : Int))) (shrI IntKind.u64 (IntKind.wrap IntKind.u64 (x + (11400714819323198485 : Int))) (30 : Int)) * (13787848793156543929 : Int))) (27 : Int)) * (10723151780598845931 : Int)))
     (shrI IntKind.u64 (IntKind.wrap IntKind.u64 (bits BinOp.xor IntKind.u64 (IntKind.wrap IntKind.u64 (bits BinOp.xor IntKind.u64 (IntKind.wrap IntKind.u64 (x + (11400714819323198485 : Int))) (shrI
     IntKind.u64 (IntKind.wrap IntKind.u64 (x + (11400714819323198485 : Int))) (30 : Int)) * (13787848793156543929 : Int))) (shrI IntKind.u64 (IntKind.wrap IntKind.u64 (bits BinOp.xor IntKind.u64
     (IntKind.wrap IntKind.u64 (x + (11400714819323198485 : Int))) (shrI IntKind.u64 (IntKind.wrap IntKind.u64 (x + (11400714819323198485 : Int))) (30 : Int)) * (13787848793156543929 : Int))) (27 : Int)) *
     (10723151780598845931 : Int))) (31 : Int)) = mix x := by
  rintro x ⟨⟨h0, h1⟩, -⟩ -
  refine ⟨by decide, by decide, by decide, ?_⟩
  have h0 : 0 ≤ x := h0
  obtain ⟨n, rfl⟩ := Int.eq_ofNat_of_zero_le h0
  have e0 : IntKind.u64.wrap ((n : Int) + 11400714819323198485) = (((n + 11400714819323198485) % 18446744073709551616 : Nat) : Int) := wrap_u64_nat (n + 11400714819323198485)
  have hm : (n + 11400714819323198485) % 18446744073709551616 < 18446744073709551616 := by omega
  have e1 := xs_u64 _ 30 (by decide) hm
  have e2 := mu_u64 (xs 30 ((n + 11400714819323198485) % 18446744073709551616)) 13787848793156543929
  have e3 := xs_u64 _ 27 (by decide) (mu_lt (c := 13787848793156543929) (a := xs 30 ((n + 11400714819323198485) % 18446744073709551616)))
  have e4 := mu_u64 (xs 27 (mu 13787848793156543929 (xs 30 ((n + 11400714819323198485) % 18446744073709551616)))) 10723151780598845931
  have e5 := xs_u64 _ 31 (by decide) (mu_lt (c := 10723151780598845931) (a := xs 27 (mu 13787848793156543929 (xs 30 ((n + 11400714819323198485) % 18446744073709551616)))))
  have c1 : ((30 : Nat) : Int) = 30 := rfl
  have c2 : ((27 : Nat) : Int) = 27 := rfl
  have c3 : ((31 : Nat) : Int) = 31 := rfl
  have c4 : ((13787848793156543929 : Nat) : Int) = 13787848793156543929 := rfl
  have c5 : ((10723151780598845931 : Nat) : Int) = 10723151780598845931 := rfl
  rw [c1] at e1
  rw [c4] at e2
  rw [c2] at e3
  rw [c5] at e4
  rw [c3] at e5
  rw [e0, e1, e2, e3, e4, e5]
  unfold mix mixN
  rw [Int.toNat_natCast]
theorem ok_ref10_Mix : SpecOK Try.prog 23 ct_ref10_Mix.spec := Ct.ok' _ Try.func23 (by kernel_rfl) noSpecs_ok hmix an_ref10_Mix (Eq.mpr (by kernel_rfl) vc_ref10_Mix)

def ct_law10_awake : Ct := ⟨[], [.val .bool], fun _ => [], fun _ => ((true, ()), ())⟩
def an_law10_awake : PDs ct_law10_awake.ps → Anns := (fun _ => {})
theorem vc_law10_awake :
    True → True → decide (mix (0 : Int) = (16294208416658607535 : Int)) = true := by
  intro _ _
  decide +kernel
theorem ok_law10_awake : SpecOK Try.prog 13 ct_law10_awake.spec := Ct.ok' _ Try.func13 (by kernel_rfl) (withSpec_ok noSpecs_ok ok_balance_Mix) hmix an_law10_awake (Eq.mpr (by kernel_rfl) vc_law10_awake)
abbrev Key : Type := Int × Int × Int × Int × Int
def hstep (h x : Int) : Int := mix (bits .xor .u64 h (IntKind.wrap .u64 x))
def hash (seed : Int) (k : Key) : Int := hstep (hstep (hstep (hstep (hstep (mix (IntKind.wrap .u64 seed)) k.1) k.2.1) k.2.2.1) k.2.2.2.1) k.2.2.2.2
def ct_ref10_Hash : Ct := ⟨[.val cI, .agg cKey], [.val cU64], fun _ => [], fun d => ((hash d.1 d.2.1, ()), ())⟩
def an_ref10_Hash : PDs ct_ref10_Hash.ps → Anns := (fun _ => {})
theorem vc_ref10_Hash :
    ∀ (x x_1 x_2 x_3 x_4 x_5 : Int), ((-9223372036854775808 : Int) ≤ x ∧ x ≤ (9223372036854775807 : Int)) ∧ (((0 : Int) ≤ x_1 ∧ x_1 ≤ (4294967295 : Int)) ∧ ((0 : Int) ≤ x_2 ∧ x_2 ≤ (4294967295 : Int)) ∧
     ((-9223372036854775808 : Int) ≤ x_3 ∧ x_3 ≤ (9223372036854775807 : Int)) ∧ ((-9223372036854775808 : Int) ≤ x_4 ∧ x_4 ≤ (9223372036854775807 : Int)) ∧ (-9223372036854775808 : Int) ≤ x_5 ∧ x_5 ≤
     (9223372036854775807 : Int)) ∧ True → True → mix (bits BinOp.xor IntKind.u64 (mix (bits BinOp.xor IntKind.u64 (mix (bits BinOp.xor IntKind.u64 (mix (bits BinOp.xor IntKind.u64 (mix (bits BinOp.xor
     IntKind.u64 (mix (IntKind.wrap IntKind.u64 x)) (IntKind.wrap IntKind.u64 x_1))) (IntKind.wrap IntKind.u64 x_2))) (IntKind.wrap IntKind.u64 x_3))) (IntKind.wrap IntKind.u64 x_4))) (IntKind.wrap
     IntKind.u64 x_5)) = hash x (x_1, x_2, x_3, x_4, x_5) := by
  rintro x a b c e f - -
  rfl
theorem ok_ref10_Hash : SpecOK Try.prog 25 ct_ref10_Hash.spec := Ct.ok' _ Try.func25 (by kernel_rfl) (withSpec_ok noSpecs_ok ok_ref10_Mix) hmix an_ref10_Hash (Eq.mpr (by kernel_rfl) vc_ref10_Hash)
theorem hash_range (s : Int) (k : Key) : 0 ≤ hash s k ∧ hash s k ≤ 18446744073709551615 := mix_lt _
def hashAt (seed : Int) (k : Key) (j : Int) : Int := ([k.1, k.2.1, k.2.2.1, k.2.2.2.1, k.2.2.2.2].take j.toNat).foldl hstep (mix (IntKind.wrap .u64 seed))
def ct_balance_Hash : Ct := ⟨[.val cI, .agg cKey], [.val cU64], fun _ => [], fun d => ((hash d.1 d.2.1, ()), ())⟩
def an_balance_Hash : PDs ct_balance_Hash.ps → Anns := (fun d => { loops := (fun n => match n with | 3 => some (fun S => { ι := Int × Int, qn := ⟨fun k_ => ∀ (j : Int) (h : Int), k_ (j, h), fun k_ h_ i => h_ i.1 i.2, fun k_ => ∃ (j : Int) (h : Int), k_ (j, h), fun k_ ⟨j, h, h_⟩ => ⟨_, h_⟩⟩, μ := fun i => (5 - i.1).toNat, inv := fun i => 0 ≤ i.1 ∧ i.1 ≤ 5 ∧ i.2 = hashAt d.1 d.2.1 i.1, keep := [23], slots := fun i => [(5, .int .u64 i.2), (24, .int .i64 i.1)], names := fun i => [] }) | _ => none) })
theorem vc_balance_Hash :
    ∀ (x x_1 x_2 x_3 x_4 x_5 : Int), ((-9223372036854775808 : Int) ≤ x ∧ x ≤ (9223372036854775807 : Int)) ∧ (((0 : Int) ≤ x_1 ∧ x_1 ≤ (4294967295 : Int)) ∧ ((0 : Int) ≤ x_2 ∧ x_2 ≤ (4294967295 : Int)) ∧
     ((-9223372036854775808 : Int) ≤ x_3 ∧ x_3 ≤ (9223372036854775807 : Int)) ∧ ((-9223372036854775808 : Int) ≤ x_4 ∧ x_4 ≤ (9223372036854775807 : Int)) ∧ (-9223372036854775808 : Int) ≤ x_5 ∧ x_5 ≤
     (9223372036854775807 : Int)) ∧ True → True → (∃ j h, ((0 : Int) ≤ j ∧ j ≤ (5 : Int) ∧ h = hashAt x (x_1, x_2, x_3, x_4, x_5) j) ∧ mix (IntKind.wrap IntKind.u64 x) = h ∧ IntKind.wrap IntKind.i64 x_1 =
     IntKind.wrap IntKind.i64 x_1 ∧ IntKind.wrap IntKind.i64 x_2 = IntKind.wrap IntKind.i64 x_2 ∧ x_3 = x_3 ∧ x_4 = x_4 ∧ x_5 = x_5 ∧ (0 : Int) = j ∧ True) ∧ ∀ (j h : Int), (0 : Int) ≤ j ∧ j ≤ (5 : Int) ∧
     h = hashAt x (x_1, x_2, x_3, x_4, x_5) j → ifP (decide (j < (5 : Int))) ((0 : Int) ≤ j ∧ j < ↑(5 : Nat) ∧ ∃ j_1 h_1, ((0 : Int) ≤ j_1 ∧ j_1 ≤ (5 : Int) ∧ h_1 = hashAt x (x_1, x_2, x_3, x_4, x_5) j_1)
     ∧ Int.toNat ((5 : Int) - j_1) < Int.toNat ((5 : Int) - j) ∧ mix (bits BinOp.xor IntKind.u64 h (IntKind.wrap IntKind.u64 (pickI [IntKind.wrap IntKind.i64 x_1, IntKind.wrap IntKind.i64 x_2, x_3, x_4,
     x_5] (Int.toNat j)))) = h_1 ∧ IntKind.wrap IntKind.i64 x_1 = IntKind.wrap IntKind.i64 x_1 ∧ IntKind.wrap IntKind.i64 x_2 = IntKind.wrap IntKind.i64 x_2 ∧ x_3 = x_3 ∧ x_4 = x_4 ∧ x_5 = x_5 ∧
     IntKind.wrap IntKind.i64 (j + (1 : Int)) = j_1 ∧ True) (h = hash x (x_1, x_2, x_3, x_4, x_5)) := by
  rintro x a b c e f ⟨-, ⟨⟨a0, a1⟩, ⟨b0, b1⟩, ⟨c0, c1⟩, ⟨e0, e1⟩, f0, f1⟩, -⟩ -
  refine ⟨⟨0, _, ⟨by omega, by omega, rfl⟩, (by repeat' first | exact trivial | refine ⟨rfl, ?_⟩)⟩, ?_⟩
  rintro j h ⟨h0, h1, rfl⟩
  refine ifP_split (fun hj => ?_) (fun hj => ?_)
  · have hj := of_decide_eq_true hj
    refine ⟨h0, by omega, j + 1, hashAt x (a, b, c, e, f) (j + 1), ⟨by omega, by omega, rfl⟩, by omega, ?_, rfl, rfl, rfl, rfl, rfl, w64 (by omega) (by omega), trivial⟩
    rw [w64 (n := a) (by omega) (by omega), w64 (n := b) (by omega) (by omega)]
    have : j = 0 ∨ j = 1 ∨ j = 2 ∨ j = 3 ∨ j = 4 := by omega
    rcases this with rfl | rfl | rfl | rfl | rfl <;> rfl
  · have hj := of_decide_eq_false hj
    have : j = 5 := by omega
    subst this
    rfl
theorem ok_balance_Hash : SpecOK Try.prog 24 ct_balance_Hash.spec := Ct.ok' _ Try.func24 (by kernel_rfl) (withSpec_ok noSpecs_ok ok_balance_Mix) hmix an_balance_Hash (Eq.mpr (by kernel_rfl) vc_balance_Hash)
def choose (way seed : Int) (k : Key) (count n : Int) : Int × Int :=
  if n < 1 ∨ 16 < n ∨ count < 0 ∨ way < 1 ∨ 3 < way then (0, 1) else
    (if way = 1 then (hash seed k).tmod n else if way = 2 then (hash seed (k.1, k.2.1, 0, 0, 0)).tmod n else count.tmod n, 0)
def ct_balance_Choose : Ct := ⟨[.val cI, .val cI, .agg cKey, .val cI, .val cI], [.val cI, .val cI], fun _ => [], fun d => (((choose d.1 d.2.1 d.2.2.1 d.2.2.2.1 d.2.2.2.2.1).1, (choose d.1 d.2.1 d.2.2.1 d.2.2.2.1 d.2.2.2.2.1).2, ()), ())⟩
def an_balance_Choose : PDs ct_balance_Choose.ps → Anns := (fun _ => {})
theorem vc_balance_Choose :
    ∀ (x x_1 x_2 x_3 x_4 x_5 x_6 x_7 x_8 : Int), ((-9223372036854775808 : Int) ≤ x ∧ x ≤ (9223372036854775807 : Int)) ∧ ((-9223372036854775808 : Int) ≤ x_1 ∧ x_1 ≤ (9223372036854775807 : Int)) ∧ (((0 :
     Int) ≤ x_2 ∧ x_2 ≤ (4294967295 : Int)) ∧ ((0 : Int) ≤ x_3 ∧ x_3 ≤ (4294967295 : Int)) ∧ ((-9223372036854775808 : Int) ≤ x_4 ∧ x_4 ≤ (9223372036854775807 : Int)) ∧ ((-9223372036854775808 : Int) ≤ x_5 ∧
     x_5 ≤ (9223372036854775807 : Int)) ∧ (-9223372036854775808 : Int) ≤ x_6 ∧ x_6 ≤ (9223372036854775807 : Int)) ∧ ((-9223372036854775808 : Int) ≤ x_7 ∧ x_7 ≤ (9223372036854775807 : Int)) ∧
     ((-9223372036854775808 : Int) ≤ x_8 ∧ x_8 ≤ (9223372036854775807 : Int)) ∧ True → True → ∀ (b : Bool), b = decide (x_8 < (1 : Int)) → ((!b) = true → ((!b) = true → (!b) = true) ∧ True) ∧ (b = false →
     (!b) = true) ∧ ∀ (b_1 : Bool), (b_1 = bif b then true else decide ((16 : Int) < x_8)) → ((!b_1) = true → ((!b_1) = true → (!b_1) = true) ∧ True) ∧ (b_1 = false → (!b_1) = true) ∧ ifP (bif b_1 then
     true else decide (x_7 < (0 : Int))) ((0 : Int) = (choose x x_1 (x_2, x_3, x_4, x_5, x_6) x_7 x_8).1 ∧ (1 : Int) = (choose x x_1 (x_2, x_3, x_4, x_5, x_6) x_7 x_8).2) (ifP (decide (x = (1 : Int)))
     (IntKind.wrap IntKind.u64 x_8 ≠ (0 : Int) ∧ IntKind.wrap IntKind.i64 (Int.tmod (hash x_1 (x_2, x_3, x_4, x_5, x_6)) (IntKind.wrap IntKind.u64 x_8)) = (choose x x_1 (x_2, x_3, x_4, x_5, x_6) x_7 x_8).1
     ∧ (0 : Int) = (choose x x_1 (x_2, x_3, x_4, x_5, x_6) x_7 x_8).2) (ifP (decide (x = (2 : Int))) (IntKind.wrap IntKind.u64 x_8 ≠ (0 : Int) ∧ IntKind.wrap IntKind.i64 (Int.tmod (hash x_1 (x_2, x_3, (0 :
     Int), (0 : Int), (0 : Int))) (IntKind.wrap IntKind.u64 x_8)) = (choose x x_1 (x_2, x_3, x_4, x_5, x_6) x_7 x_8).1 ∧ (0 : Int) = (choose x x_1 (x_2, x_3, x_4, x_5, x_6) x_7 x_8).2) (ifP (decide (x = (3
     : Int))) (IntKind.wrap IntKind.u64 x_8 ≠ (0 : Int) ∧ IntKind.wrap IntKind.i64 (Int.tmod (IntKind.wrap IntKind.u64 x_7) (IntKind.wrap IntKind.u64 x_8)) = (choose x x_1 (x_2, x_3, x_4, x_5, x_6) x_7
     x_8).1 ∧ (0 : Int) = (choose x x_1 (x_2, x_3, x_4, x_5, x_6) x_7 x_8).2) ((0 : Int) = (choose x x_1 (x_2, x_3, x_4, x_5, x_6) x_7 x_8).1 ∧ (1 : Int) = (choose x x_1 (x_2, x_3, x_4, x_5, x_6) x_7
     x_8).2)))) := by
  rintro x s a b c e f cnt n ⟨-, -, -, ⟨c0, c1⟩, ⟨n0, n1⟩, -⟩ -
  (repeat (intro (b_ : Bool) (hb_ : b_ = _); (repeat refine ⟨(by simp; done), ?_⟩); subst hb_))
  refine ifP_split (fun h => ?_) (fun h => ?_)
  · simp at h
    unfold choose; rw [if_pos (by omega)]; exact ⟨rfl, rfl⟩
  · simp at h
    rw [wu64 (n := n) (by omega) (by omega)]
    have hr : ∀ k, 0 ≤ (hash s k).tmod n ∧ (hash s k).tmod n < n := fun k => ⟨tmod_lo (hash_range _ _).1, tmod_hi (hash_range _ _).1 (by omega)⟩
    unfold choose
    refine ifP_split (fun hx => ?_) (fun hx => ifP_split (fun hy => ?_) (fun hy => ifP_split (fun hz => ?_) (fun hz => ?_)))
    · simp at hx
      subst hx
      have := hr (a, b, c, e, f)
      rw [if_neg (by omega), if_pos rfl, w64 (by omega) (by omega)]
      exact ⟨by omega, rfl, rfl⟩
    · simp at hx hy
      subst hy
      have := hr (a, b, 0, 0, 0)
      rw [if_neg (by omega), if_neg (by omega), if_pos rfl, w64 (by omega) (by omega)]
      exact ⟨by omega, rfl, rfl⟩
    · simp at hx hy hz
      subst hz
      have q0 := tmod_lo (b := n) (a := cnt) (by omega)
      have q1 := tmod_hi (b := n) (a := cnt) (by omega) (by omega)
      rw [if_neg (by omega), if_neg (by omega), if_neg (by omega), wu64 (n := cnt) (by omega) (by omega), w64 (by omega) (by omega)]
      exact ⟨by omega, rfl, rfl⟩
    · simp at hx hy hz
      rw [if_pos (by omega)]
      exact ⟨rfl, rfl⟩
theorem ok_balance_Choose : SpecOK Try.prog 26 ct_balance_Choose.spec := Ct.ok' _ Try.func26 (by kernel_rfl) (withSpec_ok noSpecs_ok ok_balance_Hash) hmix an_balance_Choose (Eq.mpr (by kernel_rfl) vc_balance_Choose)

def ct_ref10_Choose : Ct := ⟨[.val cI, .val cI, .agg cKey, .val cI, .val cI], [.val cI, .val cI], fun _ => [], fun d => (((choose d.1 d.2.1 d.2.2.1 d.2.2.2.1 d.2.2.2.2.1).1, (choose d.1 d.2.1 d.2.2.1 d.2.2.2.1 d.2.2.2.2.1).2, ()), ())⟩
def an_ref10_Choose : PDs ct_ref10_Choose.ps → Anns := (fun _ => {})
theorem vc_ref10_Choose :
    ∀ (x x_1 x_2 x_3 x_4 x_5 x_6 x_7 x_8 : Int), ((-9223372036854775808 : Int) ≤ x ∧ x ≤ (9223372036854775807 : Int)) ∧ ((-9223372036854775808 : Int) ≤ x_1 ∧ x_1 ≤ (9223372036854775807 : Int)) ∧ (((0 :
     Int) ≤ x_2 ∧ x_2 ≤ (4294967295 : Int)) ∧ ((0 : Int) ≤ x_3 ∧ x_3 ≤ (4294967295 : Int)) ∧ ((-9223372036854775808 : Int) ≤ x_4 ∧ x_4 ≤ (9223372036854775807 : Int)) ∧ ((-9223372036854775808 : Int) ≤ x_5 ∧
     x_5 ≤ (9223372036854775807 : Int)) ∧ (-9223372036854775808 : Int) ≤ x_6 ∧ x_6 ≤ (9223372036854775807 : Int)) ∧ ((-9223372036854775808 : Int) ≤ x_7 ∧ x_7 ≤ (9223372036854775807 : Int)) ∧
     ((-9223372036854775808 : Int) ≤ x_8 ∧ x_8 ≤ (9223372036854775807 : Int)) ∧ True → True → ∀ (b : Bool), b = decide (x < (1 : Int)) → ((!b) = true → ((!b) = true → (!b) = true) ∧ True) ∧ (b = false →
     (!b) = true) ∧ ∀ (b_1 : Bool), (b_1 = bif b then true else decide ((3 : Int) < x)) → ((!b_1) = true → ((!b_1) = true → (!b_1) = true) ∧ True) ∧ (b_1 = false → (!b_1) = true) ∧ ∀ (b : Bool), (b = bif
     b_1 then true else decide (x_8 < (1 : Int))) → ((!b) = true → ((!b) = true → (!b) = true) ∧ True) ∧ (b = false → (!b) = true) ∧ ∀ (b_2 : Bool), (b_2 = bif b then true else decide ((16 : Int) < x_8)) →
     ((!b_2) = true → ((!b_2) = true → (!b_2) = true) ∧ True) ∧ (b_2 = false → (!b_2) = true) ∧ ifP (bif b_2 then true else decide (x_7 < (0 : Int))) ((0 : Int) = (choose x x_1 (x_2, x_3, x_4, x_5, x_6)
     x_7 x_8).1 ∧ (1 : Int) = (choose x x_1 (x_2, x_3, x_4, x_5, x_6) x_7 x_8).2) (ifP (decide (x = (1 : Int))) (IntKind.wrap IntKind.u64 x_8 ≠ (0 : Int) ∧ IntKind.wrap IntKind.i64 (Int.tmod (hash x_1
     (x_2, x_3, x_4, x_5, x_6)) (IntKind.wrap IntKind.u64 x_8)) = (choose x x_1 (x_2, x_3, x_4, x_5, x_6) x_7 x_8).1 ∧ (0 : Int) = (choose x x_1 (x_2, x_3, x_4, x_5, x_6) x_7 x_8).2) (ifP (decide (x = (2 :
     Int))) (IntKind.wrap IntKind.u64 x_8 ≠ (0 : Int) ∧ IntKind.wrap IntKind.i64 (Int.tmod (hash x_1 (x_2, x_3, (0 : Int), (0 : Int), (0 : Int))) (IntKind.wrap IntKind.u64 x_8)) = (choose x x_1 (x_2, x_3,
     x_4, x_5, x_6) x_7 x_8).1 ∧ (0 : Int) = (choose x x_1 (x_2, x_3, x_4, x_5, x_6) x_7 x_8).2) (x_8 ≠ (0 : Int) ∧ Int.tmod x_7 x_8 = (choose x x_1 (x_2, x_3, x_4, x_5, x_6) x_7 x_8).1 ∧ (0 : Int) =
     (choose x x_1 (x_2, x_3, x_4, x_5, x_6) x_7 x_8).2))) := by
  rintro x s a b c e f cnt n ⟨-, -, -, ⟨c0, c1⟩, ⟨n0, n1⟩, -⟩ -
  (repeat (intro (b_ : Bool) (hb_ : b_ = _); (repeat refine ⟨(by simp; done), ?_⟩); subst hb_))
  refine ifP_split (fun h => ?_) (fun h => ?_)
  · simp at h
    unfold choose; rw [if_pos (by omega)]; exact ⟨rfl, rfl⟩
  · simp at h
    rw [wu64 (n := n) (by omega) (by omega)]
    have hr : ∀ k, 0 ≤ (hash s k).tmod n ∧ (hash s k).tmod n < n := fun k => ⟨tmod_lo (hash_range _ _).1, tmod_hi (hash_range _ _).1 (by omega)⟩
    unfold choose
    refine ifP_split (fun hx => ?_) (fun hx => ifP_split (fun hy => ?_) (fun hy => ?_))
    · simp at hx
      subst hx
      have := hr (a, b, c, e, f)
      rw [if_neg (by omega), if_pos rfl, w64 (by omega) (by omega)]
      exact ⟨by omega, rfl, rfl⟩
    · simp at hx hy
      subst hy
      have := hr (a, b, 0, 0, 0)
      rw [if_neg (by omega), if_neg (by omega), if_pos rfl, w64 (by omega) (by omega)]
      exact ⟨by omega, rfl, rfl⟩
    · simp at hx hy
      rw [if_neg (by omega), if_neg (by omega), if_neg (by omega)]
      exact ⟨by omega, rfl, rfl⟩
theorem ok_ref10_Choose : SpecOK Try.prog 27 ct_ref10_Choose.spec := Ct.ok' _ Try.func27 (by kernel_rfl) (withSpec_ok noSpecs_ok ok_ref10_Hash) hmix an_ref10_Choose (Eq.mpr (by kernel_rfl) vc_ref10_Choose)
end Go.RS

