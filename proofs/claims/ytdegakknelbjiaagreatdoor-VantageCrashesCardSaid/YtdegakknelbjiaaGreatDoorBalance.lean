/- Balance: mixing, hashing, choosing; the law's draws. -/
import Derived.Test.YtdegakknelbjiaaGreatDoorDraw
import Derived.Test.YtdegakknelbjiaaGreatDoorMix
namespace Go.RS
open Go.SX Go.Proofs
set_option maxRecDepth 100000
set_option linter.unusedVariables false

def ct_draw_Codes_Int : Cn := ⟨[.box 69 cCodes], [.val cI], fun d => [okC d.1], fun d y => okC y.2.1 ∧ -9223372036854775808 ≤ y.1.1 ∧ y.1.1 ≤ 9223372036854775807, fun d h => ⟨((0, ()), (d.1, ())), h.1, by simp, by simp⟩⟩
def an_draw_Codes_Int : PDs ct_draw_Codes_Int.ps → Anns := (fun _ => {})
theorem vc_draw_Codes_Int :
    ∀ (x : List Int) (x_1 : Int), ((List.length x ≤ maxLen ∧ ∀ (x_2 : Int), x_2 ∈ x → (0 : Int) ≤ x_2 ∧ x_2 ≤ (255 : Int)) ∧ (-9223372036854775808 : Int) ≤ x_1 ∧ x_1 ≤ (9223372036854775807 : Int)) ∧ True
     → (0 : Int) ≤ x_1 ∧ x_1 ≤ ↑(List.length x) → okC (x, x_1) ∧ ∀ (x : Int) (x_2 : List Int) (x_3 : Int), (0 : Int) ≤ x ∧ (x < (10 : Int) ∨ x = (0 : Int)) ∧ okC (x_2, x_3) → ifP (decide (x = (0 : Int)))
     (okC (x_2, x_3) ∧ ∀ (x : Int) (x_4 : List Int) (x_5 : Int), (0 : Int) ≤ x ∧ (x < (3 : Int) ∨ x = (0 : Int)) ∧ okC (x_4, x_5) → okC (x_4, x_5) ∧ (-9223372036854775808 : Int) ≤ IntKind.wrap IntKind.i64
     ((-1 : Int) - x) ∧ IntKind.wrap IntKind.i64 ((-1 : Int) - x) ≤ (9223372036854775807 : Int)) (ifP (decide (x = (1 : Int))) (okC (x_2, x_3) ∧ ∀ (x : Int) (x_4 : List Int) (x_5 : Int), (0 : Int) ≤ x ∧ (x
     < (14 : Int) ∨ x = (0 : Int)) ∧ okC (x_4, x_5) → (0 : Int) ≤ x ∧ x < ↑(List.length [(9223372036854775807 : Int), (-9223372036854775808 : Int), (1125899906842624 : Int), (1125899906842625 : Int),
     (65535 : Int), (65536 : Int), (255 : Int), (256 : Int), (1023 : Int), (1024 : Int), (65534 : Int), (65535 : Int), (4294967296 : Int), (4611686018427387905 : Int)]) ∧ okC (x_4, x_5) ∧
     (-9223372036854775808 : Int) ≤ List.getD [(9223372036854775807 : Int), (-9223372036854775808 : Int), (1125899906842624 : Int), (1125899906842625 : Int), (65535 : Int), (65536 : Int), (255 : Int), (256
     : Int), (1023 : Int), (1024 : Int), (65534 : Int), (65535 : Int), (4294967296 : Int), (4611686018427387905 : Int)] (Int.toNat x) default ∧ List.getD [(9223372036854775807 : Int), (-9223372036854775808
     : Int), (1125899906842624 : Int), (1125899906842625 : Int), (65535 : Int), (65536 : Int), (255 : Int), (256 : Int), (1023 : Int), (1024 : Int), (65534 : Int), (65535 : Int), (4294967296 : Int),
     (4611686018427387905 : Int)] (Int.toNat x) default ≤ (9223372036854775807 : Int)) (ifP (decide (x = (2 : Int))) (okC (x_2, x_3) ∧ ∀ (x : Int) (x_4 : List Int) (x_5 : Int), (0 : Int) ≤ x ∧ (x < (256 :
     Int) ∨ x = (0 : Int)) ∧ okC (x_4, x_5) → okC (x_4, x_5) ∧ ∀ (x_6 : Int) (x_7 : List Int) (x_8 : Int), (0 : Int) ≤ x_6 ∧ (x_6 < (256 : Int) ∨ x_6 = (0 : Int)) ∧ okC (x_7, x_8) → okC (x_7, x_8) ∧
     (-9223372036854775808 : Int) ≤ IntKind.wrap IntKind.i64 (IntKind.wrap IntKind.i64 ((256 : Int) * x) + x_6) ∧ IntKind.wrap IntKind.i64 (IntKind.wrap IntKind.i64 ((256 : Int) * x) + x_6) ≤
     (9223372036854775807 : Int)) (okC (x_2, x_3) ∧ ∀ (x : Int) (x_4 : List Int) (x_5 : Int), (0 : Int) ≤ x ∧ (x < (40 : Int) ∨ x = (0 : Int)) ∧ okC (x_4, x_5) → okC (x_4, x_5) ∧ (-9223372036854775808 :
     Int) ≤ x ∧ x ≤ (9223372036854775807 : Int)))) := by
  rintro l p - h
  refine ⟨h, ?_⟩
  rintro r l2 p2 ⟨h1, h2, h3⟩
  refine ifP_split (fun hb => ⟨h3, ?_⟩) (fun hb => ifP_split (fun hb => ⟨h3, ?_⟩) (fun hb => ifP_split (fun hb => ⟨h3, ?_⟩) (fun hb => ⟨h3, ?_⟩)))
  · rintro a l4 p4 ⟨h4, h5, h6⟩
    exact ⟨h6, ri64 _⟩
  · rintro a l4 p4 ⟨h4, h5, h6⟩
    refine ⟨h4, by simp; omega, h6, ?_⟩
    exact getD_all (p := fun v => -9223372036854775808 ≤ v ∧ v ≤ 9223372036854775807) (by simp) h4 (by simp; omega)
  · rintro a l4 p4 ⟨h4, h5, h6⟩
    refine ⟨h6, ?_⟩
    rintro a l4 p4 ⟨h4, h5, h6⟩
    exact ⟨h6, ri64 _⟩
  · rintro a l4 p4 ⟨h4, h5, h6⟩
    exact ⟨h6, by omega, by omega⟩
theorem ok_draw_Codes_Int : SpecOK Tryz.prog GL 48 ct_draw_Codes_Int.spec := Cn.ok' _ Tryz.func48 (by kernel_rfl) (withSpec_ok noSpecs_ok ok_Next) hmix an_draw_Codes_Int (Eq.mpr (by kernel_rfl) vc_draw_Codes_Int)

def ct_draw_Codes_Address : Cn := ⟨[.box 69 cCodes], [.val cU32], fun d => [okC d.1], fun d y => okC y.2.1 ∧ 0 ≤ y.1.1 ∧ y.1.1 ≤ 4294967295, fun d h => ⟨((0, ()), (d.1, ())), h.1, by simp, by simp⟩⟩
def an_draw_Codes_Address : PDs ct_draw_Codes_Address.ps → Anns := (fun _ => {})
theorem vc_draw_Codes_Address :
    ∀ (x : List Int) (x_1 : Int), ((List.length x ≤ maxLen ∧ ∀ (x_2 : Int), x_2 ∈ x → (0 : Int) ≤ x_2 ∧ x_2 ≤ (255 : Int)) ∧ (-9223372036854775808 : Int) ≤ x_1 ∧ x_1 ≤ (9223372036854775807 : Int)) ∧ True
     → (0 : Int) ≤ x_1 ∧ x_1 ≤ ↑(List.length x) → okC (x, x_1) ∧ ∀ (x : Int) (x_2 : List Int) (x_3 : Int), (0 : Int) ≤ x ∧ (x < (12 : Int) ∨ x = (0 : Int)) ∧ okC (x_2, x_3) → ifP (decide (x = (11 : Int)))
     (okC (x_2, x_3) ∧ ∀ (x : Int) (x_4 : List Int) (x_5 : Int), (0 : Int) ≤ x ∧ (x < (65536 : Int) ∨ x = (0 : Int)) ∧ okC (x_4, x_5) → (0 : Int) ≤ (16 : Int) ∧ okC (x_4, x_5) ∧ ∀ (x_6 : Int) (x_7 : List
     Int) (x_8 : Int), (0 : Int) ≤ x_6 ∧ (x_6 < (65536 : Int) ∨ x_6 = (0 : Int)) ∧ okC (x_7, x_8) → okC (x_7, x_8) ∧ (0 : Int) ≤ IntKind.wrap IntKind.u32 (IntKind.wrap IntKind.i64 (shlI IntKind.i64 x (16 :
     Int) + x_6)) ∧ IntKind.wrap IntKind.u32 (IntKind.wrap IntKind.i64 (shlI IntKind.i64 x (16 : Int) + x_6)) ≤ (4294967295 : Int)) (okC (x_2, x_3) ∧ ∀ (x : Int) (x_4 : List Int) (x_5 : Int), (0 : Int) ≤ x
     ∧ (x < (3 : Int) ∨ x = (0 : Int)) ∧ okC (x_4, x_5) → (0 : Int) ≤ (16 : Int) ∧ okC (x_4, x_5) ∧ ∀ (x_6 : Int) (x_7 : List Int) (x_8 : Int), (0 : Int) ≤ x_6 ∧ (x_6 < (8 : Int) ∨ x_6 = (0 : Int)) ∧ okC
     (x_7, x_8) → okC (x_7, x_8) ∧ (0 : Int) ≤ IntKind.wrap IntKind.u32 (IntKind.wrap IntKind.i64 (IntKind.wrap IntKind.i64 ((167772160 : Int) + shlI IntKind.i64 x (16 : Int)) + x_6)) ∧ IntKind.wrap
     IntKind.u32 (IntKind.wrap IntKind.i64 (IntKind.wrap IntKind.i64 ((167772160 : Int) + shlI IntKind.i64 x (16 : Int)) + x_6)) ≤ (4294967295 : Int)) := by
  rintro l p - h
  refine ⟨h, ?_⟩
  rintro r l2 p2 ⟨h1, h2, h3⟩
  refine ifP_split (fun hb => ⟨h3, ?_⟩) (fun hb => ⟨h3, ?_⟩)
  · rintro a l4 p4 ⟨h4, h5, h6⟩
    refine ⟨by omega, h6, ?_⟩
    rintro a l4 p4 ⟨h4, h5, h6⟩
    exact ⟨h6, ru32 _⟩
  · rintro a l4 p4 ⟨h4, h5, h6⟩
    refine ⟨by omega, h6, ?_⟩
    rintro a l4 p4 ⟨h4, h5, h6⟩
    exact ⟨h6, ru32 _⟩
theorem ok_draw_Codes_Address : SpecOK Tryz.prog GL 46 ct_draw_Codes_Address.spec := Cn.ok' _ Tryz.func46 (by kernel_rfl) (withSpec_ok noSpecs_ok ok_Next) hmix an_draw_Codes_Address (Eq.mpr (by kernel_rfl) vc_draw_Codes_Address)

def ct_draw_Codes_Proto : Cn := ⟨[.box 69 cCodes], [.val cI], fun d => [okC d.1], fun d y => okC y.2.1 ∧ (y.1.1 = 17 ∨ y.1.1 = 1 ∨ y.1.1 = 6), fun d h => ⟨((1, ()), (d.1, ())), h.1, by simp⟩⟩
def an_draw_Codes_Proto : PDs ct_draw_Codes_Proto.ps → Anns := (fun _ => {})
theorem vc_draw_Codes_Proto :
    ∀ (x : List Int) (x_1 : Int), ((List.length x ≤ maxLen ∧ ∀ (x_2 : Int), x_2 ∈ x → (0 : Int) ≤ x_2 ∧ x_2 ≤ (255 : Int)) ∧ (-9223372036854775808 : Int) ≤ x_1 ∧ x_1 ≤ (9223372036854775807 : Int)) ∧ True
     → (0 : Int) ≤ x_1 ∧ x_1 ≤ ↑(List.length x) → okC (x, x_1) ∧ ∀ (x : Int) (x_2 : List Int) (x_3 : Int), (0 : Int) ≤ x ∧ (x < (3 : Int) ∨ x = (0 : Int)) ∧ okC (x_2, x_3) → (0 : Int) ≤ x ∧ x <
     ↑(List.length [(17 : Int), (1 : Int), (6 : Int)]) ∧ okC (x_2, x_3) ∧ (List.getD [(17 : Int), (1 : Int), (6 : Int)] (Int.toNat x) default = (17 : Int) ∨ List.getD [(17 : Int), (1 : Int), (6 : Int)]
     (Int.toNat x) default = (1 : Int) ∨ List.getD [(17 : Int), (1 : Int), (6 : Int)] (Int.toNat x) default = (6 : Int)) := by
  rintro l p - h
  refine ⟨h, ?_⟩
  rintro r l2 p2 ⟨h1, h2, h3⟩
  refine ⟨h1, by simp; omega, h3, ?_⟩
  exact getD_all (p := fun v => v = 17 ∨ v = 1 ∨ v = 6) (by simp) h1 (by simp; omega)
theorem ok_draw_Codes_Proto : SpecOK Tryz.prog GL 44 ct_draw_Codes_Proto.spec := Cn.ok' _ Tryz.func44 (by kernel_rfl) (withSpec_ok noSpecs_ok ok_Next) hmix an_draw_Codes_Proto (Eq.mpr (by kernel_rfl) vc_draw_Codes_Proto)
def modI (x n : Int) : Int := (IntKind.wrap .i64 (x.tmod n + n)).tmod n

theorem modI_range (x : Int) {n : Int} (h0 : 0 < n) (h1 : n ≤ 4611686018427387904) : 0 ≤ modI x n ∧ modI x n < n := by
  have a := Int.tmod_lt_of_pos x h0
  have b : -n < x.tmod n := Int.lt_tmod_of_pos x h0
  unfold modI
  rw [w64 (by omega) (by omega)]
  exact ⟨tmod_lo (by omega), tmod_hi (by omega) h0⟩



abbrev Key : Type := Int × Int × Int × Int × Int
def hstep (h x : Int) : Int := mix (bits .xor .u64 h (IntKind.wrap .u64 x))
def hash (seed : Int) (k : Key) : Int := hstep (hstep (hstep (hstep (hstep (mix (IntKind.wrap .u64 seed)) k.1) k.2.1) k.2.2.1) k.2.2.2.1) k.2.2.2.2
theorem hash_range (s : Int) (k : Key) : 0 ≤ hash s k ∧ hash s k ≤ 18446744073709551615 := mix_lt _
def hashAt (seed : Int) (k : Key) (j : Int) : Int := ([k.1, k.2.1, k.2.2.1, k.2.2.2.1, k.2.2.2.2].take j.toNat).foldl hstep (mix (IntKind.wrap .u64 seed))
def choose (way seed : Int) (k : Key) (count n : Int) : Int × Int :=
  if n < 1 ∨ 16 < n ∨ count < 0 ∨ way < 1 ∨ 3 < way then (0, 1) else
    (if way = 1 then (hash seed k).tmod n else if way = 2 then (hash seed (k.1, k.2.1, 0, 0, 0)).tmod n else count.tmod n, 0)

end Go.RS

