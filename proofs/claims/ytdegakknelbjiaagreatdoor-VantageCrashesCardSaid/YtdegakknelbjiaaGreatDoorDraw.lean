/- Draw: the choices of a law, with loose contracts: a number in its range. -/
import Derived.Test.YtdegakknelbjiaaGreatDoorBase
namespace Go.RS
open Go.SX Go.Proofs
set_option maxRecDepth 100000
set_option linter.unusedVariables false

def ct_draw_New : Ct := ⟨[.val (.sl cU8), .val cI], [.box 69 cCodes], fun d => [0 ≤ d.2.1], fun d => (((if (d.1.length : Int) ≤ d.2.1 then d.1 else d.1.take d.2.1.toNat, 0), ()), ())⟩
def an_draw_New : PDs ct_draw_New.ps → Anns := (fun _ => {})
theorem vc_draw_New :
    ∀ (x : List Int) (x_1 : Int), (List.length x ≤ maxLen ∧ ∀ (x_2 : Int), x_2 ∈ x → (0 : Int) ≤ x_2 ∧ x_2 ≤ (255 : Int)) ∧ ((-9223372036854775808 : Int) ≤ x_1 ∧ x_1 ≤ (9223372036854775807 : Int)) ∧ True
     → (0 : Int) ≤ x_1 → ifP (decide (x_1 < ↑(List.length x))) ((0 : Int) ≤ (0 : Int) ∧ (0 : Int) ≤ x_1 ∧ x_1 ≤ ↑(List.length x) ∧ (subL x (Int.toNat (0 : Int)) (Int.toNat x_1), (0 : Int)) = (if
     ↑(List.length x) ≤ x_1 then x else List.take (Int.toNat x_1) x, (0 : Int))) ((x, (0 : Int)) = (if ↑(List.length x) ≤ x_1 then x else List.take (Int.toNat x_1) x, (0 : Int))) := by
  rintro x y ⟨-, ⟨h0, h1⟩, -⟩ h
  refine ifP_split (fun hb => ?_) (fun hb => ?_)
  · have hb := of_decide_eq_true hb
    refine ⟨by omega, h, by omega, ?_⟩
    rw [if_neg (by omega)]
    simp [subL]
  · have hb := of_decide_eq_false hb
    rw [if_pos (by omega)]
theorem ok_draw_New : SpecOK Tryz.prog GL 8 ct_draw_New.spec := Ct.ok' _ Tryz.func8 (by kernel_rfl) noSpecs_ok hmix an_draw_New (Eq.mpr (by kernel_rfl) vc_draw_New)

def ct_Next256 : Cn := ⟨[.box 69 cCodes, .val cI], [.val cI], fun d => [okC d.1, d.2.1 ≤ 256], fun d y => 0 ≤ y.1.1 ∧ (y.1.1 < d.2.1 ∨ y.1.1 = 0) ∧ okC y.2.1, fun d h => ⟨((0, ()), (d.1, ())), by simp, by simp, h.1⟩⟩
def an_Next256 : PDs ct_Next256.ps → Anns := (fun _ => {})
theorem vc_Next256 :
    ∀ (x : List Int) (x_1 x_2 : Int), ((List.length x ≤ maxLen ∧ ∀ (x_3 : Int), x_3 ∈ x → (0 : Int) ≤ x_3 ∧ x_3 ≤ (255 : Int)) ∧ (-9223372036854775808 : Int) ≤ x_1 ∧ x_1 ≤ (9223372036854775807 : Int)) ∧
     ((-9223372036854775808 : Int) ≤ x_2 ∧ x_2 ≤ (9223372036854775807 : Int)) ∧ True → okC (x, x_1) ∧ x_2 ≤ (256 : Int) → ∀ (b : Bool), b = decide (↑(List.length x) ≤ x_1) → ((!b) = true → ((!b) = true →
     (!b) = true) ∧ True) ∧ (b = false → (!b) = true) ∧ ifP (bif b then true else decide (x_2 < (1 : Int))) ((0 : Int) ≤ (0 : Int) ∧ ((0 : Int) < x_2 ∨ (0 : Int) = (0 : Int)) ∧ okC (x, x_1)) ((0 : Int) ≤
     x_1 ∧ x_1 < ↑(List.length x) ∧ ifP (decide ((256 : Int) < x_2)) False (x_2 ≠ (0 : Int) ∧ (0 : Int) ≤ Int.tmod (IntKind.wrap IntKind.i64 (List.getD x (Int.toNat x_1) default)) x_2 ∧ (Int.tmod
     (IntKind.wrap IntKind.i64 (List.getD x (Int.toNat x_1) default)) x_2 < x_2 ∨ Int.tmod (IntKind.wrap IntKind.i64 (List.getD x (Int.toNat x_1) default)) x_2 = (0 : Int)) ∧ okC (x, IntKind.wrap
     IntKind.i64 (x_1 + (1 : Int))))) := by
  rintro l p n ⟨⟨⟨hl, hw⟩, h0, h1⟩, ⟨h2, h3⟩, -⟩ ⟨⟨hc1, hc2⟩, hn⟩
  simp only [maxLen] at hl hc1 hc2
  (repeat (intro (b_ : Bool) (hb_ : b_ = _); (repeat refine ⟨(by first | (simp; done) | (rw [hb_]; simp; done) | (rw [hb_]; simp; omega) | (rw [hb_]; simp; intros; omega) | (rw [hb_]; simp +contextual; done)), ?_⟩); subst hb_))
  refine ifP_split (fun hb => ?_) (fun hb => ?_)
  · exact ⟨by omega, by simp, hc1, hc2⟩
  · simp at hb
    obtain ⟨hb1, hb2⟩ := hb
    obtain ⟨hm0, hm1⟩ := hw _ (getD_mem hc1 hb1)
    rw [w64 (by omega) (by omega), w64 (by omega) (by omega)]
    refine ⟨hc1, hb1, ifP_split (fun hb => ?_) (fun hb => ?_)⟩
    · have := of_decide_eq_true hb; omega
    · exact ⟨by omega, tmod_lo hm0, .inl (tmod_hi hm0 (by omega)), by simp only [okC]; omega⟩
theorem ok_Next256 : SpecOK Tryz.prog GL 14 ct_Next256.spec := Cn.ok' _ Tryz.func14 (by kernel_rfl) noSpecs_ok hmix an_Next256 (Eq.mpr (by kernel_rfl) vc_Next256)

def ct_Next : Cn := ⟨[.box 69 cCodes, .val cI], [.val cI], fun d => [okC d.1], fun d y => 0 ≤ y.1.1 ∧ (y.1.1 < d.2.1 ∨ y.1.1 = 0) ∧ okC y.2.1, fun d h => ⟨((0, ()), (d.1, ())), by simp, by simp, h.1⟩⟩
def an_Next : PDs ct_Next.ps → Anns := (fun _ => {})
theorem vc_Next :
    ∀ (x : List Int) (x_1 x_2 : Int), ((List.length x ≤ maxLen ∧ ∀ (x_3 : Int), x_3 ∈ x → (0 : Int) ≤ x_3 ∧ x_3 ≤ (255 : Int)) ∧ (-9223372036854775808 : Int) ≤ x_1 ∧ x_1 ≤ (9223372036854775807 : Int)) ∧
     ((-9223372036854775808 : Int) ≤ x_2 ∧ x_2 ≤ (9223372036854775807 : Int)) ∧ True → (0 : Int) ≤ x_1 ∧ x_1 ≤ ↑(List.length x) → ∀ (b : Bool), b = decide (↑(List.length x) ≤ x_1) → ((!b) = true → ((!b) =
     true → (!b) = true) ∧ True) ∧ (b = false → (!b) = true) ∧ ifP (bif b then true else decide (x_2 < (1 : Int))) ((0 : Int) ≤ (0 : Int) ∧ ((0 : Int) < x_2 ∨ (0 : Int) = (0 : Int)) ∧ okC (x, x_1)) ((0 :
     Int) ≤ x_1 ∧ x_1 < ↑(List.length x) ∧ ifP (decide ((256 : Int) < x_2)) (okC (x, IntKind.wrap IntKind.i64 (x_1 + (1 : Int))) ∧ (256 : Int) ≤ (256 : Int) ∧ ∀ (x_3 : Int) (x_4 : List Int) (x_5 : Int), (0
     : Int) ≤ x_3 ∧ (x_3 < (256 : Int) ∨ x_3 = (0 : Int)) ∧ okC (x_4, x_5) → x_2 ≠ (0 : Int) ∧ (0 : Int) ≤ Int.tmod (IntKind.wrap IntKind.i64 (IntKind.wrap IntKind.i64 ((256 : Int) * IntKind.wrap
     IntKind.i64 (List.getD x (Int.toNat x_1) default)) + x_3)) x_2 ∧ (Int.tmod (IntKind.wrap IntKind.i64 (IntKind.wrap IntKind.i64 ((256 : Int) * IntKind.wrap IntKind.i64 (List.getD x (Int.toNat x_1)
     default)) + x_3)) x_2 < x_2 ∨ Int.tmod (IntKind.wrap IntKind.i64 (IntKind.wrap IntKind.i64 ((256 : Int) * IntKind.wrap IntKind.i64 (List.getD x (Int.toNat x_1) default)) + x_3)) x_2 = (0 : Int)) ∧ okC
     (x_4, x_5)) (x_2 ≠ (0 : Int) ∧ (0 : Int) ≤ Int.tmod (IntKind.wrap IntKind.i64 (List.getD x (Int.toNat x_1) default)) x_2 ∧ (Int.tmod (IntKind.wrap IntKind.i64 (List.getD x (Int.toNat x_1) default))
     x_2 < x_2 ∨ Int.tmod (IntKind.wrap IntKind.i64 (List.getD x (Int.toNat x_1) default)) x_2 = (0 : Int)) ∧ okC (x, IntKind.wrap IntKind.i64 (x_1 + (1 : Int))))) := by
  rintro l p n ⟨⟨⟨hl, hw⟩, h0, h1⟩, ⟨h2, h3⟩, -⟩ ⟨hc1, hc2⟩
  simp only [maxLen] at hl hc1 hc2
  (repeat (intro (b_ : Bool) (hb_ : b_ = _); (repeat refine ⟨(by first | (simp; done) | (rw [hb_]; simp; done) | (rw [hb_]; simp; omega) | (rw [hb_]; simp; intros; omega) | (rw [hb_]; simp +contextual; done)), ?_⟩); subst hb_))
  refine ifP_split (fun hb => ?_) (fun hb => ?_)
  · exact ⟨by omega, by simp, hc1, hc2⟩
  · simp at hb
    obtain ⟨hb1, hb2⟩ := hb
    obtain ⟨hm0, hm1⟩ := hw _ (getD_mem hc1 hb1)
    rw [w64 (by omega) (by omega), w64 (n := l.getD p.toNat default) (by omega) (by omega)]
    refine ⟨hc1, hb1, ifP_split (fun hb => ?_) (fun hb => ?_)⟩
    · refine ⟨by simp only [okC]; omega, by omega, ?_⟩
      rintro r l2 p2 ⟨hr0, hr1, hr2⟩
      rw [w64 (n := 256 * _) (by omega) (by omega), w64 (by omega) (by omega)]
      exact ⟨by omega, tmod_lo (by omega), .inl (tmod_hi (by omega) (by omega)), hr2⟩
    · exact ⟨by omega, tmod_lo hm0, .inl (tmod_hi hm0 (by omega)), by simp only [okC]; omega⟩
theorem ok_Next : SpecOK Tryz.prog GL 14 ct_Next.spec := Cn.ok' _ Tryz.func14 (by kernel_rfl) (withSpec_ok noSpecs_ok ok_Next256) hmix an_Next (Eq.mpr (by kernel_rfl) vc_Next)

end Go.RS

