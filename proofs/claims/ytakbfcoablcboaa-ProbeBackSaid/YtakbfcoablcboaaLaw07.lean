/- Law07: the laws of probes. -/
import Derived.Test.YtakbfcoablcboaaPback
namespace Go.RS
open Go.SX Go.Proofs
set_option maxRecDepth 100000
set_option linter.unusedVariables false

def lpCodes : LPs := [(false, .sl cU8)]
def lpFlows : LPs := [(false, .sl cU8), (false, .int .u16), (false, cU8), (false, .int .u16)]
def lpExact : LPs := [(false, .sl cU8), (true, cProbe), (false, .sl cU8)]
def ct_law07_awake : Ct := ⟨[], [.val .bool], fun _ => [], fun _ => ((true, ()), ())⟩
def an_law07_awake : PDs ct_law07_awake.ps → Anns := (fun _ => {})
theorem vc_law07_awake :
    True → True → ∀ (b : Bool), b = decide (keyOfE ((1 : Int), (2 : Int), (17 : Int), (0 : Int), (7 : Int), (3 : Int)) = (0 : Int)) → (b = true → (b = true → b = true) ∧ True) ∧ (b = true → (b = true → b
     = true) ∧ True) ∧ (b = true → b = true) ∧ ∀ (b_1 : Bool), (b_1 = bif b then decide ((if protoOK (List.getD (build ((1 : Int), (2 : Int), (17 : Int), (0 : Int), (7 : Int), (3 : Int))) (9 : Nat)
     default) ∧ (4 : Nat) ≤ List.length (List.drop (20 : Nat) (build ((1 : Int), (2 : Int), (17 : Int), (0 : Int), (7 : Int), (3 : Int)))) then wordAt (List.drop (20 : Nat) (build ((1 : Int), (2 : Int),
     (17 : Int), (0 : Int), (7 : Int), (3 : Int)))) (0 : Nat) else (0 : Int)) = (20000 : Int)) else false) → (b_1 = true → (b_1 = true → b_1 = true) ∧ True) ∧ (b_1 = true → (b_1 = true → b_1 = true) ∧
     True) ∧ (b_1 = true → b_1 = true) ∧ (bif b_1 then decide ((if protoOK (List.getD (build ((1 : Int), (2 : Int), (17 : Int), (0 : Int), (7 : Int), (3 : Int))) (9 : Nat) default) ∧ (4 : Nat) ≤
     List.length (List.drop (20 : Nat) (build ((1 : Int), (2 : Int), (17 : Int), (0 : Int), (7 : Int), (3 : Int)))) then wordAt (List.drop (20 : Nat) (build ((1 : Int), (2 : Int), (17 : Int), (0 : Int), (7
     : Int), (3 : Int)))) (2 : Nat) else (0 : Int)) = (33434 : Int)) else false) = true := by
  intro _ _
  have h : probeErr (1, 2, 17, 0, 7, 3) = 0 := by decide
  have k := keyOf_eq h (by simp [u32]) (by simp [u32])
  have kb := key_build h (by simp [u32]) (by simp [u32])
  obtain ⟨e1, e2, e3⟩ := dec_build h (by simp [u32]) (by simp [u32])
  have kw := con_words h
  have hl : (4 : Nat) ≤ (conP (1, 2, 17, 0, 7, 3)).length := by rcases con_len h with h | h <;> omega
  have e9 : (build (1, 2, 17, 0, 7, 3)).getD 9 default = 17 := by
    have := congrArg (fun x : Header => x.2.2.2.1) e1
    exact this
  rw [k.2, e3, e9, if_pos ⟨.inr (.inr rfl), hl⟩, if_pos ⟨.inr (.inr rfl), hl⟩, kw.1, kw.2]
  (repeat (intro (b_ : Bool) (hb_ : b_ = _); (repeat refine ⟨(by first | (simp; done) | (rw [hb_]; simp; done) | (rw [hb_]; simp; omega) | (rw [hb_]; simp; intros; omega) | (rw [hb_]; simp +contextual; done)), ?_⟩); subst hb_))
  rfl
theorem ok_law07_awake : SpecOK Try.prog GL 8 ct_law07_awake.spec := Ct.ok' _ Try.func8 (by kernel_rfl) (withSpec_ok noSpecs_ok ok_probe_KeyOf) hmix an_law07_awake (Eq.mpr (by kernel_rfl) vc_law07_awake)

def ct_law07_ProbeFlows : Ct := lawCt lpFlows
def an_law07_ProbeFlows : PDs ct_law07_ProbeFlows.ps → Anns := (fun _ => {})
theorem vc_law07_ProbeFlows :
    ∀ (x : List Int) (x_1 x_2 x_3 : Int), (List.length x ≤ maxLen ∧ ∀ (x_4 : Int), x_4 ∈ x → (0 : Int) ≤ x_4 ∧ x_4 ≤ (255 : Int)) ∧ ((0 : Int) ≤ x_1 ∧ x_1 ≤ (65535 : Int)) ∧ ((0 : Int) ≤ x_2 ∧ x_2 ≤ (255
     : Int)) ∧ ((0 : Int) ≤ x_3 ∧ x_3 ≤ (65535 : Int)) ∧ True → True → (0 : Int) ≤ (80 : Int) ∧ okC (if (↑(List.length x) : Int) ≤ (80 : Int) then x else List.take (Int.toNat (80 : Int)) x, (0 : Int)) ∧ ∀
     (x x_4 x_5 x_6 x_7 x_8 : Int) (x_9 : List Int) (x_10 : Int), okC (x_9, x_10) ∧ u32 x ∧ u32 x_4 ∧ probeErr (x, x_4, x_5, x_6, x_7, x_8) = (0 : Int) → (65535 : Int) ≠ (0 : Int) ∧ (255 : Int) ≠ (0 : Int)
     ∧ (1024 : Int) ≠ (0 : Int) ∧ (↑(List.length (build (x, x_4, x_5, x_6, Int.tmod (IntKind.wrap IntKind.i64 x_1) (65535 : Int), IntKind.wrap IntKind.i64 ((1 : Int) + Int.tmod (IntKind.wrap IntKind.i64
     x_2) (255 : Int))))) : Int) ≤ (1099511627776 : Int) ∧ ∀ (b : Bool), b = decide (keyOfE (x, x_4, x_5, x_6, x_7, x_8) = (0 : Int)) → (b = true → (b = true → b = true) ∧ True) ∧ (b = true → b = true) ∧ ∀
     (b_1 : Bool), (b_1 = bif b then decide (keyOfE (x, x_4, x_5, x_6, Int.tmod (IntKind.wrap IntKind.i64 x_1) (65535 : Int), IntKind.wrap IntKind.i64 ((1 : Int) + Int.tmod (IntKind.wrap IntKind.i64 x_2)
     (255 : Int))) = (0 : Int)) else false) → (b_1 = true → (b_1 = true → b_1 = true) ∧ True) ∧ (b_1 = true → b_1 = true) ∧ ∀ (b : Bool), (b = bif b_1 then decide (decErr (build (x, x_4, x_5, x_6, Int.tmod
     (IntKind.wrap IntKind.i64 x_1) (65535 : Int), IntKind.wrap IntKind.i64 ((1 : Int) + Int.tmod (IntKind.wrap IntKind.i64 x_2) (255 : Int)))) = (0 : Int)) else false) → (b = true → (b = true → b = true)
     ∧ True) ∧ (b = true → b = true) ∧ ∀ (b_2 : Bool), (b_2 = bif b then decide (keyOfE (x, x_4, x_5, Int.tmod (IntKind.wrap IntKind.i64 x_3) (1024 : Int), Int.tmod (IntKind.wrap IntKind.i64 x_1) (65535 :
     Int), IntKind.wrap IntKind.i64 ((1 : Int) + Int.tmod (IntKind.wrap IntKind.i64 x_2) (255 : Int))) = (0 : Int)) else false) → (b_2 = true → (b_2 = true → b_2 = true) ∧ (b_2 = true → b_2 = true) ∧ True)
     ∧ (b_2 = true → b_2 = true) ∧ ∀ (b : Bool), (b = bif b_2 then decide ((keyOf (x, x_4, x_5, x_6, x_7, x_8)).1 = (keyOf (x, x_4, x_5, x_6, Int.tmod (IntKind.wrap IntKind.i64 x_1) (65535 : Int),
     IntKind.wrap IntKind.i64 ((1 : Int) + Int.tmod (IntKind.wrap IntKind.i64 x_2) (255 : Int)))).1) && (decide ((keyOf (x, x_4, x_5, x_6, x_7, x_8)).2.1 = (keyOf (x, x_4, x_5, x_6, Int.tmod (IntKind.wrap
     IntKind.i64 x_1) (65535 : Int), IntKind.wrap IntKind.i64 ((1 : Int) + Int.tmod (IntKind.wrap IntKind.i64 x_2) (255 : Int)))).2.1) && (decide ((keyOf (x, x_4, x_5, x_6, x_7, x_8)).2.2.1 = (keyOf (x,
     x_4, x_5, x_6, Int.tmod (IntKind.wrap IntKind.i64 x_1) (65535 : Int), IntKind.wrap IntKind.i64 ((1 : Int) + Int.tmod (IntKind.wrap IntKind.i64 x_2) (255 : Int)))).2.2.1) && (decide ((keyOf (x, x_4,
     x_5, x_6, x_7, x_8)).2.2.2.1 = (keyOf (x, x_4, x_5, x_6, Int.tmod (IntKind.wrap IntKind.i64 x_1) (65535 : Int), IntKind.wrap IntKind.i64 ((1 : Int) + Int.tmod (IntKind.wrap IntKind.i64 x_2) (255 :
     Int)))).2.2.2.1) && (decide ((keyOf (x, x_4, x_5, x_6, x_7, x_8)).2.2.2.2 = (keyOf (x, x_4, x_5, x_6, Int.tmod (IntKind.wrap IntKind.i64 x_1) (65535 : Int), IntKind.wrap IntKind.i64 ((1 : Int) +
     Int.tmod (IntKind.wrap IntKind.i64 x_2) (255 : Int)))).2.2.2.2) && true)))) else false) → (b = true → (b = true → b = true) ∧ (b = true → b = true) ∧ True) ∧ (b = true → b = true) ∧ ∀ (b_3 : Bool),
     (b_3 = bif b then decide ((keyOf (x, x_4, x_5, x_6, Int.tmod (IntKind.wrap IntKind.i64 x_1) (65535 : Int), IntKind.wrap IntKind.i64 ((1 : Int) + Int.tmod (IntKind.wrap IntKind.i64 x_2) (255 :
     Int)))).1 = (keyB (build (x, x_4, x_5, x_6, Int.tmod (IntKind.wrap IntKind.i64 x_1) (65535 : Int), IntKind.wrap IntKind.i64 ((1 : Int) + Int.tmod (IntKind.wrap IntKind.i64 x_2) (255 : Int))))).1) &&
     (decide ((keyOf (x, x_4, x_5, x_6, Int.tmod (IntKind.wrap IntKind.i64 x_1) (65535 : Int), IntKind.wrap IntKind.i64 ((1 : Int) + Int.tmod (IntKind.wrap IntKind.i64 x_2) (255 : Int)))).2.1 = (keyB
     (build (x, x_4, x_5, x_6, Int.tmod (IntKind.wrap IntKind.i64 x_1) (65535 : Int), IntKind.wrap IntKind.i64 ((1 : Int) + Int.tmod (IntKind.wrap IntKind.i64 x_2) (255 : Int))))).2.1) && (decide ((keyOf
     (x, x_4, x_5, x_6, Int.tmod (IntKind.wrap IntKind.i64 x_1) (65535 : Int), IntKind.wrap IntKind.i64 ((1 : Int) + Int.tmod (IntKind.wrap IntKind.i64 x_2) (255 : Int)))).2.2.1 = (keyB (build (x, x_4,
     x_5, x_6, Int.tmod (IntKind.wrap IntKind.i64 x_1) (65535 : Int), IntKind.wrap IntKind.i64 ((1 : Int) + Int.tmod (IntKind.wrap IntKind.i64 x_2) (255 : Int))))).2.2.1) && (decide ((keyOf (x, x_4, x_5,
     x_6, Int.tmod (IntKind.wrap IntKind.i64 x_1) (65535 : Int), IntKind.wrap IntKind.i64 ((1 : Int) + Int.tmod (IntKind.wrap IntKind.i64 x_2) (255 : Int)))).2.2.2.1 = (keyB (build (x, x_4, x_5, x_6,
     Int.tmod (IntKind.wrap IntKind.i64 x_1) (65535 : Int), IntKind.wrap IntKind.i64 ((1 : Int) + Int.tmod (IntKind.wrap IntKind.i64 x_2) (255 : Int))))).2.2.2.1) && (decide ((keyOf (x, x_4, x_5, x_6,
     Int.tmod (IntKind.wrap IntKind.i64 x_1) (65535 : Int), IntKind.wrap IntKind.i64 ((1 : Int) + Int.tmod (IntKind.wrap IntKind.i64 x_2) (255 : Int)))).2.2.2.2 = (keyB (build (x, x_4, x_5, x_6, Int.tmod
     (IntKind.wrap IntKind.i64 x_1) (65535 : Int), IntKind.wrap IntKind.i64 ((1 : Int) + Int.tmod (IntKind.wrap IntKind.i64 x_2) (255 : Int))))).2.2.2.2) && true)))) else false) → (b_3 = true → (b_3 = true
     → b_3 = true) ∧ (b_3 = true → b_3 = true) ∧ True) ∧ (b_3 = true → (b_3 = true → b_3 = true) ∧ True) ∧ (b_3 = true → (b_3 = true → b_3 = true) ∧ True) ∧ (b_3 = true → (b_3 = true → b_3 = true) ∧ (b_3 =
     true → b_3 = true) ∧ True) ∧ (b_3 = true → (b_3 = true → b_3 = true) ∧ (b_3 = true → b_3 = true) ∧ True) ∧ (b_3 = true → b_3 = true) ∧ ∀ (b : Bool), (b = bif b_3 then (decide ((keyOf (x, x_4, x_5,
     Int.tmod (IntKind.wrap IntKind.i64 x_3) (1024 : Int), Int.tmod (IntKind.wrap IntKind.i64 x_1) (65535 : Int), IntKind.wrap IntKind.i64 ((1 : Int) + Int.tmod (IntKind.wrap IntKind.i64 x_2) (255 :
     Int)))).1 = (keyOf (x, x_4, x_5, x_6, Int.tmod (IntKind.wrap IntKind.i64 x_1) (65535 : Int), IntKind.wrap IntKind.i64 ((1 : Int) + Int.tmod (IntKind.wrap IntKind.i64 x_2) (255 : Int)))).1) && (decide
     ((keyOf (x, x_4, x_5, Int.tmod (IntKind.wrap IntKind.i64 x_3) (1024 : Int), Int.tmod (IntKind.wrap IntKind.i64 x_1) (65535 : Int), IntKind.wrap IntKind.i64 ((1 : Int) + Int.tmod (IntKind.wrap
     IntKind.i64 x_2) (255 : Int)))).2.1 = (keyOf (x, x_4, x_5, x_6, Int.tmod (IntKind.wrap IntKind.i64 x_1) (65535 : Int), IntKind.wrap IntKind.i64 ((1 : Int) + Int.tmod (IntKind.wrap IntKind.i64 x_2)
     (255 : Int)))).2.1) && (decide ((keyOf (x, x_4, x_5, Int.tmod (IntKind.wrap IntKind.i64 x_3) (1024 : Int), Int.tmod (IntKind.wrap IntKind.i64 x_1) (65535 : Int), IntKind.wrap IntKind.i64 ((1 : Int) +
     Int.tmod (IntKind.wrap IntKind.i64 x_2) (255 : Int)))).2.2.1 = (keyOf (x, x_4, x_5, x_6, Int.tmod (IntKind.wrap IntKind.i64 x_1) (65535 : Int), IntKind.wrap IntKind.i64 ((1 : Int) + Int.tmod
     (IntKind.wrap IntKind.i64 x_2) (255 : Int)))).2.2.1) && (decide ((keyOf (x, x_4, x_5, Int.tmod (IntKind.wrap IntKind.i64 x_3) (1024 : Int), Int.tmod (IntKind.wrap IntKind.i64 x_1) (65535 : Int),
     IntKind.wrap IntKind.i64 ((1 : Int) + Int.tmod (IntKind.wrap IntKind.i64 x_2) (255 : Int)))).2.2.2.1 = (keyOf (x, x_4, x_5, x_6, Int.tmod (IntKind.wrap IntKind.i64 x_1) (65535 : Int), IntKind.wrap
     IntKind.i64 ((1 : Int) + Int.tmod (IntKind.wrap IntKind.i64 x_2) (255 : Int)))).2.2.2.1) && (decide ((keyOf (x, x_4, x_5, Int.tmod (IntKind.wrap IntKind.i64 x_3) (1024 : Int), Int.tmod (IntKind.wrap
     IntKind.i64 x_1) (65535 : Int), IntKind.wrap IntKind.i64 ((1 : Int) + Int.tmod (IntKind.wrap IntKind.i64 x_2) (255 : Int)))).2.2.2.2 = (keyOf (x, x_4, x_5, x_6, Int.tmod (IntKind.wrap IntKind.i64 x_1)
     (65535 : Int), IntKind.wrap IntKind.i64 ((1 : Int) + Int.tmod (IntKind.wrap IntKind.i64 x_2) (255 : Int)))).2.2.2.2) && true))))) == decide (Int.tmod (IntKind.wrap IntKind.i64 x_3) (1024 : Int) = x_6)
     else false) → (b = true → (b = true → b = true) ∧ True) ∧ (b = true → (b = true → b = true) ∧ True) ∧ (b = true → (b = true → b = true) ∧ (b = true → b = true) ∧ True) ∧ (b = true → b = true) ∧ ∀ (b_4
     : Bool), (b_4 = bif b then decide ((keyOf (x, x_4, x_5, x_6, x_7, x_8)).1 = x) else false) → (b_4 = true → (b_4 = true → b_4 = true) ∧ True) ∧ (b_4 = true → (b_4 = true → b_4 = true) ∧ True) ∧ (b_4 =
     true → (b_4 = true → b_4 = true) ∧ (b_4 = true → b_4 = true) ∧ True) ∧ (b_4 = true → b_4 = true) ∧ ∀ (b : Bool), (b = bif b_4 then decide ((keyOf (x, x_4, x_5, x_6, x_7, x_8)).2.1 = x_4) else false) →
     (b = true → (b = true → b = true) ∧ True) ∧ (b = true → (b = true → b = true) ∧ True) ∧ (b = true → (b = true → b = true) ∧ (b = true → b = true) ∧ True) ∧ (b = true → b = true) ∧ (bif b then decide
     ((keyOf (x, x_4, x_5, x_6, x_7, x_8)).2.2.1 = x_5) else false) = true := by
  rintro cl tag ttl flow ⟨-, ⟨t0, t1⟩, ⟨l0, l1⟩, ⟨f0, f1⟩, -⟩ -
  refine ⟨by omega, okC_new _ (by omega) cl, ?_⟩
  rintro s d pr f t l _ _ ⟨-, hs, hd, he⟩
  rw [w64 (n := tag) (by omega) (by omega), w64 (n := ttl) (by omega) (by omega), w64 (n := flow) (by omega) (by omega)]
  have a0 := tmod_lo (a := tag) (b := 65535) t0
  have a1 := tmod_hi (a := tag) (b := 65535) t0 (by omega)
  generalize Int.tmod tag 65535 = tg at *
  have b0 := tmod_lo (a := ttl) (b := 255) l0
  have b1 := tmod_hi (a := ttl) (b := 255) l0 (by omega)
  generalize Int.tmod ttl 255 = tt at *
  have c0 := tmod_lo (a := flow) (b := 1024) f0
  have c1 := tmod_hi (a := flow) (b := 1024) f0 (by omega)
  generalize Int.tmod flow 1024 = fl at *
  rw [w64 (n := 1 + tt) (by omega) (by omega)]
  obtain ⟨hp, hr⟩ := probe_ok.1 he
  have hr' := hr
  obtain ⟨⟨r0, r1⟩, -, -⟩ := hr'
  simp only at r0 r1
  have h1 : probeErr (s, d, pr, f, tg, 1 + tt) = 0 := probe_ok.2 ⟨hp, ⟨r0, r1⟩, ⟨by simp only; omega, by simp only; omega⟩, by simp only; omega, by simp only; omega⟩
  have h2 : probeErr (s, d, pr, fl, tg, 1 + tt) = 0 := probe_ok.2 ⟨hp, ⟨by simp only; omega, by simp only; omega⟩, ⟨by simp only; omega, by simp only; omega⟩, by simp only; omega, by simp only; omega⟩
  have k0 := keyOf_eq he hs hd
  have k1 := keyOf_eq h1 hs hd
  have k2 := keyOf_eq h2 hs hd
  have kb := key_build h1 hs hd
  have hdc := (dec_build h1 hs hd).2.1
  have hl := build_len (s, d, pr, f, tg, 1 + tt)
  refine ⟨by omega, by omega, by omega, by omega, ?_⟩
  rw [k0.2, k1.2, k2.2, hdc, kb, k0.1, k1.1, k2.1]
  (repeat (intro (b_ : Bool) (hb_ : b_ = _); (repeat refine ⟨(by first | (simp; done) | (rw [hb_]; simp; done) | (rw [hb_]; simp; omega) | (rw [hb_]; simp; intros; omega) | (rw [hb_]; simp +contextual; done)), ?_⟩); subst hb_))
  simp only [keyA, keyC]
  have hkey : (decide ((if pr = 1 then (2048 : Int) else 20000 + fl) = if pr = 1 then 2048 else 20000 + f) && decide ((if pr = 1 then 16384 + fl else if pr = 17 then (33434 : Int) else 80) = if pr = 1 then 16384 + f else if pr = 17 then 33434 else 80)) = decide (fl = f) := by
    rcases hp with hp | hp | hp <;> simp only at hp <;> subst hp <;> simp <;> rw [Bool.eq_iff_iff] <;> simp <;> omega
  simp [hkey]
theorem ok_law07_ProbeFlows : SpecOK Try.prog GL 3 ct_law07_ProbeFlows.spec := Ct.ok' _ Try.func3 (by kernel_rfl) (withSpec_ok (withSpec_ok (withSpec_ok (withSpec_ok (withSpec_ok (withSpec_ok noSpecs_ok ok_law07_awake) ok_draw_New) ok_draw_Codes_Right) ok_probe_KeyOf) ok_probe_Build) ok_probe_Key) hmix an_law07_ProbeFlows (Eq.mpr (by kernel_rfl) vc_law07_ProbeFlows)

def ct_law07_ProbeDiffer : Ct := lawCt lpCodes
def an_law07_ProbeDiffer : PDs ct_law07_ProbeDiffer.ps → Anns := (fun _ => {})
theorem vc_law07_ProbeDiffer :
    ∀ (x : List Int), (List.length x ≤ maxLen ∧ ∀ (x_1 : Int), x_1 ∈ x → (0 : Int) ≤ x_1 ∧ x_1 ≤ (255 : Int)) ∧ True → True → (0 : Int) ≤ (160 : Int) ∧ okC (if (↑(List.length x) : Int) ≤ (160 : Int) then
     x else List.take (Int.toNat (160 : Int)) x, (0 : Int)) ∧ ∀ (x x_1 x_2 x_3 x_4 x_5 : Int) (x_6 : List Int) (x_7 : Int), okC (x_6, x_7) ∧ u32 x ∧ u32 x_1 ∧ probeErr (x, x_1, x_2, x_3, x_4, x_5) = (0 :
     Int) → okC (x_6, x_7) ∧ ∀ (x_8 x_9 x_10 x_11 x_12 x_13 : Int) (x_14 : List Int) (x_15 : Int), okC (x_14, x_15) ∧ u32 x_8 ∧ u32 x_9 ∧ probeErr (x_8, x_9, x_10, x_11, x_12, x_13) = (0 : Int) → okC
     (x_14, x_15) ∧ ∀ (x_16 : Int) (x_17 : List Int) (x_18 : Int), (0 : Int) ≤ x_16 ∧ (x_16 < (2 : Int) ∨ x_16 = (0 : Int)) ∧ okC (x_17, x_18) → ifP (decide (x_16 = (1 : Int))) (okC (x_17, x_18) ∧ ∀ (x_19
     : Int) (x_20 : List Int) (x_21 : Int), (0 : Int) ≤ x_19 ∧ (x_19 < (3 : Int) ∨ x_19 = (0 : Int)) ∧ okC (x_20, x_21) → ∀ (b : Bool), b = decide (probeErr (x, x_1, x_2, x_3, x_4, x_5) = (0 : Int)) → (b =
     true → (b = true → b = true) ∧ True) ∧ (b = true → b = true) ∧ ∀ (b_1 : Bool), (b_1 = bif b then decide (probeErr (x, x_1, x_2, x_3, x_19, x_5) = (0 : Int)) else false) → (b_1 = true → (b_1 = true →
     b_1 = true) ∧ (b_1 = true → b_1 = true) ∧ True) ∧ (b_1 = true → (b_1 = true → b_1 = true) ∧ (b_1 = true → b_1 = true) ∧ True) ∧ (b_1 = true → (b_1 = true → b_1 = true) ∧ (b_1 = true → b_1 = true) ∧
     True) ∧ (b_1 = true → b_1 = true) ∧ (bif b_1 then decide (build (x, x_1, x_2, x_3, x_4, x_5) = build (x, x_1, x_2, x_3, x_19, x_5)) == (decide (x = x) && (decide (x_1 = x_1) && (decide (x_2 = x_2) &&
     (decide (x_3 = x_3) && (decide (x_4 = x_19) && (decide (x_5 = x_5) && true)))))) else false) = true) (∀ (b : Bool), b = decide (probeErr (x, x_1, x_2, x_3, x_4, x_5) = (0 : Int)) → (b = true → (b =
     true → b = true) ∧ True) ∧ (b = true → b = true) ∧ ∀ (b_1 : Bool), (b_1 = bif b then decide (probeErr (x_8, x_9, x_10, x_11, x_12, x_13) = (0 : Int)) else false) → (b_1 = true → (b_1 = true → b_1 =
     true) ∧ (b_1 = true → b_1 = true) ∧ True) ∧ (b_1 = true → (b_1 = true → b_1 = true) ∧ (b_1 = true → b_1 = true) ∧ True) ∧ (b_1 = true → (b_1 = true → b_1 = true) ∧ (b_1 = true → b_1 = true) ∧ True) ∧
     (b_1 = true → b_1 = true) ∧ (bif b_1 then decide (build (x, x_1, x_2, x_3, x_4, x_5) = build (x_8, x_9, x_10, x_11, x_12, x_13)) == (decide (x = x_8) && (decide (x_1 = x_9) && (decide (x_2 = x_10) &&
     (decide (x_3 = x_11) && (decide (x_4 = x_12) && (decide (x_5 = x_13) && true)))))) else false) = true) := by
  rintro cl - -
  refine ⟨by omega, okC_new _ (by omega) cl, ?_⟩
  rintro s d pr f t l _ _ ⟨hc, hs, hd, he⟩
  refine ⟨hc, ?_⟩
  rintro s2 d2 pr2 f2 t2 l2 _ _ ⟨hc, hs2, hd2, he2⟩
  refine ⟨hc, ?_⟩
  rintro _ _ _ ⟨-, -, hc⟩
  have key : ∀ p q : Probe, probeErr p = 0 → u32 p.1 → u32 p.2.1 → probeErr q = 0 → u32 q.1 → u32 q.2.1 → (decide (build p = build q) == (decide (p.1 = q.1) && (decide (p.2.1 = q.2.1) && (decide (p.2.2.1 = q.2.2.1) && (decide (p.2.2.2.1 = q.2.2.2.1) && (decide (p.2.2.2.2.1 = q.2.2.2.2.1) && (decide (p.2.2.2.2.2 = q.2.2.2.2.2) && true))))))) = true := by
    rintro p q h1 h2 h3 h4 h5 h6
    have := build_inj h1 h2 h3 h4 h5 h6
    obtain ⟨a, b, c, e, g, i⟩ := p
    obtain ⟨a', b', c', e', g', i'⟩ := q
    by_cases hq : build (a, b, c, e, g, i) = build (a', b', c', e', g', i')
    · have hh := this.1 hq
      rw [decide_eq_true hq]
      simp only [Prod.mk.injEq] at hh
      obtain ⟨rfl, rfl, rfl, rfl, rfl, rfl⟩ := hh
      simp
    · rw [decide_eq_false hq]
      have hh := fun k => hq (this.2 k)
      simp only [Prod.mk.injEq] at hh
      simp only [beq_iff_eq, Bool.and_true]
      simp only [← Bool.decide_and]
      exact (decide_eq_false hh).symm
  refine ifP_split (fun _ => ⟨hc, ?_⟩) (fun _ => ?_)
  · rintro k _ _ ⟨k0, k1, -⟩
    obtain ⟨hp, hr, ⟨t0, t1⟩, hl⟩ := probe_ok.1 he
    have h2 : probeErr (s, d, pr, f, k, l) = 0 := probe_ok.2 ⟨hp, hr, ⟨by simp only; omega, by simp only; omega⟩, hl⟩
    rw [he, h2]
    (repeat (intro (b_ : Bool) (hb_ : b_ = _); (repeat refine ⟨(by first | (simp; done) | (rw [hb_]; simp; done) | (rw [hb_]; simp; omega) | (rw [hb_]; simp; intros; omega) | (rw [hb_]; simp +contextual; done)), ?_⟩); subst hb_))
    exact key (s, d, pr, f, t, l) (s, d, pr, f, k, l) he hs hd h2 hs hd
  · rw [he, he2]
    (repeat (intro (b_ : Bool) (hb_ : b_ = _); (repeat refine ⟨(by first | (simp; done) | (rw [hb_]; simp; done) | (rw [hb_]; simp; omega) | (rw [hb_]; simp; intros; omega) | (rw [hb_]; simp +contextual; done)), ?_⟩); subst hb_))
    exact key (s, d, pr, f, t, l) (s2, d2, pr2, f2, t2, l2) he hs hd he2 hs2 hd2
theorem ok_law07_ProbeDiffer : SpecOK Try.prog GL 4 ct_law07_ProbeDiffer.spec := Ct.ok' _ Try.func4 (by kernel_rfl) (withSpec_ok (withSpec_ok (withSpec_ok (withSpec_ok (withSpec_ok (withSpec_ok noSpecs_ok ok_law07_awake) ok_draw_New) ok_draw_Codes_Right) ok_Next) ok_probe_Build) ok_wire_Equal) hmix an_law07_ProbeDiffer (Eq.mpr (by kernel_rfl) vc_law07_ProbeDiffer)

def ct_law07_ProbeBack : Ct := lawCt lpCodes
def an_law07_ProbeBack : PDs ct_law07_ProbeBack.ps → Anns := (fun _ => {})
theorem vc_law07_ProbeBack :
    ∀ (x : List Int), (List.length x ≤ maxLen ∧ ∀ (x_1 : Int), x_1 ∈ x → (0 : Int) ≤ x_1 ∧ x_1 ≤ (255 : Int)) ∧ True → True → (0 : Int) ≤ (80 : Int) ∧ okC (if (↑(List.length x) : Int) ≤ (80 : Int) then x
     else List.take (Int.toNat (80 : Int)) x, (0 : Int)) ∧ ∀ (x x_1 x_2 x_3 x_4 x_5 : Int) (x_6 : List Int) (x_7 : Int), okC (x_6, x_7) ∧ u32 x ∧ u32 x_1 ∧ probeErr (x, x_1, x_2, x_3, x_4, x_5) = (0 : Int)
     → (↑(List.length (build (x, x_1, x_2, x_3, x_4, x_5))) : Int) ≤ (1099511627776 : Int) ∧ ∀ (b : Bool), b = !decide (probeErr (x, x_1, x_2, x_3, x_4, x_5) = (0 : Int)) → ((!b) = true → ((!b) = true →
     (!b) = true) ∧ True) ∧ (b = false → (!b) = true) ∧ ∀ (b_1 : Bool), (b_1 = bif b then true else !decide (readE (build (x, x_1, x_2, x_3, x_4, x_5)) = (0 : Int))) → ((!b_1) = true → ((!b_1) = true →
     (!b_1) = true) ∧ ((!b_1) = true → (!b_1) = true) ∧ True) ∧ (b_1 = false → (!b_1) = true) ∧ ifP (bif b_1 then true else !(decide ((readP (build (x, x_1, x_2, x_3, x_4, x_5))).1 = x) && (decide ((readP
     (build (x, x_1, x_2, x_3, x_4, x_5))).2.1 = x_1) && (decide ((readP (build (x, x_1, x_2, x_3, x_4, x_5))).2.2.1 = x_2) && (decide ((readP (build (x, x_1, x_2, x_3, x_4, x_5))).2.2.2.1 = x_3) &&
     (decide ((readP (build (x, x_1, x_2, x_3, x_4, x_5))).2.2.2.2.1 = x_4) && (decide ((readP (build (x, x_1, x_2, x_3, x_4, x_5))).2.2.2.2.2 = x_5) && true))))))) (false = true) ((↑(List.length (build
     (x, x_1, x_2, x_3, x_4, x_5))) : Int) ≤ (1099511627776 : Int) ∧ ifP (decide (x_5 < (2 : Int))) (decide (lowErr (build (x, x_1, x_2, x_3, x_4, x_5)) = (7 : Int)) = true) ((↑(List.length (lowB (build
     (x, x_1, x_2, x_3, x_4, x_5)))) : Int) ≤ (1099511627776 : Int) ∧ ∀ (b : Bool), b = decide (lowErr (build (x, x_1, x_2, x_3, x_4, x_5)) = (0 : Int)) → (b = true → (b = true → b = true) ∧ True) ∧ (b =
     true → b = true) ∧ ∀ (b_2 : Bool), (b_2 = bif b then decide (readE (lowB (build (x, x_1, x_2, x_3, x_4, x_5))) = (0 : Int)) else false) → (b_2 = true → (b_2 = true → b_2 = true) ∧ (b_2 = true → b_2 =
     true) ∧ True) ∧ (b_2 = true → b_2 = true) ∧ (bif b_2 then decide ((readP (lowB (build (x, x_1, x_2, x_3, x_4, x_5)))).1 = x) && (decide ((readP (lowB (build (x, x_1, x_2, x_3, x_4, x_5)))).2.1 = x_1)
     && (decide ((readP (lowB (build (x, x_1, x_2, x_3, x_4, x_5)))).2.2.1 = x_2) && (decide ((readP (lowB (build (x, x_1, x_2, x_3, x_4, x_5)))).2.2.2.1 = x_3) && (decide ((readP (lowB (build (x, x_1,
     x_2, x_3, x_4, x_5)))).2.2.2.2.1 = x_4) && (decide ((readP (lowB (build (x, x_1, x_2, x_3, x_4, x_5)))).2.2.2.2.2 = IntKind.wrap IntKind.i64 (x_5 - (1 : Int))) && true))))) else false) = true)) := by
  rintro cl - -
  refine ⟨by omega, okC_new _ (by omega) cl, ?_⟩
  rintro s d pr f t l _ _ ⟨hc, hs, hd, he⟩
  have hl := build_len (s, d, pr, f, t, l)
  have hr := read_build he hs hd
  have hlow := low_build he hs hd
  refine ⟨by omega, ?_⟩
  rw [he, hr.1, hr.2]
  (repeat (intro (b_ : Bool) (hb_ : b_ = _); (repeat refine ⟨(by first | (simp; done) | (rw [hb_]; simp; done) | (rw [hb_]; simp; omega) | (rw [hb_]; simp; intros; omega) | (rw [hb_]; simp +contextual; done)), ?_⟩); subst hb_))
  refine ifP_split (fun h => by simp at h) (fun _ => ⟨by omega, ifP_split (fun h => ?_) (fun h => ?_)⟩)
  · rw [hlow.1 (of_decide_eq_true h)]; rfl
  have h := of_decide_eq_false h
  have h2 := hlow.2 (by simp only; omega)
  obtain ⟨-, -, -, m0, m1⟩ := probe_ok.1 he
  simp only at m0 m1
  simp only at h2
  rw [h2.1, h2.2.1, w64 (n := l - 1) (by omega) (by omega)]
  have hr2 := read_build h2.2.2 hs hd
  have hl2 := build_len (s, d, pr, f, t, l - 1)
  rw [hr2.1, hr2.2]
  refine ⟨by omega, ?_⟩
  (repeat (intro (b_ : Bool) (hb_ : b_ = _); (repeat refine ⟨(by first | (simp; done) | (rw [hb_]; simp; done) | (rw [hb_]; simp; omega) | (rw [hb_]; simp; intros; omega) | (rw [hb_]; simp +contextual; done)), ?_⟩); subst hb_))
  simp
theorem ok_law07_ProbeBack : SpecOK Try.prog GL 6 ct_law07_ProbeBack.spec := Ct.ok' _ Try.func6 (by kernel_rfl) (withSpec_ok (withSpec_ok (withSpec_ok (withSpec_ok (withSpec_ok (withSpec_ok noSpecs_ok ok_law07_awake) ok_draw_New) ok_draw_Codes_Right) ok_probe_Build) ok_probe_Read) ok_ipv4_Lower) hmix an_law07_ProbeBack (Eq.mpr (by kernel_rfl) vc_law07_ProbeBack)

def ct_law07_ProbeCarries : Ct := lawCt lpCodes
def an_law07_ProbeCarries : PDs ct_law07_ProbeCarries.ps → Anns := (fun _ => {})
theorem vc_law07_ProbeCarries :
    ∀ (x : List Int), (List.length x ≤ maxLen ∧ ∀ (x_1 : Int), x_1 ∈ x → (0 : Int) ≤ x_1 ∧ x_1 ≤ (255 : Int)) ∧ True → True → (0 : Int) ≤ (80 : Int) ∧ okC (if (↑(List.length x) : Int) ≤ (80 : Int) then x
     else List.take (Int.toNat (80 : Int)) x, (0 : Int)) ∧ ∀ (x x_1 x_2 x_3 x_4 x_5 : Int) (x_6 : List Int) (x_7 : Int), okC (x_6, x_7) ∧ u32 x ∧ u32 x_1 ∧ probeErr (x, x_1, x_2, x_3, x_4, x_5) = (0 : Int)
     → (↑(List.length (build (x, x_1, x_2, x_3, x_4, x_5))) : Int) ≤ (1099511627776 : Int) ∧ ∀ (b : Bool), b = !decide (probeErr (x, x_1, x_2, x_3, x_4, x_5) = (0 : Int)) → ((!b) = true → ((!b) = true →
     (!b) = true) ∧ True) ∧ (b = false → (!b) = true) ∧ ∀ (b_1 : Bool), (b_1 = bif b then true else !decide (decErr (build (x, x_1, x_2, x_3, x_4, x_5)) = (0 : Int))) → ((!b_1) = true → ((!b_1) = true →
     (!b_1) = true) ∧ True) ∧ ((!b_1) = true → ((!b_1) = true → (!b_1) = true) ∧ True) ∧ ((!b_1) = true → ((!b_1) = true → (!b_1) = true) ∧ True) ∧ ((!b_1) = true → ((!b_1) = true → (!b_1) = true) ∧
     ((!b_1) = true → (!b_1) = true) ∧ True) ∧ (b_1 = false → (!b_1) = true) ∧ ∀ (b : Bool), (b = bif b_1 then true else !decide ((decPkt (build (x, x_1, x_2, x_3, x_4, x_5))).1.2.1 = x_4)) → ((!b) = true
     → ((!b) = true → (!b) = true) ∧ True) ∧ ((!b) = true → ((!b) = true → (!b) = true) ∧ True) ∧ ((!b) = true → ((!b) = true → (!b) = true) ∧ True) ∧ (b = false → (!b) = true) ∧ ∀ (b_2 : Bool), (b_2 = bif
     b then true else !(decPkt (build (x, x_1, x_2, x_3, x_4, x_5))).1.2.2.2.2.1) → ((!b_2) = true → ((!b_2) = true → (!b_2) = true) ∧ True) ∧ ((!b_2) = true → ((!b_2) = true → (!b_2) = true) ∧ True) ∧
     ((!b_2) = true → ((!b_2) = true → (!b_2) = true) ∧ True) ∧ (b_2 = false → (!b_2) = true) ∧ ifP (bif b_2 then true else !decide ((decPkt (build (x, x_1, x_2, x_3, x_4, x_5))).1.1 = (0 : Int))) (false =
     true) (ifP (decide (x_2 = (17 : Int))) ((↑(List.length (decPkt (build (x, x_1, x_2, x_3, x_4, x_5))).2) : Int) ≤ (1000000 : Int) ∧ (↑(List.length (decPkt (build (x, x_1, x_2, x_3, x_4, x_5))).2) :
     Int) ≤ (1099511627776 : Int) ∧ ∀ (b : Bool), b = decide (unUDPErr x x_1 (decPkt (build (x, x_1, x_2, x_3, x_4, x_5))).2 = (0 : Int)) → (b = true → (b = true → b = true) ∧ True) ∧ (b = true → (b = true
     → b = true) ∧ True) ∧ (b = true → (b = true → b = true) ∧ (b = true → b = true) ∧ True) ∧ (b = true → b = true) ∧ ∀ (b_3 : Bool), (b_3 = bif b then decide (getV (decPkt (build (x, x_1, x_2, x_3, x_4,
     x_5))).2 (6 : Int) (2 : Int) = IntKind.wrap IntKind.i64 (x_4 + (1 : Int))) else false) → (b_3 = true → (b_3 = true → b_3 = true) ∧ True) ∧ (b_3 = true → (b_3 = true → b_3 = true) ∧ True) ∧ (b_3 = true
     → (b_3 = true → b_3 = true) ∧ True) ∧ (b_3 = true → b_3 = true) ∧ (bif b_3 then decide ((↑(List.length (unUDP x x_1 (decPkt (build (x, x_1, x_2, x_3, x_4, x_5))).2).2.2) : Int) = (2 : Int)) else
     false) = true) (ifP (decide (x_2 = (1 : Int))) ((↑(List.length (decPkt (build (x, x_1, x_2, x_3, x_4, x_5))).2) : Int) ≤ (1000000 : Int) ∧ (↑(List.length (decPkt (build (x, x_1, x_2, x_3, x_4,
     x_5))).2) : Int) ≤ (1099511627776 : Int) ∧ ∀ (b : Bool), b = decide (unEchoErr (decPkt (build (x, x_1, x_2, x_3, x_4, x_5))).2 = (0 : Int)) → (b = true → (b = true → b = true) ∧ True) ∧ (b = true → (b
     = true → b = true) ∧ True) ∧ (b = true → b = true) ∧ ∀ (b_3 : Bool), (b_3 = bif b then !(unEcho (decPkt (build (x, x_1, x_2, x_3, x_4, x_5))).2).1 else false) → (b_3 = true → (b_3 = true → b_3 = true)
     ∧ True) ∧ (b_3 = true → (b_3 = true → b_3 = true) ∧ True) ∧ (b_3 = true → (b_3 = true → b_3 = true) ∧ (b_3 = true → b_3 = true) ∧ True) ∧ (b_3 = true → b_3 = true) ∧ ∀ (b : Bool), (b = bif b_3 then
     decide ((unEcho (decPkt (build (x, x_1, x_2, x_3, x_4, x_5))).2).2.2.1 = x_4) else false) → (b = true → (b = true → b = true) ∧ True) ∧ (b = true → (b = true → b = true) ∧ True) ∧ (b = true → b =
     true) ∧ ∀ (b_4 : Bool), (b_4 = bif b then decide ((unEcho (decPkt (build (x, x_1, x_2, x_3, x_4, x_5))).2).2.1 = (21075 : Int)) else false) → (b_4 = true → (b_4 = true → b_4 = true) ∧ True) ∧ (b_4 =
     true → (b_4 = true → b_4 = true) ∧ True) ∧ (b_4 = true → (b_4 = true → b_4 = true) ∧ (b_4 = true → b_4 = true) ∧ True) ∧ (b_4 = true → b_4 = true) ∧ ∀ (b : Bool), (b = bif b_4 then decide (getV
     (decPkt (build (x, x_1, x_2, x_3, x_4, x_5))).2 (2 : Int) (2 : Int) = IntKind.wrap IntKind.i64 ((16384 : Int) + x_3)) else false) → (b = true → (b = true → b = true) ∧ True) ∧ (b = true → (b = true →
     b = true) ∧ True) ∧ (b = true → (b = true → b = true) ∧ True) ∧ (b = true → b = true) ∧ (bif b then decide ((↑(List.length (unEcho (decPkt (build (x, x_1, x_2, x_3, x_4, x_5))).2).2.2.2) : Int) = (2 :
     Int)) else false) = true) ((↑(List.length (decPkt (build (x, x_1, x_2, x_3, x_4, x_5))).2) : Int) ≤ (1000000 : Int) ∧ ∀ (b : Bool), b = decide (unTCPErr x x_1 (decPkt (build (x, x_1, x_2, x_3, x_4,
     x_5))).2 = (0 : Int)) → (b = true → (b = true → b = true) ∧ True) ∧ (b = true → (b = true → b = true) ∧ True) ∧ (b = true → (b = true → b = true) ∧ (b = true → b = true) ∧ True) ∧ (b = true → b =
     true) ∧ ∀ (b_3 : Bool), (b_3 = bif b then decide ((unTCP x x_1 (decPkt (build (x, x_1, x_2, x_3, x_4, x_5))).2).2.2.1 = x_4) else false) → (b_3 = true → (b_3 = true → b_3 = true) ∧ True) ∧ (b_3 = true
     → (b_3 = true → b_3 = true) ∧ True) ∧ (b_3 = true → b_3 = true) ∧ ∀ (b : Bool), (b = bif b_3 then decide ((unTCP x x_1 (decPkt (build (x, x_1, x_2, x_3, x_4, x_5))).2).2.2.2.2.1 = (2 : Int)) else
     false) → (b = true → (b = true → b = true) ∧ True) ∧ (b = true → (b = true → b = true) ∧ True) ∧ (b = true → (b = true → b = true) ∧ True) ∧ (b = true → b = true) ∧ (bif b then decide ((↑(List.length
     (unTCP x x_1 (decPkt (build (x, x_1, x_2, x_3, x_4, x_5))).2).2.2.2.2.2.2) : Int) = (0 : Int)) else false) = true))) := by
  rintro cl - -
  refine ⟨by omega, okC_new _ (by omega) cl, ?_⟩
  rintro s d pr f t l _ _ ⟨hc, hs, hd, he⟩
  have hl := build_len (s, d, pr, f, t, l)
  obtain ⟨e1, e2, e3⟩ := dec_build he hs hd
  have edec : decPkt (build (s, d, pr, f, t, l)) = (hdrP (s, d, pr, f, t, l), conP (s, d, pr, f, t, l)) := by rw [decPkt, if_pos e2, e1, e3]
  obtain ⟨hp, hr⟩ := probe_ok.1 he
  have hr' := hr
  obtain ⟨⟨f0, f1⟩, ⟨t0, t1⟩, -⟩ := hr'
  simp only at f0 f1 t0 t1
  have hcl := con_len he
  refine ⟨by omega, ?_⟩
  rw [he, e2, edec]
  simp only [hdrP]
  (repeat (intro (b_ : Bool) (hb_ : b_ = _); (repeat refine ⟨(by first | (simp; done) | (rw [hb_]; simp; done) | (rw [hb_]; simp; omega) | (rw [hb_]; simp; intros; omega) | (rw [hb_]; simp +contextual; done)), ?_⟩); subst hb_))
  refine ifP_split (fun h => by simp at h) (fun _ => ?_)
  rw [w64 (n := t + 1) (by omega) (by omega), w64 (n := 16384 + f) (by omega) (by omega)]
  have hcl' : (conP (s, d, pr, f, t, l)).length ≤ 20 := by rcases hcl with h | h <;> omega
  refine ifP_split (fun h17 => ?_) (fun h17 => ifP_split (fun h1 => ?_) (fun h1 => ?_))
  · have h17 := of_decide_eq_true h17
    subst h17
    have eE : conP (s, d, 17, f, t, l) = udpEnc s d (conDgram (s, d, 17, f, t, l)) := by rw [con_udp hr rfl, udpEnc, if_pos (udp_err0 hr)]
    have u := un_udp (s := s) (d := d) (okDgramP hr) (bytes_w2 _) (by rw [w2_bytes2]; omega)
    have hsum := udp_sum hr
    have hc10 : (conP (s, d, 17, f, t, l)).length = 10 := by rcases hcl with h | h <;> simp_all
    have hg : getV (conP (s, d, 17, f, t, l)) 6 2 = t + 1 := by
      rw [gV2 (by omega) (by omega), con_udp hr rfl, show Int.toNat 6 = 6 from rfl, word_setW (by show 6 + 2 ≤ 10; omega) (by rw [hsum]; simp only; omega) (by rw [hsum]; simp only; omega), hsum]
    refine ⟨by omega, by omega, ?_⟩
    rw [hg, eE, u.1, u.2]
    (repeat (intro (b_ : Bool) (hb_ : b_ = _); (repeat refine ⟨(by first | (simp; done) | (rw [hb_]; simp; done) | (rw [hb_]; simp; omega) | (rw [hb_]; simp; intros; omega) | (rw [hb_]; simp +contextual; done)), ?_⟩); subst hb_))
    simp [conDgram, w2]
  · have h1 := of_decide_eq_true h1
    subst h1
    have eE : conP (s, d, 1, f, t, l) = echoEnc (conEcho (s, d, 1, f, t, l)) := by rw [con_echo hr rfl, echoEnc, if_pos (echo_err0 hr)]
    have u := un_echo (okEchoP hr) (bytes_w2 _) (by rw [w2_bytes2]; omega)
    have hsum := echo_sum hr
    have hc10 : (conP (s, d, 1, f, t, l)).length = 10 := by rcases hcl with h | h <;> simp_all
    have hg : getV (conP (s, d, 1, f, t, l)) 2 2 = 16384 + f := by
      rw [gV2 (by omega) (by omega), con_echo hr rfl, show Int.toNat 2 = 2 from rfl, word_setW (by show 2 + 2 ≤ 10; omega) (by rw [hsum]; simp only; omega) (by rw [hsum]; simp only; omega), hsum]
    refine ⟨by omega, by omega, ?_⟩
    rw [hg, eE, u.1, u.2]
    simp only [conEcho]
    (repeat (intro (b_ : Bool) (hb_ : b_ = _); (repeat refine ⟨(by first | (simp; done) | (rw [hb_]; simp; done) | (rw [hb_]; simp; omega) | (rw [hb_]; simp; intros; omega) | (rw [hb_]; simp +contextual; done)), ?_⟩); subst hb_))
    rfl
  · have h17 := of_decide_eq_false h17
    have h1 := of_decide_eq_false h1
    have h6 : pr = 6 := by rcases hp with hp | hp | hp <;> simp only at hp <;> omega
    subst h6
    have eE : conP (s, d, 6, f, t, l) = tcpEnc s d (conSeg (s, d, 6, f, t, l)) := by rw [con_tcp hr rfl, tcpEnc, if_pos (tcp_err0 hr)]
    have u := un_tcp (s := s) (d := d) (okSegP hr) bytes_nil (by simp)
    refine ⟨by omega, ?_⟩
    rw [eE, u.1, u.2]
    simp only [conSeg]
    (repeat (intro (b_ : Bool) (hb_ : b_ = _); (repeat refine ⟨(by first | (simp; done) | (rw [hb_]; simp; done) | (rw [hb_]; simp; omega) | (rw [hb_]; simp; intros; omega) | (rw [hb_]; simp +contextual; done)), ?_⟩); subst hb_))
    rfl
theorem ok_law07_ProbeCarries : SpecOK Try.prog GL 7 ct_law07_ProbeCarries.spec := Ct.ok' _ Try.func7 (by kernel_rfl) (withSpec_ok (withSpec_ok (withSpec_ok (withSpec_ok (withSpec_ok (withSpec_ok (withSpec_ok (withSpec_ok (withSpec_ok noSpecs_ok ok_law07_awake) ok_draw_New) ok_draw_Codes_Right) ok_probe_Build) ok_ipv4_Decode) ok_transport_DecodeUDP) ok_transport_DecodeEcho) ok_transport_DecodeTCP) ok_wire_Get) hmix an_law07_ProbeCarries (Eq.mpr (by kernel_rfl) vc_law07_ProbeCarries)

def ct_law07_ProbeExact : Ct := lawCt lpExact
def an_law07_ProbeExact : PDs ct_law07_ProbeExact.ps → Anns := (fun d => { loops := (fun n => match n with | 5 => some (fun S => { ι := Int × (List Int × Int), qn := ⟨fun k_ => ∀ (k : Int) (cs : (List Int × Int)), k_ (k, cs), fun k_ h_ i => h_ i.1 i.2, fun k_ => ∃ (k : Int) (cs : (List Int × Int)), k_ (k, cs), fun k_ ⟨k, cs, h_⟩ => ⟨_, h_⟩⟩, μ := fun i => (3 - i.1).toNat, inv := fun i => okC i.2 ∧ 0 ≤ i.1 ∧ i.1 ≤ 3, keep := [2, 7, 45, 46], slots := fun i => [(47, .int .i64 i.1)], keepN := [736], names := fun i => [(640, .live (.cells 73 (flat cCodes i.2)))] }) | 14 => some (fun S => { ι := Int, μ := fun i => (3 - i).toNat, inv := fun i => 0 ≤ i ∧ i ≤ 3, keep := [2, 7, 45, 46, 47, 102, 103], slots := fun i => [(104, .int .i64 i)], keepN := [640, 736, 1648], names := fun i => [] }) | _ => none) })
theorem vc_law07_ProbeExact :
    ∀ (x : List Int) (x_1 x_2 x_3 x_4 x_5 x_6 : Int) (x_7 : List Int), (List.length x ≤ maxLen ∧ ∀ (x_8 : Int), x_8 ∈ x → (0 : Int) ≤ x_8 ∧ x_8 ≤ (255 : Int)) ∧ (((0 : Int) ≤ x_1 ∧ x_1 ≤ (4294967295 :
     Int)) ∧ ((0 : Int) ≤ x_2 ∧ x_2 ≤ (4294967295 : Int)) ∧ ((-9223372036854775808 : Int) ≤ x_3 ∧ x_3 ≤ (9223372036854775807 : Int)) ∧ ((-9223372036854775808 : Int) ≤ x_4 ∧ x_4 ≤ (9223372036854775807 :
     Int)) ∧ ((-9223372036854775808 : Int) ≤ x_5 ∧ x_5 ≤ (9223372036854775807 : Int)) ∧ (-9223372036854775808 : Int) ≤ x_6 ∧ x_6 ≤ (9223372036854775807 : Int)) ∧ (List.length x_7 ≤ maxLen ∧ ∀ (x : Int), x
     ∈ x_7 → (0 : Int) ≤ x ∧ x ≤ (255 : Int)) ∧ True → True → ∀ (b : Bool), b = !true → ((!b) = true → ((!b) = true → (!b) = true) ∧ True) ∧ ((!b) = true → ((!b) = true → (!b) = true) ∧ True) ∧ (b = false
     → (!b) = true) ∧ ifP (bif b then true else decide ((1600 : Int) < (↑(List.length x_7) : Int))) (decide ((1600 : Int) < (↑(List.length x_7) : Int)) = true) ((0 : Int) ≤ (80 : Int) ∧ okC (if
     (↑(List.length x) : Int) ≤ (80 : Int) then x else List.take (Int.toNat (80 : Int)) x, (0 : Int)) ∧ ∀ (x x_8 x_9 x_10 x_11 x_12 : Int) (x_13 : List Int) (x_14 : Int), okC (x_13, x_14) ∧ u32 x ∧ u32 x_8
     → okC (x_13, x_14) ∧ ∀ (x_15 x_16 x_17 x_18 x_19 x_20 : Int) (x_21 : List Int) (x_22 : Int), okC (x_21, x_22) ∧ u32 x_15 ∧ u32 x_16 → (∃ (k : Int), ∃ (cs : List Int × Int), (okC cs ∧ (0 : Int) ≤ k ∧ k
     ≤ (3 : Int)) ∧ x_7 = x_7 ∧ (↑(List.length [(x_1, x_2, x_3, x_4, x_5, x_6), (x, x_8, x_9, x_10, x_11, x_12), (x_15, x_16, x_17, x_18, x_19, x_20)]) : Int) = (↑(List.length [(x_1, x_2, x_3, x_4, x_5,
     x_6), (x, x_8, x_9, x_10, x_11, x_12), (x_15, x_16, x_17, x_18, x_19, x_20)]) : Int) ∧ (0 : Int) = k ∧ [(x_1, x_2, x_3, x_4, x_5, x_6), (x, x_8, x_9, x_10, x_11, x_12), (x_15, x_16, x_17, x_18, x_19,
     x_20)] = [(x_1, x_2, x_3, x_4, x_5, x_6), (x, x_8, x_9, x_10, x_11, x_12), (x_15, x_16, x_17, x_18, x_19, x_20)] ∧ x_21 = cs.1 ∧ x_22 = cs.2 ∧ True) ∧ ∀ (k : Int) (cs : List Int × Int), okC cs ∧ (0 :
     Int) ≤ k ∧ k ≤ (3 : Int) → ifP (decide (k < (↑(List.length [(x_1, x_2, x_3, x_4, x_5, x_6), (x, x_8, x_9, x_10, x_11, x_12), (x_15, x_16, x_17, x_18, x_19, x_20)]) : Int))) ((0 : Int) ≤ k ∧ k <
     (↑(List.length [(x_1, x_2, x_3, x_4, x_5, x_6), (x, x_8, x_9, x_10, x_11, x_12), (x_15, x_16, x_17, x_18, x_19, x_20)]) : Int) ∧ ∀ (b : Bool), b = !decide (probeErr (List.getD [(x_1, x_2, x_3, x_4,
     x_5, x_6), (x, x_8, x_9, x_10, x_11, x_12), (x_15, x_16, x_17, x_18, x_19, x_20)] (Int.toNat k) default) = probeErr (List.getD [(x_1, x_2, x_3, x_4, x_5, x_6), (x, x_8, x_9, x_10, x_11, x_12), (x_15,
     x_16, x_17, x_18, x_19, x_20)] (Int.toNat k) default)) → ((!b) = true → ((!b) = true → (!b) = true) ∧ ((!b) = true → (!b) = true) ∧ True) ∧ (b = false → (!b) = true) ∧ ∀ (b_1 : Bool), (b_1 = bif b
     then true else !decide (probeErr (List.getD [(x_1, x_2, x_3, x_4, x_5, x_6), (x, x_8, x_9, x_10, x_11, x_12), (x_15, x_16, x_17, x_18, x_19, x_20)] (Int.toNat k) default) = probeErr (List.getD [(x_1,
     x_2, x_3, x_4, x_5, x_6), (x, x_8, x_9, x_10, x_11, x_12), (x_15, x_16, x_17, x_18, x_19, x_20)] (Int.toNat k) default))) → ((!b_1) = true → ((!b_1) = true → (!b_1) = true) ∧ ((!b_1) = true → (!b_1) =
     true) ∧ True) ∧ ((!b_1) = true → ((!b_1) = true → (!b_1) = true) ∧ True) ∧ (b_1 = false → (!b_1) = true) ∧ ∀ (b : Bool), (b = bif b_1 then true else !decide (build (List.getD [(x_1, x_2, x_3, x_4,
     x_5, x_6), (x, x_8, x_9, x_10, x_11, x_12), (x_15, x_16, x_17, x_18, x_19, x_20)] (Int.toNat k) default) = build (List.getD [(x_1, x_2, x_3, x_4, x_5, x_6), (x, x_8, x_9, x_10, x_11, x_12), (x_15,
     x_16, x_17, x_18, x_19, x_20)] (Int.toNat k) default))) → ((!b) = true → ((!b) = true → (!b) = true) ∧ ((!b) = true → (!b) = true) ∧ True) ∧ (b = false → (!b) = true) ∧ ∀ (b_2 : Bool), (b_2 = bif b
     then true else !(decide ((keyOf (List.getD [(x_1, x_2, x_3, x_4, x_5, x_6), (x, x_8, x_9, x_10, x_11, x_12), (x_15, x_16, x_17, x_18, x_19, x_20)] (Int.toNat k) default)).1 = (keyOf (List.getD [(x_1,
     x_2, x_3, x_4, x_5, x_6), (x, x_8, x_9, x_10, x_11, x_12), (x_15, x_16, x_17, x_18, x_19, x_20)] (Int.toNat k) default)).1) && (decide ((keyOf (List.getD [(x_1, x_2, x_3, x_4, x_5, x_6), (x, x_8, x_9,
     x_10, x_11, x_12), (x_15, x_16, x_17, x_18, x_19, x_20)] (Int.toNat k) default)).2.1 = (keyOf (List.getD [(x_1, x_2, x_3, x_4, x_5, x_6), (x, x_8, x_9, x_10, x_11, x_12), (x_15, x_16, x_17, x_18,
     x_19, x_20)] (Int.toNat k) default)).2.1) && (decide ((keyOf (List.getD [(x_1, x_2, x_3, x_4, x_5, x_6), (x, x_8, x_9, x_10, x_11, x_12), (x_15, x_16, x_17, x_18, x_19, x_20)] (Int.toNat k)
     default)).2.2.1 = (keyOf (List.getD [(x_1, x_2, x_3, x_4, x_5, x_6), (x, x_8, x_9, x_10, x_11, x_12), (x_15, x_16, x_17, x_18, x_19, x_20)] (Int.toNat k) default)).2.2.1) && (decide ((keyOf (List.getD
     [(x_1, x_2, x_3, x_4, x_5, x_6), (x, x_8, x_9, x_10, x_11, x_12), (x_15, x_16, x_17, x_18, x_19, x_20)] (Int.toNat k) default)).2.2.2.1 = (keyOf (List.getD [(x_1, x_2, x_3, x_4, x_5, x_6), (x, x_8,
     x_9, x_10, x_11, x_12), (x_15, x_16, x_17, x_18, x_19, x_20)] (Int.toNat k) default)).2.2.2.1) && (decide ((keyOf (List.getD [(x_1, x_2, x_3, x_4, x_5, x_6), (x, x_8, x_9, x_10, x_11, x_12), (x_15,
     x_16, x_17, x_18, x_19, x_20)] (Int.toNat k) default)).2.2.2.2 = (keyOf (List.getD [(x_1, x_2, x_3, x_4, x_5, x_6), (x, x_8, x_9, x_10, x_11, x_12), (x_15, x_16, x_17, x_18, x_19, x_20)] (Int.toNat k)
     default)).2.2.2.2) && true)))))) → ((!b_2) = true → ((!b_2) = true → (!b_2) = true) ∧ ((!b_2) = true → (!b_2) = true) ∧ True) ∧ (b_2 = false → (!b_2) = true) ∧ ifP (bif b_2 then true else !decide
     (keyOfE (List.getD [(x_1, x_2, x_3, x_4, x_5, x_6), (x, x_8, x_9, x_10, x_11, x_12), (x_15, x_16, x_17, x_18, x_19, x_20)] (Int.toNat k) default) = keyOfE (List.getD [(x_1, x_2, x_3, x_4, x_5, x_6),
     (x, x_8, x_9, x_10, x_11, x_12), (x_15, x_16, x_17, x_18, x_19, x_20)] (Int.toNat k) default))) (false = true) (okC cs ∧ (↑(List.length (build (List.getD [(x_1, x_2, x_3, x_4, x_5, x_6), (x, x_8, x_9,
     x_10, x_11, x_12), (x_15, x_16, x_17, x_18, x_19, x_20)] (Int.toNat k) default))) : Int) ≤ (1000000 : Int) ∧ ∀ (x_23 x_24 : List Int) (x_25 : Int), (↑(List.length x_23) : Int) ≤ (↑(List.length (build
     (List.getD [(x_1, x_2, x_3, x_4, x_5, x_6), (x, x_8, x_9, x_10, x_11, x_12), (x_15, x_16, x_17, x_18, x_19, x_20)] (Int.toNat k) default))) : Int) + (1 : Int) ∧ okC (x_24, x_25) → (∃ (x_26 : Int), ((0
     : Int) ≤ x_26 ∧ x_26 ≤ (3 : Int)) ∧ x_7 = x_7 ∧ (↑(List.length [(x_1, x_2, x_3, x_4, x_5, x_6), (x, x_8, x_9, x_10, x_11, x_12), (x_15, x_16, x_17, x_18, x_19, x_20)]) : Int) = (↑(List.length [(x_1,
     x_2, x_3, x_4, x_5, x_6), (x, x_8, x_9, x_10, x_11, x_12), (x_15, x_16, x_17, x_18, x_19, x_20)]) : Int) ∧ k = k ∧ (↑(List.length [build (List.getD [(x_1, x_2, x_3, x_4, x_5, x_6), (x, x_8, x_9, x_10,
     x_11, x_12), (x_15, x_16, x_17, x_18, x_19, x_20)] (Int.toNat k) default), x_23, x_7]) : Int) = (↑(List.length [build (List.getD [(x_1, x_2, x_3, x_4, x_5, x_6), (x, x_8, x_9, x_10, x_11, x_12),
     (x_15, x_16, x_17, x_18, x_19, x_20)] (Int.toNat k) default), x_23, x_7]) : Int) ∧ (0 : Int) = x_26 ∧ x_24 = x_24 ∧ x_25 = x_25 ∧ [(x_1, x_2, x_3, x_4, x_5, x_6), (x, x_8, x_9, x_10, x_11, x_12),
     (x_15, x_16, x_17, x_18, x_19, x_20)] = [(x_1, x_2, x_3, x_4, x_5, x_6), (x, x_8, x_9, x_10, x_11, x_12), (x_15, x_16, x_17, x_18, x_19, x_20)] ∧ [build (List.getD [(x_1, x_2, x_3, x_4, x_5, x_6), (x,
     x_8, x_9, x_10, x_11, x_12), (x_15, x_16, x_17, x_18, x_19, x_20)] (Int.toNat k) default), x_23, x_7] = [build (List.getD [(x_1, x_2, x_3, x_4, x_5, x_6), (x, x_8, x_9, x_10, x_11, x_12), (x_15, x_16,
     x_17, x_18, x_19, x_20)] (Int.toNat k) default), x_23, x_7] ∧ True) ∧ ∀ (x_26 : Int), (0 : Int) ≤ x_26 ∧ x_26 ≤ (3 : Int) → ifP (decide (x_26 < (↑(List.length [build (List.getD [(x_1, x_2, x_3, x_4,
     x_5, x_6), (x, x_8, x_9, x_10, x_11, x_12), (x_15, x_16, x_17, x_18, x_19, x_20)] (Int.toNat k) default), x_23, x_7]) : Int))) ((0 : Int) ≤ x_26 ∧ x_26 < (↑(List.length [build (List.getD [(x_1, x_2,
     x_3, x_4, x_5, x_6), (x, x_8, x_9, x_10, x_11, x_12), (x_15, x_16, x_17, x_18, x_19, x_20)] (Int.toNat k) default), x_23, x_7]) : Int) ∧ (↑(List.length (List.getD [build (List.getD [(x_1, x_2, x_3,
     x_4, x_5, x_6), (x, x_8, x_9, x_10, x_11, x_12), (x_15, x_16, x_17, x_18, x_19, x_20)] (Int.toNat k) default), x_23, x_7] (Int.toNat x_26) default)) : Int) ≤ (1099511627776 : Int) ∧ (↑(List.length
     (List.getD [build (List.getD [(x_1, x_2, x_3, x_4, x_5, x_6), (x, x_8, x_9, x_10, x_11, x_12), (x_15, x_16, x_17, x_18, x_19, x_20)] (Int.toNat k) default), x_23, x_7] (Int.toNat x_26) default)) :
     Int) ≤ (1099511627776 : Int) ∧ (↑(List.length (List.getD [build (List.getD [(x_1, x_2, x_3, x_4, x_5, x_6), (x, x_8, x_9, x_10, x_11, x_12), (x_15, x_16, x_17, x_18, x_19, x_20)] (Int.toNat k)
     default), x_23, x_7] (Int.toNat x_26) default)) : Int) ≤ (1099511627776 : Int) ∧ (↑(List.length (List.getD [build (List.getD [(x_1, x_2, x_3, x_4, x_5, x_6), (x, x_8, x_9, x_10, x_11, x_12), (x_15,
     x_16, x_17, x_18, x_19, x_20)] (Int.toNat k) default), x_23, x_7] (Int.toNat x_26) default)) : Int) ≤ (1099511627776 : Int) ∧ ∀ (b : Bool), b = !(decide ((readP (List.getD [build (List.getD [(x_1,
     x_2, x_3, x_4, x_5, x_6), (x, x_8, x_9, x_10, x_11, x_12), (x_15, x_16, x_17, x_18, x_19, x_20)] (Int.toNat k) default), x_23, x_7] (Int.toNat x_26) default)).1 = (readP (List.getD [build (List.getD
     [(x_1, x_2, x_3, x_4, x_5, x_6), (x, x_8, x_9, x_10, x_11, x_12), (x_15, x_16, x_17, x_18, x_19, x_20)] (Int.toNat k) default), x_23, x_7] (Int.toNat x_26) default)).1) && (decide ((readP (List.getD
     [build (List.getD [(x_1, x_2, x_3, x_4, x_5, x_6), (x, x_8, x_9, x_10, x_11, x_12), (x_15, x_16, x_17, x_18, x_19, x_20)] (Int.toNat k) default), x_23, x_7] (Int.toNat x_26) default)).2.1 = (readP
     (List.getD [build (List.getD [(x_1, x_2, x_3, x_4, x_5, x_6), (x, x_8, x_9, x_10, x_11, x_12), (x_15, x_16, x_17, x_18, x_19, x_20)] (Int.toNat k) default), x_23, x_7] (Int.toNat x_26) default)).2.1)
     && (decide ((readP (List.getD [build (List.getD [(x_1, x_2, x_3, x_4, x_5, x_6), (x, x_8, x_9, x_10, x_11, x_12), (x_15, x_16, x_17, x_18, x_19, x_20)] (Int.toNat k) default), x_23, x_7] (Int.toNat
     x_26) default)).2.2.1 = (readP (List.getD [build (List.getD [(x_1, x_2, x_3, x_4, x_5, x_6), (x, x_8, x_9, x_10, x_11, x_12), (x_15, x_16, x_17, x_18, x_19, x_20)] (Int.toNat k) default), x_23, x_7]
     (Int.toNat x_26) default)).2.2.1) && (decide ((readP (List.getD [build (List.getD [(x_1, x_2, x_3, x_4, x_5, x_6), (x, x_8, x_9, x_10, x_11, x_12), (x_15, x_16, x_17, x_18, x_19, x_20)] (Int.toNat k)
     default), x_23, x_7] (Int.toNat x_26) default)).2.2.2.1 = (readP (List.getD [build (List.getD [(x_1, x_2, x_3, x_4, x_5, x_6), (x, x_8, x_9, x_10, x_11, x_12), (x_15, x_16, x_17, x_18, x_19, x_20)]
     (Int.toNat k) default), x_23, x_7] (Int.toNat x_26) default)).2.2.2.1) && (decide ((readP (List.getD [build (List.getD [(x_1, x_2, x_3, x_4, x_5, x_6), (x, x_8, x_9, x_10, x_11, x_12), (x_15, x_16,
     x_17, x_18, x_19, x_20)] (Int.toNat k) default), x_23, x_7] (Int.toNat x_26) default)).2.2.2.2.1 = (readP (List.getD [build (List.getD [(x_1, x_2, x_3, x_4, x_5, x_6), (x, x_8, x_9, x_10, x_11, x_12),
     (x_15, x_16, x_17, x_18, x_19, x_20)] (Int.toNat k) default), x_23, x_7] (Int.toNat x_26) default)).2.2.2.2.1) && (decide ((readP (List.getD [build (List.getD [(x_1, x_2, x_3, x_4, x_5, x_6), (x, x_8,
     x_9, x_10, x_11, x_12), (x_15, x_16, x_17, x_18, x_19, x_20)] (Int.toNat k) default), x_23, x_7] (Int.toNat x_26) default)).2.2.2.2.2 = (readP (List.getD [build (List.getD [(x_1, x_2, x_3, x_4, x_5,
     x_6), (x, x_8, x_9, x_10, x_11, x_12), (x_15, x_16, x_17, x_18, x_19, x_20)] (Int.toNat k) default), x_23, x_7] (Int.toNat x_26) default)).2.2.2.2.2) && true)))))) → ((!b) = true → ((!b) = true → (!b)
     = true) ∧ ((!b) = true → (!b) = true) ∧ True) ∧ (b = false → (!b) = true) ∧ ∀ (b_3 : Bool), (b_3 = bif b then true else !decide (readE (List.getD [build (List.getD [(x_1, x_2, x_3, x_4, x_5, x_6), (x,
     x_8, x_9, x_10, x_11, x_12), (x_15, x_16, x_17, x_18, x_19, x_20)] (Int.toNat k) default), x_23, x_7] (Int.toNat x_26) default) = readE (List.getD [build (List.getD [(x_1, x_2, x_3, x_4, x_5, x_6),
     (x, x_8, x_9, x_10, x_11, x_12), (x_15, x_16, x_17, x_18, x_19, x_20)] (Int.toNat k) default), x_23, x_7] (Int.toNat x_26) default))) → ((!b_3) = true → ((!b_3) = true → (!b_3) = true) ∧ ((!b_3) =
     true → (!b_3) = true) ∧ True) ∧ (b_3 = false → (!b_3) = true) ∧ ∀ (b : Bool), (b = bif b_3 then true else !(decide ((keyB (List.getD [build (List.getD [(x_1, x_2, x_3, x_4, x_5, x_6), (x, x_8, x_9,
     x_10, x_11, x_12), (x_15, x_16, x_17, x_18, x_19, x_20)] (Int.toNat k) default), x_23, x_7] (Int.toNat x_26) default)).1 = (keyB (List.getD [build (List.getD [(x_1, x_2, x_3, x_4, x_5, x_6), (x, x_8,
     x_9, x_10, x_11, x_12), (x_15, x_16, x_17, x_18, x_19, x_20)] (Int.toNat k) default), x_23, x_7] (Int.toNat x_26) default)).1) && (decide ((keyB (List.getD [build (List.getD [(x_1, x_2, x_3, x_4, x_5,
     x_6), (x, x_8, x_9, x_10, x_11, x_12), (x_15, x_16, x_17, x_18, x_19, x_20)] (Int.toNat k) default), x_23, x_7] (Int.toNat x_26) default)).2.1 = (keyB (List.getD [build (List.getD [(x_1, x_2, x_3,
     x_4, x_5, x_6), (x, x_8, x_9, x_10, x_11, x_12), (x_15, x_16, x_17, x_18, x_19, x_20)] (Int.toNat k) default), x_23, x_7] (Int.toNat x_26) default)).2.1) && (decide ((keyB (List.getD [build (List.getD
     [(x_1, x_2, x_3, x_4, x_5, x_6), (x, x_8, x_9, x_10, x_11, x_12), (x_15, x_16, x_17, x_18, x_19, x_20)] (Int.toNat k) default), x_23, x_7] (Int.toNat x_26) default)).2.2.1 = (keyB (List.getD [build
     (List.getD [(x_1, x_2, x_3, x_4, x_5, x_6), (x, x_8, x_9, x_10, x_11, x_12), (x_15, x_16, x_17, x_18, x_19, x_20)] (Int.toNat k) default), x_23, x_7] (Int.toNat x_26) default)).2.2.1) && (decide
     ((keyB (List.getD [build (List.getD [(x_1, x_2, x_3, x_4, x_5, x_6), (x, x_8, x_9, x_10, x_11, x_12), (x_15, x_16, x_17, x_18, x_19, x_20)] (Int.toNat k) default), x_23, x_7] (Int.toNat x_26)
     default)).2.2.2.1 = (keyB (List.getD [build (List.getD [(x_1, x_2, x_3, x_4, x_5, x_6), (x, x_8, x_9, x_10, x_11, x_12), (x_15, x_16, x_17, x_18, x_19, x_20)] (Int.toNat k) default), x_23, x_7]
     (Int.toNat x_26) default)).2.2.2.1) && (decide ((keyB (List.getD [build (List.getD [(x_1, x_2, x_3, x_4, x_5, x_6), (x, x_8, x_9, x_10, x_11, x_12), (x_15, x_16, x_17, x_18, x_19, x_20)] (Int.toNat k)
     default), x_23, x_7] (Int.toNat x_26) default)).2.2.2.2 = (keyB (List.getD [build (List.getD [(x_1, x_2, x_3, x_4, x_5, x_6), (x, x_8, x_9, x_10, x_11, x_12), (x_15, x_16, x_17, x_18, x_19, x_20)]
     (Int.toNat k) default), x_23, x_7] (Int.toNat x_26) default)).2.2.2.2) && true)))))) → ((!b) = true → ((!b) = true → (!b) = true) ∧ ((!b) = true → (!b) = true) ∧ True) ∧ (b = false → (!b) = true) ∧
     ifP (bif b then true else !decide (decErr (List.getD [build (List.getD [(x_1, x_2, x_3, x_4, x_5, x_6), (x, x_8, x_9, x_10, x_11, x_12), (x_15, x_16, x_17, x_18, x_19, x_20)] (Int.toNat k) default),
     x_23, x_7] (Int.toNat x_26) default) = decErr (List.getD [build (List.getD [(x_1, x_2, x_3, x_4, x_5, x_6), (x, x_8, x_9, x_10, x_11, x_12), (x_15, x_16, x_17, x_18, x_19, x_20)] (Int.toNat k)
     default), x_23, x_7] (Int.toNat x_26) default))) (false = true) (∃ (x_27 : Int), ((0 : Int) ≤ x_27 ∧ x_27 ≤ (3 : Int)) ∧ Int.toNat ((3 : Int) - x_27) < Int.toNat ((3 : Int) - x_26) ∧ x_7 = x_7 ∧
     (↑(List.length [(x_1, x_2, x_3, x_4, x_5, x_6), (x, x_8, x_9, x_10, x_11, x_12), (x_15, x_16, x_17, x_18, x_19, x_20)]) : Int) = (↑(List.length [(x_1, x_2, x_3, x_4, x_5, x_6), (x, x_8, x_9, x_10,
     x_11, x_12), (x_15, x_16, x_17, x_18, x_19, x_20)]) : Int) ∧ k = k ∧ (↑(List.length [build (List.getD [(x_1, x_2, x_3, x_4, x_5, x_6), (x, x_8, x_9, x_10, x_11, x_12), (x_15, x_16, x_17, x_18, x_19,
     x_20)] (Int.toNat k) default), x_23, x_7]) : Int) = (↑(List.length [build (List.getD [(x_1, x_2, x_3, x_4, x_5, x_6), (x, x_8, x_9, x_10, x_11, x_12), (x_15, x_16, x_17, x_18, x_19, x_20)] (Int.toNat
     k) default), x_23, x_7]) : Int) ∧ IntKind.wrap IntKind.i64 (x_26 + (1 : Int)) = x_27 ∧ x_24 = x_24 ∧ x_25 = x_25 ∧ [(x_1, x_2, x_3, x_4, x_5, x_6), (x, x_8, x_9, x_10, x_11, x_12), (x_15, x_16, x_17,
     x_18, x_19, x_20)] = [(x_1, x_2, x_3, x_4, x_5, x_6), (x, x_8, x_9, x_10, x_11, x_12), (x_15, x_16, x_17, x_18, x_19, x_20)] ∧ [build (List.getD [(x_1, x_2, x_3, x_4, x_5, x_6), (x, x_8, x_9, x_10,
     x_11, x_12), (x_15, x_16, x_17, x_18, x_19, x_20)] (Int.toNat k) default), x_23, x_7] = [build (List.getD [(x_1, x_2, x_3, x_4, x_5, x_6), (x, x_8, x_9, x_10, x_11, x_12), (x_15, x_16, x_17, x_18,
     x_19, x_20)] (Int.toNat k) default), x_23, x_7] ∧ True)) (∃ (k_1 : Int), ∃ (cs : List Int × Int), (okC cs ∧ (0 : Int) ≤ k_1 ∧ k_1 ≤ (3 : Int)) ∧ Int.toNat ((3 : Int) - k_1) < Int.toNat ((3 : Int) - k)
     ∧ x_7 = x_7 ∧ (↑(List.length [(x_1, x_2, x_3, x_4, x_5, x_6), (x, x_8, x_9, x_10, x_11, x_12), (x_15, x_16, x_17, x_18, x_19, x_20)]) : Int) = (↑(List.length [(x_1, x_2, x_3, x_4, x_5, x_6), (x, x_8,
     x_9, x_10, x_11, x_12), (x_15, x_16, x_17, x_18, x_19, x_20)]) : Int) ∧ IntKind.wrap IntKind.i64 (k + (1 : Int)) = k_1 ∧ [(x_1, x_2, x_3, x_4, x_5, x_6), (x, x_8, x_9, x_10, x_11, x_12), (x_15, x_16,
     x_17, x_18, x_19, x_20)] = [(x_1, x_2, x_3, x_4, x_5, x_6), (x, x_8, x_9, x_10, x_11, x_12), (x_15, x_16, x_17, x_18, x_19, x_20)] ∧ x_24 = cs.1 ∧ x_25 = cs.2 ∧ True))) (true = true)) := by
  rintro cl s d pr f t l raw ⟨-, -, ⟨-, hraw⟩, -⟩ -
  (repeat (intro (b_ : Bool) (hb_ : b_ = _); (repeat refine ⟨(by first | (simp; done) | (rw [hb_]; simp; done) | (rw [hb_]; simp; omega) | (rw [hb_]; simp; intros; omega) | (rw [hb_]; simp +contextual; done)), ?_⟩); subst hb_))
  refine ifP_split (fun h => by simpa using h) (fun h => ?_)
  have hlen : ¬ (1600 : Int) < raw.length := by simpa using h
  refine ⟨by omega, okC_new _ (by omega) cl, ?_⟩
  rintro s1 d1 p1 f1 t1 l1 _ _ ⟨hc, -, -⟩
  refine ⟨hc, ?_⟩
  rintro s2 d2 p2 f2 t2 l2 c1 c2 ⟨hc, -, -⟩
  refine ⟨⟨0, (c1, c2), ⟨hc, by omega, by omega⟩, (by repeat' first | exact trivial | refine ⟨(by with_reducible rfl), ?_⟩ | refine ⟨w64 (by omega) (by omega), ?_⟩ | refine ⟨rfl, ?_⟩)⟩, ?_⟩
  generalize hps : [(s, d, pr, f, t, l), (s1, d1, p1, f1, t1, l1), (s2, d2, p2, f2, t2, l2)] = ps
  have hpl : ps.length = 3 := by rw [← hps]; rfl
  rintro k cs ⟨hc, k0, k3⟩
  refine ifP_split (fun hk => ?_) (fun _ => rfl)
  have hk := of_decide_eq_true hk
  refine ⟨k0, hk, ?_⟩
  generalize ps.getD k.toNat default = p
  have hbl := build_len p
  (repeat (intro (b_ : Bool) (hb_ : b_ = _); (repeat refine ⟨(by first | (simp; done) | (rw [hb_]; simp; done) | (rw [hb_]; simp; omega) | (rw [hb_]; simp; intros; omega) | (rw [hb_]; simp +contextual; done)), ?_⟩); subst hb_))
  refine ifP_split (fun h => by simp at h) (fun _ => ⟨hc, by omega, ?_⟩)
  rintro y c3 c4 ⟨hy, hc⟩
  refine ⟨⟨0, ⟨by omega, by omega⟩, (by repeat' first | exact trivial | refine ⟨(by with_reducible rfl), ?_⟩ | refine ⟨w64 (by omega) (by omega), ?_⟩ | refine ⟨rfl, ?_⟩)⟩, ?_⟩
  generalize hzs : [build p, y, raw] = zs
  have hzl : zs.length = 3 := by rw [← hzs]; rfl
  have hz : ∀ z ∈ zs, (z.length : Int) ≤ 1600 := by
    intro z hz
    rw [← hzs] at hz
    simp only [List.mem_cons, List.not_mem_nil, or_false] at hz
    rcases hz with rfl | rfl | rfl <;> omega
  rintro j ⟨j0, j3⟩
  refine ifP_split (fun hj => ?_) (fun _ => ?_)
  · have hj := of_decide_eq_true hj
    have hzj := hz _ (getD_mem (xs := zs) j0 hj)
    refine ⟨j0, hj, ?_⟩
    generalize zs.getD j.toNat default = z at hzj
    refine ⟨by omega, by omega, by omega, by omega, ?_⟩
    (repeat (intro (b_ : Bool) (hb_ : b_ = _); (repeat refine ⟨(by first | (simp; done) | (rw [hb_]; simp; done) | (rw [hb_]; simp; omega) | (rw [hb_]; simp; intros; omega) | (rw [hb_]; simp +contextual; done)), ?_⟩); subst hb_))
    refine ifP_split (fun h => by simp at h) (fun _ => ?_)
    exact ⟨j + 1, ⟨by omega, by omega⟩, by omega, (by repeat' first | exact trivial | refine ⟨(by with_reducible rfl), ?_⟩ | refine ⟨w64 (by omega) (by omega), ?_⟩ | refine ⟨rfl, ?_⟩)⟩
  · exact ⟨k + 1, (c3, c4), ⟨hc, by omega, by omega⟩, by omega, (by repeat' first | exact trivial | refine ⟨(by with_reducible rfl), ?_⟩ | refine ⟨w64 (by omega) (by omega), ?_⟩ | refine ⟨rfl, ?_⟩)⟩
theorem ok_law07_ProbeExact : SpecOK Try.prog GL 5 ct_law07_ProbeExact.spec := Ct.ok' _ Try.func5 (by kernel_rfl) (withSpec_ok (withSpec_ok (withSpec_ok (withSpec_ok (withSpec_ok (withSpec_ok (withSpec_ok (withSpec_ok (withSpec_ok (withSpec_ok (withSpec_ok (withSpec_ok (withSpec_ok (withSpec_ok (withSpec_ok noSpecs_ok ok_law07_awake) ok_draw_New) ok_draw_Codes_Probe) ok_probe_Build) ok_ref07_Build) ok_probe_KeyOf) ok_ref07_KeyOf) ok_probe_Check) ok_ref07_Check) ok_ref04_Equal) ok_draw_Codes_Spoilt) ok_probe_Read) ok_ref07_Read) ok_probe_Key) ok_ref07_Key) hmix an_law07_ProbeExact (Eq.mpr (by kernel_rfl) vc_law07_ProbeExact)
end Go.RS

