/- SX, plain lemmas for what is to be shown of functions. -/
import Derived.Test.YtchnhaeknbgieaaGreatSx24
import Derived.Test.YtchnhaeknbgieaaGreatChecked
import Derived.Laws.Bits64
import Derived.Laws.Bits128
import Derived.Laws.BitsAllLaws
namespace Go.SX
set_option linter.unusedVariables false
theorem w64 {n : Int} (h : -9223372036854775808 ≤ n) (h' : n ≤ 9223372036854775807) : IntKind.i64.wrap n = n := IntWalk.i64_in n ⟨h, h'⟩
theorem wu32 {n : Int} (h : 0 ≤ n) (h' : n ≤ 4294967295) : IntKind.u32.wrap n = n := IntWalk.u32_in n ⟨h, h'⟩
theorem wu64 {n : Int} (h : 0 ≤ n) (h' : n ≤ 18446744073709551615) : IntKind.u64.wrap n = n := IntWalk.u64_in n ⟨h, h'⟩
theorem ifP_t {y n : Prop} : ifP true y n ↔ y := Iff.rfl
theorem ifP_f {y n : Prop} : ifP false y n ↔ n := Iff.rfl
theorem getD_mem {α : Type} [Inhabited α] {xs : List α} {i : Int} (h0 : 0 ≤ i) (h1 : i < xs.length) : xs.getD i.toNat default ∈ xs := by
  have h : i.toNat < xs.length := by omega
  rw [List.getD_eq_getElem?_getD, List.getElem?_eq_getElem h]; exact List.getElem_mem h
theorem tmod_lo {a b : Int} (ha : 0 ≤ a) : 0 ≤ a.tmod b := Int.tmod_nonneg b ha
theorem tmod_hi {a b : Int} (ha : 0 ≤ a) (hb : 0 < b) : a.tmod b < b := Int.tmod_lt_of_pos a hb
theorem ifP_split {b : Bool} {y n : Prop} (hy : b = true → y) (hn : b = false → n) : ifP b y n := ifP_iff.2 ⟨hy, hn⟩
theorem ru32 (n : Int) : 0 ≤ IntKind.u32.wrap n ∧ IntKind.u32.wrap n ≤ 4294967295 := IntKind.wrap_has .u32 n
theorem getD_all {α : Type} [Inhabited α] {p : α → Prop} {xs : List α} (h : ∀ x ∈ xs, p x) {i : Int} (h0 : 0 ≤ i) (h1 : i < xs.length) : p (xs.getD i.toNat default) := h _ (getD_mem h0 h1)
theorem nd_t {p : Prop} [Decidable p] (h : (!decide p) = true) : ¬ p := of_decide_eq_false (by simpa only [Bool.not_eq_true'] using h)
theorem nd_f {p : Prop} [Decidable p] (h : (!decide p) = false) : p := of_decide_eq_true (by simpa only [Bool.not_eq_false'] using h)
theorem ifP_or {a b : Bool} {y n : Prop} (hy : a = true ∨ b = true → y) (hn : a = false → b = false → n) : ifP (bif a then true else b) y n := by
  cases a with
  | true => exact hy (.inl rfl)
  | false => cases b with
    | true => exact hy (.inr rfl)
    | false => exact hn rfl rfl
theorem ifP_and {a b : Bool} {y n : Prop} (hy : a = true → b = true → y) (hn : a = false ∨ b = false → n) : ifP (bif a then b else false) y n := by
  cases a with
  | false => exact hn (.inl rfl)
  | true => cases b with
    | true => exact hy rfl rfl
    | false => exact hn (.inr rfl)
theorem getD_set {α : Type} [Inhabited α] {l : List α} {i : Nat} {a : α} (h : i < l.length) : (l.set i a).getD i default = a := by
  rw [List.getD_eq_getElem?_getD, List.getElem?_set_self h]; rfl
theorem findI_at {α : Type} [Inhabited α] {q : α → Bool} {l : List α} {j : Int} (h0 : 0 ≤ j) (h1 : j < l.length) (h2 : ∀ x ∈ l.take j.toNat, q x = false) (h3 : q (l.getD j.toNat default) = true) :
    j = if l.findIdx q < l.length then (l.findIdx q : Int) else -1 := by
  have hj : j.toNat < l.length := by omega
  rw [List.getD_eq_getElem?_getD, List.getElem?_eq_getElem hj, Option.getD_some] at h3
  have e : l.findIdx q = j.toNat := (List.findIdx_eq hj).2 ⟨h3, fun k hk => h2 _ (List.mem_take_iff_getElem.2 ⟨k, by omega, rfl⟩)⟩
  rw [e, if_pos hj]; omega
theorem findI_none {α : Type} [Inhabited α] {q : α → Bool} {l : List α} {j : Int} (h1 : ¬ j < l.length) (h2 : ∀ x ∈ l.take j.toNat, q x = false) :
    (-1 : Int) = if l.findIdx q < l.length then (l.findIdx q : Int) else -1 := by
  rw [List.take_of_length_le (by omega)] at h2
  rw [List.findIdx_eq_length_of_false h2, if_neg (Nat.lt_irrefl _)]
theorem all_next {α : Type} [Inhabited α] {P : α → Prop} {l : List α} {j : Int} (h0 : 0 ≤ j) (h1 : j < l.length) (h2 : ∀ x ∈ l.take j.toNat, P x) (h3 : P (l.getD j.toNat default)) :
    ∀ x ∈ l.take (j + 1).toNat, P x := by
  intro x hx
  have hj : j.toNat < l.length := by omega
  rw [show (j + 1).toNat = j.toNat + 1 by omega, List.take_add_one, List.getElem?_eq_getElem hj] at hx
  rw [List.getD_eq_getElem?_getD, List.getElem?_eq_getElem hj, Option.getD_some] at h3
  rcases List.mem_append.1 hx with hx | hx
  · exact h2 x hx
  · simp at hx; rw [hx]; exact h3
theorem take_next {α : Type} [Inhabited α] {l : List α} {k : Int} (h0 : 0 ≤ k) (h1 : k < l.length) : l.take (k + 1).toNat = l.take k.toNat ++ [l.getD k.toNat default] := by
  have e : (k + 1).toNat = k.toNat + 1 := by omega
  have hk : k.toNat < l.length := by omega
  rw [e, List.take_add_one, List.getElem?_eq_getElem hk, List.getD_eq_getElem?_getD, List.getElem?_eq_getElem hk]
  rfl
theorem bor_d {a b : Prop} [Decidable a] [Decidable b] : (bif decide a then true else decide b) = decide (a ∨ b) := by by_cases h : a <;> simp [h]
theorem band_d {a b : Prop} [Decidable a] [Decidable b] : (bif decide a then decide b else false) = decide (a ∧ b) := by by_cases h : a <;> simp [h]
theorem band_nd {a b : Prop} [Decidable a] [Decidable b] : (bif !decide a then decide b else false) = decide (¬ a ∧ b) := by by_cases h : a <;> simp [h]
theorem band_dn {a b : Prop} [Decidable a] [Decidable b] : (bif decide a then !decide b else false) = decide (a ∧ ¬ b) := by by_cases h : a <;> simp [h]
end Go.SX

/- Base: data types of the program's values. -/
namespace Go.RS
open Go.SX Go.Proofs
set_option maxRecDepth 100000
set_option linter.unusedVariables false
abbrev R64 (x : Int) : Prop := -9223372036854775808 ≤ x ∧ x ≤ 9223372036854775807

abbrev cBlock : CT := .pair (.pair (.int .u32) (.int .i64)) (.int .i64)
abbrev cBlocks : CT := .pair cBlock (.pair cBlock (.pair cBlock (.pair cBlock (.pair cBlock (.pair cBlock (.pair cBlock cBlock))))))
def blocksV : cBlocks.D := (((0, 8), 1), ((2130706432, 8), 2), ((167772160, 8), 3), ((2886729728, 12), 3), ((3232235520, 16), 3), ((2851995648, 16), 4), ((3758096384, 4), 5), ((4026531840, 4), 6))
def GL : Globs := (fun _ => none)

theorem hmix : Tryz.prog.follows .mixedOrders = true := Tryz.checked.mixed

abbrev cI : CT := .int .i64
abbrev cU8 : CT := .int .u8
abbrev cU32 : CT := .int .u32
abbrev cU64 : CT := .int .u64
abbrev cCodes : CT := .pair (.sl cU8) cI
abbrev cBucket : CT := .pair cI cI
abbrev cKey : CT := .pair cU32 (.pair cU32 (.pair cI (.pair cI cI)))

def okC (c : List Int × Int) : Prop := 0 ≤ c.2 ∧ c.2 ≤ c.1.length
end Go.RS


/- Draw: the choices of a law, with loose contracts: a number in its range. -/
namespace Go.RS
open Go.SX Go.Proofs
set_option maxRecDepth 100000
set_option linter.unusedVariables false

def ct_draw_New : Ct := ⟨[.val (.sl cU8), .val cI], [.box 62 cCodes], fun d => [0 ≤ d.2.1], fun d => (((if (d.1.length : Int) ≤ d.2.1 then d.1 else d.1.take d.2.1.toNat, 0), ()), ())⟩
def an_draw_New : PDs ct_draw_New.ps → Anns := (fun _ => {})
theorem vc_draw_New : ∀ (x : List Int) (x1 : Int), (x.length <= maxLen /\ ∀ (x2 : Int), x2 ∈ x -> 0 <= x2 /\ x2 <= 255) /\ R64 x1 /\ True -> 0 <= x1 -> ifP (decide (x1 < ↑x.length)) ((0 : Int) <= 0 /\ 0 <= x1 /\ x1 <= ↑x.length /\ (subL x (Int.toNat (0 : Int)) x1.toNat, (0 : Int)) = (if ↑x.length <= x1 then x else List.take x1.toNat x, (0 : Int))) ((x, (0 : Int)) = (if ↑x.length <= x1 then x else List.take x1.toNat x, (0 : Int))) := by
  rintro x y ⟨-, ⟨h0, h1⟩, -⟩ h
  refine ifP_split (fun hb => ?_) (fun hb => ?_)
  · have hb := of_decide_eq_true hb
    refine ⟨by omega, h, by omega, ?_⟩
    rw [if_neg (by omega)]
    simp [subL]
  · have hb := of_decide_eq_false hb
    rw [if_pos (by omega)]
theorem ok_draw_New : SpecOK Tryz.prog GL 5 ct_draw_New.spec := Ct.okH _ Tryz.func5 (by kernel_rfl) noSpecs_ok hmix an_draw_New (hideMp (by kernel_rfl) vc_draw_New)

def ct_Next256 : Cn := ⟨[.box 62 cCodes, .val cI], [.val cI], fun d => [okC d.1, d.2.1 ≤ 256], fun d y => 0 ≤ y.1.1 ∧ (y.1.1 < d.2.1 ∨ y.1.1 = 0) ∧ okC y.2.1, fun d h => ⟨((0, ()), (d.1, ())), by simp, by simp, h.1⟩⟩
def an_Next256 : PDs ct_Next256.ps → Anns := (fun _ => {})
theorem vc_Next256 : ∀ (x : List Int) (x1 x2 : Int), ((x.length <= maxLen /\ ∀ (x3 : Int), x3 ∈ x -> 0 <= x3 /\ x3 <= 255) /\ R64 x1) /\ R64 x2 /\ True -> okC (x, x1) /\ x2 <= 256 -> ∀ (b : Bool), b = decide (x.length <= x1) -> ((!b) -> ((!b) -> (!b)) /\ True) /\ (b = false -> (!b)) /\ ifP (bif b then true else decide (x2 < 1)) ((0 : Int) <= 0 /\ (0 < x2 ∨ (0 : Int) = 0) /\ okC (x, x1)) (0 <= x1 /\ x1 < ↑x.length /\ ifP (decide (256 < x2)) False (x2 ≠ (0 : Int) /\ 0 <= Int.tmod (IntKind.wrap .i64 (x.getD x1.toNat default)) x2 /\ (Int.tmod (IntKind.wrap .i64 (x.getD x1.toNat default)) x2 < x2 ∨ Int.tmod (IntKind.wrap .i64 (x.getD x1.toNat default)) x2 = 0) /\ okC (x, IntKind.wrap .i64 (x1 + (1 : Int))))) := by
  rintro l p n ⟨⟨⟨hl, hw⟩, h0, h1⟩, ⟨h2, h3⟩, -⟩ ⟨⟨hc1, hc2⟩, hn⟩
  simp only [maxLen] at hl hc1 hc2
  (repeat (intro (b_ : Bool) (hb_ : b_ = _); (repeat refine ⟨(by first | (simp; done) | (rw [hb_]; simp; done) | (rw [hb_]; simp; omega) | (rw [hb_]; simp; intros; omega) | (rw [hb_]; simp +contextual; done)), ?_⟩); subst hb_))
  refine ifP_split (fun hb => ?_) (fun hb => ?_)
  · exact ⟨by omega, by simp, hc1, hc2⟩
  · simp at hb
    obtain ⟨hb1, hb2⟩ := hb
    obtain ⟨hm0, hm1⟩ := hw _ (getD_mem hc1 hb1)
    rw [w64 (by omega) (by omega), w64 (by omega) (by omega)]
    refine ⟨hc1, hb1, ifP_split (fun hb => ?_) (fun hb => ?_)⟩
    · have := of_decide_eq_true hb; omega
    · exact ⟨by omega, tmod_lo hm0, .inl (tmod_hi hm0 (by omega)), by simp only [okC]; omega⟩
theorem ok_Next256 : SpecOK Tryz.prog GL 7 ct_Next256.spec := Cn.okH _ Tryz.func7 (by kernel_rfl) noSpecs_ok hmix an_Next256 (hideMp (by kernel_rfl) vc_Next256)

def ct_Next : Cn := ⟨[.box 62 cCodes, .val cI], [.val cI], fun d => [okC d.1], fun d y => 0 ≤ y.1.1 ∧ (y.1.1 < d.2.1 ∨ y.1.1 = 0) ∧ okC y.2.1, fun d h => ⟨((0, ()), (d.1, ())), by simp, by simp, h.1⟩⟩
def an_Next : PDs ct_Next.ps → Anns := (fun _ => {})
theorem vc_Next : ∀ (x : List Int) (x1 x2 : Int), ((x.length <= maxLen /\ ∀ (x3 : Int), x3 ∈ x -> 0 <= x3 /\ x3 <= 255) /\ R64 x1) /\ R64 x2 /\ True -> 0 <= x1 /\ x1 <= ↑x.length -> ∀ (b : Bool), b = decide (x.length <= x1) -> ((!b) -> ((!b) -> (!b)) /\ True) /\ (b = false -> (!b)) /\ ifP (bif b then true else decide (x2 < 1)) ((0 : Int) <= 0 /\ (0 < x2 ∨ (0 : Int) = 0) /\ okC (x, x1)) (0 <= x1 /\ x1 < ↑x.length /\ ifP (decide (256 < x2)) (okC (x, IntKind.wrap .i64 (x1 + (1 : Int))) /\ (256 : Int) <= 256 /\ ∀ (x3 : Int) (x4 : List Int) (x5 : Int), 0 <= x3 /\ (x3 < 256 ∨ x3 = 0) /\ okC (x4, x5) -> x2 ≠ (0 : Int) /\ 0 <= Int.tmod (IntKind.wrap .i64 (IntKind.wrap .i64 ((256 : Int) * IntKind.wrap .i64 (x.getD x1.toNat default)) + x3)) x2 /\ (Int.tmod (IntKind.wrap .i64 (IntKind.wrap .i64 ((256 : Int) * IntKind.wrap .i64 (x.getD x1.toNat default)) + x3)) x2 < x2 ∨ Int.tmod (IntKind.wrap .i64
 (IntKind.wrap .i64 ((256 : Int) * IntKind.wrap .i64 (x.getD x1.toNat default)) + x3)) x2 = 0) /\ okC (x4, x5)) (x2 ≠ (0 : Int) /\ 0 <= Int.tmod (IntKind.wrap .i64 (x.getD x1.toNat default)) x2 /\ (Int.tmod (IntKind.wrap .i64 (x.getD x1.toNat default)) x2 < x2 ∨ Int.tmod (IntKind.wrap .i64 (x.getD x1.toNat default)) x2 = 0) /\ okC (x, IntKind.wrap .i64 (x1 + (1 : Int))))) := by
  rintro l p n ⟨⟨⟨hl, hw⟩, h0, h1⟩, ⟨h2, h3⟩, -⟩ ⟨hc1, hc2⟩
  simp only [maxLen] at hl hc1 hc2
  (repeat (intro (b_ : Bool) (hb_ : b_ = _); (repeat refine ⟨(by first | (simp; done) | (rw [hb_]; simp; done) | (rw [hb_]; simp; omega) | (rw [hb_]; simp; intros; omega) | (rw [hb_]; simp +contextual; done)), ?_⟩); subst hb_))
  refine ifP_split (fun hb => ?_) (fun hb => ?_)
  · exact ⟨by omega, by simp, hc1, hc2⟩
  · simp at hb
    obtain ⟨hb1, hb2⟩ := hb
    obtain ⟨hm0, hm1⟩ := hw _ (getD_mem hc1 hb1)
    rw [w64 (by omega) (by omega), w64 (n := l.getD p.toNat default) (by omega) (by omega)]
    refine ⟨hc1, hb1, ifP_split (fun hb => ?_) (fun hb => ?_)⟩
    · refine ⟨by simp only [okC]; omega, by omega, ?_⟩
      rintro r l2 p2 ⟨hr0, hr1, hr2⟩
      rw [w64 (n := 256 * _) (by omega) (by omega), w64 (by omega) (by omega)]
      exact ⟨by omega, tmod_lo (by omega), .inl (tmod_hi (by omega) (by omega)), hr2⟩
    · exact ⟨by omega, tmod_lo hm0, .inl (tmod_hi hm0 (by omega)), by simp only [okC]; omega⟩
theorem ok_Next : SpecOK Tryz.prog GL 7 ct_Next.spec := Cn.okH _ Tryz.func7 (by kernel_rfl) (withSpec_ok noSpecs_ok ok_Next256) hmix an_Next (hideMp (by kernel_rfl) vc_Next)

end Go.RS


/- Mix: the mixing of 64 bits: what it is, and that it is one to one. -/
namespace Go.RS
open Go.SX
set_option linter.unusedVariables false

def xs (k a : Nat) : Nat := a ^^^ a / 2 ^ k
def mu (c a : Nat) : Nat := a * c % 18446744073709551616
def mixN (x : Nat) : Nat := xs 31 (mu 10723151780598845931 (xs 27 (mu 13787848793156543929 (xs 30 ((x + 11400714819323198485) % 18446744073709551616)))))
def mix (x : Int) : Int := (mixN x.toNat : Int)

theorem xs_lt {k a : Nat} (ha : a < 18446744073709551616) : xs k a < 18446744073709551616 := by
  have h1 : a < 2 ^ 64 := by omega
  have h2 : a / 2 ^ k < 2 ^ 64 := Nat.lt_of_le_of_lt (Nat.div_le_self _ _) h1
  have h3 : a ^^^ a / 2 ^ k < 2 ^ 64 := Nat.xor_lt_two_pow h1 h2
  unfold xs
  omega
theorem mu_lt {c a : Nat} : mu c a < 18446744073709551616 := by unfold mu; omega
theorem mixN_lt (x : Nat) : mixN x < 18446744073709551616 := by
  unfold mixN
  exact xs_lt mu_lt

theorem mix_lt (x : Int) : 0 ≤ mix x ∧ mix x ≤ 18446744073709551615 := by
  have := mixN_lt x.toNat
  unfold mix
  omega
theorem wrap_u64_nat (n : Nat) : IntKind.u64.wrap (n : Int) = ((n % 18446744073709551616 : Nat) : Int) := by
  rw [IntKind.wrap_u64, Int.natCast_emod]
  rfl
theorem shr_u64_nat (n k : Nat) (hk : k ≤ 64) : shrI .u64 (n : Int) (k : Int) = ((n / 2 ^ k : Nat) : Int) := by
  unfold shrI
  have : min (k : Int).toNat IntKind.u64.bits = k := by simp only [IntKind.bits, Int.toNat_natCast]; omega
  rw [this, Int.fdiv_eq_ediv_of_nonneg _ (Int.le_of_lt (Int.pow_pos (by decide))), Int.natCast_ediv, Int.natCast_pow]
  rfl
theorem xs_u64 (n k : Nat) (hk : k ≤ 64) (hn : n < 18446744073709551616) : bits .xor .u64 (n : Int) (shrI .u64 (n : Int) (k : Int)) = (xs k n : Int) := by
  rw [shr_u64_nat n k hk]
  exact bits_xor_u64_nat _ _ hn (Nat.lt_of_le_of_lt (Nat.div_le_self _ _) hn)
theorem mu_u64 (n c : Nat) : IntKind.u64.wrap ((n : Int) * (c : Int)) = (mu c n : Int) := by
  rw [← Int.natCast_mul, wrap_u64_nat]; rfl
end Go.RS


/- Balance: mixing, hashing, choosing; the law's draws. -/
namespace Go.RS
open Go.SX Go.Proofs
set_option maxRecDepth 100000
set_option linter.unusedVariables false


def ct_draw_Codes_Address : Cn := ⟨[.box 62 cCodes], [.val cU32], fun d => [okC d.1], fun d y => okC y.2.1 ∧ 0 ≤ y.1.1 ∧ y.1.1 ≤ 4294967295, fun d h => ⟨((0, ()), (d.1, ())), h.1, by simp, by simp⟩⟩
def an_draw_Codes_Address : PDs ct_draw_Codes_Address.ps → Anns := (fun _ => {})
theorem vc_draw_Codes_Address : ∀ (x : List Int) (x1 : Int), ((x.length <= maxLen /\ ∀ (x2 : Int), x2 ∈ x -> 0 <= x2 /\ x2 <= 255) /\ R64 x1) /\ True -> 0 <= x1 /\ x1 <= ↑x.length -> okC (x, x1) /\ ∀ (x : Int) (x2 : List Int) (x3 : Int), 0 <= x /\ (x < 12 ∨ x = 0) /\ okC (x2, x3) -> ifP (decide (x = 11)) (okC (x2, x3) /\ ∀ (x : Int) (x4 : List Int) (x5 : Int), 0 <= x /\ (x < 65536 ∨ x = 0) /\ okC (x4, x5) -> (0 : Int) <= 16 /\ okC (x4, x5) /\ ∀ (x6 : Int) (x7 : List Int) (x8 : Int), 0 <= x6 /\ (x6 < 65536 ∨ x6 = 0) /\ okC (x7, x8) -> okC (x7, x8) /\ 0 <= IntKind.wrap .u32 (IntKind.wrap .i64 (shlI IntKind.i64 x (16 : Int) + x6)) /\ IntKind.wrap .u32 (IntKind.wrap .i64 (shlI IntKind.i64 x (16 : Int) + x6)) <= 4294967295) (okC (x2, x3) /\ ∀ (x : Int) (x4 : List Int) (x5 : Int), 0 <= x /\ (x < 3 ∨ x = 0) /\ okC (x4, x5) -> (0 : Int) <= 16 /\ okC (x4, x5) /\ ∀ (x6 : Int) (x7 : List Int) (x8 :
 Int), 0 <= x6 /\ (x6 < 8 ∨ x6 = 0) /\ okC (x7, x8) -> okC (x7, x8) /\ 0 <= IntKind.wrap .u32 (IntKind.wrap .i64 (IntKind.wrap .i64 ((167772160 : Int) + shlI IntKind.i64 x (16 : Int)) + x6)) /\ IntKind.wrap .u32 (IntKind.wrap .i64 (IntKind.wrap .i64 ((167772160 : Int) + shlI IntKind.i64 x (16 : Int)) + x6)) <= 4294967295) := by
  rintro l p - h
  refine ⟨h, ?_⟩
  rintro r l2 p2 ⟨h1, h2, h3⟩
  refine ifP_split (fun hb => ⟨h3, ?_⟩) (fun hb => ⟨h3, ?_⟩)
  · rintro a l4 p4 ⟨h4, h5, h6⟩
    refine ⟨by omega, h6, ?_⟩
    rintro a l4 p4 ⟨h4, h5, h6⟩
    exact ⟨h6, ru32 _⟩
  · rintro a l4 p4 ⟨h4, h5, h6⟩
    refine ⟨by omega, h6, ?_⟩
    rintro a l4 p4 ⟨h4, h5, h6⟩
    exact ⟨h6, ru32 _⟩
theorem ok_draw_Codes_Address : SpecOK Tryz.prog GL 47 ct_draw_Codes_Address.spec := Cn.okH _ Tryz.func47 (by kernel_rfl) (withSpec_ok noSpecs_ok ok_Next) hmix an_draw_Codes_Address (hideMp (by kernel_rfl) vc_draw_Codes_Address)

def ct_draw_Codes_Proto : Cn := ⟨[.box 62 cCodes], [.val cI], fun d => [okC d.1], fun d y => okC y.2.1 ∧ (y.1.1 = 17 ∨ y.1.1 = 1 ∨ y.1.1 = 6), fun d h => ⟨((1, ()), (d.1, ())), h.1, by simp⟩⟩
def an_draw_Codes_Proto : PDs ct_draw_Codes_Proto.ps → Anns := (fun _ => {})
theorem vc_draw_Codes_Proto : ∀ (x : List Int) (x1 : Int), ((x.length <= maxLen /\ ∀ (x2 : Int), x2 ∈ x -> 0 <= x2 /\ x2 <= 255) /\ R64 x1) /\ True -> 0 <= x1 /\ x1 <= ↑x.length -> okC (x, x1) /\ ∀ (x : Int) (x2 : List Int) (x3 : Int), 0 <= x /\ (x < 3 ∨ x = 0) /\ okC (x2, x3) -> 0 <= x /\ x < ↑(List.length [(17 : Int), (1 : Int), (6 : Int)]) /\ okC (x2, x3) /\ (List.getD [(17 : Int), (1 : Int), (6 : Int)] x.toNat default = 17 ∨ List.getD [(17 : Int), (1 : Int), (6 : Int)] x.toNat default = 1 ∨ List.getD [(17 : Int), (1 : Int), (6 : Int)] x.toNat default = 6) := by
  rintro l p - h
  refine ⟨h, ?_⟩
  rintro r l2 p2 ⟨h1, h2, h3⟩
  refine ⟨h1, by simp; omega, h3, ?_⟩
  exact getD_all (p := fun v => v = 17 ∨ v = 1 ∨ v = 6) (by simp) h1 (by simp; omega)
theorem ok_draw_Codes_Proto : SpecOK Tryz.prog GL 33 ct_draw_Codes_Proto.spec := Cn.okH _ Tryz.func33 (by kernel_rfl) (withSpec_ok noSpecs_ok ok_Next) hmix an_draw_Codes_Proto (hideMp (by kernel_rfl) vc_draw_Codes_Proto)
def ct_balance_Mix : Ct := ⟨[.val cU64], [.val cU64], fun _ => [], fun d => ((mix d.1, ()), ())⟩
def an_balance_Mix : PDs ct_balance_Mix.ps → Anns := (fun _ => {})
theorem vc_balance_Mix : ∀ (x : Int), (0 <= x /\ x <= 18446744073709551615) /\ True -> True -> (0 : Int) <= 30 /\ (0 : Int) <= 27 /\ (0 : Int) <= 31 /\ bits BinOp.xor IntKind.u64 (IntKind.wrap .u64 (bits BinOp.xor IntKind.u64 (IntKind.wrap .u64 (bits BinOp.xor IntKind.u64 (IntKind.wrap .u64 (x + (11400714819323198485 : Int))) (shrI IntKind.u64 (IntKind.wrap .u64 (x + (11400714819323198485 : Int))) (30 : Int)) * (13787848793156543929 : Int))) (shrI IntKind.u64 (IntKind.wrap .u64 (bits BinOp.xor IntKind.u64 (IntKind.wrap .u64 (x + (11400714819323198485 : Int))) (shrI IntKind.u64 (IntKind.wrap .u64 (x + (11400714819323198485 : Int))) (30 : Int)) * (13787848793156543929 : Int))) (27 : Int)) * (10723151780598845931 : Int))) (shrI IntKind.u64 (IntKind.wrap .u64 (bits BinOp.xor IntKind.u64 (IntKind.wrap .u64 (bits BinOp.xor IntKind.u64 (IntKind.wrap .u64 (x + (11400714819323198485 : Int))) (shrI
 IntKind.u64 (IntKind.wrap .u64 (x + (11400714819323198485 : Int))) (30 : Int)) * (13787848793156543929 : Int))) (shrI IntKind.u64 (IntKind.wrap .u64 (bits BinOp.xor IntKind.u64 (IntKind.wrap .u64 (x + (11400714819323198485 : Int))) (shrI IntKind.u64 (IntKind.wrap .u64 (x + (11400714819323198485 : Int))) (30 : Int)) * (13787848793156543929 : Int))) (27 : Int)) * (10723151780598845931 : Int))) (31 : Int)) = mix x := by
  rintro x ⟨⟨h0, h1⟩, -⟩ -
  refine ⟨by decide, by decide, by decide, ?_⟩
  have h0 : 0 ≤ x := h0
  obtain ⟨n, rfl⟩ := Int.eq_ofNat_of_zero_le h0
  have e0 : IntKind.u64.wrap ((n : Int) + 11400714819323198485) = (((n + 11400714819323198485) % 18446744073709551616 : Nat) : Int) := wrap_u64_nat (n + 11400714819323198485)
  have hm : (n + 11400714819323198485) % 18446744073709551616 < 18446744073709551616 := by omega
  have e1 := xs_u64 _ 30 (by decide) hm
  have e2 := mu_u64 (xs 30 ((n + 11400714819323198485) % 18446744073709551616)) 13787848793156543929
  have e3 := xs_u64 _ 27 (by decide) (mu_lt (c := 13787848793156543929) (a := xs 30 ((n + 11400714819323198485) % 18446744073709551616)))
  have e4 := mu_u64 (xs 27 (mu 13787848793156543929 (xs 30 ((n + 11400714819323198485) % 18446744073709551616)))) 10723151780598845931
  have e5 := xs_u64 _ 31 (by decide) (mu_lt (c := 10723151780598845931) (a := xs 27 (mu 13787848793156543929 (xs 30 ((n + 11400714819323198485) % 18446744073709551616)))))
  have c1 : ((30 : Nat) : Int) = 30 := rfl
  have c2 : ((27 : Nat) : Int) = 27 := rfl
  have c3 : ((31 : Nat) : Int) = 31 := rfl
  have c4 : ((13787848793156543929 : Nat) : Int) = 13787848793156543929 := rfl
  have c5 : ((10723151780598845931 : Nat) : Int) = 10723151780598845931 := rfl
  rw [c1] at e1
  rw [c4] at e2
  rw [c2] at e3
  rw [c5] at e4
  rw [c3] at e5
  rw [e0, e1, e2, e3, e4, e5]
  unfold mix mixN
  rw [Int.toNat_natCast]
theorem ok_balance_Mix : SpecOK Tryz.prog GL 113 ct_balance_Mix.spec := Ct.okH _ Tryz.func113 (by kernel_rfl) noSpecs_ok hmix an_balance_Mix (hideMp (by kernel_rfl) vc_balance_Mix)

def ct_ref10_Mix : Ct := ⟨[.val cU64], [.val cU64], fun _ => [], fun d => ((mix d.1, ()), ())⟩
def an_ref10_Mix : PDs ct_ref10_Mix.ps → Anns := (fun _ => {})
theorem vc_ref10_Mix : ∀ (x : Int), (0 <= x /\ x <= 18446744073709551615) /\ True -> True -> (0 : Int) <= 30 /\ (0 : Int) <= 27 /\ (0 : Int) <= 31 /\ bits BinOp.xor IntKind.u64 (IntKind.wrap .u64 (bits BinOp.xor IntKind.u64 (IntKind.wrap .u64 (bits BinOp.xor IntKind.u64 (IntKind.wrap .u64 (x + (11400714819323198485 : Int))) (shrI IntKind.u64 (IntKind.wrap .u64 (x + (11400714819323198485 : Int))) (30 : Int)) * (13787848793156543929 : Int))) (shrI IntKind.u64 (IntKind.wrap .u64 (bits BinOp.xor IntKind.u64 (IntKind.wrap .u64 (x + (11400714819323198485 : Int))) (shrI IntKind.u64 (IntKind.wrap .u64 (x + (11400714819323198485 : Int))) (30 : Int)) * (13787848793156543929 : Int))) (27 : Int)) * (10723151780598845931 : Int))) (shrI IntKind.u64 (IntKind.wrap .u64 (bits BinOp.xor IntKind.u64 (IntKind.wrap .u64 (bits BinOp.xor IntKind.u64 (IntKind.wrap .u64 (x + (11400714819323198485 : Int))) (shrI
 IntKind.u64 (IntKind.wrap .u64 (x + (11400714819323198485 : Int))) (30 : Int)) * (13787848793156543929 : Int))) (shrI IntKind.u64 (IntKind.wrap .u64 (bits BinOp.xor IntKind.u64 (IntKind.wrap .u64 (x + (11400714819323198485 : Int))) (shrI IntKind.u64 (IntKind.wrap .u64 (x + (11400714819323198485 : Int))) (30 : Int)) * (13787848793156543929 : Int))) (27 : Int)) * (10723151780598845931 : Int))) (31 : Int)) = mix x := by
  rintro x ⟨⟨h0, h1⟩, -⟩ -
  refine ⟨by decide, by decide, by decide, ?_⟩
  have h0 : 0 ≤ x := h0
  obtain ⟨n, rfl⟩ := Int.eq_ofNat_of_zero_le h0
  have e0 : IntKind.u64.wrap ((n : Int) + 11400714819323198485) = (((n + 11400714819323198485) % 18446744073709551616 : Nat) : Int) := wrap_u64_nat (n + 11400714819323198485)
  have hm : (n + 11400714819323198485) % 18446744073709551616 < 18446744073709551616 := by omega
  have e1 := xs_u64 _ 30 (by decide) hm
  have e2 := mu_u64 (xs 30 ((n + 11400714819323198485) % 18446744073709551616)) 13787848793156543929
  have e3 := xs_u64 _ 27 (by decide) (mu_lt (c := 13787848793156543929) (a := xs 30 ((n + 11400714819323198485) % 18446744073709551616)))
  have e4 := mu_u64 (xs 27 (mu 13787848793156543929 (xs 30 ((n + 11400714819323198485) % 18446744073709551616)))) 10723151780598845931
  have e5 := xs_u64 _ 31 (by decide) (mu_lt (c := 10723151780598845931) (a := xs 27 (mu 13787848793156543929 (xs 30 ((n + 11400714819323198485) % 18446744073709551616)))))
  have c1 : ((30 : Nat) : Int) = 30 := rfl
  have c2 : ((27 : Nat) : Int) = 27 := rfl
  have c3 : ((31 : Nat) : Int) = 31 := rfl
  have c4 : ((13787848793156543929 : Nat) : Int) = 13787848793156543929 := rfl
  have c5 : ((10723151780598845931 : Nat) : Int) = 10723151780598845931 := rfl
  rw [c1] at e1
  rw [c4] at e2
  rw [c2] at e3
  rw [c5] at e4
  rw [c3] at e5
  rw [e0, e1, e2, e3, e4, e5]
  unfold mix mixN
  rw [Int.toNat_natCast]
theorem ok_ref10_Mix : SpecOK Tryz.prog GL 132 ct_ref10_Mix.spec := Ct.okH _ Tryz.func132 (by kernel_rfl) noSpecs_ok hmix an_ref10_Mix (hideMp (by kernel_rfl) vc_ref10_Mix)

abbrev Key : Type := Int × Int × Int × Int × Int
def hstep (h x : Int) : Int := mix (bits .xor .u64 h (IntKind.wrap .u64 x))
def hash (seed : Int) (k : Key) : Int := hstep (hstep (hstep (hstep (hstep (mix (IntKind.wrap .u64 seed)) k.1) k.2.1) k.2.2.1) k.2.2.2.1) k.2.2.2.2
def ct_ref10_Hash : Ct := ⟨[.val cI, .agg cKey], [.val cU64], fun _ => [], fun d => ((hash d.1 d.2.1, ()), ())⟩
def an_ref10_Hash : PDs ct_ref10_Hash.ps → Anns := (fun _ => {})
theorem vc_ref10_Hash : ∀ (x x_1 x_2 x_3 x_4 x_5 : Int), R64 x /\ ((0 <= x_1 /\ x_1 <= 4294967295) /\ (0 <= x_2 /\ x_2 <= 4294967295) /\ R64 x_3 /\ R64 x_4 /\ R64 x_5) /\ True -> True -> mix (bits BinOp.xor IntKind.u64 (mix (bits BinOp.xor IntKind.u64 (mix (bits BinOp.xor IntKind.u64 (mix (bits BinOp.xor IntKind.u64 (mix (bits BinOp.xor IntKind.u64 (mix (IntKind.wrap .u64 x)) (IntKind.wrap .u64 x_1))) (IntKind.wrap .u64 x_2))) (IntKind.wrap .u64 x_3))) (IntKind.wrap .u64 x_4))) (IntKind.wrap .u64 x_5)) = hash x (x_1, x_2, x_3, x_4, x_5) := by
  rintro x a b c e f - -
  rfl
theorem ok_ref10_Hash : SpecOK Tryz.prog GL 114 ct_ref10_Hash.spec := Ct.okH _ Tryz.func114 (by kernel_rfl) (withSpec_ok noSpecs_ok ok_ref10_Mix) hmix an_ref10_Hash (hideMp (by kernel_rfl) vc_ref10_Hash)
theorem hash_range (s : Int) (k : Key) : 0 ≤ hash s k ∧ hash s k ≤ 18446744073709551615 := mix_lt _
def hashAt (seed : Int) (k : Key) (j : Int) : Int := ([k.1, k.2.1, k.2.2.1, k.2.2.2.1, k.2.2.2.2].take j.toNat).foldl hstep (mix (IntKind.wrap .u64 seed))
def ct_balance_Hash : Ct := ⟨[.val cI, .agg cKey], [.val cU64], fun _ => [], fun d => ((hash d.1 d.2.1, ()), ())⟩
def an_balance_Hash : PDs ct_balance_Hash.ps → Anns := (fun d => { loops := (fun n => match n with | 3 => some (fun S => { ι := Int × Int, qn := ⟨fun k_ => ∀ (j : Int) (h : Int), k_ (j, h), fun k_ h_ i => h_ i.1 i.2, fun k_ => ∃ (j : Int) (h : Int), k_ (j, h), fun k_ ⟨j, h, h_⟩ => ⟨_, h_⟩⟩, μ := fun i => (5 - i.1).toNat, inv := fun i => 0 ≤ i.1 ∧ i.1 ≤ 5 ∧ i.2 = hashAt d.1 d.2.1 i.1, keep := [23], slots := fun i => [(5, .int .u64 i.2), (24, .int .i64 i.1)], names := fun i => [] }) | _ => none) })
theorem vc_balance_Hash : ∀ (x x_1 x_2 x_3 x_4 x_5 : Int), R64 x /\ ((0 <= x_1 /\ x_1 <= 4294967295) /\ (0 <= x_2 /\ x_2 <= 4294967295) /\ R64 x_3 /\ R64 x_4 /\ R64 x_5) /\ True -> True -> (∃ j h, (0 <= j /\ j <= 5 /\ h = hashAt x (x_1, x_2, x_3, x_4, x_5) j) /\ mix (IntKind.wrap .u64 x) = h /\ IntKind.wrap .i64 x_1 = IntKind.wrap .i64 x_1 /\ IntKind.wrap .i64 x_2 = IntKind.wrap .i64 x_2 /\ x_3 = x_3 /\ x_4 = x_4 /\ x_5 = x_5 /\ (0 : Int) = j /\ True) /\ ∀ (j h : Int), 0 <= j /\ j <= 5 /\ h = hashAt x (x_1, x_2, x_3, x_4, x_5) j -> ifP (decide (j < 5)) (0 <= j /\ j < ↑(5 : Nat) /\ ∃ j_1 h_1, (0 <= j_1 /\ j_1 <= 5 /\ h_1 = hashAt x (x_1, x_2, x_3, x_4, x_5) j_1) /\ Int.toNat ((5 : Int) - j_1) < Int.toNat ((5 : Int) - j) /\ mix (bits BinOp.xor IntKind.u64 h (IntKind.wrap .u64 (pickI [IntKind.wrap .i64 x_1, IntKind.wrap .i64 x_2, x_3, x_4, x_5] j.toNat))) = h_1 /\ IntKind.wrap .i64 x_1 =
 IntKind.wrap .i64 x_1 /\ IntKind.wrap .i64 x_2 = IntKind.wrap .i64 x_2 /\ x_3 = x_3 /\ x_4 = x_4 /\ x_5 = x_5 /\ IntKind.wrap .i64 (j + (1 : Int)) = j_1 /\ True) (h = hash x (x_1, x_2, x_3, x_4, x_5)) := by
  rintro x a b c e f ⟨-, ⟨⟨a0, a1⟩, ⟨b0, b1⟩, ⟨c0, c1⟩, ⟨e0, e1⟩, f0, f1⟩, -⟩ -
  refine ⟨⟨0, _, ⟨by omega, by omega, rfl⟩, (by repeat' first | exact trivial | refine ⟨trivial, ?_⟩ | refine ⟨(by with_reducible rfl), ?_⟩ | refine ⟨w64 (by omega) (by omega), ?_⟩ | refine ⟨rfl, ?_⟩)⟩, ?_⟩
  rintro j h ⟨h0, h1, rfl⟩
  refine ifP_split (fun hj => ?_) (fun hj => ?_)
  · have hj := of_decide_eq_true hj
    refine ⟨h0, by omega, j + 1, hashAt x (a, b, c, e, f) (j + 1), ⟨by omega, by omega, rfl⟩, by omega, ?_, rfl, rfl, rfl, rfl, rfl, w64 (by omega) (by omega), trivial⟩
    rw [w64 (n := a) (by omega) (by omega), w64 (n := b) (by omega) (by omega)]
    have : j = 0 ∨ j = 1 ∨ j = 2 ∨ j = 3 ∨ j = 4 := by omega
    rcases this with rfl | rfl | rfl | rfl | rfl <;> rfl
  · have hj := of_decide_eq_false hj
    have : j = 5 := by omega
    subst this
    rfl
theorem ok_balance_Hash : SpecOK Tryz.prog GL 79 ct_balance_Hash.spec := Ct.okH _ Tryz.func79 (by kernel_rfl) (withSpec_ok noSpecs_ok ok_balance_Mix) hmix an_balance_Hash (hideMp (by kernel_rfl) vc_balance_Hash)
def choose (way seed : Int) (k : Key) (count n : Int) : Int × Int :=
  if n < 1 ∨ 16 < n ∨ count < 0 ∨ way < 1 ∨ 3 < way then (0, 1) else
    (if way = 1 then (hash seed k).tmod n else if way = 2 then (hash seed (k.1, k.2.1, 0, 0, 0)).tmod n else count.tmod n, 0)
def ct_balance_Choose : Ct := ⟨[.val cI, .val cI, .agg cKey, .val cI, .val cI], [.val cI, .val cI], fun _ => [], fun d => (((choose d.1 d.2.1 d.2.2.1 d.2.2.2.1 d.2.2.2.2.1).1, (choose d.1 d.2.1 d.2.2.1 d.2.2.2.1 d.2.2.2.2.1).2, ()), ())⟩
def an_balance_Choose : PDs ct_balance_Choose.ps → Anns := (fun _ => {})
theorem vc_balance_Choose : ∀ (x x_1 x_2 x_3 x_4 x_5 x_6 x_7 x_8 : Int), R64 x /\ R64 x_1 /\ ((0 <= x_2 /\ x_2 <= 4294967295) /\ (0 <= x_3 /\ x_3 <= 4294967295) /\ R64 x_4 /\ R64 x_5 /\ R64 x_6) /\ R64 x_7 /\ R64 x_8 /\ True -> True -> ∀ (b : Bool), b = decide (x_8 < 1) -> ((!b) -> ((!b) -> (!b)) /\ True) /\ (b = false -> (!b)) /\ ∀ (b_1 : Bool), (b_1 = bif b then true else decide (16 < x_8)) -> ((!b_1) -> ((!b_1) -> (!b_1)) /\ True) /\ (b_1 = false -> (!b_1)) /\ ifP (bif b_1 then true else decide (x_7 < 0)) ((0 : Int) = (choose x x_1 (x_2, x_3, x_4, x_5, x_6) x_7 x_8).1 /\ (1 : Int) = (choose x x_1 (x_2, x_3, x_4, x_5, x_6) x_7 x_8).2) (ifP (decide (x = 1)) (IntKind.wrap .u64 x_8 ≠ (0 : Int) /\ IntKind.wrap .i64 (Int.tmod (hash x_1 (x_2, x_3, x_4, x_5, x_6)) (IntKind.wrap .u64 x_8)) = (choose x x_1 (x_2, x_3, x_4, x_5, x_6) x_7 x_8).1 /\ (0 : Int) = (choose x x_1 (x_2, x_3, x_4, x_5,
 x_6) x_7 x_8).2) (ifP (decide (x = 2)) (IntKind.wrap .u64 x_8 ≠ (0 : Int) /\ IntKind.wrap .i64 (Int.tmod (hash x_1 (x_2, x_3, (0 : Int), (0 : Int), (0 : Int))) (IntKind.wrap .u64 x_8)) = (choose x x_1 (x_2, x_3, x_4, x_5, x_6) x_7 x_8).1 /\ (0 : Int) = (choose x x_1 (x_2, x_3, x_4, x_5, x_6) x_7 x_8).2) (ifP (decide (x = 3)) (IntKind.wrap .u64 x_8 ≠ (0 : Int) /\ IntKind.wrap .i64 (Int.tmod (IntKind.wrap .u64 x_7) (IntKind.wrap .u64 x_8)) = (choose x x_1 (x_2, x_3, x_4, x_5, x_6) x_7 x_8).1 /\ (0 : Int) = (choose x x_1 (x_2, x_3, x_4, x_5, x_6) x_7 x_8).2) ((0 : Int) = (choose x x_1 (x_2, x_3, x_4, x_5, x_6) x_7 x_8).1 /\ (1 : Int) = (choose x x_1 (x_2, x_3, x_4, x_5, x_6) x_7 x_8).2)))) := by
  rintro x s a b c e f cnt n ⟨-, -, -, ⟨c0, c1⟩, ⟨n0, n1⟩, -⟩ -
  (repeat (intro (b_ : Bool) (hb_ : b_ = _); (repeat refine ⟨(by first | (simp; done) | (rw [hb_]; simp; done) | (rw [hb_]; simp; omega) | (rw [hb_]; simp; intros; omega) | (rw [hb_]; simp +contextual; done)), ?_⟩); subst hb_))
  refine ifP_split (fun h => ?_) (fun h => ?_)
  · simp at h
    unfold choose; rw [if_pos (by omega)]; exact ⟨rfl, rfl⟩
  · simp at h
    rw [wu64 (n := n) (by omega) (by omega)]
    have hr : ∀ k, 0 ≤ (hash s k).tmod n ∧ (hash s k).tmod n < n := fun k => ⟨tmod_lo (hash_range _ _).1, tmod_hi (hash_range _ _).1 (by omega)⟩
    unfold choose
    refine ifP_split (fun hx => ?_) (fun hx => ifP_split (fun hy => ?_) (fun hy => ifP_split (fun hz => ?_) (fun hz => ?_)))
    · simp at hx
      subst hx
      have := hr (a, b, c, e, f)
      rw [if_neg (by omega), if_pos rfl, w64 (by omega) (by omega)]
      exact ⟨by omega, rfl, rfl⟩
    · simp at hx hy
      subst hy
      have := hr (a, b, 0, 0, 0)
      rw [if_neg (by omega), if_neg (by omega), if_pos rfl, w64 (by omega) (by omega)]
      exact ⟨by omega, rfl, rfl⟩
    · simp at hx hy hz
      subst hz
      have q0 := tmod_lo (b := n) (a := cnt) (by omega)
      have q1 := tmod_hi (b := n) (a := cnt) (by omega) (by omega)
      rw [if_neg (by omega), if_neg (by omega), if_neg (by omega), wu64 (n := cnt) (by omega) (by omega), w64 (by omega) (by omega)]
      exact ⟨by omega, rfl, rfl⟩
    · simp at hx hy hz
      rw [if_pos (by omega)]
      exact ⟨rfl, rfl⟩
theorem ok_balance_Choose : SpecOK Tryz.prog GL 38 ct_balance_Choose.spec := Ct.okH _ Tryz.func38 (by kernel_rfl) (withSpec_ok noSpecs_ok ok_balance_Hash) hmix an_balance_Choose (hideMp (by kernel_rfl) vc_balance_Choose)

def ct_ref10_Choose : Ct := ⟨[.val cI, .val cI, .agg cKey, .val cI, .val cI], [.val cI, .val cI], fun _ => [], fun d => (((choose d.1 d.2.1 d.2.2.1 d.2.2.2.1 d.2.2.2.2.1).1, (choose d.1 d.2.1 d.2.2.1 d.2.2.2.1 d.2.2.2.2.1).2, ()), ())⟩
def an_ref10_Choose : PDs ct_ref10_Choose.ps → Anns := (fun _ => {})
theorem vc_ref10_Choose : ∀ (x x_1 x_2 x_3 x_4 x_5 x_6 x_7 x_8 : Int), R64 x /\ R64 x_1 /\ ((0 <= x_2 /\ x_2 <= 4294967295) /\ (0 <= x_3 /\ x_3 <= 4294967295) /\ R64 x_4 /\ R64 x_5 /\ R64 x_6) /\ R64 x_7 /\ R64 x_8 /\ True -> True -> ∀ (b : Bool), b = decide (x < 1) -> ((!b) -> ((!b) -> (!b)) /\ True) /\ (b = false -> (!b)) /\ ∀ (b_1 : Bool), (b_1 = bif b then true else decide (3 < x)) -> ((!b_1) -> ((!b_1) -> (!b_1)) /\ True) /\ (b_1 = false -> (!b_1)) /\ ∀ (b : Bool), (b = bif b_1 then true else decide (x_8 < 1)) -> ((!b) -> ((!b) -> (!b)) /\ True) /\ (b = false -> (!b)) /\ ∀ (b_2 : Bool), (b_2 = bif b then true else decide (16 < x_8)) -> ((!b_2) -> ((!b_2) -> (!b_2)) /\ True) /\ (b_2 = false -> (!b_2)) /\ ifP (bif b_2 then true else decide (x_7 < 0)) ((0 : Int) = (choose x x_1 (x_2, x_3, x_4, x_5, x_6) x_7 x_8).1 /\ (1 : Int) = (choose x x_1 (x_2, x_3, x_4, x_5, x_6) x_7 x_8).2) (ifP
 (decide (x = 1)) (IntKind.wrap .u64 x_8 ≠ (0 : Int) /\ IntKind.wrap .i64 (Int.tmod (hash x_1 (x_2, x_3, x_4, x_5, x_6)) (IntKind.wrap .u64 x_8)) = (choose x x_1 (x_2, x_3, x_4, x_5, x_6) x_7 x_8).1 /\ (0 : Int) = (choose x x_1 (x_2, x_3, x_4, x_5, x_6) x_7 x_8).2) (ifP (decide (x = 2)) (IntKind.wrap .u64 x_8 ≠ (0 : Int) /\ IntKind.wrap .i64 (Int.tmod (hash x_1 (x_2, x_3, (0 : Int), (0 : Int), (0 : Int))) (IntKind.wrap .u64 x_8)) = (choose x x_1 (x_2, x_3, x_4, x_5, x_6) x_7 x_8).1 /\ (0 : Int) = (choose x x_1 (x_2, x_3, x_4, x_5, x_6) x_7 x_8).2) (x_8 ≠ (0 : Int) /\ Int.tmod x_7 x_8 = (choose x x_1 (x_2, x_3, x_4, x_5, x_6) x_7 x_8).1 /\ (0 : Int) = (choose x x_1 (x_2, x_3, x_4, x_5, x_6) x_7 x_8).2))) := by
  rintro x s a b c e f cnt n ⟨-, -, -, ⟨c0, c1⟩, ⟨n0, n1⟩, -⟩ -
  (repeat (intro (b_ : Bool) (hb_ : b_ = _); (repeat refine ⟨(by first | (simp; done) | (rw [hb_]; simp; done) | (rw [hb_]; simp; omega) | (rw [hb_]; simp; intros; omega) | (rw [hb_]; simp +contextual; done)), ?_⟩); subst hb_))
  refine ifP_split (fun h => ?_) (fun h => ?_)
  · simp at h
    unfold choose; rw [if_pos (by omega)]; exact ⟨rfl, rfl⟩
  · simp at h
    rw [wu64 (n := n) (by omega) (by omega)]
    have hr : ∀ k, 0 ≤ (hash s k).tmod n ∧ (hash s k).tmod n < n := fun k => ⟨tmod_lo (hash_range _ _).1, tmod_hi (hash_range _ _).1 (by omega)⟩
    unfold choose
    refine ifP_split (fun hx => ?_) (fun hx => ifP_split (fun hy => ?_) (fun hy => ?_))
    · simp at hx
      subst hx
      have := hr (a, b, c, e, f)
      rw [if_neg (by omega), if_pos rfl, w64 (by omega) (by omega)]
      exact ⟨by omega, rfl, rfl⟩
    · simp at hx hy
      subst hy
      have := hr (a, b, 0, 0, 0)
      rw [if_neg (by omega), if_neg (by omega), if_pos rfl, w64 (by omega) (by omega)]
      exact ⟨by omega, rfl, rfl⟩
    · simp at hx hy
      rw [if_neg (by omega), if_neg (by omega), if_neg (by omega)]
      exact ⟨by omega, rfl, rfl⟩
theorem ok_ref10_Choose : SpecOK Tryz.prog GL 81 ct_ref10_Choose.spec := Ct.okH _ Tryz.func81 (by kernel_rfl) (withSpec_ok noSpecs_ok ok_ref10_Hash) hmix an_ref10_Choose (hideMp (by kernel_rfl) vc_ref10_Choose)
end Go.RS


/- Ident: identifiers of answers. -/
namespace Go.RS
open Go.SX Go.Proofs
set_option maxRecDepth 100000
set_option linter.unusedVariables false

abbrev cPort : CT := .pair cU32 cI
abbrev cPrefix : CT := .pair cU32 cI
abbrev cRoute : CT := .pair cPrefix (.pair (.sl cI) cI)
abbrev cNode : CT := .pair (.sl cPort) (.pair cU32 (.pair cI (.pair .bool (.pair (.sl cRoute) (.pair cI (.pair cU32 (.pair cI (.pair cI (.pair cI (.pair cBucket (.pair .bool (.pair .bool (.pair cI cI)))))))))))))
abbrev Prefix : Type := Int × Int
abbrev Route : Type := Prefix × List Int × Int
abbrev Node : Type := List (Int × Int) × Int × Int × Bool × List Route × Int × Int × Int × Int × Int × (Int × Int) × Bool × Bool × Int × Int
def nPorts (n : Node) := n.1
def nLoop (n : Node) := n.2.1
def nOwner (n : Node) := n.2.2.1
def nHost (n : Node) := n.2.2.2.1
def nRoutes (n : Node) := n.2.2.2.2.1
def nSource (n : Node) := n.2.2.2.2.2.1
def nFixed (n : Node) := n.2.2.2.2.2.2.1
def nID (n : Node) := n.2.2.2.2.2.2.2.1
def nBase (n : Node) := n.2.2.2.2.2.2.2.2.1
def nSpeed (n : Node) := n.2.2.2.2.2.2.2.2.2.1
def nLimit (n : Node) := n.2.2.2.2.2.2.2.2.2.2.1
def nSilent (n : Node) := n.2.2.2.2.2.2.2.2.2.2.2.1
def nOpaque (n : Node) := n.2.2.2.2.2.2.2.2.2.2.2.2.1
def nFirst (n : Node) := n.2.2.2.2.2.2.2.2.2.2.2.2.2.1
def nSeed (n : Node) := n.2.2.2.2.2.2.2.2.2.2.2.2.2.2
end Go.RS


/- Wire: numbers in bytes, the Internet checksum. -/
namespace Go.RS
open Go.SX Go.Proofs
set_option maxRecDepth 100000
set_option linter.unusedVariables false

def oc (n : Int) : Int := if n = 0 then 0 else (n - 1) % 65535 + 1
def sumF : Bool → List Int → Int
  | _, [] => 0
  | hi, x :: r => (if hi then x * 256 else x) + sumF (!hi) r
def word16 (n : Int) : Bool := decide (0 ≤ n ∧ n ≤ 65535)
end Go.RS


/- Transp: messages of three protocols. -/
namespace Go.RS
open Go.SX Go.Proofs
set_option maxRecDepth 100000
set_option linter.unusedVariables false

abbrev Echo : Type := Bool × Int × Int × List Int
abbrev Dgram : Type := Int × Int × List Int
abbrev Seg : Type := Int × Int × Int × Int × Int × Int × List Int
def w2 (n : Int) : List Int := [n / 256 % 256, n % 256]
def w4 (n : Int) : List Int := [n / 16777216 % 256, n / 65536 % 256, n / 256 % 256, n % 256]
def csum (b : List Int) : Int := 65535 - oc (sumF true b)
def setW (b : List Int) (at' : Nat) (n : Int) : List Int := (b.set at' (n / 256 % 256)).set (at' + 1) (n % 256)
def echoErr (e : Echo) : Int := if ¬ (word16 e.2.1 = true ∧ word16 e.2.2.1 = true) then 1 else if (1472 : Int) < e.2.2.2.length then 5 else 0
def echoBody (e : Echo) : List Int := [if e.1 then 0 else 8, 0, 0, 0] ++ (w2 e.2.1 ++ (w2 e.2.2.1 ++ e.2.2.2))
def echoEnc (e : Echo) : List Int := if echoErr e = 0 then setW (echoBody e) 2 (csum (echoBody e)) else []
def pseudoB (src dst proto : Int) (b : List Int) : List Int := w4 src ++ (w4 dst ++ (w2 proto ++ (w2 b.length ++ b)))
def pseudo (src dst proto : Int) (b : List Int) : Int := if ¬ (0 ≤ proto ∧ proto ≤ 255) ∨ (65535 : Int) < b.length then 0 else csum (pseudoB src dst proto b)
def sumU (src dst : Int) (b : List Int) : Int := if pseudo src dst 17 b = 0 then 65535 else pseudo src dst 17 b
def udpErr (u : Dgram) : Int := if ¬ (word16 u.1 = true ∧ word16 u.2.1 = true) then 1 else if (1472 : Int) < u.2.2.length then 5 else 0
def udpBody (u : Dgram) : List Int := w2 u.1 ++ (w2 u.2.1 ++ (w2 (8 + u.2.2.length) ++ ([0, 0] ++ u.2.2)))
def udpEnc (src dst : Int) (u : Dgram) : List Int := if udpErr u = 0 then setW (udpBody u) 6 (sumU src dst (udpBody u)) else []
def tcpOK (s : Seg) : Prop := word16 s.1 = true ∧ word16 s.2.1 = true ∧ (0 ≤ s.2.2.1 ∧ s.2.2.1 ≤ 4294967295) ∧ (0 ≤ s.2.2.2.1 ∧ s.2.2.2.1 ≤ 4294967295) ∧ (0 ≤ s.2.2.2.2.1 ∧ s.2.2.2.2.1 ≤ 255) ∧ word16 s.2.2.2.2.2.1 = true
instance (s : Seg) : Decidable (tcpOK s) := by unfold tcpOK; infer_instance
def tcpErr (s : Seg) : Int := if ¬ tcpOK s then 1 else if (1460 : Int) < s.2.2.2.2.2.2.length then 5 else 0
def tcpBody (s : Seg) : List Int := w2 s.1 ++ (w2 s.2.1 ++ (w4 s.2.2.1 ++ (w4 s.2.2.2.1 ++ ([80, s.2.2.2.2.1] ++ (w2 s.2.2.2.2.2.1 ++ ([0, 0, 0, 0] ++ s.2.2.2.2.2.2))))))
def tcpEnc (src dst : Int) (s : Seg) : List Int := if tcpErr s = 0 then setW (tcpBody s) 16 (pseudo src dst 6 (tcpBody s)) else []
def bytes (l : List Int) : Prop := ∀ x ∈ l, 0 ≤ x ∧ x ≤ 255
end Go.RS


/- Trdec: decoding messages. -/
namespace Go.RS
open Go.SX Go.Proofs
set_option maxRecDepth 100000
set_option linter.unusedVariables false

end Go.RS


/- Trback: messages are decoded from their encodings; what damage does. -/
namespace Go.RS
open Go.SX Go.Proofs
set_option maxRecDepth 100000
set_option linter.unusedVariables false

end Go.RS


/- Ipv4: packets without options. -/
namespace Go.RS
open Go.SX Go.Proofs
set_option maxRecDepth 100000
set_option linter.unusedVariables false

abbrev Header : Type := Int × Int × Int × Int × Bool × Int × Int
abbrev Packet : Type := Header × List Int
def in8 (n : Int) : Prop := 0 ≤ n ∧ n ≤ 255
instance (n : Int) : Decidable (in8 n) := by unfold in8; infer_instance
def hdrOK (h : Header) : Prop := in8 h.1 ∧ in8 h.2.2.1 ∧ in8 h.2.2.2.1 ∧ 0 ≤ h.2.1 ∧ h.2.1 ≤ 65535
instance (h : Header) : Decidable (hdrOK h) := by unfold hdrOK; infer_instance
def hdrHead (h : Header) (n : Int) : List Int := [69, h.1] ++ (w2 n ++ (w2 h.2.1 ++ (w2 (if h.2.2.2.2.1 then 16384 else 0) ++ [h.2.2.1, h.2.2.2.1])))
def hdrTail (h : Header) : List Int := w4 h.2.2.2.2.2.1 ++ w4 h.2.2.2.2.2.2
def hdrBody (h : Header) (n : Int) : List Int := hdrHead h n ++ ([0, 0] ++ hdrTail h)
def hdrB (h : Header) (n : Int) : List Int := setW (hdrBody h n) 10 (csum (hdrBody h n))
def ipErr (p : Packet) : Int := if ¬ hdrOK p.1 then 1 else if (1480 : Int) < p.2.length then 5 else 0
def ipEnc (p : Packet) : List Int := if ipErr p = 0 then hdrB p.1 (20 + p.2.length) ++ p.2 else []
end Go.RS


/- Probe: probes, their packets and keys. -/
namespace Go.RS
open Go.SX Go.Proofs
set_option maxRecDepth 100000
set_option linter.unusedVariables false

abbrev Probe : Type := Int × Int × Int × Int × Int × Int
def protoOK (n : Int) : Prop := n = 1 ∨ n = 6 ∨ n = 17
instance (n : Int) : Decidable (protoOK n) := by unfold protoOK; infer_instance
def rangeOK (p : Probe) : Prop := (0 ≤ p.2.2.2.1 ∧ p.2.2.2.1 ≤ 1023) ∧ (0 ≤ p.2.2.2.2.1 ∧ p.2.2.2.2.1 ≤ 65534) ∧ 1 ≤ p.2.2.2.2.2 ∧ p.2.2.2.2.2 ≤ 255
instance (p : Probe) : Decidable (rangeOK p) := by unfold rangeOK; infer_instance
def probeErr (p : Probe) : Int := if ¬ protoOK p.2.2.1 then 16 else if ¬ rangeOK p then 1 else 0
def icmpN (p : Probe) : Int := oc (65535 - (16384 + p.2.2.2.1) + csum (echoBody (false, 21075, p.2.2.2.2.1, [0, 0])))
def udpX (p : Probe) : Int := oc (65535 - (p.2.2.2.2.1 + 1) + pseudo p.1 p.2.1 17 (udpBody (20000 + p.2.2.2.1, 33434, [0, 0])))
def udpN (p : Probe) : Int := if udpX p = 0 then 65535 else udpX p
def conEcho (p : Probe) : Echo := (false, 21075, p.2.2.2.2.1, w2 (icmpN p))
def conDgram (p : Probe) : Dgram := (20000 + p.2.2.2.1, 33434, w2 (udpN p))
def conSeg (p : Probe) : Seg := (20000 + p.2.2.2.1, 80, p.2.2.2.2.1, 0, 2, 1024, [])
def conP (p : Probe) : List Int := if p.2.2.1 = 1 then echoEnc (conEcho p) else if p.2.2.1 = 17 then udpEnc p.1 p.2.1 (conDgram p) else tcpEnc p.1 p.2.1 (conSeg p)
def hdrP (p : Probe) : Header := (0, p.2.2.2.2.1, p.2.2.2.2.2, p.2.2.1, true, p.1, p.2.1)
def build (p : Probe) : List Int := if probeErr p = 0 then ipEnc (hdrP p, conP p) else []
end Go.RS


/- Pback: probes read back from their packets. -/
namespace Go.RS
open Go.SX Go.Proofs
set_option maxRecDepth 100000
set_option linter.unusedVariables false

def u32 (n : Int) : Prop := 0 ≤ n ∧ n ≤ 4294967295
end Go.RS


/- Addr: prefixes, and functions of Go's library over numbers. -/
namespace Go.RS
open Go.SX Go.Proofs
set_option maxRecDepth 100000
set_option linter.unusedVariables false

abbrev cPfx : CT := .pair cU32 cI
def icmp (a b : Int) : Int := if a < b then -1 else if b < a then 1 else 0
abbrev Pfx : Type := Int × Int
def pcmp (p q : Pfx) : Int := if icmp p.1 q.1 ≠ 0 then icmp p.1 q.1 else icmp p.2 q.2
def firstNZ : List Int → Int
  | [] => 0
  | x :: xs => if x ≠ 0 then x else firstNZ xs
theorem drop_getD {l : List Int} {j : Int} (h0 : 0 ≤ j) (h1 : j < l.length) : l.drop j.toNat = l.getD j.toNat default :: l.drop (j + 1).toNat := by
  have hj : j.toNat < l.length := by omega
  rw [List.drop_eq_getElem_cons hj, List.getD_eq_getElem?_getD, List.getElem?_eq_getElem hj, Option.getD_some]
  congr 2; omega
theorem mem_take_succ {α : Type} [Inhabited α] {l : List α} {j : Int} (h0 : 0 ≤ j) (h1 : j < l.length) {y : α} (hy : y ∈ l.take (j + 1).toNat) : y ∈ l.take j.toNat ∨ y = l.getD j.toNat default := by
  have hj : j.toNat < l.length := by omega
  have e : (j + 1).toNat = j.toNat + 1 := by omega
  rw [e, List.take_succ_eq_append_getElem hj] at hy
  rcases List.mem_append.1 hy with hy | hy
  · exact .inl hy
  · right
    simp at hy
    rw [List.getD_eq_getElem?_getD, List.getElem?_eq_getElem hj, Option.getD_some]; exact hy
def ct_cmp_isNaN_bef2 : Ct := ⟨[.val cI], [.val .bool], fun _ => [], fun _ => ((false, ()), ())⟩
def an_cmp_isNaN_bef2 : PDs ct_cmp_isNaN_bef2.ps → Anns := (fun _ => {})
theorem vc_cmp_isNaN_bef2 : ∀ (x : Int), R64 x /\ True -> True -> (!decide (x = x)) = false := by
  rintro x - -
  simp
theorem ok_cmp_isNaN_bef2 : SpecOK Tryz.prog GL 139 ct_cmp_isNaN_bef2.spec := Ct.okH _ Tryz.func139 (by kernel_rfl) noSpecs_ok hmix an_cmp_isNaN_bef2 (hideMp (by kernel_rfl) vc_cmp_isNaN_bef2)

def ct_cmp_isNaN_1748 : Ct := ⟨[.val cU32], [.val .bool], fun _ => [], fun _ => ((false, ()), ())⟩
def an_cmp_isNaN_1748 : PDs ct_cmp_isNaN_1748.ps → Anns := (fun _ => {})
theorem vc_cmp_isNaN_1748 : ∀ (x : Int), (0 <= x /\ x <= 4294967295) /\ True -> True -> (!decide (x = x)) = false := by
  rintro x - -
  simp
theorem ok_cmp_isNaN_1748 : SpecOK Tryz.prog GL 138 ct_cmp_isNaN_1748.spec := Ct.okH _ Tryz.func138 (by kernel_rfl) noSpecs_ok hmix an_cmp_isNaN_1748 (hideMp (by kernel_rfl) vc_cmp_isNaN_1748)

def ct_cmp_Compare_bef2 : Ct := ⟨[.val cI, .val cI], [.val cI], fun _ => [], fun d => ((icmp d.1 d.2.1, ()), ())⟩
def an_cmp_Compare_bef2 : PDs ct_cmp_Compare_bef2.ps → Anns := (fun _ => {})
theorem vc_cmp_Compare_bef2 : ∀ (x x1 : Int), R64 x /\ R64 x1 /\ True -> True -> ifP (decide (x < x1)) ((-1 : Int) = icmp x x1) (ifP (decide (x1 < x)) ((1 : Int) = icmp x x1) ((0 : Int) = icmp x x1)) := by
  rintro x y - -
  unfold icmp
  refine ifP_split (fun h => ?_) (fun h => ifP_split (fun h2 => ?_) (fun h2 => ?_))
  · rw [if_pos (of_decide_eq_true h)]
  · rw [if_neg (of_decide_eq_false h), if_pos (of_decide_eq_true h2)]
  · rw [if_neg (of_decide_eq_false h), if_neg (of_decide_eq_false h2)]
theorem ok_cmp_Compare_bef2 : SpecOK Tryz.prog GL 130 ct_cmp_Compare_bef2.spec := Ct.okH _ Tryz.func130 (by kernel_rfl) (withSpec_ok noSpecs_ok ok_cmp_isNaN_bef2) hmix an_cmp_Compare_bef2 (hideMp (by kernel_rfl) vc_cmp_Compare_bef2)

def ct_cmp_Compare_1748 : Ct := ⟨[.val cU32, .val cU32], [.val cI], fun _ => [], fun d => ((icmp d.1 d.2.1, ()), ())⟩
def an_cmp_Compare_1748 : PDs ct_cmp_Compare_1748.ps → Anns := (fun _ => {})
theorem vc_cmp_Compare_1748 : ∀ (x x1 : Int), (0 <= x /\ x <= 4294967295) /\ (0 <= x1 /\ x1 <= 4294967295) /\ True -> True -> ifP (decide (x < x1)) ((-1 : Int) = icmp x x1) (ifP (decide (x1 < x)) ((1 : Int) = icmp x x1) ((0 : Int) = icmp x x1)) := by
  rintro x y - -
  unfold icmp
  refine ifP_split (fun h => ?_) (fun h => ifP_split (fun h2 => ?_) (fun h2 => ?_))
  · rw [if_pos (of_decide_eq_true h)]
  · rw [if_neg (of_decide_eq_false h), if_pos (of_decide_eq_true h2)]
  · rw [if_neg (of_decide_eq_false h), if_neg (of_decide_eq_false h2)]
theorem ok_cmp_Compare_1748 : SpecOK Tryz.prog GL 129 ct_cmp_Compare_1748.spec := Ct.okH _ Tryz.func129 (by kernel_rfl) (withSpec_ok noSpecs_ok ok_cmp_isNaN_1748) hmix an_cmp_Compare_1748 (hideMp (by kernel_rfl) vc_cmp_Compare_1748)

def ct_cmp_Or_bef2 : Ct := ⟨[.val (.sl cI)], [.val cI], fun _ => [], fun d => ((firstNZ d.1, ()), ())⟩
def an_cmp_Or_bef2 : PDs ct_cmp_Or_bef2.ps → Anns := (fun d => { loops := (fun n => match n with | 3 => some (fun S => { ι := Int, μ := fun i => (d.1.length - i).toNat, inv := fun i => 0 ≤ i ∧ i ≤ d.1.length ∧ firstNZ d.1 = firstNZ (d.1.drop i.toNat), keep := [3, 6, 7], slots := fun i => [(8, .int .i64 i)], names := fun i => [] }) | _ => none) })
theorem vc_cmp_Or_bef2 : ∀ (x : List Int), (x.length <= maxLen /\ ∀ (x1 : Int), x1 ∈ x -> R64 x1) /\ True -> True -> (∃ (x1 : Int), (0 <= x1 /\ x1 <= (x.length : Int) /\ firstNZ x = firstNZ (List.drop x1.toNat x)) /\ (0 : Int) = 0 /\ x = x /\ (x.length : Int) = (x.length : Int) /\ (0 : Int) = x1 /\ True) /\ ∀ (x1 : Int), 0 <= x1 /\ x1 <= (x.length : Int) /\ firstNZ x = firstNZ (List.drop x1.toNat x) -> ifP (decide (x1 < (x.length : Int))) (0 <= x1 /\ x1 < (x.length : Int) /\ ifP (!decide (x.getD x1.toNat default = 0)) (x.getD x1.toNat default = firstNZ x) (∃ (x2 : Int), (0 <= x2 /\ x2 <= (x.length : Int) /\ firstNZ x = firstNZ (List.drop x2.toNat x)) /\ Int.toNat ((x.length : Int) - x2) < Int.toNat ((x.length : Int) - x1) /\ (0 : Int) = 0 /\ x = x /\ (x.length : Int) = (x.length : Int) /\ IntKind.wrap .i64 (x1 + (1 : Int)) = x2 /\ True)) ((0 : Int) = firstNZ x) := by
  rintro x ⟨⟨hl, -⟩, -⟩ -
  simp only [maxLen] at hl
  refine ⟨⟨0, ⟨by omega, by omega, rfl⟩, (by repeat' first | exact trivial | refine ⟨trivial, ?_⟩ | refine ⟨(by with_reducible rfl), ?_⟩ | refine ⟨w64 (by omega) (by omega), ?_⟩ | refine ⟨rfl, ?_⟩)⟩, ?_⟩
  rintro j ⟨h0, h1, h2⟩
  refine ifP_split (fun hj => ?_) (fun hj => ?_)
  · have hj := of_decide_eq_true hj
    have e := drop_getD (l := x) h0 hj
    rw [e] at h2
    refine ⟨h0, hj, ifP_split (fun hz => ?_) (fun hz => ?_)⟩
    · have hz : x.getD j.toNat default ≠ 0 := by simpa only [Bool.not_eq_true', decide_eq_false_iff_not] using hz
      rw [h2, firstNZ, if_pos hz]
    · have hz : ¬ x.getD j.toNat default ≠ 0 := by simpa only [Bool.not_eq_false', decide_eq_true_eq, ne_eq, Decidable.not_not] using hz
      rw [firstNZ, if_neg hz] at h2
      exact ⟨j + 1, ⟨by omega, by omega, h2⟩, by omega, (by repeat' first | exact trivial | refine ⟨trivial, ?_⟩ | refine ⟨(by with_reducible rfl), ?_⟩ | refine ⟨w64 (by omega) (by omega), ?_⟩ | refine ⟨rfl, ?_⟩)⟩
  · have hj := of_decide_eq_false hj
    rw [h2, List.drop_eq_nil_of_le (by omega)]; rfl
theorem ok_cmp_Or_bef2 : SpecOK Tryz.prog GL 128 ct_cmp_Or_bef2.spec := Ct.okH _ Tryz.func128 (by kernel_rfl) noSpecs_ok hmix an_cmp_Or_bef2 (hideMp (by kernel_rfl) vc_cmp_Or_bef2)

def ct_address_Compare : Ct := ⟨[.agg cPfx, .agg cPfx], [.val cI], fun _ => [], fun d => ((pcmp d.1 d.2.1, ()), ())⟩
def an_address_Compare : PDs ct_address_Compare.ps → Anns := (fun _ => {})
theorem vc_address_Compare : ∀ (x x1 x2 x3 : Int), ((0 <= x /\ x <= 4294967295) /\ R64 x1) /\ ((0 <= x2 /\ x2 <= 4294967295) /\ R64 x3) /\ True -> True -> firstNZ [icmp x x2, icmp x1 x3] = pcmp (x, x1) (x2, x3) := by
  rintro x y z u - -
  simp only [firstNZ, pcmp]
  split
  · rfl
  · split
    · rfl
    · rename_i h; simp at h; exact h.symm
theorem ok_address_Compare : SpecOK Tryz.prog GL 107 ct_address_Compare.spec := Ct.okH _ Tryz.func107 (by kernel_rfl) (withSpec_ok (withSpec_ok (withSpec_ok noSpecs_ok ok_cmp_Compare_1748) ok_cmp_Compare_bef2) ok_cmp_Or_bef2) hmix an_address_Compare (hideMp (by kernel_rfl) vc_address_Compare)

def ct_ref01_Order : Ct := ⟨[.val cI, .val cI], [.val cI], fun _ => [], fun d => ((icmp d.1 d.2.1, ()), ())⟩
def an_ref01_Order : PDs ct_ref01_Order.ps → Anns := (fun _ => {})
theorem vc_ref01_Order : ∀ (x x1 : Int), R64 x /\ R64 x1 /\ True -> True -> ifP (decide (x < x1)) ((-1 : Int) = icmp x x1) (ifP (decide (x1 < x)) ((1 : Int) = icmp x x1) ((0 : Int) = icmp x x1)) := by
  rintro x y - -
  unfold icmp
  refine ifP_split (fun h => ?_) (fun h => ifP_split (fun h2 => ?_) (fun h2 => ?_))
  · rw [if_pos (of_decide_eq_true h)]
  · rw [if_neg (of_decide_eq_false h), if_pos (of_decide_eq_true h2)]
  · rw [if_neg (of_decide_eq_false h), if_neg (of_decide_eq_false h2)]
theorem ok_ref01_Order : SpecOK Tryz.prog GL 137 ct_ref01_Order.spec := Ct.okH _ Tryz.func137 (by kernel_rfl) noSpecs_ok hmix an_ref01_Order (hideMp (by kernel_rfl) vc_ref01_Order)

def ct_ref01_Compare : Ct := ⟨[.agg cPfx, .agg cPfx], [.val cI], fun _ => [], fun d => ((pcmp d.1 d.2.1, ()), ())⟩
def an_ref01_Compare : PDs ct_ref01_Compare.ps → Anns := (fun _ => {})
theorem vc_ref01_Compare : ∀ (x x1 x2 x3 : Int), ((0 <= x /\ x <= 4294967295) /\ R64 x1) /\ ((0 <= x2 /\ x2 <= 4294967295) /\ R64 x3) /\ True -> True -> ifP (!decide (x = x2)) (icmp (IntKind.wrap .i64 x) (IntKind.wrap .i64 x2) = pcmp (x, x1) (x2, x3)) (icmp x1 x3 = pcmp (x, x1) (x2, x3)) := by
  rintro x y z u ⟨⟨⟨h0, h1⟩, -⟩, ⟨⟨h2, h3⟩, -⟩, -⟩ -
  unfold pcmp
  refine ifP_split (fun h => ?_) (fun h => ?_)
  · simp at h
    rw [w64 (by omega) (by omega), w64 (by omega) (by omega), if_pos (by simp only [icmp]; split <;> first | omega | (split <;> omega))]
  · simp at h
    subst h
    rw [if_neg (by simp [icmp])]
theorem ok_ref01_Compare : SpecOK Tryz.prog GL 127 ct_ref01_Compare.spec := Ct.okH _ Tryz.func127 (by kernel_rfl) (withSpec_ok noSpecs_ok ok_ref01_Order) hmix an_ref01_Compare (hideMp (by kernel_rfl) vc_ref01_Compare)
def sz (n : Int) : Int := 2 ^ (32 - n).toNat
def pValid (p : Pfx) : Bool := decide (0 ≤ p.2 ∧ p.2 ≤ 32 ∧ p.1 % sz p.2 = 0)
def contains (p : Pfx) (a : Int) : Bool := pValid p && decide (p.1 ≤ a ∧ a < p.1 + sz p.2)
def bounds (p : Pfx) : (Int × Int) × Int := if pValid p then ((p.1, p.1 + sz p.2 - 1), 0) else ((0, 0), 10)
theorem sz_pos (n : Int) : 0 < sz n := Int.pow_pos (by decide)
theorem sz_le {n : Int} (h0 : 0 ≤ n) : sz n ≤ 4294967296 := by
  unfold sz
  have h : (32 - n).toNat ≤ 32 := by omega
  have : (2 : Nat) ^ (32 - n).toNat ≤ 2 ^ 32 := Nat.pow_le_pow_right (by decide) h
  have e : ((2 : Int) ^ (32 - n).toNat) = ((2 ^ (32 - n).toNat : Nat) : Int) := by rw [Int.natCast_pow]; rfl
  rw [e]; omega
theorem sz_nat (n : Int) : sz n = ((2 ^ (32 - n).toNat : Nat) : Int) := by unfold sz; rw [Int.natCast_pow]; rfl
theorem sz_cases {n : Int} (h0 : 0 ≤ n) (h1 : n ≤ 32) : ∃ k : Nat, k ≤ 32 ∧ n = 32 - k ∧ sz n = ((2 ^ k : Nat) : Int) := ⟨(32 - n).toNat, by omega, by omega, sz_nat n⟩
theorem mask_eq {n : Int} (h0 : 0 ≤ n) (h1 : n ≤ 32) : shlI .u32 4294967295 (32 - n) = 4294967296 - sz n := by
  obtain ⟨k, hk, rfl, e⟩ := sz_cases h0 h1
  rw [e]
  have : (32 : Int) - (32 - (k : Int)) = (k : Int) := by omega
  rw [this]
  unfold shlI
  rw [IntKind.wrap_u32]
  have hm : min ((k : Int)).toNat IntKind.u32.bits = k := by simp only [IntKind.bits, Int.toNat_natCast]; omega
  rw [hm]
  have hd : ∀ k : Nat, k ≤ 32 → (4294967295 * 2 ^ k : Int) % 4294967296 = 4294967296 - ((2 ^ k : Nat) : Int) := by decide
  exact hd k hk
theorem size_eq {n : Int} (h0 : 0 ≤ n) (h1 : n ≤ 32) : shlI .i64 1 (32 - n) = sz n := by
  obtain ⟨k, hk, rfl, e⟩ := sz_cases h0 h1
  rw [e]
  have : (32 : Int) - (32 - (k : Int)) = (k : Int) := by omega
  rw [this]
  unfold shlI
  have hm : min ((k : Int)).toNat IntKind.i64.bits = k := by simp only [IntKind.bits, Int.toNat_natCast]; omega
  rw [hm, Int.one_mul]
  have e2 : ((2 : Int) ^ k) = ((2 ^ k : Nat) : Int) := by rw [Int.natCast_pow]; rfl
  have : (2 : Nat) ^ k ≤ 2 ^ 32 := Nat.pow_le_pow_right (by decide) hk
  rw [e2]
  generalize 2 ^ k = s at this ⊢
  exact w64 (by omega) (by omega)
theorem mask_not {x n : Int} (h0 : 0 ≤ x) (h1 : x ≤ 4294967295) (h2 : 0 ≤ n) (h3 : n ≤ 32) : bits .andNot .u32 x (4294967296 - sz n) = x % sz n := by
  obtain ⟨k, hk, rfl, e⟩ := sz_cases h2 h3
  have hp : (2 : Nat) ^ k ≤ 2 ^ 32 := Nat.pow_le_pow_right (by decide) hk
  have hp0 : 0 < (2 : Nat) ^ k := Nat.two_pow_pos k
  rw [e, u32_andNot _ _ h0 (by omega) (by omega) (by omega)]
  have e1 : 4294967295 - ((4294967296 : Int) - ((2 ^ k : Nat) : Int)).toNat = 2 ^ k - 1 := by omega
  rw [e1, Nat.and_two_pow_sub_one_eq_mod]
  obtain ⟨m, rfl⟩ := Int.eq_ofNat_of_zero_le h0
  rw [Int.toNat_natCast, Int.natCast_emod]
theorem and_high {a k : Nat} (hk : k ≤ 32) (ha : a < 4294967296) : a &&& (4294967296 - 2 ^ k) = a / 2 ^ k * 2 ^ k := by
  have e : 4294967296 - 2 ^ k = (2 ^ (32 - k) - 1) <<< k := by
    rw [Nat.shiftLeft_eq, Nat.sub_mul, ← Nat.pow_add, Nat.one_mul]
    congr 1
    rw [show 32 - k + k = 32 from by omega]
  rw [e, ← Nat.shiftRight_eq_div_pow, ← Nat.shiftLeft_eq]
  apply Nat.eq_of_testBit_eq
  intro i
  simp only [Nat.testBit_and, Nat.testBit_shiftLeft, Nat.testBit_two_pow_sub_one, Nat.testBit_shiftRight]
  by_cases hi : k ≤ i
  · have e2 : k + (i - k) = i := by omega
    simp only [hi, decide_true, Bool.true_and, e2]
    by_cases h32 : i < 32
    · have : i - k < 32 - k := by omega
      simp [this]
    · have : a.testBit i = false := Nat.testBit_lt_two_pow (Nat.lt_of_lt_of_le ha (Nat.pow_le_pow_right (show 0 < 2 by decide) (by omega : 32 ≤ i)))
      simp [this]
  · simp [hi]
theorem mask_and {a n x : Int} (h0 : 0 ≤ a) (h1 : a ≤ 4294967295) (h2 : 0 ≤ n) (h3 : n ≤ 32) (hx : 0 ≤ x) (hm : x % sz n = 0) :
    (bits .and .u32 a (4294967296 - sz n) = x) ↔ (x ≤ a ∧ a < x + sz n) := by
  obtain ⟨k, hk, rfl, e⟩ := sz_cases h2 h3
  have hp : (2 : Nat) ^ k ≤ 2 ^ 32 := Nat.pow_le_pow_right (by decide) hk
  have hp0 : 0 < (2 : Nat) ^ k := Nat.two_pow_pos k
  rw [e] at hm ⊢
  rw [u32_and _ _ h0 (by omega) (by omega) (by omega)]
  have e1 : ((4294967296 : Int) - ((2 ^ k : Nat) : Int)).toNat = 4294967296 - 2 ^ k := by omega
  rw [e1, and_high hk (by omega)]
  obtain ⟨m, rfl⟩ := Int.eq_ofNat_of_zero_le h0
  obtain ⟨y, rfl⟩ := Int.eq_ofNat_of_zero_le hx
  rw [Int.toNat_natCast]
  have hm : y % 2 ^ k = 0 := by
    have : ((y % 2 ^ k : Nat) : Int) = 0 := by rw [Int.natCast_emod]; exact hm
    omega
  generalize 2 ^ k = s at *
  have d := Nat.div_add_mod m s
  have dl := Nat.mod_lt m hp0
  have dy := Nat.div_add_mod y s
  rw [hm] at dy
  rw [Nat.mul_comm] at d
  constructor
  · intro h; omega
  · rintro ⟨h, h'⟩
    have hq : m / s = y / s := by
      apply Nat.le_antisymm
      · have : m < (y / s + 1) * s := by rw [Nat.add_mul, Nat.one_mul, Nat.mul_comm (y / s)]; omega
        have := Nat.div_lt_of_lt_mul (Nat.mul_comm _ _ ▸ this : m < s * (y / s + 1))
        omega
      · exact Nat.div_le_div_right (by omega)
    rw [hq, Nat.mul_comm]; omega
theorem sz_fit {x n : Int} (h2 : 0 ≤ n) (h3 : n ≤ 32) (h0 : 0 ≤ x) (h1 : x ≤ 4294967295) (hm : x % sz n = 0) : x + sz n ≤ 4294967296 := by
  obtain ⟨k, hk, rfl, e⟩ := sz_cases h2 h3
  rw [e] at hm ⊢
  have hd : (4294967296 : Nat) = 2 ^ k * 2 ^ (32 - k) := by rw [← Nat.pow_add, show k + (32 - k) = 32 from by omega]
  have hp0 : 0 < (2 : Nat) ^ k := Nat.two_pow_pos k
  obtain ⟨y, rfl⟩ := Int.eq_ofNat_of_zero_le h0
  have hm : y % 2 ^ k = 0 := by
    have : ((y % 2 ^ k : Nat) : Int) = 0 := by rw [Int.natCast_emod]; exact hm
    omega
  have dy := Nat.div_add_mod y (2 ^ k)
  rw [hm] at dy
  generalize 2 ^ (32 - k) = q at hd
  generalize 2 ^ k = s at *
  have : y / s < q := by
    rcases Nat.lt_or_ge (y / s) q with h | h
    · exact h
    · have := Nat.mul_le_mul_left s h
      omega
  have := Nat.mul_le_mul_left s (show y / s + 1 ≤ q from this)
  rw [Nat.mul_add, Nat.mul_one] at this
  omega
def ct_address_mask : Ct := ⟨[.val cI], [.val cU32], fun d => [0 ≤ d.1 ∧ d.1 ≤ 32], fun d => ((4294967296 - sz d.1, ()), ())⟩
def an_address_mask : PDs ct_address_mask.ps → Anns := (fun _ => {})
theorem vc_address_mask : ∀ (x : Int), R64 x /\ True -> 0 <= x /\ x <= 32 -> 0 <= IntKind.wrap .i64 ((32 : Int) - x) /\ shlI IntKind.u32 (4294967295 : Int) (IntKind.wrap .i64 ((32 : Int) - x)) = 4294967296 - sz x := by
  rintro x - ⟨h0, h1⟩
  rw [w64 (by omega) (by omega)]
  exact ⟨by omega, mask_eq h0 h1⟩
theorem ok_address_mask : SpecOK Tryz.prog GL 109 ct_address_mask.spec := Ct.okH _ Tryz.func109 (by kernel_rfl) noSpecs_ok hmix an_address_mask (hideMp (by kernel_rfl) vc_address_mask)

def ct_address_Valid : Ct := ⟨[.agg cPfx], [.val .bool], fun _ => [], fun d => ((pValid d.1, ()), ())⟩
def an_address_Valid : PDs ct_address_Valid.ps → Anns := (fun _ => {})
theorem vc_address_Valid : ∀ (x x1 : Int), ((0 <= x /\ x <= 4294967295) /\ R64 x1) /\ True -> True -> ∀ (b : Bool), b = decide (0 <= x1) -> (b -> (b -> b) /\ True) /\ (b -> (b -> b) /\ True) /\ (b -> b) /\ ∀ (b1 : Bool), (b1 = bif b then decide (x1 <= 32) else false) -> (b1 -> (b1 -> b1) /\ True) /\ (b1 -> (b1 -> b1) /\ True) /\ (b1 -> (b1 -> b1) /\ (0 <= x1 /\ x1 <= 32) /\ True) /\ (b1 -> (b1 -> b1) /\ (b1 -> b1) /\ True) /\ (b1 -> (b1 -> b1) /\ True) /\ (b1 -> b1) /\ (bif b1 then decide (bits BinOp.andNot IntKind.u32 x ((4294967296 : Int) - sz x1) = 0) else false) = pValid (x, x1) := by
  rintro x n ⟨⟨⟨h0, h1⟩, -⟩, -⟩ -
  (repeat (intro (b_ : Bool) (hb_ : b_ = _); (repeat refine ⟨(by first | (simp; done) | (rw [hb_]; simp; done) | (rw [hb_]; simp; omega) | (rw [hb_]; simp; intros; omega) | (rw [hb_]; simp +contextual; done)), ?_⟩); subst hb_))
  by_cases hn : 0 ≤ n ∧ n ≤ 32
  · have := mask_not (n := n) h0 h1 hn.1 hn.2
    simp [pValid, hn, this]
  · simp only [pValid]
    by_cases h2 : 0 ≤ n
    · have : ¬ n ≤ 32 := fun h => hn ⟨h2, h⟩
      simp [this]
    · simp [h2]
theorem ok_address_Valid : SpecOK Tryz.prog GL 108 ct_address_Valid.spec := Ct.okH _ Tryz.func108 (by kernel_rfl) (withSpec_ok noSpecs_ok ok_address_mask) hmix an_address_Valid (hideMp (by kernel_rfl) vc_address_Valid)

def ct_address_Contains : Ct := ⟨[.agg cPfx, .val cU32], [.val .bool], fun _ => [], fun d => ((contains d.1 d.2.1, ()), ())⟩
def an_address_Contains : PDs ct_address_Contains.ps → Anns := (fun _ => {})
theorem vc_address_Contains : ∀ (x x1 x2 : Int), ((0 <= x /\ x <= 4294967295) /\ R64 x1) /\ (0 <= x2 /\ x2 <= 4294967295) /\ True -> True -> ∀ (b : Bool), b = pValid (x, x1) -> (b -> (b -> b) /\ True) /\ (b -> (b -> b) /\ (0 <= x1 /\ x1 <= 32) /\ True) /\ (b -> (b -> b) /\ (b -> b) /\ True) /\ (b -> (b -> b) /\ True) /\ (b -> (b -> b) /\ (b -> b) /\ True) /\ (b -> b) /\ (bif b then decide (bits BinOp.and IntKind.u32 x2 ((4294967296 : Int) - sz x1) = x) else false) = contains (x, x1) x2 := by
  rintro x n a ⟨⟨⟨h0, h1⟩, -⟩, ⟨h2, h3⟩, -⟩ -
  have hv : ∀ b : Bool, b = pValid (x, n) → b = true → 0 ≤ n ∧ n ≤ 32 ∧ x % sz n = 0 := by
    rintro b rfl h; simpa [pValid] using h
  rintro b hb
  have hr := hv b hb
  refine ⟨by simp, fun h => ⟨fun _ => h, ⟨(hr h).1, (hr h).2.1⟩, trivial⟩, by simp, by simp, by simp, by simp, ?_⟩
  unfold contains
  rw [← hb]
  cases b with
  | false => rfl
  | true =>
    obtain ⟨r1, r2, r3⟩ := hr rfl
    have := mask_and (n := n) (x := x) h2 h3 r1 r2 h0 r3
    rw [Bool.eq_iff_iff]; simpa using this
theorem ok_address_Contains : SpecOK Tryz.prog GL 72 ct_address_Contains.spec := Ct.okH _ Tryz.func72 (by kernel_rfl) (withSpec_ok (withSpec_ok noSpecs_ok ok_address_mask) ok_address_Valid) hmix an_address_Contains (hideMp (by kernel_rfl) vc_address_Contains)

def ct_ref01_size : Ct := ⟨[.val cI], [.val cI], fun d => [0 ≤ d.1 ∧ d.1 ≤ 32], fun d => ((sz d.1, ()), ())⟩
def an_ref01_size : PDs ct_ref01_size.ps → Anns := (fun _ => {})
theorem vc_ref01_size : ∀ (x : Int), R64 x /\ True -> 0 <= x /\ x <= 32 -> 0 <= IntKind.wrap .i64 ((32 : Int) - x) /\ shlI IntKind.i64 (1 : Int) (IntKind.wrap .i64 ((32 : Int) - x)) = sz x := by
  rintro x - ⟨h0, h1⟩
  rw [w64 (by omega) (by omega)]
  exact ⟨by omega, size_eq h0 h1⟩
theorem ok_ref01_size : SpecOK Tryz.prog GL 134 ct_ref01_size.spec := Ct.okH _ Tryz.func134 (by kernel_rfl) noSpecs_ok hmix an_ref01_size (hideMp (by kernel_rfl) vc_ref01_size)

def ct_ref01_Valid : Ct := ⟨[.agg cPfx], [.val .bool], fun _ => [], fun d => ((pValid d.1, ()), ())⟩
def an_ref01_Valid : PDs ct_ref01_Valid.ps → Anns := (fun _ => {})
theorem vc_ref01_Valid : ∀ (x x1 : Int), ((0 <= x /\ x <= 4294967295) /\ R64 x1) /\ True -> True -> ∀ (b : Bool), b = decide (0 <= x1) -> (b -> (b -> b) /\ True) /\ (b -> (b -> b) /\ True) /\ (b -> b) /\ ∀ (b1 : Bool), (b1 = bif b then decide (x1 <= 32) else false) -> (b1 -> (b1 -> b1) /\ True) /\ (b1 -> (b1 -> b1) /\ True) /\ (b1 -> (b1 -> b1) /\ True) /\ (b1 -> (b1 -> b1) /\ (0 <= x1 /\ x1 <= 32) /\ True) /\ (b1 -> (b1 -> b1) /\ (b1 -> b1) /\ sz x1 ≠ (0 : Int) /\ True) /\ (b1 -> (b1 -> b1) /\ True) /\ (b1 -> b1) /\ (bif b1 then decide (Int.tmod (IntKind.wrap .i64 x) (sz x1) = 0) else false) = pValid (x, x1) := by
  rintro x n ⟨⟨⟨h0, h1⟩, -⟩, -⟩ -
  have hp := sz_pos n
  (repeat (intro (b_ : Bool) (hb_ : b_ = _); (repeat refine ⟨(by first | (simp; done) | (rw [hb_]; simp; done) | (rw [hb_]; simp; omega) | (rw [hb_]; simp; intros; omega) | (rw [hb_]; simp +contextual; done)), ?_⟩); subst hb_))
  rw [w64 (by omega) (by omega), Int.tmod_eq_emod_of_nonneg h0]
  simp only [pValid]
  by_cases h2 : 0 ≤ n
  · by_cases h3 : n ≤ 32
    · simp [h2, h3]
    · simp [h2, h3]
  · simp [h2]
theorem ok_ref01_Valid : SpecOK Tryz.prog GL 133 ct_ref01_Valid.spec := Ct.okH _ Tryz.func133 (by kernel_rfl) (withSpec_ok noSpecs_ok ok_ref01_size) hmix an_ref01_Valid (hideMp (by kernel_rfl) vc_ref01_Valid)

def ct_ref01_Bounds : Ct := ⟨[.agg cPfx], [.agg (.pair cU32 cU32), .val cI], fun _ => [], fun d => (((bounds d.1).1, (bounds d.1).2, ()), ())⟩
def an_ref01_Bounds : PDs ct_ref01_Bounds.ps → Anns := (fun _ => {})
theorem vc_ref01_Bounds : ∀ (x x1 : Int), ((0 <= x /\ x <= 4294967295) /\ R64 x1) /\ True -> True -> ifP (!pValid (x, x1)) (((0 : Int), (0 : Int)) = (bounds (x, x1)).1 /\ (10 : Int) = (bounds (x, x1)).2) ((0 <= x1 /\ x1 <= 32) /\ (x, IntKind.wrap .u32 (IntKind.wrap .i64 (IntKind.wrap .i64 (IntKind.wrap .i64 x + sz x1) - (1 : Int)))) = (bounds (x, x1)).1 /\ (0 : Int) = (bounds (x, x1)).2) := by
  rintro x n ⟨⟨⟨h0, h1⟩, -⟩, -⟩ -
  unfold bounds
  refine ifP_split (fun h => ?_) (fun h => ?_)
  · have h : ¬ pValid (x, n) = true := by simpa using h
    rw [if_neg h]; exact ⟨rfl, rfl⟩
  · have h : pValid (x, n) = true := by simpa using h
    rw [if_pos h]
    have hv : 0 ≤ n ∧ n ≤ 32 ∧ x % sz n = 0 := by simpa [pValid] using h
    have hfit := sz_fit hv.1 hv.2.1 h0 h1 hv.2.2
    have hp := sz_pos n
    have hle := sz_le hv.1
    refine ⟨⟨hv.1, hv.2.1⟩, ?_, rfl⟩
    rw [w64 (n := x) (by omega) (by omega), w64 (n := x + sz n) (by omega) (by omega), w64 (n := x + sz n - 1) (by omega) (by omega), wu32 (by omega) (by omega)]
theorem ok_ref01_Bounds : SpecOK Tryz.prog GL 115 ct_ref01_Bounds.spec := Ct.okH _ Tryz.func115 (by kernel_rfl) (withSpec_ok (withSpec_ok noSpecs_ok ok_ref01_Valid) ok_ref01_size) hmix an_ref01_Bounds (hideMp (by kernel_rfl) vc_ref01_Bounds)

def ct_ref01_Contains : Ct := ⟨[.agg cPfx, .val cU32], [.val .bool], fun _ => [], fun d => ((contains d.1 d.2.1, ()), ())⟩
def an_ref01_Contains : PDs ct_ref01_Contains.ps → Anns := (fun _ => {})
theorem vc_ref01_Contains : ∀ (x x1 x2 : Int), ((0 <= x /\ x <= 4294967295) /\ R64 x1) /\ (0 <= x2 /\ x2 <= 4294967295) /\ True -> True -> ∀ (x3 x4 x5 : Int), (x3, x4) = (bounds (x, x1)).1 /\ x5 = (bounds (x, x1)).2 -> ∀ (b : Bool), b = decide (x5 = 0) -> (b -> (b -> b) /\ True) /\ (b -> (b -> b) /\ (b -> b) /\ True) /\ (b -> b) /\ ∀ (b1 : Bool), (b1 = bif b then decide (x3 <= x2) else false) -> (b1 -> (b1 -> b1) /\ True) /\ (b1 -> (b1 -> b1) /\ (b1 -> b1) /\ True) /\ (b1 -> b1) /\ (bif b1 then decide (x2 <= x4) else false) = contains (x, x1) x2 := by
  rintro x n a - -
  rintro lo hi e ⟨h1, h2⟩
  unfold contains
  unfold bounds at h1 h2
  cases hv : pValid (x, n) with
  | false =>
    rw [hv] at h1 h2
    simp at h1 h2
    obtain ⟨rfl, rfl⟩ := h1
    subst h2
    (repeat (intro (b_ : Bool) (hb_ : b_ = _); (repeat refine ⟨(by first | (simp; done) | (rw [hb_]; simp; done) | (rw [hb_]; simp; omega) | (rw [hb_]; simp; intros; omega) | (rw [hb_]; simp +contextual; done)), ?_⟩); subst hb_))
    simp
  | true =>
    rw [hv] at h1 h2
    simp at h1 h2
    obtain ⟨rfl, rfl⟩ := h1
    subst h2
    (repeat (intro (b_ : Bool) (hb_ : b_ = _); (repeat refine ⟨(by first | (simp; done) | (rw [hb_]; simp; done) | (rw [hb_]; simp; omega) | (rw [hb_]; simp; intros; omega) | (rw [hb_]; simp +contextual; done)), ?_⟩); subst hb_))
    simp only [Bool.cond_eq_ite, Bool.true_and]
    by_cases h3 : lo ≤ a
    · simp [h3]; omega
    · simp [h3]
theorem ok_ref01_Contains : SpecOK Tryz.prog GL 84 ct_ref01_Contains.spec := Ct.okH _ Tryz.func84 (by kernel_rfl) (withSpec_ok noSpecs_ok (Ct.named ok_ref01_Bounds)) hmix an_ref01_Contains (hideMp (by kernel_rfl) vc_ref01_Contains)



end Go.RS


/- Reply: answers. -/
namespace Go.RS
open Go.SX Go.Proofs
set_option maxRecDepth 100000
set_option linter.unusedVariables false

def special (a : Int) : Int :=
  if a / 16777216 = 0 then 1 else if a / 16777216 = 127 then 2
  else if a / 16777216 = 10 ∨ (a / 16777216 = 172 ∧ 16 ≤ a / 65536 % 256 ∧ a / 65536 % 256 < 32) ∨ (a / 16777216 = 192 ∧ a / 65536 % 256 = 168) then 3
  else if a / 16777216 = 169 ∧ a / 65536 % 256 = 254 then 4
  else if 224 ≤ a / 16777216 ∧ a / 16777216 < 240 then 5 else if 240 ≤ a / 16777216 then 6 else 0
end Go.RS

