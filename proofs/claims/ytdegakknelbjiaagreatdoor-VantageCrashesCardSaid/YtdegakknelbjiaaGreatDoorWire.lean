/- Wire: numbers in bytes, the Internet checksum. -/
import Derived.Test.YtdegakknelbjiaaGreatDoorIdent
namespace Go.RS
open Go.SX Go.Proofs
set_option maxRecDepth 100000
set_option linter.unusedVariables false

/-- The first 'k' of the 'w' bytes of a number, the upper ones first. -/
def beT (n : Int) (w k : Nat) : List Int := (List.range k).map fun j => n / 256 ^ (w - 1 - j) % 256
def putBad (n w : Int) : Prop := w < 1 ∨ 7 < w ∨ n < 0 ∨ 256 ^ w.toNat ≤ n
instance (n w : Int) : Decidable (putBad n w) := by unfold putBad; infer_instance
def putB (b : List Int) (n w : Int) : List Int := if putBad n w then [] else b ++ beT n w.toNat w.toNat
def putE (n w : Int) : Int := if putBad n w then 1 else 0
/-- The number in bytes. -/
def numB (l : List Int) : Int := l.foldl (fun n x => n * 256 + x) 0
def getV (b : List Int) (at' w : Int) : Int := if w < 1 ∨ 7 < w ∨ at' < 0 ∨ b.length - w < at' then 0 else numB ((b.drop at'.toNat).take w.toNat)
def getE (b : List Int) (at' w : Int) : Int := if w < 1 ∨ 7 < w ∨ at' < 0 then 1 else if b.length - w < at' then 3 else 0
/-- A sum's residue, from 0 to 65535: 0 for 0 alone. -/
def oc (n : Int) : Int := if n = 0 then 0 else (n - 1) % 65535 + 1
def sumF : Bool → List Int → Int
  | _, [] => 0
  | hi, x :: r => (if hi then x * 256 else x) + sumF (!hi) r
def word16 (n : Int) : Bool := decide (0 ≤ n ∧ n ≤ 65535)
theorem i64_or_nat (a b : Nat) (ha : a < 9223372036854775808) (hb : b < 9223372036854775808) : bits .or .i64 (a : Int) (b : Int) = ((a ||| b : Nat) : Int) := by
  have h : a ||| b < 2 ^ 63 := Nat.or_lt_two_pow (by omega) (by omega)
  have key : (BitVec.ofInt 64 (a : Int) ||| BitVec.ofInt 64 (b : Int)).toNat = a ||| b := by
    rw [BitVec.toNat_or, BitVec.toNat_ofInt, BitVec.toNat_ofInt]
    have e1 : ((a : Int) % ((2 ^ 64 : Nat) : Int)).toNat = a := by omega
    have e2 : ((b : Int) % ((2 ^ 64 : Nat) : Int)).toNat = b := by omega
    rw [e1, e2]
  show IntKind.i64.wrap ((BitVec.ofInt 64 (a : Int) ||| BitVec.ofInt 64 (b : Int)).toNat : Nat) = _
  rw [key, w64 (by omega) (by omega)]
theorem shl8 {n : Int} (h0 : 0 ≤ n) (h1 : n ≤ 36028797018963967) : shlI .i64 n 8 = n * 256 := by
  show IntKind.i64.wrap (n * 2 ^ (min 8 64)) = _
  rw [w64 (by simp; omega) (by simp; omega)]; rfl
theorem or8 {n x : Int} (h0 : 0 ≤ n) (h1 : n ≤ 36028797018963966) (h2 : 0 ≤ x) (h3 : x ≤ 255) : bits .or .i64 (shlI .i64 n 8) (IntKind.wrap .i64 x) = n * 256 + x := by
  rw [shl8 h0 (by omega), w64 (n := x) (by omega) (by omega)]
  obtain ⟨m, rfl⟩ := Int.eq_ofNat_of_zero_le h0
  obtain ⟨y, rfl⟩ := Int.eq_ofNat_of_zero_le h2
  have := i64_or_nat (m * 256) y (by omega) (by omega)
  rw [nat_join 8 (m * 256) y (by omega) (by omega)] at this
  push_cast at this
  exact this
theorem shr_pow {n : Int} {k : Nat} (h0 : 0 ≤ n) (hk : k < 8) : shrI .i64 n (8 * k) = n / 256 ^ k := by
  unfold shrI
  have hm : min ((8 * (k : Int))).toNat IntKind.i64.bits = 8 * k := by simp only [IntKind.bits]; omega
  rw [hm, Int.fdiv_eq_ediv_of_nonneg _ (Int.le_of_lt (Int.pow_pos (by decide))), Int.pow_mul]
  rfl
theorem shl_pow {w : Int} (h0 : 1 ≤ w) (h1 : w ≤ 7) : shlI .i64 1 (IntKind.wrap .i64 (8 * w)) = 256 ^ w.toNat := by
  have : w = 1 ∨ w = 2 ∨ w = 3 ∨ w = 4 ∨ w = 5 ∨ w = 6 ∨ w = 7 := by omega
  rcases this with rfl | rfl | rfl | rfl | rfl | rfl | rfl <;> decide
theorem beT_succ (n : Int) (w k : Nat) : beT n w (k + 1) = beT n w k ++ [n / 256 ^ (w - 1 - k) % 256] := by
  unfold beT; rw [List.range_succ, List.map_append]; rfl
theorem beT_len (n : Int) (w k : Nat) : (beT n w k).length = k := by unfold beT; simp
theorem numB_snoc (l : List Int) (x : Int) : numB (l ++ [x]) = numB l * 256 + x := by unfold numB; rw [List.foldl_append]; rfl
theorem numB_bound : ∀ (k : Nat) (l : List Int), l.length ≤ k → (∀ x ∈ l, 0 ≤ x ∧ x ≤ 255) → 0 ≤ numB l ∧ numB l < 256 ^ k := by
  intro k
  induction k with
  | zero =>
    intro l hl _
    have : l = [] := List.eq_nil_of_length_eq_zero (by omega)
    subst this; exact ⟨by decide, by decide⟩
  | succ k ih =>
    intro l hl hx
    rcases List.eq_nil_or_concat l with rfl | ⟨m, x, rfl⟩
    · exact ⟨by decide, Int.pow_pos (by decide)⟩
    · rw [List.concat_eq_append] at hl hx ⊢
      have h1 := ih m (by simp at hl; omega) (fun y hy => hx y (List.mem_append_left _ hy))
      have h2 := hx x (by simp)
      rw [numB_snoc, Int.pow_succ]
      generalize (256 : Int) ^ k = P at h1 ⊢
      omega
theorem numB_small {l : List Int} (hl : l.length ≤ 6) (hx : ∀ x ∈ l, 0 ≤ x ∧ x ≤ 255) : 0 ≤ numB l ∧ numB l ≤ 281474976710655 := by
  have := numB_bound 6 l hl hx
  have e : (256 : Int) ^ 6 = 281474976710656 := by decide
  omega
theorem oc_step {n : Int} (h : 65535 < n) : oc (n / 65536 + n % 65536) = oc n := by
  unfold oc
  rw [if_neg (by omega), if_neg (by omega)]; omega
theorem oc_small {n : Int} (h0 : 0 ≤ n) (h1 : n ≤ 65535) : oc n = n := by
  unfold oc; split
  · omega
  · omega
theorem oc_range {n : Int} (h0 : 0 ≤ n) : 0 ≤ oc n ∧ oc n ≤ 65535 := by unfold oc; split <;> omega
theorem oc_add {m x : Int} (h0 : 0 ≤ m) (h1 : 0 ≤ x) : oc (oc m + x) = oc (m + x) := by
  unfold oc
  by_cases h : m = 0
  · simp [h]
  · rw [if_neg h, if_neg (by omega), if_neg (by omega)]; omega
theorem sumF_append (hi : Bool) (a b : List Int) : sumF hi (a ++ b) = sumF hi a + sumF (if a.length % 2 = 0 then hi else !hi) b := by
  induction a generalizing hi with
  | nil => simp [sumF]
  | cons x a ih =>
    rw [List.cons_append, sumF, sumF, ih, Int.add_assoc]
    congr 3
    rw [List.length_cons]
    by_cases h : a.length % 2 = 0
    · rw [if_pos h, if_neg (by omega)]
    · rw [if_neg h, if_pos (by omega)]; simp
theorem sumF_range (hi : Bool) (l : List Int) (hx : ∀ x ∈ l, 0 ≤ x ∧ x ≤ 255) : 0 ≤ sumF hi l ∧ sumF hi l ≤ 65280 * l.length := by
  induction l generalizing hi with
  | nil => simp [sumF]
  | cons x l ih =>
    have h1 := ih (!hi) (fun y hy => hx y (List.mem_cons_of_mem _ hy))
    have h2 := hx x List.mem_cons_self
    rw [sumF, List.length_cons]
    cases hi
    · simp at h1 ⊢; omega
    · simp at h1 ⊢; omega
theorem take_snoc {l : List Int} {j : Int} (h0 : 0 ≤ j) (h1 : j < l.length) : l.take (j + 1).toNat = l.take j.toNat ++ [l.getD j.toNat default] := by
  have hj : j.toNat < l.length := by omega
  rw [show (j + 1).toNat = j.toNat + 1 from by omega, List.take_succ_eq_append_getElem hj, List.getD_eq_getElem?_getD, List.getElem?_eq_getElem hj, Option.getD_some]
def ct_slices_Clone_b979 : Ct := ⟨[.val (.sl cU8)], [.own 5 cU8], fun d => [(d.1.length : Int) ≤ 1099511627776], fun d => ((d.1, ()), ())⟩
def an_slices_Clone_b979 : PDs ct_slices_Clone_b979.ps → Anns := (fun _ => {})
theorem vc_slices_Clone_b979 :
    ∀ (x : List Int), (List.length x ≤ maxLen ∧ ∀ (x_1 : Int), x_1 ∈ x → (0 : Int) ≤ x_1 ∧ x_1 ≤ (255 : Int)) ∧ True → (↑(List.length x) : Int) ≤ (1099511627776 : Int) → ∀ (x_1 : Bool), (x_1 = true →
     List.length x = (0 : Nat)) → ifP x_1 (([] : List Int) = x) (((0 : Nat) + List.length x) * (1 : Nat) ≤ (140737488355328 : Nat) ∧ x = x) := by
  rintro x ⟨⟨hl, -⟩, -⟩ h b hb
  refine ifP_split (fun h1 => ?_) (fun h1 => ⟨by omega, rfl⟩)
  have := hb h1
  exact (List.eq_nil_of_length_eq_zero this).symm
theorem ok_slices_Clone_b979 : SpecOK Tryz.prog GL 87 ct_slices_Clone_b979.spec := Ct.ok' _ Tryz.func87 (by kernel_rfl) noSpecs_ok hmix an_slices_Clone_b979 (Eq.mpr (by kernel_rfl) vc_slices_Clone_b979)

def ct_wire_Put : Ct := ⟨[.val (.sl cU8), .val cI, .val cI], [.own 5 cU8, .val cI], fun d => [(d.1.length : Int) ≤ 1099511627776], fun d => ((putB d.1 d.2.1 d.2.2.1, putE d.2.1 d.2.2.1, ()), ())⟩
def an_wire_Put : PDs ct_wire_Put.ps → Anns := (fun d => { loops := (fun n => match n with | 5 => some (fun S => { ι := Int × (List Int), qn := ⟨fun k_ => ∀ (k : Int) (ys : (List Int)), k_ (k, ys), fun k_ h_ i => h_ i.1 i.2, fun k_ => ∃ (k : Int) (ys : (List Int)), k_ (k, ys), fun k_ ⟨k, ys, h_⟩ => ⟨_, h_⟩⟩, μ := fun i => (d.2.2.1 - i.1).toNat, inv := fun i => 0 ≤ i.1 ∧ i.1 ≤ d.2.2.1 ∧ i.2 = d.1 ++ beT d.2.1 d.2.2.1.toNat i.1.toNat, keep := [1, 2], slots := fun i => [(8, .own 524288 1), (9, .int .i64 (8 * (d.2.2.1 - 1 - i.1)))], names := fun i => [(524288, .live (.row 5 cU8 i.2))] }) | _ => none) })
theorem vc_wire_Put :
    ∀ (x : List Int) (x_1 x_2 : Int), (List.length x ≤ maxLen ∧ ∀ (x_3 : Int), x_3 ∈ x → (0 : Int) ≤ x_3 ∧ x_3 ≤ (255 : Int)) ∧ ((-9223372036854775808 : Int) ≤ x_1 ∧ x_1 ≤ (9223372036854775807 : Int)) ∧
     ((-9223372036854775808 : Int) ≤ x_2 ∧ x_2 ≤ (9223372036854775807 : Int)) ∧ True → (↑(List.length x) : Int) ≤ (1099511627776 : Int) → ∀ (b : Bool), b = decide (x_2 < (1 : Int)) → ((!b) = true → ((!b) =
     true → (!b) = true) ∧ True) ∧ (b = false → (!b) = true) ∧ ∀ (b_1 : Bool), (b_1 = bif b then true else decide ((7 : Int) < x_2)) → ((!b_1) = true → ((!b_1) = true → (!b_1) = true) ∧ True) ∧ (b_1 =
     false → (!b_1) = true) ∧ ∀ (b : Bool), (b = bif b_1 then true else decide (x_1 < (0 : Int))) → ((!b) = true → ((!b) = true → (!b) = true) ∧ True) ∧ ((!b) = true → ((!b) = true → (!b) = true) ∧ (0 :
     Int) ≤ IntKind.wrap IntKind.i64 ((8 : Int) * x_2) ∧ True) ∧ ((!b) = true → ((!b) = true → (!b) = true) ∧ ((!b) = true → (!b) = true) ∧ True) ∧ (b = false → (!b) = true) ∧ ifP (bif b then true else
     decide (shlI IntKind.i64 (1 : Int) (IntKind.wrap IntKind.i64 ((8 : Int) * x_2)) ≤ x_1)) (([] : List Int) = putB x x_1 x_2 ∧ (1 : Int) = putE x_1 x_2) ((↑(List.length x) : Int) ≤ (1099511627776 : Int)
     ∧ (∃ (k : Int), ∃ (ys : List Int), ((0 : Int) ≤ k ∧ k ≤ x_2 ∧ ys = x ++ beT x_1 (Int.toNat x_2) (Int.toNat k)) ∧ x_1 = x_1 ∧ x_2 = x_2 ∧ IntKind.wrap IntKind.i64 ((8 : Int) * IntKind.wrap IntKind.i64
     (x_2 - (1 : Int))) = (8 : Int) * (x_2 - (1 : Int) - k) ∧ x = ys ∧ True) ∧ ∀ (k : Int) (ys : List Int), (0 : Int) ≤ k ∧ k ≤ x_2 ∧ ys = x ++ beT x_1 (Int.toNat x_2) (Int.toNat k) → ifP (decide ((0 :
     Int) ≤ (8 : Int) * (x_2 - (1 : Int) - k))) ((0 : Int) ≤ (8 : Int) * (x_2 - (1 : Int) - k) ∧ (List.length ys + List.length [IntKind.wrap IntKind.u8 (shrI IntKind.i64 x_1 ((8 : Int) * (x_2 - (1 : Int) -
     k)))]) * (1 : Nat) ≤ (140737488355328 : Nat) ∧ ∃ (k_1 : Int), ∃ (ys_1 : List Int), ((0 : Int) ≤ k_1 ∧ k_1 ≤ x_2 ∧ ys_1 = x ++ beT x_1 (Int.toNat x_2) (Int.toNat k_1)) ∧ Int.toNat (x_2 - k_1) <
     Int.toNat (x_2 - k) ∧ x_1 = x_1 ∧ x_2 = x_2 ∧ IntKind.wrap IntKind.i64 ((8 : Int) * (x_2 - (1 : Int) - k) - (8 : Int)) = (8 : Int) * (x_2 - (1 : Int) - k_1) ∧ ys ++ [IntKind.wrap IntKind.u8 (shrI
     IntKind.i64 x_1 ((8 : Int) * (x_2 - (1 : Int) - k)))] = ys_1 ∧ True) (ys = putB x x_1 x_2 ∧ (0 : Int) = putE x_1 x_2)) := by
  rintro b n w ⟨-, ⟨n0, n1⟩, ⟨w0, w1⟩, -⟩ hl
  rintro b1 rfl
  refine ⟨by simp, by simp, ?_⟩
  rintro b1 rfl
  refine ⟨by simp, by simp, ?_⟩
  rintro b1 rfl
  have hpre : (!(bif (bif decide (w < 1) then true else decide (7 < w)) then true else decide (n < 0))) = true → 1 ≤ w ∧ w ≤ 7 ∧ 0 ≤ n := by
    simp [Bool.cond_eq_ite]; omega
  refine ⟨by simp, fun h => ⟨fun _ => h, by have := hpre h; rw [w64 (by omega) (by omega)]; omega, trivial⟩, fun h => ⟨fun _ => h, fun _ => h, trivial⟩, by simp, ?_⟩
  refine ifP_split (fun hc => ?_) (fun hc => ?_)
  · have hbad : putBad n w := by
      unfold putBad
      by_cases h : 1 ≤ w ∧ w ≤ 7
      · rw [shl_pow h.1 h.2] at hc
        simp [Bool.cond_eq_ite] at hc; omega
      · omega
    rw [putB, putE, if_pos hbad, if_pos hbad]; exact ⟨rfl, rfl⟩
  · have hw : 1 ≤ w ∧ w ≤ 7 ∧ 0 ≤ n := hpre (by
      cases h : (bif (bif decide (w < 1) then true else decide (7 < w)) then true else decide (n < 0)) with
      | false => rfl
      | true => rw [h] at hc; simp at hc)
    obtain ⟨h1, h7, hn⟩ := hw
    rw [shl_pow h1 h7] at hc
    have hgood : ¬ putBad n w := by
      unfold putBad
      simp [Bool.cond_eq_ite] at hc; omega
    rw [putB, putE, if_neg hgood, if_neg hgood]

    refine ⟨hl, ⟨0, b, ⟨by omega, by omega, by simp [beT]⟩, rfl, rfl, by rw [w64 (n := w - 1) (by omega) (by omega), w64 (by omega) (by omega)]; omega, rfl, trivial⟩, ?_⟩
    rintro k ys ⟨k0, k1, rfl⟩
    refine ifP_split (fun hk => ?_) (fun hk => ?_)
    · have hk := of_decide_eq_true hk
      obtain ⟨j, hj⟩ := Int.eq_ofNat_of_zero_le (show 0 ≤ w - 1 - k by omega)
      rw [hj, shr_pow hn (by omega), IntKind.wrap_u8']
      have hbl := beT_len n w.toNat k.toNat
      refine ⟨by omega, by simp only [List.length_append, List.length_singleton, hbl]; omega, k + 1, _, ⟨by omega, by omega, rfl⟩, by omega, rfl, rfl, by rw [w64 (by omega) (by omega)]; omega, ?_, trivial⟩
      rw [show (k + 1).toNat = k.toNat + 1 from by omega, beT_succ, List.append_assoc, show w.toNat - 1 - k.toNat = j from by omega]
    · have hk := of_decide_eq_false hk
      rw [show k = w from by omega]; exact ⟨rfl, rfl⟩
theorem ok_wire_Put : SpecOK Tryz.prog GL 113 ct_wire_Put.spec := Ct.ok' _ Tryz.func113 (by kernel_rfl) (withSpec_ok noSpecs_ok ok_slices_Clone_b979) hmix an_wire_Put (Eq.mpr (by kernel_rfl) vc_wire_Put)

def ct_wire_Get : Ct := ⟨[.val (.sl cU8), .val cI, .val cI], [.val cI, .val cI], fun d => [(d.1.length : Int) ≤ 1099511627776], fun d => ((getV d.1 d.2.1 d.2.2.1, getE d.1 d.2.1 d.2.2.1, ()), ())⟩
def an_wire_Get : PDs ct_wire_Get.ps → Anns := (fun d => { loops := (fun n => match n with | 7 => some (fun S => { ι := Int × Int, qn := ⟨fun k_ => ∀ (j : Int) (n : Int), k_ (j, n), fun k_ h_ i => h_ i.1 i.2, fun k_ => ∃ (j : Int) (n : Int), k_ (j, n), fun k_ ⟨j, n, h_⟩ => ⟨_, h_⟩⟩, μ := fun i => (d.2.2.1 - i.1).toNat, inv := fun i => 0 ≤ i.1 ∧ i.1 ≤ d.2.2.1 ∧ i.2 = numB (((d.1.drop d.2.1.toNat).take d.2.2.1.toNat).take i.1.toNat), keep := [34, 35], slots := fun i => [(8, .int .i64 i.2), (36, .int .i64 i.1)], names := fun i => [] }) | _ => none) })
theorem vc_wire_Get :
    ∀ (x : List Int) (x_1 x_2 : Int), (List.length x ≤ maxLen ∧ ∀ (x_3 : Int), x_3 ∈ x → (0 : Int) ≤ x_3 ∧ x_3 ≤ (255 : Int)) ∧ ((-9223372036854775808 : Int) ≤ x_1 ∧ x_1 ≤ (9223372036854775807 : Int)) ∧
     ((-9223372036854775808 : Int) ≤ x_2 ∧ x_2 ≤ (9223372036854775807 : Int)) ∧ True → (↑(List.length x) : Int) ≤ (1099511627776 : Int) → ∀ (b : Bool), b = decide (x_2 < (1 : Int)) → ((!b) = true → ((!b) =
     true → (!b) = true) ∧ True) ∧ (b = false → (!b) = true) ∧ ∀ (b_1 : Bool), (b_1 = bif b then true else decide ((7 : Int) < x_2)) → ((!b_1) = true → ((!b_1) = true → (!b_1) = true) ∧ True) ∧ (b_1 =
     false → (!b_1) = true) ∧ ifP (bif b_1 then true else decide (x_1 < (0 : Int))) ((0 : Int) = getV x x_1 x_2 ∧ (1 : Int) = getE x x_1 x_2) (ifP (decide (IntKind.wrap IntKind.i64 ((↑(List.length x) :
     Int) - x_2) < x_1)) ((0 : Int) = getV x x_1 x_2 ∧ (3 : Int) = getE x x_1 x_2) ((0 : Int) ≤ x_1 ∧ x_1 ≤ IntKind.wrap IntKind.i64 (x_1 + x_2) ∧ IntKind.wrap IntKind.i64 (x_1 + x_2) ≤ (↑(List.length x) :
     Int) ∧ (∃ (j : Int), ∃ (n : Int), ((0 : Int) ≤ j ∧ j ≤ x_2 ∧ n = numB (List.take (Int.toNat j) (List.take (Int.toNat x_2) (List.drop (Int.toNat x_1) x)))) ∧ (0 : Int) = n ∧ subL x (Int.toNat x_1)
     (Int.toNat (IntKind.wrap IntKind.i64 (x_1 + x_2))) = subL x (Int.toNat x_1) (Int.toNat (IntKind.wrap IntKind.i64 (x_1 + x_2))) ∧ (↑(List.length (subL x (Int.toNat x_1) (Int.toNat (IntKind.wrap
     IntKind.i64 (x_1 + x_2))))) : Int) = (↑(List.length (subL x (Int.toNat x_1) (Int.toNat (IntKind.wrap IntKind.i64 (x_1 + x_2))))) : Int) ∧ (0 : Int) = j ∧ True) ∧ ∀ (j n : Int), (0 : Int) ≤ j ∧ j ≤ x_2
     ∧ n = numB (List.take (Int.toNat j) (List.take (Int.toNat x_2) (List.drop (Int.toNat x_1) x))) → ifP (decide (j < (↑(List.length (subL x (Int.toNat x_1) (Int.toNat (IntKind.wrap IntKind.i64 (x_1 +
     x_2))))) : Int))) ((0 : Int) ≤ j ∧ j < (↑(List.length (subL x (Int.toNat x_1) (Int.toNat (IntKind.wrap IntKind.i64 (x_1 + x_2))))) : Int) ∧ (0 : Int) ≤ (8 : Int) ∧ ∃ (j_1 : Int), ∃ (n_1 : Int), ((0 :
     Int) ≤ j_1 ∧ j_1 ≤ x_2 ∧ n_1 = numB (List.take (Int.toNat j_1) (List.take (Int.toNat x_2) (List.drop (Int.toNat x_1) x)))) ∧ Int.toNat (x_2 - j_1) < Int.toNat (x_2 - j) ∧ bits BinOp.or IntKind.i64
     (shlI IntKind.i64 n (8 : Int)) (IntKind.wrap IntKind.i64 (List.getD (subL x (Int.toNat x_1) (Int.toNat (IntKind.wrap IntKind.i64 (x_1 + x_2)))) (Int.toNat j) default)) = n_1 ∧ subL x (Int.toNat x_1)
     (Int.toNat (IntKind.wrap IntKind.i64 (x_1 + x_2))) = subL x (Int.toNat x_1) (Int.toNat (IntKind.wrap IntKind.i64 (x_1 + x_2))) ∧ (↑(List.length (subL x (Int.toNat x_1) (Int.toNat (IntKind.wrap
     IntKind.i64 (x_1 + x_2))))) : Int) = (↑(List.length (subL x (Int.toNat x_1) (Int.toNat (IntKind.wrap IntKind.i64 (x_1 + x_2))))) : Int) ∧ IntKind.wrap IntKind.i64 (j + (1 : Int)) = j_1 ∧ True) (n =
     getV x x_1 x_2 ∧ (0 : Int) = getE x x_1 x_2))) := by
  rintro b a w ⟨⟨hl0, hx⟩, ⟨a0, a1⟩, ⟨w0, w1⟩, -⟩ hl
  (repeat (intro (b_ : Bool) (hb_ : b_ = _); (repeat refine ⟨(by first | (simp; done) | (rw [hb_]; simp; done) | (rw [hb_]; simp; omega) | (rw [hb_]; simp; intros; omega) | (rw [hb_]; simp +contextual; done)), ?_⟩); subst hb_))
  unfold getV getE
  refine ifP_split (fun hc => ?_) (fun hc => ?_)
  · have h : w < 1 ∨ 7 < w ∨ a < 0 := by simp [Bool.cond_eq_ite] at hc; omega
    rw [if_pos (by omega), if_pos h]; exact ⟨rfl, rfl⟩
  have h : ¬ (w < 1 ∨ 7 < w ∨ a < 0) := by simp [Bool.cond_eq_ite] at hc; omega
  rw [w64 (n := (b.length : Int) - w) (by omega) (by omega), if_neg h]
  refine ifP_split (fun hd => ?_) (fun hd => ?_)
  · have hd := of_decide_eq_true hd
    rw [if_pos (by omega), if_pos hd]; exact ⟨rfl, rfl⟩
  have hd := of_decide_eq_false hd
  rw [if_neg (by omega), if_neg hd, w64 (n := a + w) (by omega) (by omega)]
  have hsub : subL b a.toNat (a + w).toNat = (b.drop a.toNat).take w.toNat := by
    unfold subL; rw [List.drop_take, show (a + w).toNat - a.toNat = w.toNat from by omega]
  rw [hsub]
  have hlen : ((b.drop a.toNat).take w.toNat).length = w.toNat := by rw [List.length_take, List.length_drop]; omega
  have hy : ∀ y ∈ (b.drop a.toNat).take w.toNat, 0 ≤ y ∧ y ≤ 255 := fun y hy => hx y (List.mem_of_mem_drop (List.mem_of_mem_take hy))
  generalize (b.drop a.toNat).take w.toNat = m at *
  rw [hlen]
  refine ⟨by omega, by omega, by omega, ⟨0, 0, ⟨by omega, by omega, by simp [numB]⟩, (by repeat' first | exact trivial | refine ⟨trivial, ?_⟩ | refine ⟨(by with_reducible rfl), ?_⟩ | refine ⟨w64 (by omega) (by omega), ?_⟩ | refine ⟨rfl, ?_⟩)⟩, ?_⟩
  rintro j n ⟨j0, j1, rfl⟩
  refine ifP_split (fun hj => ?_) (fun hj => ?_)
  · have hj := of_decide_eq_true hj
    have ht := take_snoc (l := m) j0 (by omega)
    obtain ⟨x0, x1⟩ := hy _ (getD_mem (xs := m) j0 (by omega))
    have hb := numB_small (l := m.take j.toNat) (by rw [List.length_take]; omega) (fun y h => hy y (List.mem_of_mem_take h))
    refine ⟨j0, hj, by omega, j + 1, _, ⟨by omega, by omega, rfl⟩, by omega, ?_, rfl, rfl, w64 (by omega) (by omega), trivial⟩
    rw [ht, numB_snoc, or8 hb.1 (by omega) x0 x1]
  · have hj := of_decide_eq_false hj
    rw [List.take_of_length_le (by omega)]; exact ⟨rfl, rfl⟩
theorem ok_wire_Get : SpecOK Tryz.prog GL 86 ct_wire_Get.spec := Ct.ok' _ Tryz.func86 (by kernel_rfl) noSpecs_ok hmix an_wire_Get (Eq.mpr (by kernel_rfl) vc_wire_Get)

def ct_wire_fold : Ct := ⟨[.val cI], [.val cI], fun d => [0 ≤ d.1], fun d => ((oc d.1, ()), ())⟩
def an_wire_fold : PDs ct_wire_fold.ps → Anns := (fun d => { loops := (fun n => match n with | 1 => some (fun S => { ι := Int, μ := fun i => i.toNat, inv := fun i => 0 ≤ i ∧ i ≤ 9223372036854775807 ∧ oc i = oc d.1, keep := [], slots := fun i => [(0, .int .i64 i)], names := fun i => [] }) | _ => none) })
theorem vc_wire_fold :
    ∀ (x : Int), ((-9223372036854775808 : Int) ≤ x ∧ x ≤ (9223372036854775807 : Int)) ∧ True → (0 : Int) ≤ x → (∃ (x_1 : Int), ((0 : Int) ≤ x_1 ∧ x_1 ≤ (9223372036854775807 : Int) ∧ oc x_1 = oc x) ∧ x =
     x_1 ∧ True) ∧ ∀ (x_1 : Int), (0 : Int) ≤ x_1 ∧ x_1 ≤ (9223372036854775807 : Int) ∧ oc x_1 = oc x → ifP (decide ((65535 : Int) < x_1)) ((0 : Int) ≤ (16 : Int) ∧ ∃ (x_2 : Int), ((0 : Int) ≤ x_2 ∧ x_2 ≤
     (9223372036854775807 : Int) ∧ oc x_2 = oc x) ∧ Int.toNat x_2 < Int.toNat x_1 ∧ IntKind.wrap IntKind.i64 (shrI IntKind.i64 x_1 (16 : Int) + bits BinOp.and IntKind.i64 x_1 (65535 : Int)) = x_2 ∧ True)
     (x_1 = oc x) := by
  rintro n ⟨⟨n0, n1⟩, -⟩ h
  refine ⟨⟨n, ⟨h, n1, rfl⟩, rfl, trivial⟩, ?_⟩
  rintro m ⟨m0, m1, m2⟩
  refine ifP_split (fun hm => ?_) (fun hm => ?_)
  · have hm := of_decide_eq_true hm
    have e := shr_pow (n := m) (k := 2) m0 (by omega)
    have e2 : (8 : Int) * ((2 : Nat) : Int) = 16 := rfl
    rw [e2] at e
    rw [e, i64_and65535, w64 (by omega) (by omega)]
    have e3 : (256 : Int) ^ 2 = 65536 := rfl
    rw [e3]
    exact ⟨by omega, _, ⟨by omega, by omega, by rw [oc_step hm, m2]⟩, by omega, rfl, trivial⟩
  · have hm := of_decide_eq_false hm
    rw [← m2, oc_small m0 (by omega)]
theorem ok_wire_fold : SpecOK Tryz.prog GL 129 ct_wire_fold.spec := Ct.ok' _ Tryz.func129 (by kernel_rfl) noSpecs_ok hmix an_wire_fold (Eq.mpr (by kernel_rfl) vc_wire_fold)
theorem bit1 {j : Int} (h0 : 0 ≤ j) (h1 : j ≤ 9223372036854775807) : bits .and .i64 j 1 = j % 2 := by
  obtain ⟨m, rfl⟩ := Int.eq_ofNat_of_zero_le h0
  have key : (BitVec.ofInt 64 (m : Int) &&& BitVec.ofInt 64 1).toNat = m % 2 := by
    rw [BitVec.toNat_and, BitVec.toNat_ofInt, show (BitVec.ofInt 64 1).toNat = 1 from by decide]
    have e1 : ((m : Int) % ((2 ^ 64 : Nat) : Int)).toNat = m := by omega
    rw [e1, nat_mask1]
  show IntKind.i64.wrap ((BitVec.ofInt 64 (m : Int) &&& BitVec.ofInt 64 1).toNat : Nat) = _
  rw [key, w64 (by omega) (by omega)]; omega
theorem shl0 {n : Int} (h0 : 0 ≤ n) (h1 : n ≤ 36028797018963967) : shlI .i64 n (IntKind.wrap .i64 (8 * IntKind.wrap .i64 (1 - 1))) = n := by
  show IntKind.i64.wrap (n * 2 ^ (min 0 64)) = _
  rw [w64 (by simp; omega) (by simp; omega)]; simp
def ct_wire_Sum : Ct := ⟨[.val (.sl cU8)], [.val cI], fun d => [(d.1.length : Int) ≤ 1099511627776], fun d => ((oc (sumF true d.1), ()), ())⟩
def an_wire_Sum : PDs ct_wire_Sum.ps → Anns := (fun d => { loops := (fun n => match n with | 3 => some (fun S => { ι := Int × Int, qn := ⟨fun k_ => ∀ (j : Int) (n : Int), k_ (j, n), fun k_ h_ i => h_ i.1 i.2, fun k_ => ∃ (j : Int) (n : Int), k_ (j, n), fun k_ ⟨j, n, h_⟩ => ⟨_, h_⟩⟩, μ := fun i => (d.1.length - i.1).toNat, inv := fun i => 0 ≤ i.1 ∧ i.1 ≤ d.1.length ∧ i.2 = sumF true (d.1.take i.1.toNat) ∧ 0 ≤ i.2 ∧ i.2 ≤ 65280 * i.1, keep := [0, 6, 7], slots := fun i => [(3, .int .i64 i.2), (8, .int .i64 i.1)], names := fun i => [] }) | _ => none) })
theorem vc_wire_Sum :
    ∀ (x : List Int), (List.length x ≤ maxLen ∧ ∀ (x_1 : Int), x_1 ∈ x → (0 : Int) ≤ x_1 ∧ x_1 ≤ (255 : Int)) ∧ True → (↑(List.length x) : Int) ≤ (1099511627776 : Int) → (∃ (j : Int), ∃ (n : Int), ((0 :
     Int) ≤ j ∧ j ≤ (↑(List.length x) : Int) ∧ n = sumF true (List.take (Int.toNat j) x) ∧ (0 : Int) ≤ n ∧ n ≤ (65280 : Int) * j) ∧ x = x ∧ (0 : Int) = n ∧ x = x ∧ (↑(List.length x) : Int) = (↑(List.length
     x) : Int) ∧ (0 : Int) = j ∧ True) ∧ ∀ (j n : Int), (0 : Int) ≤ j ∧ j ≤ (↑(List.length x) : Int) ∧ n = sumF true (List.take (Int.toNat j) x) ∧ (0 : Int) ≤ n ∧ n ≤ (65280 : Int) * j → ifP (decide (j <
     (↑(List.length x) : Int))) ((0 : Int) ≤ j ∧ j < (↑(List.length x) : Int) ∧ (0 : Int) ≤ IntKind.wrap IntKind.i64 ((8 : Int) * IntKind.wrap IntKind.i64 ((1 : Int) - bits BinOp.and IntKind.i64 j (1 :
     Int))) ∧ ∃ (j_1 : Int), ∃ (n_1 : Int), ((0 : Int) ≤ j_1 ∧ j_1 ≤ (↑(List.length x) : Int) ∧ n_1 = sumF true (List.take (Int.toNat j_1) x) ∧ (0 : Int) ≤ n_1 ∧ n_1 ≤ (65280 : Int) * j_1) ∧ Int.toNat
     ((↑(List.length x) : Int) - j_1) < Int.toNat ((↑(List.length x) : Int) - j) ∧ x = x ∧ IntKind.wrap IntKind.i64 (n + shlI IntKind.i64 (IntKind.wrap IntKind.i64 (List.getD x (Int.toNat j) default))
     (IntKind.wrap IntKind.i64 ((8 : Int) * IntKind.wrap IntKind.i64 ((1 : Int) - bits BinOp.and IntKind.i64 j (1 : Int))))) = n_1 ∧ x = x ∧ (↑(List.length x) : Int) = (↑(List.length x) : Int) ∧
     IntKind.wrap IntKind.i64 (j + (1 : Int)) = j_1 ∧ True) ((0 : Int) ≤ n ∧ oc n = oc (sumF true x)) := by
  rintro l ⟨⟨-, hx⟩, -⟩ hl
  refine ⟨⟨0, 0, ⟨by omega, by omega, by simp [sumF], by omega, by omega⟩, (by repeat' first | exact trivial | refine ⟨trivial, ?_⟩ | refine ⟨(by with_reducible rfl), ?_⟩ | refine ⟨w64 (by omega) (by omega), ?_⟩ | refine ⟨rfl, ?_⟩)⟩, ?_⟩
  rintro j n ⟨j0, j1, rfl, n0, n1⟩
  refine ifP_split (fun hj => ?_) (fun hj => ?_)
  · have hj := of_decide_eq_true hj
    obtain ⟨x0, x1⟩ := hx _ (getD_mem j0 hj)
    have ht := take_snoc j0 hj
    have hs := sumF_append true (l.take j.toNat) [l.getD j.toNat default]
    rw [← ht] at hs
    generalize l.getD j.toNat default = x at *
    have hb := bit1 j0 (by omega)
    rw [hb]
    have hlen : (l.take j.toNat).length = j.toNat := by rw [List.length_take]; omega
    rw [hlen] at hs
    have hv : 0 ≤ IntKind.wrap .i64 (8 * IntKind.wrap .i64 (1 - j % 2)) ∧ shlI .i64 (IntKind.wrap .i64 x) (IntKind.wrap .i64 (8 * IntKind.wrap .i64 (1 - j % 2))) = (if j % 2 = 0 then x * 256 else x) := by
      rw [w64 (n := x) (by omega) (by omega)]
      by_cases he : j % 2 = 0
      · rw [he, if_pos rfl]; exact ⟨by decide, shl8 x0 (by omega)⟩
      · rw [show j % 2 = 1 from by omega, if_neg (by decide)]
        exact ⟨by decide, shl0 x0 (by omega)⟩
    rw [hv.2]
    refine ⟨j0, hj, hv.1, j + 1, sumF true (l.take (j + 1).toNat), ⟨by omega, by omega, rfl, ?_, ?_⟩, by omega, rfl, ?_, rfl, rfl, w64 (by omega) (by omega), trivial⟩
    all_goals rw [hs]
    all_goals by_cases he : j % 2 = 0
    all_goals first
      | rw [if_pos (show j.toNat % 2 = 0 by omega)]
      | rw [if_neg (show ¬ j.toNat % 2 = 0 by omega)]
    all_goals simp only [sumF, he, if_true, if_false, Bool.not_true, Bool.false_eq_true]
    all_goals try omega
    all_goals rw [w64 (by omega) (by omega)]
    all_goals omega
  · have hj := of_decide_eq_false hj
    rw [List.take_of_length_le (by omega)] at n0 ⊢
    exact ⟨n0, rfl⟩
theorem ok_wire_Sum : SpecOK Tryz.prog GL 114 ct_wire_Sum.spec := Ct.ok' _ Tryz.func114 (by kernel_rfl) (withSpec_ok noSpecs_ok ok_wire_fold) hmix an_wire_Sum (Eq.mpr (by kernel_rfl) vc_wire_Sum)

def ct_wire_Checksum : Ct := ⟨[.val (.sl cU8)], [.val cI], fun d => [(d.1.length : Int) ≤ 1099511627776], fun d => ((65535 - oc (sumF true d.1), ()), ())⟩
def an_wire_Checksum : PDs ct_wire_Checksum.ps → Anns := (fun _ => {})
theorem vc_wire_Checksum :
    ∀ (x : List Int), (List.length x ≤ maxLen ∧ ∀ (x_1 : Int), x_1 ∈ x → (0 : Int) ≤ x_1 ∧ x_1 ≤ (255 : Int)) ∧ True → (↑(List.length x) : Int) ≤ (1099511627776 : Int) → (↑(List.length x) : Int) ≤
     (1099511627776 : Int) ∧ IntKind.wrap IntKind.i64 ((65535 : Int) - oc (sumF true x)) = (65535 : Int) - oc (sumF true x) := by
  rintro l ⟨⟨-, hx⟩, -⟩ hl
  have := oc_range (sumF_range true l hx).1
  exact ⟨hl, w64 (by omega) (by omega)⟩
theorem ok_wire_Checksum : SpecOK Tryz.prog GL 89 ct_wire_Checksum.spec := Ct.ok' _ Tryz.func89 (by kernel_rfl) (withSpec_ok noSpecs_ok ok_wire_Sum) hmix an_wire_Checksum (Eq.mpr (by kernel_rfl) vc_wire_Checksum)

def ct_ref04_Put : Ct := ⟨[.val (.sl cU8), .val cI, .val cI], [.own 5 cU8, .val cI], fun d => [(d.1.length : Int) ≤ 1099511627776], fun d => ((putB d.1 d.2.1 d.2.2.1, putE d.2.1 d.2.2.1, ()), ())⟩
def an_ref04_Put : PDs ct_ref04_Put.ps → Anns := (fun d => { loops := (fun n => match n with | 5 => some (fun S => { ι := Int × (List Int), qn := ⟨fun k_ => ∀ (k : Int) (ys : (List Int)), k_ (k, ys), fun k_ h_ i => h_ i.1 i.2, fun k_ => ∃ (k : Int) (ys : (List Int)), k_ (k, ys), fun k_ ⟨k, ys, h_⟩ => ⟨_, h_⟩⟩, μ := fun i => (d.2.2.1 - i.1).toNat, inv := fun i => 0 ≤ i.1 ∧ i.1 ≤ d.2.2.1 ∧ i.2 = d.1 ++ beT d.2.1 d.2.2.1.toNat i.1.toNat, keep := [1, 2], slots := fun i => [(8, .own 524288 1), (9, .int .i64 (d.2.2.1 - 1 - i.1))], names := fun i => [(524288, .live (.row 5 cU8 i.2))] }) | _ => none) })
theorem vc_ref04_Put :
    ∀ (x : List Int) (x_1 x_2 : Int), (List.length x ≤ maxLen ∧ ∀ (x_3 : Int), x_3 ∈ x → (0 : Int) ≤ x_3 ∧ x_3 ≤ (255 : Int)) ∧ ((-9223372036854775808 : Int) ≤ x_1 ∧ x_1 ≤ (9223372036854775807 : Int)) ∧
     ((-9223372036854775808 : Int) ≤ x_2 ∧ x_2 ≤ (9223372036854775807 : Int)) ∧ True → (↑(List.length x) : Int) ≤ (1099511627776 : Int) → ∀ (b : Bool), b = decide (x_2 < (1 : Int)) → ((!b) = true → ((!b) =
     true → (!b) = true) ∧ True) ∧ (b = false → (!b) = true) ∧ ∀ (b_1 : Bool), (b_1 = bif b then true else decide ((7 : Int) < x_2)) → ((!b_1) = true → ((!b_1) = true → (!b_1) = true) ∧ True) ∧ (b_1 =
     false → (!b_1) = true) ∧ ∀ (b : Bool), (b = bif b_1 then true else decide (x_1 < (0 : Int))) → ((!b) = true → ((!b) = true → (!b) = true) ∧ True) ∧ ((!b) = true → ((!b) = true → (!b) = true) ∧ (0 :
     Int) ≤ IntKind.wrap IntKind.i64 ((8 : Int) * x_2) ∧ True) ∧ ((!b) = true → ((!b) = true → (!b) = true) ∧ ((!b) = true → (!b) = true) ∧ True) ∧ (b = false → (!b) = true) ∧ ifP (bif b then true else
     decide (shlI IntKind.i64 (1 : Int) (IntKind.wrap IntKind.i64 ((8 : Int) * x_2)) ≤ x_1)) (([] : List Int) = putB x x_1 x_2 ∧ (1 : Int) = putE x_1 x_2) (List.length x * (1 : Nat) ≤ (140737488355328 :
     Nat) ∧ (∃ (k : Int), ∃ (ys : List Int), ((0 : Int) ≤ k ∧ k ≤ x_2 ∧ ys = x ++ beT x_1 (Int.toNat x_2) (Int.toNat k)) ∧ x_1 = x_1 ∧ x_2 = x_2 ∧ IntKind.wrap IntKind.i64 (x_2 - (1 : Int)) = x_2 - (1 :
     Int) - k ∧ x = ys ∧ True) ∧ ∀ (k : Int) (ys : List Int), (0 : Int) ≤ k ∧ k ≤ x_2 ∧ ys = x ++ beT x_1 (Int.toNat x_2) (Int.toNat k) → ifP (decide ((0 : Int) ≤ x_2 - (1 : Int) - k)) ((0 : Int) ≤
     IntKind.wrap IntKind.i64 ((8 : Int) * (x_2 - (1 : Int) - k)) ∧ (List.length ys + List.length [IntKind.wrap IntKind.u8 (shrI IntKind.i64 x_1 (IntKind.wrap IntKind.i64 ((8 : Int) * (x_2 - (1 : Int) -
     k))))]) * (1 : Nat) ≤ (140737488355328 : Nat) ∧ ∃ (k_1 : Int), ∃ (ys_1 : List Int), ((0 : Int) ≤ k_1 ∧ k_1 ≤ x_2 ∧ ys_1 = x ++ beT x_1 (Int.toNat x_2) (Int.toNat k_1)) ∧ Int.toNat (x_2 - k_1) <
     Int.toNat (x_2 - k) ∧ x_1 = x_1 ∧ x_2 = x_2 ∧ IntKind.wrap IntKind.i64 (x_2 - (1 : Int) - k - (1 : Int)) = x_2 - (1 : Int) - k_1 ∧ ys ++ [IntKind.wrap IntKind.u8 (shrI IntKind.i64 x_1 (IntKind.wrap
     IntKind.i64 ((8 : Int) * (x_2 - (1 : Int) - k))))] = ys_1 ∧ True) (ys = putB x x_1 x_2 ∧ (0 : Int) = putE x_1 x_2)) := by
  rintro b n w ⟨-, ⟨n0, n1⟩, ⟨w0, w1⟩, -⟩ hl
  rintro b1 rfl
  refine ⟨by simp, by simp, ?_⟩
  rintro b1 rfl
  refine ⟨by simp, by simp, ?_⟩
  rintro b1 rfl
  have hpre : (!(bif (bif decide (w < 1) then true else decide (7 < w)) then true else decide (n < 0))) = true → 1 ≤ w ∧ w ≤ 7 ∧ 0 ≤ n := by
    simp [Bool.cond_eq_ite]; omega
  refine ⟨by simp, fun h => ⟨fun _ => h, by have := hpre h; rw [w64 (by omega) (by omega)]; omega, trivial⟩, fun h => ⟨fun _ => h, fun _ => h, trivial⟩, by simp, ?_⟩
  refine ifP_split (fun hc => ?_) (fun hc => ?_)
  · have hbad : putBad n w := by
      unfold putBad
      by_cases h : 1 ≤ w ∧ w ≤ 7
      · rw [shl_pow h.1 h.2] at hc
        simp [Bool.cond_eq_ite] at hc; omega
      · omega
    rw [putB, putE, if_pos hbad, if_pos hbad]; exact ⟨rfl, rfl⟩
  · have hw : 1 ≤ w ∧ w ≤ 7 ∧ 0 ≤ n := hpre (by
      cases h : (bif (bif decide (w < 1) then true else decide (7 < w)) then true else decide (n < 0)) with
      | false => rfl
      | true => rw [h] at hc; simp at hc)
    obtain ⟨h1, h7, hn⟩ := hw
    rw [shl_pow h1 h7] at hc
    have hgood : ¬ putBad n w := by
      unfold putBad
      simp [Bool.cond_eq_ite] at hc; omega
    rw [putB, putE, if_neg hgood, if_neg hgood]

    refine ⟨by omega, ⟨0, b, ⟨by omega, by omega, by simp [beT]⟩, rfl, rfl, by rw [w64 (by omega) (by omega)]; omega, rfl, trivial⟩, ?_⟩
    rintro k ys ⟨k0, k1, rfl⟩
    refine ifP_split (fun hk => ?_) (fun hk => ?_)
    · have hk := of_decide_eq_true hk
      rw [w64 (n := 8 * (w - 1 - k)) (by omega) (by omega)]
      obtain ⟨j, hj⟩ := Int.eq_ofNat_of_zero_le (show 0 ≤ w - 1 - k by omega)
      rw [hj, shr_pow hn (by omega), IntKind.wrap_u8']
      have hbl := beT_len n w.toNat k.toNat
      refine ⟨by omega, by simp only [List.length_append, List.length_singleton, hbl]; omega, k + 1, _, ⟨by omega, by omega, rfl⟩, by omega, rfl, rfl, by rw [w64 (by omega) (by omega)]; omega, ?_, trivial⟩
      rw [show (k + 1).toNat = k.toNat + 1 from by omega, beT_succ, List.append_assoc, show w.toNat - 1 - k.toNat = j from by omega]
    · have hk := of_decide_eq_false hk
      rw [show k = w from by omega]; exact ⟨rfl, rfl⟩
theorem ok_ref04_Put : SpecOK Tryz.prog GL 121 ct_ref04_Put.spec := Ct.ok' _ Tryz.func121 (by kernel_rfl) noSpecs_ok hmix an_ref04_Put (Eq.mpr (by kernel_rfl) vc_ref04_Put)

def ct_ref04_Push : Ct := ⟨[.val (.sl cU8), .val cI, .val cI], [.own 5 cU8], fun d => [(d.1.length : Int) ≤ 1099511627776], fun d => ((putB d.1 d.2.1 d.2.2.1, ()), ())⟩
def an_ref04_Push : PDs ct_ref04_Push.ps → Anns := (fun _ => {})
theorem vc_ref04_Push :
    ∀ (x : List Int) (x_1 x_2 : Int), (List.length x ≤ maxLen ∧ ∀ (x_3 : Int), x_3 ∈ x → (0 : Int) ≤ x_3 ∧ x_3 ≤ (255 : Int)) ∧ ((-9223372036854775808 : Int) ≤ x_1 ∧ x_1 ≤ (9223372036854775807 : Int)) ∧
     ((-9223372036854775808 : Int) ≤ x_2 ∧ x_2 ≤ (9223372036854775807 : Int)) ∧ True → (↑(List.length x) : Int) ≤ (1099511627776 : Int) → (↑(List.length x) : Int) ≤ (1099511627776 : Int) ∧ putB x x_1 x_2 =
     putB x x_1 x_2 := by
  intro b n w _ h
  exact ⟨h, rfl⟩
theorem ok_ref04_Push : SpecOK Tryz.prog GL 102 ct_ref04_Push.spec := Ct.ok' _ Tryz.func102 (by kernel_rfl) (withSpec_ok noSpecs_ok ok_ref04_Put) hmix an_ref04_Push (Eq.mpr (by kernel_rfl) vc_ref04_Push)

def ct_ref04_Get : Ct := ⟨[.val (.sl cU8), .val cI, .val cI], [.val cI, .val cI], fun d => [(d.1.length : Int) ≤ 1099511627776], fun d => ((getV d.1 d.2.1 d.2.2.1, getE d.1 d.2.1 d.2.2.1, ()), ())⟩
def an_ref04_Get : PDs ct_ref04_Get.ps → Anns := (fun d => { loops := (fun n => match n with | 7 => some (fun S => { ι := Int × Int, qn := ⟨fun k_ => ∀ (j : Int) (n : Int), k_ (j, n), fun k_ h_ i => h_ i.1 i.2, fun k_ => ∃ (j : Int) (n : Int), k_ (j, n), fun k_ ⟨j, n, h_⟩ => ⟨_, h_⟩⟩, μ := fun i => (d.2.2.1 - i.1).toNat, inv := fun i => 0 ≤ i.1 ∧ i.1 ≤ d.2.2.1 ∧ i.2 = numB (((d.1.drop d.2.1.toNat).take d.2.2.1.toNat).take i.1.toNat), keep := [0, 1, 2], slots := fun i => [(8, .int .i64 i.2), (9, .int .i64 i.1)], names := fun i => [] }) | _ => none) })
theorem vc_ref04_Get :
    ∀ (x : List Int) (x_1 x_2 : Int), (List.length x ≤ maxLen ∧ ∀ (x_3 : Int), x_3 ∈ x → (0 : Int) ≤ x_3 ∧ x_3 ≤ (255 : Int)) ∧ ((-9223372036854775808 : Int) ≤ x_1 ∧ x_1 ≤ (9223372036854775807 : Int)) ∧
     ((-9223372036854775808 : Int) ≤ x_2 ∧ x_2 ≤ (9223372036854775807 : Int)) ∧ True → (↑(List.length x) : Int) ≤ (1099511627776 : Int) → ∀ (b : Bool), b = decide (x_2 < (1 : Int)) → ((!b) = true → ((!b) =
     true → (!b) = true) ∧ True) ∧ (b = false → (!b) = true) ∧ ∀ (b_1 : Bool), (b_1 = bif b then true else decide ((7 : Int) < x_2)) → ((!b_1) = true → ((!b_1) = true → (!b_1) = true) ∧ True) ∧ (b_1 =
     false → (!b_1) = true) ∧ ifP (bif b_1 then true else decide (x_1 < (0 : Int))) ((0 : Int) = getV x x_1 x_2 ∧ (1 : Int) = getE x x_1 x_2) (∀ (b : Bool), b = decide ((↑(List.length x) : Int) < x_1) →
     ((!b) = true → ((!b) = true → (!b) = true) ∧ True) ∧ ((!b) = true → ((!b) = true → (!b) = true) ∧ ((!b) = true → (!b) = true) ∧ True) ∧ ((!b) = true → ((!b) = true → (!b) = true) ∧ ((!b) = true → (!b)
     = true) ∧ True) ∧ (b = false → (!b) = true) ∧ ifP (bif b then true else decide (IntKind.wrap IntKind.i64 ((↑(List.length x) : Int) - x_1) < x_2)) ((0 : Int) = getV x x_1 x_2 ∧ (3 : Int) = getE x x_1
     x_2) ((∃ (j : Int), ∃ (n : Int), ((0 : Int) ≤ j ∧ j ≤ x_2 ∧ n = numB (List.take (Int.toNat j) (List.take (Int.toNat x_2) (List.drop (Int.toNat x_1) x)))) ∧ x = x ∧ x_1 = x_1 ∧ x_2 = x_2 ∧ (0 : Int) =
     n ∧ (0 : Int) = j ∧ True) ∧ ∀ (j n : Int), (0 : Int) ≤ j ∧ j ≤ x_2 ∧ n = numB (List.take (Int.toNat j) (List.take (Int.toNat x_2) (List.drop (Int.toNat x_1) x))) → ifP (decide (j < x_2)) ((0 : Int) ≤
     (8 : Int) ∧ (0 : Int) ≤ IntKind.wrap IntKind.i64 (x_1 + j) ∧ IntKind.wrap IntKind.i64 (x_1 + j) < (↑(List.length x) : Int) ∧ ∃ (j_1 : Int), ∃ (n_1 : Int), ((0 : Int) ≤ j_1 ∧ j_1 ≤ x_2 ∧ n_1 = numB
     (List.take (Int.toNat j_1) (List.take (Int.toNat x_2) (List.drop (Int.toNat x_1) x)))) ∧ Int.toNat (x_2 - j_1) < Int.toNat (x_2 - j) ∧ x = x ∧ x_1 = x_1 ∧ x_2 = x_2 ∧ bits BinOp.or IntKind.i64 (shlI
     IntKind.i64 n (8 : Int)) (IntKind.wrap IntKind.i64 (List.getD x (Int.toNat (IntKind.wrap IntKind.i64 (x_1 + j))) default)) = n_1 ∧ IntKind.wrap IntKind.i64 (j + (1 : Int)) = j_1 ∧ True) (n = getV x
     x_1 x_2 ∧ (0 : Int) = getE x x_1 x_2))) := by
  rintro b a w ⟨⟨hl0, hx⟩, ⟨a0, a1⟩, ⟨w0, w1⟩, -⟩ hl
  rintro b1 rfl
  refine ⟨by simp, by simp, ?_⟩
  rintro b1 rfl
  refine ⟨by simp, by simp, ?_⟩
  unfold getV getE
  refine ifP_split (fun hc => ?_) (fun hc => ?_)
  · have h : w < 1 ∨ 7 < w ∨ a < 0 := by simp [Bool.cond_eq_ite] at hc; omega
    rw [if_pos (by omega), if_pos h]; exact ⟨rfl, rfl⟩
  have h : ¬ (w < 1 ∨ 7 < w ∨ a < 0) := by simp [Bool.cond_eq_ite] at hc; omega
  rintro b1 rfl
  refine ⟨by simp, by simp, by simp, by simp, ?_⟩
  rw [w64 (n := (b.length : Int) - a) (by omega) (by omega), if_neg h]
  refine ifP_split (fun hd => ?_) (fun hd => ?_)
  · have hd : b.length < a ∨ b.length - a < w := by simp [Bool.cond_eq_ite] at hd; omega
    rw [if_pos (by omega), if_pos (by omega)]; exact ⟨rfl, rfl⟩
  have hd : ¬ (b.length < a ∨ b.length - a < w) := by simp [Bool.cond_eq_ite] at hd; omega
  rw [if_neg (by omega), if_neg (by omega)]
  have hlen : ((b.drop a.toNat).take w.toNat).length = w.toNat := by rw [List.length_take, List.length_drop]; omega
  have hy : ∀ y ∈ (b.drop a.toNat).take w.toNat, 0 ≤ y ∧ y ≤ 255 := fun y hy => hx y (List.mem_of_mem_drop (List.mem_of_mem_take hy))
  have hget : ∀ j : Int, 0 ≤ j → j < w → b.getD (a + j).toNat default = ((b.drop a.toNat).take w.toNat).getD j.toNat default := by
    intro j j0 j1
    rw [List.getD_eq_getElem?_getD, List.getD_eq_getElem?_getD, List.getElem?_take, if_pos (by omega), List.getElem?_drop]
    congr 2; omega
  generalize (b.drop a.toNat).take w.toNat = m at *
  refine ⟨⟨0, 0, ⟨by omega, by omega, by simp [numB]⟩, (by repeat' first | exact trivial | refine ⟨trivial, ?_⟩ | refine ⟨(by with_reducible rfl), ?_⟩ | refine ⟨w64 (by omega) (by omega), ?_⟩ | refine ⟨rfl, ?_⟩)⟩, ?_⟩
  rintro j n ⟨j0, j1, rfl⟩
  refine ifP_split (fun hj => ?_) (fun hj => ?_)
  · have hj := of_decide_eq_true hj
    have ht := take_snoc (l := m) j0 (by omega)
    obtain ⟨x0, x1⟩ := hy _ (getD_mem (xs := m) j0 (by omega))
    have hb := numB_small (l := m.take j.toNat) (by rw [List.length_take]; omega) (fun y h => hy y (List.mem_of_mem_take h))
    rw [w64 (n := a + j) (by omega) (by omega), hget j j0 hj]
    refine ⟨by omega, by omega, by omega, j + 1, _, ⟨by omega, by omega, rfl⟩, by omega, rfl, rfl, rfl, ?_, w64 (by omega) (by omega), trivial⟩
    rw [ht, numB_snoc, or8 hb.1 (by omega) x0 x1]
  · have hj := of_decide_eq_false hj
    rw [List.take_of_length_le (by omega)]; exact ⟨rfl, rfl⟩
theorem ok_ref04_Get : SpecOK Tryz.prog GL 85 ct_ref04_Get.spec := Ct.ok' _ Tryz.func85 (by kernel_rfl) noSpecs_ok hmix an_ref04_Get (Eq.mpr (by kernel_rfl) vc_ref04_Get)

def ct_ref04_At : Ct := ⟨[.val (.sl cU8), .val cI, .val cI], [.val cI], fun d => [(d.1.length : Int) ≤ 1099511627776], fun d => ((getV d.1 d.2.1 d.2.2.1, ()), ())⟩
def an_ref04_At : PDs ct_ref04_At.ps → Anns := (fun _ => {})
theorem vc_ref04_At :
    ∀ (x : List Int) (x_1 x_2 : Int), (List.length x ≤ maxLen ∧ ∀ (x_3 : Int), x_3 ∈ x → (0 : Int) ≤ x_3 ∧ x_3 ≤ (255 : Int)) ∧ ((-9223372036854775808 : Int) ≤ x_1 ∧ x_1 ≤ (9223372036854775807 : Int)) ∧
     ((-9223372036854775808 : Int) ≤ x_2 ∧ x_2 ≤ (9223372036854775807 : Int)) ∧ True → (↑(List.length x) : Int) ≤ (1099511627776 : Int) → (↑(List.length x) : Int) ≤ (1099511627776 : Int) ∧ getV x x_1 x_2 =
     getV x x_1 x_2 := by
  intro b n w _ h
  exact ⟨h, rfl⟩
theorem ok_ref04_At : SpecOK Tryz.prog GL 53 ct_ref04_At.spec := Ct.ok' _ Tryz.func53 (by kernel_rfl) (withSpec_ok noSpecs_ok ok_ref04_Get) hmix an_ref04_At (Eq.mpr (by kernel_rfl) vc_ref04_At)

def ct_ref04_word : Ct := ⟨[.val cI], [.val .bool], fun d => [], fun d => ((word16 d.1, ()), ())⟩
def an_ref04_word : PDs ct_ref04_word.ps → Anns := (fun _ => {})
theorem vc_ref04_word :
    ∀ (x : Int), ((-9223372036854775808 : Int) ≤ x ∧ x ≤ (9223372036854775807 : Int)) ∧ True → True → ∀ (b : Bool), b = decide ((0 : Int) ≤ x) → (b = true → (b = true → b = true) ∧ True) ∧ (b = true → b =
     true) ∧ (bif b then decide (x ≤ (65535 : Int)) else false) = word16 x := by
  rintro n - -
  (repeat (intro (b_ : Bool) (hb_ : b_ = _); (repeat refine ⟨(by first | (simp; done) | (rw [hb_]; simp; done) | (rw [hb_]; simp; omega) | (rw [hb_]; simp; intros; omega) | (rw [hb_]; simp +contextual; done)), ?_⟩); subst hb_))
  unfold word16
  by_cases h : 0 ≤ n <;> simp [h]
theorem ok_ref04_word : SpecOK Tryz.prog GL 131 ct_ref04_word.spec := Ct.ok' _ Tryz.func131 (by kernel_rfl) noSpecs_ok hmix an_ref04_word (Eq.mpr (by kernel_rfl) vc_ref04_word)

def ct_ref04_Add : Ct := ⟨[.val cI, .val cI], [.val cI], fun d => [], fun d => ((if word16 d.1 && word16 d.2.1 then oc (d.1 + d.2.1) else 0, ()), ())⟩
def an_ref04_Add : PDs ct_ref04_Add.ps → Anns := (fun _ => {})
theorem vc_ref04_Add :
    ∀ (x x_1 : Int), ((-9223372036854775808 : Int) ≤ x ∧ x ≤ (9223372036854775807 : Int)) ∧ ((-9223372036854775808 : Int) ≤ x_1 ∧ x_1 ≤ (9223372036854775807 : Int)) ∧ True → True → ∀ (b : Bool), b =
     !word16 x → ((!b) = true → ((!b) = true → (!b) = true) ∧ True) ∧ ((!b) = true → ((!b) = true → (!b) = true) ∧ True) ∧ (b = false → (!b) = true) ∧ ifP (bif b then true else !word16 x_1) ((0 : Int) = if
     (word16 x && word16 x_1) = true then oc (x + x_1) else (0 : Int)) ((0 : Int) ≤ (16 : Int) ∧ IntKind.wrap IntKind.i64 (bits BinOp.and IntKind.i64 (IntKind.wrap IntKind.i64 (x + x_1)) (65535 : Int) +
     shrI IntKind.i64 (IntKind.wrap IntKind.i64 (x + x_1)) (16 : Int)) = if (word16 x && word16 x_1) = true then oc (x + x_1) else (0 : Int)) := by
  rintro a b - -
  (repeat (intro (b_ : Bool) (hb_ : b_ = _); (repeat refine ⟨(by first | (simp; done) | (rw [hb_]; simp; done) | (rw [hb_]; simp; omega) | (rw [hb_]; simp; intros; omega) | (rw [hb_]; simp +contextual; done)), ?_⟩); subst hb_))
  refine ifP_split (fun hc => ?_) (fun hc => ?_)
  · rw [if_neg]
    intro h; simp at h; simp [h] at hc
  · have hw : word16 a = true ∧ word16 b = true := by simpa [Bool.cond_eq_ite] using hc
    rw [if_pos (by simp [hw])]
    have ha : 0 ≤ a ∧ a ≤ 65535 := of_decide_eq_true hw.1
    have hb : 0 ≤ b ∧ b ≤ 65535 := of_decide_eq_true hw.2
    rw [w64 (n := a + b) (by omega) (by omega)]
    have e := shr_pow (n := a + b) (k := 2) (by omega) (by omega)
    have e2 : (8 : Int) * ((2 : Nat) : Int) = 16 := rfl
    have e3 : (256 : Int) ^ 2 = 65536 := rfl
    rw [e2, e3] at e
    rw [e, i64_and65535, w64 (by omega) (by omega)]
    refine ⟨by omega, ?_⟩
    unfold oc; split <;> omega
theorem ok_ref04_Add : SpecOK Tryz.prog GL 122 ct_ref04_Add.spec := Ct.ok' _ Tryz.func122 (by kernel_rfl) (withSpec_ok noSpecs_ok ok_ref04_word) hmix an_ref04_Add (Eq.mpr (by kernel_rfl) vc_ref04_Add)

def ct_ref04_Sum : Ct := ⟨[.val (.sl cU8)], [.val cI], fun d => [(d.1.length : Int) ≤ 1099511627776], fun d => ((oc (sumF true d.1), ()), ())⟩
def an_ref04_Sum : PDs ct_ref04_Sum.ps → Anns := (fun d => { loops := (fun n => match n with | 3 => some (fun S => { ι := Int × Int, qn := ⟨fun k_ => ∀ (k : Int) (s : Int), k_ (k, s), fun k_ h_ i => h_ i.1 i.2, fun k_ => ∃ (k : Int) (s : Int), k_ (k, s), fun k_ ⟨k, s, h_⟩ => ⟨_, h_⟩⟩, μ := fun i => (d.1.length + 1 - 2 * i.1).toNat, inv := fun i => 0 ≤ i.1 ∧ 2 * i.1 ≤ d.1.length + 1 ∧ i.2 = oc (sumF true (d.1.take (2 * i.1).toNat)) ∧ 0 ≤ i.2 ∧ i.2 ≤ 65535, keep := [0], slots := fun i => [(3, .int .i64 i.2), (4, .int .i64 (2 * i.1))], names := fun i => [] }) | _ => none) })
theorem vc_ref04_Sum :
    ∀ (x : List Int), (List.length x ≤ maxLen ∧ ∀ (x_1 : Int), x_1 ∈ x → (0 : Int) ≤ x_1 ∧ x_1 ≤ (255 : Int)) ∧ True → (↑(List.length x) : Int) ≤ (1099511627776 : Int) → (∃ (k : Int), ∃ (s : Int), ((0 :
     Int) ≤ k ∧ (2 : Int) * k ≤ (↑(List.length x) : Int) + (1 : Int) ∧ s = oc (sumF true (List.take (Int.toNat ((2 : Int) * k)) x)) ∧ (0 : Int) ≤ s ∧ s ≤ (65535 : Int)) ∧ x = x ∧ (0 : Int) = s ∧ (0 : Int)
     = (2 : Int) * k ∧ True) ∧ ∀ (k s : Int), (0 : Int) ≤ k ∧ (2 : Int) * k ≤ (↑(List.length x) : Int) + (1 : Int) ∧ s = oc (sumF true (List.take (Int.toNat ((2 : Int) * k)) x)) ∧ (0 : Int) ≤ s ∧ s ≤
     (65535 : Int) → ifP (decide ((2 : Int) * k < (↑(List.length x) : Int))) ((0 : Int) ≤ (2 : Int) * k ∧ (2 : Int) * k < (↑(List.length x) : Int) ∧ (0 : Int) ≤ (8 : Int) ∧ ifP (decide (IntKind.wrap
     IntKind.i64 ((2 : Int) * k + (1 : Int)) < (↑(List.length x) : Int))) ((0 : Int) ≤ IntKind.wrap IntKind.i64 ((2 : Int) * k + (1 : Int)) ∧ IntKind.wrap IntKind.i64 ((2 : Int) * k + (1 : Int)) <
     (↑(List.length x) : Int) ∧ ∃ (k_1 : Int), ∃ (s_1 : Int), ((0 : Int) ≤ k_1 ∧ (2 : Int) * k_1 ≤ (↑(List.length x) : Int) + (1 : Int) ∧ s_1 = oc (sumF true (List.take (Int.toNat ((2 : Int) * k_1)) x)) ∧
     (0 : Int) ≤ s_1 ∧ s_1 ≤ (65535 : Int)) ∧ Int.toNat ((↑(List.length x) : Int) + (1 : Int) - (2 : Int) * k_1) < Int.toNat ((↑(List.length x) : Int) + (1 : Int) - (2 : Int) * k) ∧ x = x ∧ (if (word16 s
     && word16 (IntKind.wrap IntKind.i64 (shlI IntKind.i64 (IntKind.wrap IntKind.i64 (List.getD x (Int.toNat ((2 : Int) * k)) default)) (8 : Int) + IntKind.wrap IntKind.i64 (List.getD x (Int.toNat
     (IntKind.wrap IntKind.i64 ((2 : Int) * k + (1 : Int)))) default)))) = true then oc (s + IntKind.wrap IntKind.i64 (shlI IntKind.i64 (IntKind.wrap IntKind.i64 (List.getD x (Int.toNat ((2 : Int) * k))
     default)) (8 : Int) + IntKind.wrap IntKind.i64 (List.getD x (Int.toNat (IntKind.wrap IntKind.i64 ((2 : Int) * k + (1 : Int)))) default))) else (0 : Int)) = s_1 ∧ IntKind.wrap IntKind.i64 ((2 : Int) *
     k + (2 : Int)) = (2 : Int) * k_1 ∧ True) (∃ (k_1 : Int), ∃ (s_1 : Int), ((0 : Int) ≤ k_1 ∧ (2 : Int) * k_1 ≤ (↑(List.length x) : Int) + (1 : Int) ∧ s_1 = oc (sumF true (List.take (Int.toNat ((2 : Int)
     * k_1)) x)) ∧ (0 : Int) ≤ s_1 ∧ s_1 ≤ (65535 : Int)) ∧ Int.toNat ((↑(List.length x) : Int) + (1 : Int) - (2 : Int) * k_1) < Int.toNat ((↑(List.length x) : Int) + (1 : Int) - (2 : Int) * k) ∧ x = x ∧
     (if (word16 s && word16 (shlI IntKind.i64 (IntKind.wrap IntKind.i64 (List.getD x (Int.toNat ((2 : Int) * k)) default)) (8 : Int))) = true then oc (s + shlI IntKind.i64 (IntKind.wrap IntKind.i64
     (List.getD x (Int.toNat ((2 : Int) * k)) default)) (8 : Int)) else (0 : Int)) = s_1 ∧ IntKind.wrap IntKind.i64 ((2 : Int) * k + (2 : Int)) = (2 : Int) * k_1 ∧ True)) (s = oc (sumF true x)) := by
  rintro l ⟨⟨-, hx⟩, -⟩ hl
  refine ⟨⟨0, 0, ⟨by omega, by omega, by simp [sumF, oc], by omega, by omega⟩, (by repeat' first | exact trivial | refine ⟨trivial, ?_⟩ | refine ⟨(by with_reducible rfl), ?_⟩ | refine ⟨w64 (by omega) (by omega), ?_⟩ | refine ⟨rfl, ?_⟩)⟩, ?_⟩
  rintro k s ⟨k0, k1, rfl, s0, s1⟩
  have hr := sumF_range true (l.take (2 * k).toNat) (fun y h => hx y (List.mem_of_mem_take h))
  refine ifP_split (fun hk => ?_) (fun hk => ?_)
  · have hk := of_decide_eq_true hk
    obtain ⟨x0, x1⟩ := hx _ (getD_mem (xs := l) (i := 2 * k) (by omega) hk)
    have ht := take_snoc (l := l) (j := 2 * k) (by omega) hk
    have hlen : (l.take (2 * k).toNat).length % 2 = 0 := by rw [List.length_take]; omega
    have hs := sumF_append true (l.take (2 * k).toNat)
    rw [if_pos hlen] at hs
    rw [w64 (n := 2 * k + 1) (by omega) (by omega), w64 (n := l.getD (2 * k).toNat default) (by omega) (by omega), shl8 x0 (by omega), w64 (n := 2 * k + 2) (by omega) (by omega)]
    refine ⟨by omega, hk, by omega, ifP_split (fun hc => ?_) (fun hc => ?_)⟩
    · have hc := of_decide_eq_true hc
      obtain ⟨y0, y1⟩ := hx _ (getD_mem (xs := l) (i := 2 * k + 1) (by omega) hc)
      have ht2 := take_snoc (l := l) (j := 2 * k + 1) (by omega) hc
      rw [ht, List.append_assoc] at ht2
      rw [w64 (n := l.getD (2 * k + 1).toNat default) (by omega) (by omega), w64 (n := l.getD (2 * k).toNat default * 256 + l.getD (2 * k + 1).toNat default) (by omega) (by omega)]
      rw [if_pos (by simp only [word16, Bool.and_eq_true, decide_eq_true_eq]; omega), oc_add hr.1 (by omega)]
      have he : sumF true (l.take (2 * (k + 1)).toNat) = sumF true (l.take (2 * k).toNat) + (l.getD (2 * k).toNat default * 256 + l.getD (2 * k + 1).toNat default) := by
        rw [show 2 * (k + 1) = 2 * k + 1 + 1 from by omega, ht2, hs]
        simp [sumF]
      refine ⟨by omega, hc, k + 1, _, ⟨by omega, by omega, rfl, ?_, ?_⟩, by omega, rfl, by rw [he], by omega, trivial⟩
      · rw [he]; exact (oc_range (by omega)).1
      · rw [he]; exact (oc_range (by omega)).2
    · have hc := of_decide_eq_false hc
      rw [if_pos (by simp only [word16, Bool.and_eq_true, decide_eq_true_eq]; omega), oc_add hr.1 (by omega)]
      have he : sumF true (l.take (2 * (k + 1)).toNat) = sumF true (l.take (2 * k).toNat) + l.getD (2 * k).toNat default * 256 := by
        rw [show l.take (2 * (k + 1)).toNat = l.take (2 * k + 1).toNat from by rw [List.take_of_length_le (by omega), List.take_of_length_le (by omega)], ht, hs]
        simp [sumF]
      refine ⟨k + 1, _, ⟨by omega, by omega, rfl, ?_, ?_⟩, by omega, rfl, by rw [he], by omega, trivial⟩
      · rw [he]; exact (oc_range (by omega)).1
      · rw [he]; exact (oc_range (by omega)).2
  · have hk := of_decide_eq_false hk
    rw [List.take_of_length_le (by omega)]
theorem ok_ref04_Sum : SpecOK Tryz.prog GL 118 ct_ref04_Sum.spec := Ct.ok' _ Tryz.func118 (by kernel_rfl) (withSpec_ok noSpecs_ok ok_ref04_Add) hmix an_ref04_Sum (Eq.mpr (by kernel_rfl) vc_ref04_Sum)

def ct_ref04_Checksum : Ct := ⟨[.val (.sl cU8)], [.val cI], fun d => [(d.1.length : Int) ≤ 1099511627776], fun d => ((65535 - oc (sumF true d.1), ()), ())⟩
def an_ref04_Checksum : PDs ct_ref04_Checksum.ps → Anns := (fun _ => {})
theorem vc_ref04_Checksum :
    ∀ (x : List Int), (List.length x ≤ maxLen ∧ ∀ (x_1 : Int), x_1 ∈ x → (0 : Int) ≤ x_1 ∧ x_1 ≤ (255 : Int)) ∧ True → (↑(List.length x) : Int) ≤ (1099511627776 : Int) → (↑(List.length x) : Int) ≤
     (1099511627776 : Int) ∧ IntKind.wrap IntKind.i64 ((65535 : Int) - oc (sumF true x)) = (65535 : Int) - oc (sumF true x) := by
  rintro l ⟨⟨-, hx⟩, -⟩ hl
  have := oc_range (sumF_range true l hx).1
  exact ⟨hl, w64 (by omega) (by omega)⟩
theorem ok_ref04_Checksum : SpecOK Tryz.prog GL 98 ct_ref04_Checksum.spec := Ct.ok' _ Tryz.func98 (by kernel_rfl) (withSpec_ok noSpecs_ok ok_ref04_Sum) hmix an_ref04_Checksum (Eq.mpr (by kernel_rfl) vc_ref04_Checksum)

def ct_ref04_Equal : Ct := ⟨[.val (.sl cU8), .val (.sl cU8)], [.val .bool], fun d => [], fun d => ((decide (d.1 = d.2.1), ()), ())⟩
def an_ref04_Equal : PDs ct_ref04_Equal.ps → Anns := (fun d => { loops := (fun n => match n with | 4 => some (fun S => { ι := Int, μ := fun i => (d.1.length - i).toNat, inv := fun i => 0 ≤ i ∧ i ≤ d.1.length ∧ d.1.take i.toNat = d.2.1.take i.toNat, keep := [0, 1], slots := fun i => [(5, .int .i64 i)], names := fun i => [] }) | _ => none) })
theorem vc_ref04_Equal :
    ∀ (x x_1 : List Int), (List.length x ≤ maxLen ∧ ∀ (x_2 : Int), x_2 ∈ x → (0 : Int) ≤ x_2 ∧ x_2 ≤ (255 : Int)) ∧ (List.length x_1 ≤ maxLen ∧ ∀ (x : Int), x ∈ x_1 → (0 : Int) ≤ x ∧ x ≤ (255 : Int)) ∧
     True → True → ifP (!decide ((↑(List.length x) : Int) = (↑(List.length x_1) : Int))) (false = decide (x = x_1)) ((∃ (x_2 : Int), ((0 : Int) ≤ x_2 ∧ x_2 ≤ (↑(List.length x) : Int) ∧ List.take (Int.toNat
     x_2) x = List.take (Int.toNat x_2) x_1) ∧ x = x ∧ x_1 = x_1 ∧ (0 : Int) = x_2 ∧ True) ∧ ∀ (x_2 : Int), (0 : Int) ≤ x_2 ∧ x_2 ≤ (↑(List.length x) : Int) ∧ List.take (Int.toNat x_2) x = List.take
     (Int.toNat x_2) x_1 → ifP (decide (x_2 < (↑(List.length x) : Int))) ((0 : Int) ≤ x_2 ∧ x_2 < (↑(List.length x) : Int) ∧ (0 : Int) ≤ x_2 ∧ x_2 < (↑(List.length x_1) : Int) ∧ ifP (!decide (List.getD x
     (Int.toNat x_2) default = List.getD x_1 (Int.toNat x_2) default)) (false = decide (x = x_1)) (∃ (x_3 : Int), ((0 : Int) ≤ x_3 ∧ x_3 ≤ (↑(List.length x) : Int) ∧ List.take (Int.toNat x_3) x = List.take
     (Int.toNat x_3) x_1) ∧ Int.toNat ((↑(List.length x) : Int) - x_3) < Int.toNat ((↑(List.length x) : Int) - x_2) ∧ x = x ∧ x_1 = x_1 ∧ IntKind.wrap IntKind.i64 (x_2 + (1 : Int)) = x_3 ∧ True)) (true =
     decide (x = x_1))) := by
  rintro l m ⟨⟨hl, -⟩, ⟨hm, -⟩, -⟩ -
  simp only [maxLen] at hl hm
  refine ifP_split (fun hc => ?_) (fun hc => ?_)
  · symm; apply decide_eq_false
    intro h; cases h; simp at hc
  · have hc : l.length = m.length := by simp at hc; omega
    refine ⟨⟨0, ⟨by omega, by omega, by simp⟩, (by repeat' first | exact trivial | refine ⟨trivial, ?_⟩ | refine ⟨(by with_reducible rfl), ?_⟩ | refine ⟨w64 (by omega) (by omega), ?_⟩ | refine ⟨rfl, ?_⟩)⟩, ?_⟩
    rintro i ⟨h0, h1, h2⟩
    refine ifP_split (fun hi => ?_) (fun hi => ?_)
    · have hi := of_decide_eq_true hi
      refine ⟨h0, hi, h0, by omega, ifP_split (fun hq => ?_) (fun hq => ?_)⟩
      · symm; apply decide_eq_false
        intro h; cases h; simp at hq
      · simp only [Bool.not_eq_false', decide_eq_true_eq] at hq
        refine ⟨i + 1, ⟨by omega, by omega, ?_⟩, by omega, (by repeat' first | exact trivial | refine ⟨trivial, ?_⟩ | refine ⟨(by with_reducible rfl), ?_⟩ | refine ⟨w64 (by omega) (by omega), ?_⟩ | refine ⟨rfl, ?_⟩)⟩
        rw [take_snoc h0 hi, take_snoc h0 (by omega), h2, hq]
    · have hi := of_decide_eq_false hi
      rw [List.take_of_length_le (by omega), List.take_of_length_le (by omega)] at h2
      symm; apply decide_eq_true; rw [h2]
theorem ok_ref04_Equal : SpecOK Tryz.prog GL 27 ct_ref04_Equal.spec := Ct.ok' _ Tryz.func27 (by kernel_rfl) noSpecs_ok hmix an_ref04_Equal (Eq.mpr (by kernel_rfl) vc_ref04_Equal)
end Go.RS

