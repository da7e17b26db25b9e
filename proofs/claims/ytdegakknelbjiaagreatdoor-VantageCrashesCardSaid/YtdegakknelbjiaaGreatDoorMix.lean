/- Mix: the mixing of 64 bits: what it is, and that it is one to one. -/
import Derived.Test.YtdegakknelbjiaaGreatDoorSk
import Derived.Laws.Bits64
namespace Go.RS
open Go.SX
set_option linter.unusedVariables false

def xs (k a : Nat) : Nat := a ^^^ a / 2 ^ k
def mu (c a : Nat) : Nat := a * c % 18446744073709551616
def mixN (x : Nat) : Nat := xs 31 (mu 10723151780598845931 (xs 27 (mu 13787848793156543929 (xs 30 ((x + 11400714819323198485) % 18446744073709551616)))))
def mix (x : Int) : Int := (mixN x.toNat : Int)

theorem xs_inj {k a b : Nat} (hk : 1 ≤ k) (h : xs k a = xs k b) : a = b := by
  unfold xs at h
  rw [← Nat.shiftRight_eq_div_pow, ← Nat.shiftRight_eq_div_pow] at h
  have h1 : a ^^^ b = (a ^^^ b) >>> k := by
    rw [Nat.shiftRight_xor_distrib]
    apply Nat.eq_of_testBit_eq
    intro i
    have h2 := congrArg (fun n => n.testBit i) h
    simp only [Nat.testBit_xor] at h2 ⊢
    revert h2
    cases a.testBit i <;> cases b.testBit i <;> cases (a >>> k).testBit i <;> cases (b >>> k).testBit i <;> simp
  have h3 : a ^^^ b = 0 := by
    rw [Nat.shiftRight_eq_div_pow] at h1
    rcases Nat.eq_zero_or_pos (a ^^^ b) with h0 | h0
    · exact h0
    · have : (a ^^^ b) / 2 ^ k < a ^^^ b := Nat.div_lt_self h0 (Nat.one_lt_two_pow (by omega))
      omega
  apply Nat.eq_of_testBit_eq
  intro i
  have h4 := congrArg (fun n => n.testBit i) h3
  simp only [Nat.testBit_xor, Nat.zero_testBit] at h4
  revert h4
  cases a.testBit i <;> cases b.testBit i <;> simp

theorem mul_inj {M c ci a b : Nat} (hc : c * ci % M = 1) (ha : a < M) (hb : b < M) (h : a * c % M = b * c % M) : a = b := by
  have key : ∀ x, x < M → x * c % M * ci % M = x := fun x hx => by
    rw [Nat.mod_mul_mod, Nat.mul_assoc, Nat.mul_mod, hc, Nat.mul_one, Nat.mod_mod]
    exact Nat.mod_eq_of_lt hx
  rw [← key a ha, ← key b hb, h]

theorem xs_lt {k a : Nat} (ha : a < 18446744073709551616) : xs k a < 18446744073709551616 := by
  have h1 : a < 2 ^ 64 := by omega
  have h2 : a / 2 ^ k < 2 ^ 64 := Nat.lt_of_le_of_lt (Nat.div_le_self _ _) h1
  have h3 : a ^^^ a / 2 ^ k < 2 ^ 64 := Nat.xor_lt_two_pow h1 h2
  unfold xs
  omega
theorem mu_lt {c a : Nat} : mu c a < 18446744073709551616 := by unfold mu; omega
theorem mu_inj {c ci a b : Nat} (hc : c * ci % 18446744073709551616 = 1) (ha : a < 18446744073709551616) (hb : b < 18446744073709551616) (h : mu c a = mu c b) : a = b := by
  unfold mu at h
  exact mul_inj hc ha hb h

theorem mixN_lt (x : Nat) : mixN x < 18446744073709551616 := by
  unfold mixN
  exact xs_lt mu_lt

theorem mixN_inj {x y : Nat} (hx : x < 18446744073709551616) (hy : y < 18446744073709551616) (h : mixN x = mixN y) : x = y := by
  unfold mixN at h
  have p : ∀ n : Nat, n % 18446744073709551616 < 18446744073709551616 := fun n => by omega
  have h1 := xs_inj (by decide) h
  have h2 := mu_inj (ci := 3573116690164977347) (by decide +kernel) (xs_lt mu_lt) (xs_lt mu_lt) h1
  have h3 := xs_inj (by decide) h2
  have h4 := mu_inj (ci := 10871156337175269513) (by decide +kernel) (xs_lt (p _)) (xs_lt (p _)) h3
  have h5 := xs_inj (by decide) h4
  clear h h1 h2 h3 h4
  omega

theorem mix_lt (x : Int) : 0 ≤ mix x ∧ mix x ≤ 18446744073709551615 := by
  have := mixN_lt x.toNat
  unfold mix
  omega
theorem mix_inj {x y : Int} (hx : 0 ≤ x ∧ x ≤ 18446744073709551615) (hy : 0 ≤ y ∧ y ≤ 18446744073709551615) (h : mix x = mix y) : x = y := by
  have := mixN_inj (x := x.toNat) (y := y.toNat) (by omega) (by omega) (by unfold mix at h; omega)
  omega

theorem wrap_u64_nat (n : Nat) : IntKind.u64.wrap (n : Int) = ((n % 18446744073709551616 : Nat) : Int) := by
  rw [IntKind.wrap_u64, Int.natCast_emod]
  rfl
theorem shr_u64_nat (n k : Nat) (hk : k ≤ 64) : shrI .u64 (n : Int) (k : Int) = ((n / 2 ^ k : Nat) : Int) := by
  unfold shrI
  have : min (k : Int).toNat IntKind.u64.bits = k := by simp only [IntKind.bits, Int.toNat_natCast]; omega
  rw [this, Int.fdiv_eq_ediv_of_nonneg _ (Int.le_of_lt (Int.pow_pos (by decide))), Int.natCast_ediv, Int.natCast_pow]
  rfl
theorem xs_u64 (n k : Nat) (hk : k ≤ 64) (hn : n < 18446744073709551616) : bits .xor .u64 (n : Int) (shrI .u64 (n : Int) (k : Int)) = (xs k n : Int) := by
  rw [shr_u64_nat n k hk]
  exact bits_xor_u64_nat _ _ hn (Nat.lt_of_le_of_lt (Nat.div_le_self _ _) hn)
theorem mu_u64 (n c : Nat) : IntKind.u64.wrap ((n : Int) * (c : Int)) = (mu c n : Int) := by
  rw [← Int.natCast_mul, wrap_u64_nat]; rfl
end Go.RS

