/- BalanceBijective: the walks of balance.Mix, of the law's own test and of the law. -/
import Derived.Test.YtbamghnnnngdeaaR1Mix
import Derived.Test.YtbamghnnnngdeaaChecked
namespace Go.RS
open Go.SX Go.Proofs
set_option maxRecDepth 100000

def ctMix : Ct := ⟨[.val (.int .u64)], [.val (.int .u64)], fun _ => [], fun d => ((mix d.1, ()), ())⟩
def ctTrue : Ct := ⟨[], [.val .bool], fun _ => [], fun _ => ((true, ()), ())⟩
theorem hmix : Try.prog.follows .mixedOrders = true := Try.checked.mixed

theorem bit_turned {x t : Int} (hx : 0 ≤ x ∧ x ≤ 18446744073709551615) (h0 : 0 ≤ t) (h1 : t < 64) :
    (0 ≤ bits BinOp.xor IntKind.u64 x (shlI IntKind.u64 1 t) ∧ bits BinOp.xor IntKind.u64 x (shlI IntKind.u64 1 t) ≤ 18446744073709551615) ∧ x ≠ bits BinOp.xor IntKind.u64 x (shlI IntKind.u64 1 t) := by
  obtain ⟨n, rfl⟩ := Int.eq_ofNat_of_zero_le hx.1
  obtain ⟨s, rfl⟩ := Int.eq_ofNat_of_zero_le h0
  have hs : s < 64 := by omega
  have hp : 2 ^ s < 2 ^ 64 := Nat.pow_lt_pow_right (by decide) hs
  have hp' : 2 ^ s < 18446744073709551616 := hp
  have hn : n < 18446744073709551616 := by omega
  have e1 : shlI IntKind.u64 1 (s : Int) = ((2 ^ s : Nat) : Int) := by
    unfold shlI
    have : min (s : Int).toNat IntKind.u64.bits = s := by simp only [IntKind.bits, Int.toNat_natCast]; omega
    rw [this, Int.one_mul]
    have e : ((2 : Int) ^ s) = ((2 ^ s : Nat) : Int) := by rw [Int.natCast_pow]; rfl
    rw [e, wrap_u64_nat, Nat.mod_eq_of_lt hp']
  rw [e1, bits_xor_u64_nat n (2 ^ s) hn hp']
  have hlt : n ^^^ 2 ^ s < 2 ^ 64 := Nat.xor_lt_two_pow hn hp
  have hlt' : n ^^^ 2 ^ s < 18446744073709551616 := hlt
  refine ⟨⟨by omega, by omega⟩, fun h => ?_⟩
  have h : n = n ^^^ 2 ^ s := by omega
  have h2 := congrArg (fun m => m.testBit s) h
  simp only [Nat.testBit_xor, Nat.testBit_two_pow_self] at h2
  revert h2
  cases n.testBit s <;> simp

theorem vc14 :
    ∀ (x : Int),
      (IntKind.min IntKind.u64 ≤ x ∧ x ≤ IntKind.max IntKind.u64) ∧ True →
        True →
          (0 : Int) ≤ 30 ∧
            (0 : Int) ≤ 27 ∧
              (0 : Int) ≤ 31 ∧
                bits BinOp.xor IntKind.u64
                    (IntKind.wrap IntKind.u64
                      (bits BinOp.xor IntKind.u64
                          (IntKind.wrap IntKind.u64
                            (bits BinOp.xor IntKind.u64 (IntKind.wrap IntKind.u64 (x + 11400714819323198485))
                                (shrI IntKind.u64 (IntKind.wrap IntKind.u64 (x + 11400714819323198485)) 30) *
                              13787848793156543929))
                          (shrI IntKind.u64
                            (IntKind.wrap IntKind.u64
                              (bits BinOp.xor IntKind.u64 (IntKind.wrap IntKind.u64 (x + 11400714819323198485))
                                  (shrI IntKind.u64 (IntKind.wrap IntKind.u64 (x + 11400714819323198485)) 30) *
                                13787848793156543929))
                            27) *
                        10723151780598845931))
                    (shrI IntKind.u64
                      (IntKind.wrap IntKind.u64
                        (bits BinOp.xor IntKind.u64
                            (IntKind.wrap IntKind.u64
                              (bits BinOp.xor IntKind.u64 (IntKind.wrap IntKind.u64 (x + 11400714819323198485))
                                  (shrI IntKind.u64 (IntKind.wrap IntKind.u64 (x + 11400714819323198485)) 30) *
                                13787848793156543929))
                            (shrI IntKind.u64
                              (IntKind.wrap IntKind.u64
                                (bits BinOp.xor IntKind.u64 (IntKind.wrap IntKind.u64 (x + 11400714819323198485))
                                    (shrI IntKind.u64 (IntKind.wrap IntKind.u64 (x + 11400714819323198485)) 30) *
                                  13787848793156543929))
                              27) *
                          10723151780598845931))
                      31) =
                  mix x := by
  rintro x ⟨⟨h0, h1⟩, -⟩ -
  refine ⟨by decide, by decide, by decide, ?_⟩
  have h0 : 0 ≤ x := h0
  obtain ⟨n, rfl⟩ := Int.eq_ofNat_of_zero_le h0
  have e0 : IntKind.u64.wrap ((n : Int) + 11400714819323198485) = (((n + 11400714819323198485) % 18446744073709551616 : Nat) : Int) := wrap_u64_nat (n + 11400714819323198485)
  have hm : (n + 11400714819323198485) % 18446744073709551616 < 18446744073709551616 := by omega
  have e1 := xs_u64 _ 30 (by decide) hm
  have e2 := mu_u64 (xs 30 ((n + 11400714819323198485) % 18446744073709551616)) 13787848793156543929
  have e3 := xs_u64 _ 27 (by decide) (mu_lt (c := 13787848793156543929) (a := xs 30 ((n + 11400714819323198485) % 18446744073709551616)))
  have e4 := mu_u64 (xs 27 (mu 13787848793156543929 (xs 30 ((n + 11400714819323198485) % 18446744073709551616)))) 10723151780598845931
  have e5 := xs_u64 _ 31 (by decide) (mu_lt (c := 10723151780598845931) (a := xs 27 (mu 13787848793156543929 (xs 30 ((n + 11400714819323198485) % 18446744073709551616)))))
  have c1 : ((30 : Nat) : Int) = 30 := rfl
  have c2 : ((27 : Nat) : Int) = 27 := rfl
  have c3 : ((31 : Nat) : Int) = 31 := rfl
  have c4 : ((13787848793156543929 : Nat) : Int) = 13787848793156543929 := rfl
  have c5 : ((10723151780598845931 : Nat) : Int) = 10723151780598845931 := rfl
  rw [c1] at e1
  rw [c4] at e2
  rw [c2] at e3
  rw [c5] at e4
  rw [c3] at e5
  rw [e0, e1, e2, e3, e4, e5]
  unfold mix mixN
  rw [Int.toNat_natCast]
theorem ok14 : SpecOK Try.prog 14 ctMix.spec := Ct.ok' _ Try.func14 (by kernel_rfl) noSpecs_ok hmix (fun _ => {}) (Eq.mpr (by kernel_rfl) vc14)

theorem vc13 :
    True → True → decide (mix 0 = 16294208416658607535) = true := by
  intro _ _
  decide +kernel
def spMix : Specs := withSpec noSpecs 14 ctMix.spec
theorem spMix_ok : SpecsOK Try.prog spMix := withSpec_ok noSpecs_ok ok14
theorem ok13 : SpecOK Try.prog 13 ctTrue.spec := Ct.ok' _ Try.func13 (by kernel_rfl) spMix_ok hmix (fun _ => {}) (Eq.mpr (by kernel_rfl) vc13)

theorem vc3 :
    ∀ (x x_1 x_2 : Int),
      (IntKind.min IntKind.u64 ≤ x ∧ x ≤ IntKind.max IntKind.u64) ∧
          (IntKind.min IntKind.u64 ≤ x_1 ∧ x_1 ≤ IntKind.max IntKind.u64) ∧
            (IntKind.min IntKind.u8 ≤ x_2 ∧ x_2 ≤ IntKind.max IntKind.u8) ∧ True →
        True →
          (64 : Int) ≠ 0 ∧
            0 ≤ Int.tmod x_2 64 ∧
              ((decide (mix x = mix x_1) == decide (x = x_1)) = true →
                  ((decide (mix x = mix x_1) == decide (x = x_1)) = true →
                      (decide (mix x = mix x_1) == decide (x = x_1)) = true) ∧
                    True) ∧
                ((decide (mix x = mix x_1) == decide (x = x_1)) = true →
                    ((decide (mix x = mix x_1) == decide (x = x_1)) = true →
                        (decide (mix x = mix x_1) == decide (x = x_1)) = true) ∧
                      True) ∧
                  ((decide (mix x = mix x_1) == decide (x = x_1)) = true →
                      ((decide (mix x = mix x_1) == decide (x = x_1)) = true →
                          (decide (mix x = mix x_1) == decide (x = x_1)) = true) ∧
                        ((decide (mix x = mix x_1) == decide (x = x_1)) = true →
                            (decide (mix x = mix x_1) == decide (x = x_1)) = true) ∧
                          True) ∧
                    ((decide (mix x = mix x_1) == decide (x = x_1)) = true →
                        (decide (mix x = mix x_1) == decide (x = x_1)) = true) ∧
                      (bif decide (mix x = mix x_1) == decide (x = x_1) then
                          !decide (mix x = mix (bits BinOp.xor IntKind.u64 x (shlI IntKind.u64 1 (Int.tmod x_2 64))))
                        else false) =
                        true := by
  rintro x y b ⟨⟨hx0, hx1⟩, ⟨hy0, hy1⟩, ⟨hb0, hb1⟩, -⟩ -
  have hx : 0 ≤ x ∧ x ≤ 18446744073709551615 := ⟨hx0, hx1⟩
  have hy : 0 ≤ y ∧ y ≤ 18446744073709551615 := ⟨hy0, hy1⟩
  have hb : 0 ≤ b := hb0
  have e : (decide (mix x = mix y) == decide (x = y)) = true := by
    have : mix x = mix y ↔ x = y := ⟨fun h => mix_inj hx hy h, fun h => by rw [h]⟩
    simp [this]
  have ht := Int.tmod_nonneg 64 hb
  have hne : ¬ mix x = mix (bits BinOp.xor IntKind.u64 x (shlI IntKind.u64 1 (Int.tmod b 64))) := fun h => by
    have hlt : Int.tmod b 64 < 64 := Int.tmod_lt_of_pos b (by decide)
    have := bit_turned hx ht hlt
    exact this.2 (mix_inj hx this.1 h)
  rw [e]
  simp [hne, ht]
def sp3 : Specs := withSpec spMix 13 ctTrue.spec
theorem sp3_ok : SpecsOK Try.prog sp3 := withSpec_ok spMix_ok ok13
def lp3 : LPs := [(false, .int .u64), (false, .int .u64), (false, .int .u8)]
theorem ok3 : SpecOK Try.prog 3 (lawCt lp3).spec := Ct.ok' _ Try.func3 (by kernel_rfl) sp3_ok hmix (fun _ => {}) (Eq.mpr (by kernel_rfl) vc3)
end Go.RS
