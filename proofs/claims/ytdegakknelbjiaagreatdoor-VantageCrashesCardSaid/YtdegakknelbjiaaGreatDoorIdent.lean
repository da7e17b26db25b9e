/- Ident: identifiers of answers. -/
import Derived.Test.YtdegakknelbjiaaGreatDoorBalance
import Derived.Laws.Bits128
import Derived.Laws.BitsAllLaws
namespace Go.RS
open Go.SX Go.Proofs
set_option maxRecDepth 100000
set_option linter.unusedVariables false

abbrev cPort : CT := .pair cU32 cI
abbrev cPrefix : CT := .pair cU32 cI
abbrev cRoute : CT := .pair cPrefix (.pair (.sl cI) cI)
abbrev cNode : CT := .pair (.sl cPort) (.pair cU32 (.pair cI (.pair .bool (.pair (.sl cRoute) (.pair cI (.pair cU32 (.pair cI (.pair cI (.pair cI (.pair cBucket (.pair .bool (.pair .bool (.pair cI cI)))))))))))))
abbrev cState : CT := .pair (.sl cRoute) (.pair cI (.pair (.sl cI) (.pair cTokens cI)))
abbrev Prefix : Type := Int × Int
abbrev Route : Type := Prefix × List Int × Int
abbrev Node : Type := List (Int × Int) × Int × Int × Bool × List Route × Int × Int × Int × Int × Int × (Int × Int) × Bool × Bool × Int × Int
abbrev NState : Type := List Route × Int × List Int × (Int × Int) × Int
def nPorts (n : Node) := n.1
def nLoop (n : Node) := n.2.1
def nOwner (n : Node) := n.2.2.1
def nHost (n : Node) := n.2.2.2.1
def nRoutes (n : Node) := n.2.2.2.2.1
def nSource (n : Node) := n.2.2.2.2.2.1
def nFixed (n : Node) := n.2.2.2.2.2.2.1
def nID (n : Node) := n.2.2.2.2.2.2.2.1
def nBase (n : Node) := n.2.2.2.2.2.2.2.2.1
def nSpeed (n : Node) := n.2.2.2.2.2.2.2.2.2.1
def nLimit (n : Node) := n.2.2.2.2.2.2.2.2.2.2.1
def nSilent (n : Node) := n.2.2.2.2.2.2.2.2.2.2.2.1
def nOpaque (n : Node) := n.2.2.2.2.2.2.2.2.2.2.2.2.1
def nFirst (n : Node) := n.2.2.2.2.2.2.2.2.2.2.2.2.2.1
def nSeed (n : Node) := n.2.2.2.2.2.2.2.2.2.2.2.2.2.2
def sRoutes (s : NState) := s.1
def sSent (s : NState) := s.2.1
def sPortSent (s : NState) := s.2.2.1
def sTokens (s : NState) := s.2.2.2.1
def sBalanced (s : NState) := s.2.2.2.2

theorem i64_and65535 (n : Int) : bits .and .i64 n 65535 = n % 65536 := by
  have h127 : (BitVec.ofInt 64 65535).toNat = 2 ^ 16 - 1 := by decide
  have key : (BitVec.ofInt 64 n &&& BitVec.ofInt 64 65535).toNat = (n % ((2 ^ 64 : Nat) : Int)).toNat % 2 ^ 16 := by
    rw [BitVec.toNat_and, BitVec.toNat_ofInt, h127, Nat.and_two_pow_sub_one_eq_mod]
  show IntKind.i64.wrap ((BitVec.ofInt 64 n &&& BitVec.ofInt 64 65535).toNat : Nat) = n % 65536
  rw [key, IntKind.wrap_i64]
  omega
theorem u64_and65535 {n : Int} (h0 : 0 ≤ n) (h1 : n ≤ 18446744073709551615) : bits .and .u64 n 65535 = n % 65536 := by
  rw [u64_and n 65535 h0 (by omega) (by decide) (by decide)]
  have : (n.toNat &&& Int.toNat 65535) = n.toNat % 65536 := Nat.and_two_pow_sub_one_eq_mod n.toNat 16
  rw [this]; omega

/-- How much a counter has grown. -/
def grown (speed a : Int) : Int := if speed < 0 ∨ 1000000 < speed ∨ a < 0 ∨ 1125899906842624 < a then 0 else speed * (a / 1000000) + speed * (a % 1000000) / 1000000
theorem grown_in {speed a : Int} : 0 ≤ grown speed a ∧ grown speed a ≤ 2251799813685248 := by
  unfold grown
  split
  · omega
  · rename_i h
    have a1 : 0 ≤ a / 1000000 := by omega
    have a2 : a / 1000000 ≤ 1125899907 := by omega
    have a3 : 0 ≤ a % 1000000 := by omega
    have a4 : a % 1000000 ≤ 999999 := by omega
    have b1 : 0 ≤ speed * (a / 1000000) := Int.mul_nonneg (by omega) a1
    have b2 : speed * (a / 1000000) ≤ 1000000 * 1125899907 := Int.mul_le_mul (by omega) a2 a1 (by omega)
    have b3 : 0 ≤ speed * (a % 1000000) := Int.mul_nonneg (by omega) a3
    have b4 : speed * (a % 1000000) ≤ 1000000 * 999999 := Int.mul_le_mul (by omega) a4 a3 (by omega)
    omega
theorem grown_wrap {x a : Int} (h : ¬ (x < 0 ∨ 1000000 < x ∨ a < 0 ∨ 1125899906842624 < a)) :
    IntKind.wrap IntKind.i64 (IntKind.wrap IntKind.i64 (x * IntKind.wrap IntKind.i64 (Int.tdiv a 1000000)) + IntKind.wrap IntKind.i64 (Int.tdiv (IntKind.wrap IntKind.i64 (x * Int.tmod a 1000000)) 1000000)) = grown x a := by
  have h2 := grown_in (speed := x) (a := a)
  unfold grown at h2 ⊢
  rw [if_neg h] at h2 ⊢
  have a1 : 0 ≤ a / 1000000 := by omega
  have a2 : a / 1000000 ≤ 1125899907 := by omega
  have a3 : 0 ≤ a % 1000000 := by omega
  have a4 : a % 1000000 ≤ 999999 := by omega
  have b1 : 0 ≤ x * (a / 1000000) := Int.mul_nonneg (by omega) a1
  have b2 : x * (a / 1000000) ≤ 1000000 * 1125899907 := Int.mul_le_mul (by omega) a2 a1 (by omega)
  have b3 : 0 ≤ x * (a % 1000000) := Int.mul_nonneg (by omega) a3
  have b4 : x * (a % 1000000) ≤ 1000000 * 999999 := Int.mul_le_mul (by omega) a4 a3 (by omega)
  rw [Int.tdiv_eq_ediv_of_nonneg (show 0 ≤ a by omega), Int.tmod_eq_emod_of_nonneg (show 0 ≤ a by omega), w64 (n := a / 1000000) (by omega) (by omega), w64 (n := x * (a / 1000000)) (by omega) (by omega),
    w64 (n := x * (a % 1000000)) (by omega) (by omega), Int.tdiv_eq_ediv_of_nonneg b3, w64 (n := x * (a % 1000000) / 1000000) (by omega) (by omega), w64 (by omega) (by omega)]

def idOK (n : Node) : Bool := decide (0 ≤ nID n ∧ nID n ≤ 5 ∧ 0 ≤ nBase n ∧ nBase n ≤ 65535 ∧ 0 ≤ nSpeed n ∧ nSpeed n ≤ 1000000)
def idCheck (n : Node) : Int := if idOK n then 0 else 1

abbrev wI (n : Int) : Int := IntKind.i64.wrap n
def idSum (n : Node) (sent a : Int) : Int := wI (wI (nBase n + sent) + grown (nSpeed n) a)
def idCount (n : Node) (sent a : Int) : Int := idSum n sent a % 65536
def idNext (n : Node) (s : NState) (port a asked dst : Int) : Int :=
  if nID n = 1 then nBase n else if nID n = 2 then idCount n (sSent s) a
  else if nID n = 3 then (if port < 0 ∨ (sPortSent s).length ≤ port then idCount n 0 a else idCount n ((sPortSent s).getD port.toNat default) a)
  else if nID n = 4 then asked else if nID n = 5 then hash (nBase n) (0, dst, 0, sSent s, 0) % 65536 else 0
/-- The same with the remainder that Go's '%' has. -/
def idNextR (n : Node) (s : NState) (port a asked dst : Int) : Int :=
  if nID n = 1 then nBase n else if nID n = 2 then (idSum n (sSent s) a).tmod 65536
  else if nID n = 3 then (if port < 0 ∨ (sPortSent s).length ≤ port then (idSum n 0 a).tmod 65536 else (idSum n ((sPortSent s).getD port.toNat default) a).tmod 65536)
  else if nID n = 4 then asked else if nID n = 5 then hash (nBase n) (0, dst, 0, sSent s, 0) % 65536 else 0
end Go.RS

