/- Ident: identifiers of answers. -/
import Derived.Test.YtbamghnnnngdeaaBalance
import Derived.Laws.Bits128
import Derived.Laws.BitsAllLaws
namespace Go.RS
open Go.SX Go.Proofs
set_option maxRecDepth 100000
set_option linter.unusedVariables false

abbrev cPort : CT := .pair cU32 cI
abbrev cPrefix : CT := .pair cU32 cI
abbrev cRoute : CT := .pair cPrefix (.pair (.sl cI) cI)
abbrev cNode : CT := .pair (.sl cPort) (.pair cU32 (.pair cI (.pair .bool (.pair (.sl cRoute) (.pair cI (.pair cU32 (.pair cI (.pair cI (.pair cI (.pair cBucket (.pair .bool (.pair .bool (.pair cI cI)))))))))))))
abbrev cState : CT := .pair (.sl cRoute) (.pair cI (.pair (.sl cI) (.pair cTokens cI)))
abbrev Prefix : Type := Int × Int
abbrev Route : Type := Prefix × List Int × Int
abbrev Node : Type := List (Int × Int) × Int × Int × Bool × List Route × Int × Int × Int × Int × Int × (Int × Int) × Bool × Bool × Int × Int
abbrev NState : Type := List Route × Int × List Int × (Int × Int) × Int
def nPorts (n : Node) := n.1
def nLoop (n : Node) := n.2.1
def nOwner (n : Node) := n.2.2.1
def nHost (n : Node) := n.2.2.2.1
def nRoutes (n : Node) := n.2.2.2.2.1
def nSource (n : Node) := n.2.2.2.2.2.1
def nFixed (n : Node) := n.2.2.2.2.2.2.1
def nID (n : Node) := n.2.2.2.2.2.2.2.1
def nBase (n : Node) := n.2.2.2.2.2.2.2.2.1
def nSpeed (n : Node) := n.2.2.2.2.2.2.2.2.2.1
def nLimit (n : Node) := n.2.2.2.2.2.2.2.2.2.2.1
def nSilent (n : Node) := n.2.2.2.2.2.2.2.2.2.2.2.1
def nOpaque (n : Node) := n.2.2.2.2.2.2.2.2.2.2.2.2.1
def nFirst (n : Node) := n.2.2.2.2.2.2.2.2.2.2.2.2.2.1
def nSeed (n : Node) := n.2.2.2.2.2.2.2.2.2.2.2.2.2.2
def sRoutes (s : NState) := s.1
def sSent (s : NState) := s.2.1
def sPortSent (s : NState) := s.2.2.1
def sTokens (s : NState) := s.2.2.2.1
def sBalanced (s : NState) := s.2.2.2.2

theorem i64_and65535 (n : Int) : bits .and .i64 n 65535 = n % 65536 := by
  have h127 : (BitVec.ofInt 64 65535).toNat = 2 ^ 16 - 1 := by decide
  have key : (BitVec.ofInt 64 n &&& BitVec.ofInt 64 65535).toNat = (n % ((2 ^ 64 : Nat) : Int)).toNat % 2 ^ 16 := by
    rw [BitVec.toNat_and, BitVec.toNat_ofInt, h127, Nat.and_two_pow_sub_one_eq_mod]
  show IntKind.i64.wrap ((BitVec.ofInt 64 n &&& BitVec.ofInt 64 65535).toNat : Nat) = n % 65536
  rw [key, IntKind.wrap_i64]
  omega
theorem u64_and65535 {n : Int} (h0 : 0 ≤ n) (h1 : n ≤ 18446744073709551615) : bits .and .u64 n 65535 = n % 65536 := by
  rw [u64_and n 65535 h0 (by omega) (by decide) (by decide)]
  have : (n.toNat &&& Int.toNat 65535) = n.toNat % 65536 := Nat.and_two_pow_sub_one_eq_mod n.toNat 16
  rw [this]; omega

/-- How much a counter has grown. -/
def grown (speed a : Int) : Int := if speed < 0 ∨ 1000000 < speed ∨ a < 0 ∨ 1125899906842624 < a then 0 else speed * (a / 1000000) + speed * (a % 1000000) / 1000000
theorem grown_in {speed a : Int} : 0 ≤ grown speed a ∧ grown speed a ≤ 2251799813685248 := by
  unfold grown
  split
  · omega
  · rename_i h
    have a1 : 0 ≤ a / 1000000 := by omega
    have a2 : a / 1000000 ≤ 1125899907 := by omega
    have a3 : 0 ≤ a % 1000000 := by omega
    have a4 : a % 1000000 ≤ 999999 := by omega
    have b1 : 0 ≤ speed * (a / 1000000) := Int.mul_nonneg (by omega) a1
    have b2 : speed * (a / 1000000) ≤ 1000000 * 1125899907 := Int.mul_le_mul (by omega) a2 a1 (by omega)
    have b3 : 0 ≤ speed * (a % 1000000) := Int.mul_nonneg (by omega) a3
    have b4 : speed * (a % 1000000) ≤ 1000000 * 999999 := Int.mul_le_mul (by omega) a4 a3 (by omega)
    omega
theorem grown_wrap {x a : Int} (h : ¬ (x < 0 ∨ 1000000 < x ∨ a < 0 ∨ 1125899906842624 < a)) :
    IntKind.wrap IntKind.i64 (IntKind.wrap IntKind.i64 (x * IntKind.wrap IntKind.i64 (Int.tdiv a 1000000)) + IntKind.wrap IntKind.i64 (Int.tdiv (IntKind.wrap IntKind.i64 (x * Int.tmod a 1000000)) 1000000)) = grown x a := by
  have h2 := grown_in (speed := x) (a := a)
  unfold grown at h2 ⊢
  rw [if_neg h] at h2 ⊢
  have a1 : 0 ≤ a / 1000000 := by omega
  have a2 : a / 1000000 ≤ 1125899907 := by omega
  have a3 : 0 ≤ a % 1000000 := by omega
  have a4 : a % 1000000 ≤ 999999 := by omega
  have b1 : 0 ≤ x * (a / 1000000) := Int.mul_nonneg (by omega) a1
  have b2 : x * (a / 1000000) ≤ 1000000 * 1125899907 := Int.mul_le_mul (by omega) a2 a1 (by omega)
  have b3 : 0 ≤ x * (a % 1000000) := Int.mul_nonneg (by omega) a3
  have b4 : x * (a % 1000000) ≤ 1000000 * 999999 := Int.mul_le_mul (by omega) a4 a3 (by omega)
  rw [Int.tdiv_eq_ediv_of_nonneg (show 0 ≤ a by omega), Int.tmod_eq_emod_of_nonneg (show 0 ≤ a by omega), w64 (n := a / 1000000) (by omega) (by omega), w64 (n := x * (a / 1000000)) (by omega) (by omega),
    w64 (n := x * (a % 1000000)) (by omega) (by omega), Int.tdiv_eq_ediv_of_nonneg b3, w64 (n := x * (a % 1000000) / 1000000) (by omega) (by omega), w64 (by omega) (by omega)]
def ct_identifier_Grown : Ct := ⟨[.val cI, .val cI], [.val cI], fun _ => [], fun d => ((grown d.1 d.2.1, ()), ())⟩
def an_identifier_Grown : PDs ct_identifier_Grown.ps → Anns := (fun _ => {})
theorem vc_identifier_Grown :
    ∀ (x x_1 : Int), ((-9223372036854775808 : Int) ≤ x ∧ x ≤ (9223372036854775807 : Int)) ∧ ((-9223372036854775808 : Int) ≤ x_1 ∧ x_1 ≤ (9223372036854775807 : Int)) ∧ True → True → ∀ (b : Bool), b =
     decide (x < (0 : Int)) → ((!b) = true → ((!b) = true → (!b) = true) ∧ True) ∧ (b = false → (!b) = true) ∧ ∀ (b_1 : Bool), (b_1 = bif b then true else decide ((1000000 : Int) < x)) → ((!b_1) = true →
     ((!b_1) = true → (!b_1) = true) ∧ True) ∧ (b_1 = false → (!b_1) = true) ∧ ∀ (b : Bool), (b = bif b_1 then true else decide (x_1 < (0 : Int))) → ((!b) = true → ((!b) = true → (!b) = true) ∧ True) ∧ (b
     = false → (!b) = true) ∧ ifP (bif b then true else decide ((1125899906842624 : Int) < x_1)) ((0 : Int) = grown x x_1) ((1000000 : Int) ≠ (0 : Int) ∧ (1000000 : Int) ≠ (0 : Int) ∧ (1000000 : Int) ≠ (0
     : Int) ∧ IntKind.wrap IntKind.i64 (IntKind.wrap IntKind.i64 (x * IntKind.wrap IntKind.i64 (Int.tdiv x_1 (1000000 : Int))) + IntKind.wrap IntKind.i64 (Int.tdiv (IntKind.wrap IntKind.i64 (x * Int.tmod
     x_1 (1000000 : Int))) (1000000 : Int))) = grown x x_1) := by
  rintro x a - -
  (repeat (intro (b_ : Bool) (hb_ : b_ = _); (repeat refine ⟨(by simp; done), ?_⟩); subst hb_))
  refine ifP_split (fun h => ?_) (fun h => ?_)
  · simp at h
    unfold grown; rw [if_pos (by omega)]
  · simp at h
    refine ⟨by omega, by omega, by omega, grown_wrap (by omega)⟩
theorem ok_identifier_Grown : SpecOK Try.prog 36 ct_identifier_Grown.spec := Ct.ok' _ Try.func36 (by kernel_rfl) noSpecs_ok hmix an_identifier_Grown (Eq.mpr (by kernel_rfl) vc_identifier_Grown)

def ct_ref11_Grown : Ct := ⟨[.val cI, .val cI], [.val cI], fun _ => [], fun d => ((grown d.1 d.2.1, ()), ())⟩
def an_ref11_Grown : PDs ct_ref11_Grown.ps → Anns := (fun _ => {})
theorem vc_ref11_Grown :
    ∀ (x x_1 : Int), ((-9223372036854775808 : Int) ≤ x ∧ x ≤ (9223372036854775807 : Int)) ∧ ((-9223372036854775808 : Int) ≤ x_1 ∧ x_1 ≤ (9223372036854775807 : Int)) ∧ True → True → ∀ (b : Bool), b =
     decide (x < (0 : Int)) → ((!b) = true → ((!b) = true → (!b) = true) ∧ True) ∧ (b = false → (!b) = true) ∧ ∀ (b_1 : Bool), (b_1 = bif b then true else decide ((1000000 : Int) < x)) → ((!b_1) = true →
     ((!b_1) = true → (!b_1) = true) ∧ True) ∧ (b_1 = false → (!b_1) = true) ∧ ∀ (b : Bool), (b = bif b_1 then true else decide (x_1 < (0 : Int))) → ((!b) = true → ((!b) = true → (!b) = true) ∧ True) ∧ (b
     = false → (!b) = true) ∧ ifP (bif b then true else decide ((1125899906842624 : Int) < x_1)) ((0 : Int) = grown x x_1) ((1000000 : Int) ≠ (0 : Int) ∧ (1000000 : Int) ≠ (0 : Int) ∧ (1000000 : Int) ≠ (0
     : Int) ∧ IntKind.wrap IntKind.i64 (IntKind.wrap IntKind.i64 (x * IntKind.wrap IntKind.i64 (Int.tdiv x_1 (1000000 : Int))) + IntKind.wrap IntKind.i64 (Int.tdiv (IntKind.wrap IntKind.i64 (x * Int.tmod
     x_1 (1000000 : Int))) (1000000 : Int))) = grown x x_1) := by
  rintro x a - -
  (repeat (intro (b_ : Bool) (hb_ : b_ = _); (repeat refine ⟨(by simp; done), ?_⟩); subst hb_))
  refine ifP_split (fun h => ?_) (fun h => ?_)
  · simp at h
    unfold grown; rw [if_pos (by omega)]
  · simp at h
    refine ⟨by omega, by omega, by omega, grown_wrap (by omega)⟩
theorem ok_ref11_Grown : SpecOK Try.prog 40 ct_ref11_Grown.spec := Ct.ok' _ Try.func40 (by kernel_rfl) noSpecs_ok hmix an_ref11_Grown (Eq.mpr (by kernel_rfl) vc_ref11_Grown)
def idOK (n : Node) : Bool := decide (0 ≤ nID n ∧ nID n ≤ 5 ∧ 0 ≤ nBase n ∧ nBase n ≤ 65535 ∧ 0 ≤ nSpeed n ∧ nSpeed n ≤ 1000000)
def idCheck (n : Node) : Int := if idOK n then 0 else 1
def ct_identifier_Check : Ct := ⟨[.agg cNode], [.val cI], fun _ => [], fun d => ((idCheck d.1, ()), ())⟩
def an_identifier_Check : PDs ct_identifier_Check.ps → Anns := (fun _ => {})
theorem vc_identifier_Check :
    ∀ (d : List (Int × Int) × Int × Int × Bool × List ((Int × Int) × List Int × Int) × Int × Int × Int × Int × Int × (Int × Int) × Bool × Bool × Int × Int), CT.wf cNode d ∧ True → True → ∀ (b : Bool), b =
     decide (d.2.2.2.2.2.2.2.1 < (0 : Int)) → ((!b) = true → ((!b) = true → (!b) = true) ∧ True) ∧ ((!b) = true → ((!b) = true → (!b) = true) ∧ True) ∧ (b = false → (!b) = true) ∧ ∀ (b_1 : Bool), (b_1 =
     bif b then true else decide ((5 : Int) < d.2.2.2.2.2.2.2.1)) → ((!b_1) = true → ((!b_1) = true → (!b_1) = true) ∧ True) ∧ ((!b_1) = true → ((!b_1) = true → (!b_1) = true) ∧ True) ∧ (b_1 = false →
     (!b_1) = true) ∧ ∀ (b : Bool), (b = bif b_1 then true else decide (d.2.2.2.2.2.2.2.2.1 < (0 : Int))) → ((!b) = true → ((!b) = true → (!b) = true) ∧ True) ∧ ((!b) = true → ((!b) = true → (!b) = true) ∧
     True) ∧ (b = false → (!b) = true) ∧ ∀ (b_2 : Bool), (b_2 = bif b then true else decide ((65535 : Int) < d.2.2.2.2.2.2.2.2.1)) → ((!b_2) = true → ((!b_2) = true → (!b_2) = true) ∧ True) ∧ ((!b_2) =
     true → ((!b_2) = true → (!b_2) = true) ∧ True) ∧ (b_2 = false → (!b_2) = true) ∧ ∀ (b : Bool), (b = bif b_2 then true else decide (d.2.2.2.2.2.2.2.2.2.1 < (0 : Int))) → ((!b) = true → ((!b) = true →
     (!b) = true) ∧ True) ∧ ((!b) = true → ((!b) = true → (!b) = true) ∧ True) ∧ (b = false → (!b) = true) ∧ ifP (bif b then true else decide ((1000000 : Int) < d.2.2.2.2.2.2.2.2.2.1)) ((1 : Int) = idCheck
     d) ((0 : Int) = idCheck d) := by
  rintro d - -
  (repeat (intro (b_ : Bool) (hb_ : b_ = _); (repeat refine ⟨(by simp; done), ?_⟩); subst hb_))
  unfold idCheck idOK nID nBase nSpeed
  generalize d.2.2.2.2.2.2.2.1 = i
  generalize d.2.2.2.2.2.2.2.2.1 = b
  generalize d.2.2.2.2.2.2.2.2.2.1 = s
  refine ifP_split (fun h => ?_) (fun h => ?_)
  · simp at h
    rw [if_neg (by simp; omega)]
  · simp at h
    rw [if_pos (by simp; omega)]
theorem ok_identifier_Check : SpecOK Try.prog 38 ct_identifier_Check.spec := Ct.ok' _ Try.func38 (by kernel_rfl) noSpecs_ok hmix an_identifier_Check (Eq.mpr (by kernel_rfl) vc_identifier_Check)

def ct_ref11_Check : Ct := ⟨[.agg cNode], [.val cI], fun _ => [], fun d => ((idCheck d.1, ()), ())⟩
def an_ref11_Check : PDs ct_ref11_Check.ps → Anns := (fun _ => {})
theorem vc_ref11_Check :
    ∀ (d : List (Int × Int) × Int × Int × Bool × List ((Int × Int) × List Int × Int) × Int × Int × Int × Int × Int × (Int × Int) × Bool × Bool × Int × Int), CT.wf cNode d ∧ True → True → ∀ (b : Bool), b =
     decide (d.2.2.2.2.2.2.2.1 < (0 : Int)) → ((!b) = true → ((!b) = true → (!b) = true) ∧ True) ∧ ((!b) = true → ((!b) = true → (!b) = true) ∧ True) ∧ (b = false → (!b) = true) ∧ ∀ (b_1 : Bool), (b_1 =
     bif b then true else decide ((5 : Int) < d.2.2.2.2.2.2.2.1)) → ((!b_1) = true → ((!b_1) = true → (!b_1) = true) ∧ True) ∧ ((!b_1) = true → ((!b_1) = true → (!b_1) = true) ∧ True) ∧ (b_1 = false →
     (!b_1) = true) ∧ ∀ (b : Bool), (b = bif b_1 then true else decide (d.2.2.2.2.2.2.2.2.1 < (0 : Int))) → ((!b) = true → ((!b) = true → (!b) = true) ∧ True) ∧ ((!b) = true → ((!b) = true → (!b) = true) ∧
     True) ∧ (b = false → (!b) = true) ∧ ∀ (b_2 : Bool), (b_2 = bif b then true else decide ((65535 : Int) < d.2.2.2.2.2.2.2.2.1)) → ((!b_2) = true → ((!b_2) = true → (!b_2) = true) ∧ True) ∧ ((!b_2) =
     true → ((!b_2) = true → (!b_2) = true) ∧ True) ∧ (b_2 = false → (!b_2) = true) ∧ ∀ (b : Bool), (b = bif b_2 then true else decide (d.2.2.2.2.2.2.2.2.2.1 < (0 : Int))) → ((!b) = true → ((!b) = true →
     (!b) = true) ∧ True) ∧ ((!b) = true → ((!b) = true → (!b) = true) ∧ True) ∧ (b = false → (!b) = true) ∧ ifP (bif b then true else decide ((1000000 : Int) < d.2.2.2.2.2.2.2.2.2.1)) ((1 : Int) = idCheck
     d) ((0 : Int) = idCheck d) := by
  rintro d - -
  (repeat (intro (b_ : Bool) (hb_ : b_ = _); (repeat refine ⟨(by simp; done), ?_⟩); subst hb_))
  unfold idCheck idOK nID nBase nSpeed
  generalize d.2.2.2.2.2.2.2.1 = i
  generalize d.2.2.2.2.2.2.2.2.1 = b
  generalize d.2.2.2.2.2.2.2.2.2.1 = s
  refine ifP_split (fun h => ?_) (fun h => ?_)
  · simp at h
    rw [if_neg (by simp; omega)]
  · simp at h
    rw [if_pos (by simp; omega)]
theorem ok_ref11_Check : SpecOK Try.prog 39 ct_ref11_Check.spec := Ct.ok' _ Try.func39 (by kernel_rfl) noSpecs_ok hmix an_ref11_Check (Eq.mpr (by kernel_rfl) vc_ref11_Check)
abbrev wI (n : Int) : Int := IntKind.i64.wrap n
def idSum (n : Node) (sent a : Int) : Int := wI (wI (nBase n + sent) + grown (nSpeed n) a)
def idCount (n : Node) (sent a : Int) : Int := idSum n sent a % 65536
def ct_identifier_Next_1 : Ct := ⟨[.val cI, .box 62 cNode, .box 3 cI], [.val cI], fun _ => [], fun d => ((idCount d.2.1 d.1 d.2.2.1, ()), (d.2.1, d.2.2.1, ()))⟩
def an_identifier_Next_1 : PDs ct_identifier_Next_1.ps → Anns := (fun _ => {})
theorem vc_identifier_Next_1 :
    ∀ (x : Int) (d : List (Int × Int) × Int × Int × Bool × List ((Int × Int) × List Int × Int) × Int × Int × Int × Int × Int × (Int × Int) × Bool × Bool × Int × Int) (x_1 : Int), ((-9223372036854775808 :
     Int) ≤ x ∧ x ≤ (9223372036854775807 : Int)) ∧ CT.wf cNode d ∧ ((-9223372036854775808 : Int) ≤ x_1 ∧ x_1 ≤ (9223372036854775807 : Int)) ∧ True → True → bits BinOp.and IntKind.i64 (IntKind.wrap
     IntKind.i64 (IntKind.wrap IntKind.i64 (d.2.2.2.2.2.2.2.2.1 + x) + grown d.2.2.2.2.2.2.2.2.2.1 x_1)) (65535 : Int) = idCount d x x_1 ∧ d = d ∧ x_1 = x_1 := by
  rintro x d a - -
  exact ⟨i64_and65535 _, rfl, rfl⟩
theorem ok_identifier_Next_1 : SpecOK Try.prog 43 ct_identifier_Next_1.spec := Ct.ok' _ Try.func43 (by kernel_rfl) (withSpec_ok noSpecs_ok ok_identifier_Grown) hmix an_identifier_Next_1 (Eq.mpr (by kernel_rfl) vc_identifier_Next_1)
def idNext (n : Node) (s : NState) (port a asked dst : Int) : Int :=
  if nID n = 1 then nBase n else if nID n = 2 then idCount n (sSent s) a
  else if nID n = 3 then (if port < 0 ∨ (sPortSent s).length ≤ port then idCount n 0 a else idCount n ((sPortSent s).getD port.toNat default) a)
  else if nID n = 4 then asked else if nID n = 5 then hash (nBase n) (0, dst, 0, sSent s, 0) % 65536 else 0
def ct_identifier_Next : Ct := ⟨[.agg cNode, .agg cState, .val cI, .val cI, .val cI, .val cU32], [.val cI], fun _ => [], fun d => ((idNext d.1 d.2.1 d.2.2.1 d.2.2.2.1 d.2.2.2.2.1 d.2.2.2.2.2.1, ()), ())⟩
def an_identifier_Next : PDs ct_identifier_Next.ps → Anns := (fun _ => {})
theorem vc_identifier_Next :
    ∀ (d : List (Int × Int) × Int × Int × Bool × List ((Int × Int) × List Int × Int) × Int × Int × Int × Int × Int × (Int × Int) × Bool × Bool × Int × Int) (x : List ((Int × Int) × List Int × Int)) (x_1 :
     Int) (x_2 : List Int) (x_3 x_4 x_5 x_6 x_7 x_8 x_9 : Int), CT.wf cNode d ∧ ((List.length x ≤ maxLen ∧ ∀ (x_10 : (Int × Int) × List Int × Int), x_10 ∈ x → (((0 : Int) ≤ x_10.1.1 ∧ x_10.1.1 ≤
     (4294967295 : Int)) ∧ (-9223372036854775808 : Int) ≤ x_10.1.2 ∧ x_10.1.2 ≤ (9223372036854775807 : Int)) ∧ (List.length x_10.2.1 ≤ maxLen ∧ ∀ (x : Int), x ∈ x_10.2.1 → (-9223372036854775808 : Int) ≤ x
     ∧ x ≤ (9223372036854775807 : Int)) ∧ (-9223372036854775808 : Int) ≤ x_10.2.2 ∧ x_10.2.2 ≤ (9223372036854775807 : Int)) ∧ ((-9223372036854775808 : Int) ≤ x_1 ∧ x_1 ≤ (9223372036854775807 : Int)) ∧
     (List.length x_2 ≤ maxLen ∧ ∀ (x : Int), x ∈ x_2 → (-9223372036854775808 : Int) ≤ x ∧ x ≤ (9223372036854775807 : Int)) ∧ (((-9223372036854775808 : Int) ≤ x_3 ∧ x_3 ≤ (9223372036854775807 : Int)) ∧
     (-9223372036854775808 : Int) ≤ x_4 ∧ x_4 ≤ (9223372036854775807 : Int)) ∧ (-9223372036854775808 : Int) ≤ x_5 ∧ x_5 ≤ (9223372036854775807 : Int)) ∧ ((-9223372036854775808 : Int) ≤ x_6 ∧ x_6 ≤
     (9223372036854775807 : Int)) ∧ ((-9223372036854775808 : Int) ≤ x_7 ∧ x_7 ≤ (9223372036854775807 : Int)) ∧ ((-9223372036854775808 : Int) ≤ x_8 ∧ x_8 ≤ (9223372036854775807 : Int)) ∧ ((0 : Int) ≤ x_9 ∧
     x_9 ≤ (4294967295 : Int)) ∧ True → True → ifP (decide (d.2.2.2.2.2.2.2.1 = (1 : Int))) (d.2.2.2.2.2.2.2.2.1 = idNext d (x, x_1, x_2, (x_3, x_4), x_5) x_6 x_7 x_8 x_9) (ifP (decide (d.2.2.2.2.2.2.2.1 =
     (2 : Int))) (idCount d x_1 x_7 = idNext d (x, x_1, x_2, (x_3, x_4), x_5) x_6 x_7 x_8 x_9) (ifP (decide (d.2.2.2.2.2.2.2.1 = (3 : Int))) (∀ (b : Bool), b = decide (x_6 < (0 : Int)) → ((!b) = true →
     ((!b) = true → (!b) = true) ∧ True) ∧ ((!b) = true → ((!b) = true → (!b) = true) ∧ True) ∧ ((!b) = true → ((!b) = true → (!b) = true) ∧ ((!b) = true → (!b) = true) ∧ True) ∧ (b = false → (!b) = true)
     ∧ ifP (bif b then true else decide (↑(List.length x_2) ≤ x_6)) (idCount d (0 : Int) x_7 = idNext d (x, x_1, x_2, (x_3, x_4), x_5) x_6 x_7 x_8 x_9) ((0 : Int) ≤ x_6 ∧ x_6 < ↑(List.length x_2) ∧ idCount
     d (List.getD x_2 (Int.toNat x_6) default) x_7 = idNext d (x, x_1, x_2, (x_3, x_4), x_5) x_6 x_7 x_8 x_9)) (ifP (decide (d.2.2.2.2.2.2.2.1 = (4 : Int))) (x_8 = idNext d (x, x_1, x_2, (x_3, x_4), x_5)
     x_6 x_7 x_8 x_9) (ifP (decide (d.2.2.2.2.2.2.2.1 = (5 : Int))) (IntKind.wrap IntKind.i64 (bits BinOp.and IntKind.u64 (hash d.2.2.2.2.2.2.2.2.1 ((0 : Int), x_9, (0 : Int), x_1, (0 : Int))) (65535 :
     Int)) = idNext d (x, x_1, x_2, (x_3, x_4), x_5) x_6 x_7 x_8 x_9) ((0 : Int) = idNext d (x, x_1, x_2, (x_3, x_4), x_5) x_6 x_7 x_8 x_9))))) := by
  rintro d r se ps t1 t2 ba port a asked dst - -
  unfold idNext nID nBase sSent sPortSent
  simp only
  refine ifP_split (fun h => ?_) (fun h => ?_)
  · rw [if_pos (of_decide_eq_true h)]
  have h1 := of_decide_eq_false h
  rw [if_neg h1]
  refine ifP_split (fun h => ?_) (fun h => ?_)
  · rw [if_pos (of_decide_eq_true h)]
  have h2 := of_decide_eq_false h
  rw [if_neg h2]
  refine ifP_split (fun h => ?_) (fun h => ?_)
  · rw [if_pos (of_decide_eq_true h)]
    (repeat (intro (b_ : Bool) (hb_ : b_ = _); (repeat refine ⟨(by simp; done), ?_⟩); subst hb_))
    refine ifP_split (fun h => ?_) (fun h => ?_)
    · simp at h
      rw [if_pos h]
    · simp at h
      exact ⟨by omega, by omega, by rw [if_neg (by omega)]⟩
  have h3 := of_decide_eq_false h
  rw [if_neg h3]
  refine ifP_split (fun h => ?_) (fun h => ?_)
  · rw [if_pos (of_decide_eq_true h)]
  have h4 := of_decide_eq_false h
  rw [if_neg h4]
  refine ifP_split (fun h => ?_) (fun h => ?_)
  · rw [if_pos (of_decide_eq_true h)]
    have hr := hash_range d.2.2.2.2.2.2.2.2.1 (0, dst, 0, se, 0)
    rw [u64_and65535 hr.1 hr.2, w64 (by omega) (by omega)]
  · rw [if_neg (of_decide_eq_false h)]
theorem ok_identifier_Next : SpecOK Try.prog 35 ct_identifier_Next.spec := Ct.ok' _ Try.func35 (by kernel_rfl) (withSpec_ok (withSpec_ok noSpecs_ok ok_identifier_Next_1) ok_balance_Hash) hmix an_identifier_Next (Eq.mpr (by kernel_rfl) vc_identifier_Next)
/-- The same with the remainder that Go's '%' has. -/
def idNextR (n : Node) (s : NState) (port a asked dst : Int) : Int :=
  if nID n = 1 then nBase n else if nID n = 2 then (idSum n (sSent s) a).tmod 65536
  else if nID n = 3 then (if port < 0 ∨ (sPortSent s).length ≤ port then (idSum n 0 a).tmod 65536 else (idSum n ((sPortSent s).getD port.toNat default) a).tmod 65536)
  else if nID n = 4 then asked else if nID n = 5 then hash (nBase n) (0, dst, 0, sSent s, 0) % 65536 else 0
def ct_ref11_Next : Ct := ⟨[.agg cNode, .agg cState, .val cI, .val cI, .val cI, .val cU32], [.val cI], fun _ => [], fun d => ((idNextR d.1 d.2.1 d.2.2.1 d.2.2.2.1 d.2.2.2.2.1 d.2.2.2.2.2.1, ()), ())⟩
def an_ref11_Next : PDs ct_ref11_Next.ps → Anns := (fun _ => {})
theorem vc_ref11_Next :
    ∀ (d : List (Int × Int) × Int × Int × Bool × List ((Int × Int) × List Int × Int) × Int × Int × Int × Int × Int × (Int × Int) × Bool × Bool × Int × Int) (x : List ((Int × Int) × List Int × Int)) (x_1 :
     Int) (x_2 : List Int) (x_3 x_4 x_5 x_6 x_7 x_8 x_9 : Int), CT.wf cNode d ∧ ((List.length x ≤ maxLen ∧ ∀ (x_10 : (Int × Int) × List Int × Int), x_10 ∈ x → (((0 : Int) ≤ x_10.1.1 ∧ x_10.1.1 ≤
     (4294967295 : Int)) ∧ (-9223372036854775808 : Int) ≤ x_10.1.2 ∧ x_10.1.2 ≤ (9223372036854775807 : Int)) ∧ (List.length x_10.2.1 ≤ maxLen ∧ ∀ (x : Int), x ∈ x_10.2.1 → (-9223372036854775808 : Int) ≤ x
     ∧ x ≤ (9223372036854775807 : Int)) ∧ (-9223372036854775808 : Int) ≤ x_10.2.2 ∧ x_10.2.2 ≤ (9223372036854775807 : Int)) ∧ ((-9223372036854775808 : Int) ≤ x_1 ∧ x_1 ≤ (9223372036854775807 : Int)) ∧
     (List.length x_2 ≤ maxLen ∧ ∀ (x : Int), x ∈ x_2 → (-9223372036854775808 : Int) ≤ x ∧ x ≤ (9223372036854775807 : Int)) ∧ (((-9223372036854775808 : Int) ≤ x_3 ∧ x_3 ≤ (9223372036854775807 : Int)) ∧
     (-9223372036854775808 : Int) ≤ x_4 ∧ x_4 ≤ (9223372036854775807 : Int)) ∧ (-9223372036854775808 : Int) ≤ x_5 ∧ x_5 ≤ (9223372036854775807 : Int)) ∧ ((-9223372036854775808 : Int) ≤ x_6 ∧ x_6 ≤
     (9223372036854775807 : Int)) ∧ ((-9223372036854775808 : Int) ≤ x_7 ∧ x_7 ≤ (9223372036854775807 : Int)) ∧ ((-9223372036854775808 : Int) ≤ x_8 ∧ x_8 ≤ (9223372036854775807 : Int)) ∧ ((0 : Int) ≤ x_9 ∧
     x_9 ≤ (4294967295 : Int)) ∧ True → True → ifP (decide (d.2.2.2.2.2.2.2.1 = (1 : Int))) (d.2.2.2.2.2.2.2.2.1 = idNextR d (x, x_1, x_2, (x_3, x_4), x_5) x_6 x_7 x_8 x_9) (ifP (decide (d.2.2.2.2.2.2.2.1
     = (2 : Int))) ((65536 : Int) ≠ (0 : Int) ∧ Int.tmod (IntKind.wrap IntKind.i64 (IntKind.wrap IntKind.i64 (d.2.2.2.2.2.2.2.2.1 + x_1) + grown d.2.2.2.2.2.2.2.2.2.1 x_7)) (65536 : Int) = idNextR d (x,
     x_1, x_2, (x_3, x_4), x_5) x_6 x_7 x_8 x_9) (ifP (decide (d.2.2.2.2.2.2.2.1 = (3 : Int))) (∀ (b : Bool), b = decide ((0 : Int) ≤ x_6) → (b = true → (b = true → b = true) ∧ True) ∧ (b = true → (b =
     true → b = true) ∧ True) ∧ (b = true → (b = true → b = true) ∧ (b = true → b = true) ∧ True) ∧ (b = true → b = true) ∧ ifP (bif b then decide (x_6 < ↑(List.length x_2)) else false) ((0 : Int) ≤ x_6 ∧
     x_6 < ↑(List.length x_2) ∧ (65536 : Int) ≠ (0 : Int) ∧ Int.tmod (IntKind.wrap IntKind.i64 (IntKind.wrap IntKind.i64 (d.2.2.2.2.2.2.2.2.1 + List.getD x_2 (Int.toNat x_6) default) + grown
     d.2.2.2.2.2.2.2.2.2.1 x_7)) (65536 : Int) = idNextR d (x, x_1, x_2, (x_3, x_4), x_5) x_6 x_7 x_8 x_9) ((65536 : Int) ≠ (0 : Int) ∧ Int.tmod (IntKind.wrap IntKind.i64 (IntKind.wrap IntKind.i64
     (d.2.2.2.2.2.2.2.2.1 + (0 : Int)) + grown d.2.2.2.2.2.2.2.2.2.1 x_7)) (65536 : Int) = idNextR d (x, x_1, x_2, (x_3, x_4), x_5) x_6 x_7 x_8 x_9)) (ifP (decide (d.2.2.2.2.2.2.2.1 = (4 : Int))) (x_8 =
     idNextR d (x, x_1, x_2, (x_3, x_4), x_5) x_6 x_7 x_8 x_9) (ifP (decide (d.2.2.2.2.2.2.2.1 = (5 : Int))) ((65536 : Int) ≠ (0 : Int) ∧ IntKind.wrap IntKind.i64 (Int.tmod (hash d.2.2.2.2.2.2.2.2.1 ((0 :
     Int), x_9, (0 : Int), x_1, (0 : Int))) (65536 : Int)) = idNextR d (x, x_1, x_2, (x_3, x_4), x_5) x_6 x_7 x_8 x_9) ((0 : Int) = idNextR d (x, x_1, x_2, (x_3, x_4), x_5) x_6 x_7 x_8 x_9))))) := by
  rintro d r se ps t1 t2 ba port a asked dst - -
  unfold idNextR idSum nID nBase nSpeed sSent sPortSent
  simp only
  refine ifP_split (fun h => ?_) (fun h => ?_)
  · rw [if_pos (of_decide_eq_true h)]
  have h1 := of_decide_eq_false h
  rw [if_neg h1]
  refine ifP_split (fun h => ?_) (fun h => ?_)
  · rw [if_pos (of_decide_eq_true h)]
    exact ⟨by omega, rfl⟩
  have h2 := of_decide_eq_false h
  rw [if_neg h2]
  refine ifP_split (fun h => ?_) (fun h => ?_)
  · rw [if_pos (of_decide_eq_true h)]
    (repeat (intro (b_ : Bool) (hb_ : b_ = _); (repeat refine ⟨(by simp; done), ?_⟩); subst hb_))
    refine ifP_split (fun h => ?_) (fun h => ?_)
    · simp at h
      exact ⟨by omega, by omega, by omega, by rw [if_neg (by omega)]⟩
    · simp at h
      exact ⟨by omega, by rw [if_pos (by omega)]⟩
  have h3 := of_decide_eq_false h
  rw [if_neg h3]
  refine ifP_split (fun h => ?_) (fun h => ?_)
  · rw [if_pos (of_decide_eq_true h)]
  have h4 := of_decide_eq_false h
  rw [if_neg h4]
  refine ifP_split (fun h => ?_) (fun h => ?_)
  · rw [if_pos (of_decide_eq_true h)]
    have hr := hash_range d.2.2.2.2.2.2.2.2.1 (0, dst, 0, se, 0)
    refine ⟨by omega, ?_⟩
    rw [Int.tmod_eq_emod_of_nonneg hr.1, w64 (by omega) (by omega)]
  · rw [if_neg (of_decide_eq_false h)]
theorem ok_ref11_Next : SpecOK Try.prog 37 ct_ref11_Next.spec := Ct.ok' _ Try.func37 (by kernel_rfl) (withSpec_ok (withSpec_ok noSpecs_ok ok_ref11_Grown) ok_ref10_Hash) hmix an_ref11_Next (Eq.mpr (by kernel_rfl) vc_ref11_Next)
end Go.RS

