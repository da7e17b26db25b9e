/- Law11: the laws of identifiers. -/
import Derived.Test.YtbamghnnnngdeaaIdent
namespace Go.RS
open Go.SX Go.Proofs
set_option maxRecDepth 100000
set_option linter.unusedVariables false

def ct_law11_awake : Ct := ⟨[], [.val .bool], fun _ => [], fun _ => ((true, ()), ())⟩
def an_law11_awake : PDs ct_law11_awake.ps → Anns := (fun _ => {})
theorem vc_law11_awake :
    True → True → decide (idNext ([], (0 : Int), (0 : Int), false, [], (0 : Int), (0 : Int), (2 : Int), (10 : Int), (2 : Int), ((0 : Int), (0 : Int)), false, false, (0 : Int), (0 : Int)) ([], (3 : Int),
     [], ((0 : Int), (0 : Int)), (0 : Int)) (0 : Int) (1500000 : Int) (0 : Int) (0 : Int) = (16 : Int)) = true := by
  intro _ _
  decide +kernel
theorem ok_law11_awake : SpecOK Try.prog 33 ct_law11_awake.spec := Ct.ok' _ Try.func33 (by kernel_rfl) (withSpec_ok noSpecs_ok ok_identifier_Next) hmix an_law11_awake (Eq.mpr (by kernel_rfl) vc_law11_awake)
/-- A node's source of identifiers, and a state, as a law draws them. -/
def okN (n : Node) : Prop := 0 ≤ nID n ∧ nID n ≤ 5 ∧ 0 ≤ nBase n ∧ nBase n ≤ 65535 ∧ 0 ≤ nSpeed n ∧ nSpeed n ≤ 1000000
def okS (s : NState) : Prop := 0 ≤ sSent s ∧ sSent s ≤ 65535 ∧ (sPortSent s).length ≤ 3 ∧ ∀ x ∈ sPortSent s, 0 ≤ x ∧ x ≤ 999
def ct_law11_node : Cn := ⟨[.box 75 cCodes], [.agg cNode, .agg cState], fun d => [okC d.1], fun d y => okN y.1.1 ∧ okS y.1.2.1 ∧ okC y.2.1, fun d h => ⟨((([], 0, 0, false, [], 0, 0, 0, 0, 0, (0, 0), false, false, 0, 0), ([], 0, [], (0, 0), 0), ()), (d.1, ())), by simp [okN, nID, nBase, nSpeed], by simp [okS, sSent, sPortSent], h.1⟩⟩
def an_law11_node : PDs ct_law11_node.ps → Anns := (fun d => { loops := (fun n => match n with | 4 => some (fun S => { ι := (List Int) × Int × Int × (List Int × Int), qn := ⟨fun k_ => ∀ (ps : (List Int)) (se : Int) (k : Int) (cs : (List Int × Int)), k_ (ps, se, k, cs), fun k_ h_ i => h_ i.1 i.2.1 i.2.2.1 i.2.2.2, fun k_ => ∃ (ps : (List Int)) (se : Int) (k : Int) (cs : (List Int × Int)), k_ (ps, se, k, cs), fun k_ ⟨ps, se, k, cs, h_⟩ => ⟨_, h_⟩⟩, μ := fun i => i.2.2.1.toNat, inv := fun i => okC i.2.2.2 ∧ 0 ≤ i.2.1 ∧ i.2.1 ≤ 65535 ∧ 0 ≤ i.2.2.1 ∧ i.1.length + i.2.2.1 ≤ 3 ∧ ∀ y ∈ i.1, 0 ≤ y ∧ y ≤ 999, keep := [0, 2, 3, 4, 5], slots := fun i => [(6, .int .i64 i.2.2.1)], keepN := [48, 64, 80], names := fun i => [(1048576, .live (.cells 75 (flat cCodes i.2.2.2))), (96, .live (.cells 64 [.nilsl, .int .i64 i.2.1, .own 524288 1, .int .i64 0, .int .i64 0, .int .i64 0])), (524288, .live (.row 3 cI i.1))] }) | _ => none) })
theorem vc_law11_node :
    ∀ (x : List Int) (x_1 : Int), ((List.length x ≤ maxLen ∧ ∀ (x_2 : Int), x_2 ∈ x → (0 : Int) ≤ x_2 ∧ x_2 ≤ (255 : Int)) ∧ (-9223372036854775808 : Int) ≤ x_1 ∧ x_1 ≤ (9223372036854775807 : Int)) ∧ True
     → (0 : Int) ≤ x_1 ∧ x_1 ≤ ↑(List.length x) → okC (x, x_1) ∧ ∀ (x : Int) (x_2 : List Int) (x_3 : Int), (0 : Int) ≤ x ∧ (x < (6 : Int) ∨ x = (0 : Int)) ∧ okC (x_2, x_3) → okC (x_2, x_3) ∧ ∀ (x_4 : Int)
     (x_5 : List Int) (x_6 : Int), (0 : Int) ≤ x_4 ∧ (x_4 < (65536 : Int) ∨ x_4 = (0 : Int)) ∧ okC (x_5, x_6) → okC (x_5, x_6) ∧ ∀ (x_7 : Int) (x_8 : List Int) (x_9 : Int), (0 : Int) ≤ x_7 ∧ (x_7 < (1000 :
     Int) ∨ x_7 = (0 : Int)) ∧ okC (x_8, x_9) → okC (x_8, x_9) ∧ ∀ (x_10 : Int) (x_11 : List Int) (x_12 : Int), (0 : Int) ≤ x_10 ∧ (x_10 < (4 : Int) ∨ x_10 = (0 : Int)) ∧ okC (x_11, x_12) → (0 : Int) ≤
     x_10 ∧ x_10 < ↑(List.length [(0 : Int), (1 : Int), x_7, (1000000 : Int)]) ∧ okC (x_11, x_12) ∧ ∀ (x_13 : Int) (x_14 : List Int) (x_15 : Int), (0 : Int) ≤ x_13 ∧ (x_13 < (65536 : Int) ∨ x_13 = (0 :
     Int)) ∧ okC (x_14, x_15) → okC (x_14, x_15) ∧ ∀ (x_16 : Int) (x_17 : List Int) (x_18 : Int), (0 : Int) ≤ x_16 ∧ (x_16 < (4 : Int) ∨ x_16 = (0 : Int)) ∧ okC (x_17, x_18) → (∃ (ps : List Int), ∃ (se :
     Int), ∃ (k : Int), ∃ (cs : List Int × Int), (okC cs ∧ (0 : Int) ≤ se ∧ se ≤ (65535 : Int) ∧ (0 : Int) ≤ k ∧ ↑(List.length ps) + k ≤ (3 : Int) ∧ ∀ (y : Int), y ∈ ps → (0 : Int) ≤ y ∧ y ≤ (999 : Int)) ∧
     x_16 = k ∧ (0 : Int) = (0 : Int) ∧ (0 : Int) = (0 : Int) ∧ false = false ∧ (0 : Int) = (0 : Int) ∧ (0 : Int) = (0 : Int) ∧ (0 : Int) = (0 : Int) ∧ (0 : Int) = (0 : Int) ∧ (0 : Int) = (0 : Int) ∧ (0 :
     Int) = (0 : Int) ∧ (0 : Int) = (0 : Int) ∧ false = false ∧ false = false ∧ (0 : Int) = (0 : Int) ∧ (0 : Int) = (0 : Int) ∧ (0 : Int) = (0 : Int) ∧ (0 : Int) = (0 : Int) ∧ (0 : Int) = (0 : Int) ∧ (0 :
     Int) = (0 : Int) ∧ (0 : Int) = (0 : Int) ∧ (0 : Int) = (0 : Int) ∧ false = false ∧ (0 : Int) = (0 : Int) ∧ (0 : Int) = (0 : Int) ∧ x = x ∧ x_4 = x_4 ∧ List.getD [(0 : Int), (1 : Int), x_7, (1000000 :
     Int)] (Int.toNat x_10) default = List.getD [(0 : Int), (1 : Int), x_7, (1000000 : Int)] (Int.toNat x_10) default ∧ (0 : Int) = (0 : Int) ∧ (0 : Int) = (0 : Int) ∧ false = false ∧ false = false ∧ (0 :
     Int) = (0 : Int) ∧ (0 : Int) = (0 : Int) ∧ x_17 = cs.1 ∧ x_18 = cs.2 ∧ x_13 = se ∧ (0 : Int) = (0 : Int) ∧ (0 : Int) = (0 : Int) ∧ (0 : Int) = (0 : Int) ∧ ps = [] ∧ True) ∧ ∀ (ps : List Int) (se k :
     Int) (cs : List Int × Int), (okC cs ∧ (0 : Int) ≤ se ∧ se ≤ (65535 : Int) ∧ (0 : Int) ≤ k ∧ ↑(List.length ps) + k ≤ (3 : Int) ∧ ∀ (y : Int), y ∈ ps → (0 : Int) ≤ y ∧ y ≤ (999 : Int)) → ifP (decide ((0
     : Int) < k)) (List.length ps * (8 : Nat) ≤ (140737488355328 : Nat) ∧ okC cs ∧ ∀ (x_19 : Int) (x_20 : List Int) (x_21 : Int), (0 : Int) ≤ x_19 ∧ (x_19 < (1000 : Int) ∨ x_19 = (0 : Int)) ∧ okC (x_20,
     x_21) → (List.length ps + List.length [x_19]) * (8 : Nat) ≤ (140737488355328 : Nat) ∧ ∃ (ps_1 : List Int), ∃ (se_1 : Int), ∃ (k_1 : Int), ∃ (cs : List Int × Int), (okC cs ∧ (0 : Int) ≤ se_1 ∧ se_1 ≤
     (65535 : Int) ∧ (0 : Int) ≤ k_1 ∧ ↑(List.length ps_1) + k_1 ≤ (3 : Int) ∧ ∀ (y : Int), y ∈ ps_1 → (0 : Int) ≤ y ∧ y ≤ (999 : Int)) ∧ Int.toNat k_1 < Int.toNat k ∧ IntKind.wrap IntKind.i64 (k - (1 :
     Int)) = k_1 ∧ (0 : Int) = (0 : Int) ∧ (0 : Int) = (0 : Int) ∧ false = false ∧ (0 : Int) = (0 : Int) ∧ (0 : Int) = (0 : Int) ∧ (0 : Int) = (0 : Int) ∧ (0 : Int) = (0 : Int) ∧ (0 : Int) = (0 : Int) ∧ (0
     : Int) = (0 : Int) ∧ (0 : Int) = (0 : Int) ∧ false = false ∧ false = false ∧ (0 : Int) = (0 : Int) ∧ (0 : Int) = (0 : Int) ∧ (0 : Int) = (0 : Int) ∧ (0 : Int) = (0 : Int) ∧ (0 : Int) = (0 : Int) ∧ (0
     : Int) = (0 : Int) ∧ (0 : Int) = (0 : Int) ∧ (0 : Int) = (0 : Int) ∧ false = false ∧ (0 : Int) = (0 : Int) ∧ (0 : Int) = (0 : Int) ∧ x = x ∧ x_4 = x_4 ∧ List.getD [(0 : Int), (1 : Int), x_7, (1000000
     : Int)] (Int.toNat x_10) default = List.getD [(0 : Int), (1 : Int), x_7, (1000000 : Int)] (Int.toNat x_10) default ∧ (0 : Int) = (0 : Int) ∧ (0 : Int) = (0 : Int) ∧ false = false ∧ false = false ∧ (0
     : Int) = (0 : Int) ∧ (0 : Int) = (0 : Int) ∧ x_20 = cs.1 ∧ x_21 = cs.2 ∧ se = se_1 ∧ (0 : Int) = (0 : Int) ∧ (0 : Int) = (0 : Int) ∧ (0 : Int) = (0 : Int) ∧ ps ++ [x_19] = ps_1 ∧ True) (okN ([], (0 :
     Int), (0 : Int), false, [], (0 : Int), (0 : Int), x, x_4, List.getD [(0 : Int), (1 : Int), x_7, (1000000 : Int)] (Int.toNat x_10) default, ((0 : Int), (0 : Int)), false, false, (0 : Int), (0 : Int)) ∧
     okS ([], se, ps, ((0 : Int), (0 : Int)), (0 : Int)) ∧ okC cs) := by
  rintro l p - h
  refine ⟨h, ?_⟩
  rintro v1 l1 p1 ⟨a1, a2, h⟩
  refine ⟨h, ?_⟩
  rintro v2 l1 p1 ⟨b1, b2, h⟩
  refine ⟨h, ?_⟩
  rintro v3 l1 p1 ⟨c1, c2, h⟩
  refine ⟨h, ?_⟩
  rintro v4 l1 p1 ⟨e1, e2, h⟩
  refine ⟨e1, by simp; omega, h, ?_⟩
  have hs : 0 ≤ [0, 1, v3, 1000000].getD v4.toNat default ∧ [0, 1, v3, 1000000].getD v4.toNat default ≤ 1000000 :=
    getD_all (p := fun v => 0 ≤ v ∧ v ≤ 1000000) (by simp; omega) e1 (by simp; omega)
  generalize [0, 1, v3, 1000000].getD v4.toNat default = sp at hs ⊢
  rintro v5 l1 p1 ⟨f1, f2, h⟩
  refine ⟨h, ?_⟩
  rintro v6 l1 p1 ⟨g1, g2, h⟩
  refine ⟨⟨[], v5, v6, (l1, p1), ⟨h, by omega, by omega, by omega, by simp; omega, by simp⟩, (by repeat' first | exact trivial | refine ⟨(by with_reducible rfl), ?_⟩ | refine ⟨w64 (by omega) (by omega), ?_⟩ | refine ⟨rfl, ?_⟩)⟩, ?_⟩
  rintro ps se k cs ⟨i1, i2, i3, i4, i5, i6⟩
  refine ifP_split (fun hk => ?_) (fun hk => ?_)
  · have hk := of_decide_eq_true hk
    refine ⟨by omega, i1, ?_⟩
    rintro x l2 p2 ⟨x1, x2, h⟩
    refine ⟨by simp; omega, ps ++ [x], se, k - 1, (l2, p2), ⟨h, i2, i3, by omega, by simp; omega, fun y hy => ?_⟩, by omega, w64 (by omega) (by omega), (by repeat' first | exact trivial | refine ⟨(by with_reducible rfl), ?_⟩ | refine ⟨w64 (by omega) (by omega), ?_⟩ | refine ⟨rfl, ?_⟩)⟩
    rcases List.mem_append.1 hy with hy | hy
    · exact i6 y hy
    · simp at hy; omega
  · refine ⟨⟨by simp only [nID]; omega, by simp only [nID]; omega, by simp only [nBase]; omega, by simp only [nBase]; omega, by simp only [nSpeed]; omega, by simp only [nSpeed]; omega⟩, ⟨i2, i3, by simp only [sPortSent]; omega, i6⟩, i1⟩
theorem ok_law11_node : SpecOK Try.prog 34 ct_law11_node.spec := Cn.ok' _ Try.func34 (by kernel_rfl) (withSpec_ok noSpecs_ok ok_Next) hmix an_law11_node (Eq.mpr (by kernel_rfl) vc_law11_node)
theorem grown_floor {s t : Int} (h0 : 0 ≤ s) (h1 : s ≤ 1000000) (h2 : 0 ≤ t) (h3 : t ≤ 1125899906842624) : grown s t = s * t / 1000000 := by
  unfold grown
  rw [if_neg (by omega)]
  have e : s * t = s * (t % 1000000) + 1000000 * (s * (t / 1000000)) := by
    have := Int.emod_add_mul_ediv t 1000000
    calc s * t = s * (t % 1000000 + 1000000 * (t / 1000000)) := by rw [this]
      _ = s * (t % 1000000) + s * (1000000 * (t / 1000000)) := Int.mul_add _ _ _
      _ = s * (t % 1000000) + 1000000 * (s * (t / 1000000)) := by rw [← Int.mul_assoc, Int.mul_comm s 1000000, Int.mul_assoc]
  rw [e, Int.add_mul_ediv_left _ _ (by omega)]
  omega
theorem grown_mono {s t y : Int} (h0 : 0 ≤ s) (h1 : s ≤ 1000000) (h2 : 0 ≤ t) (h3 : 0 ≤ y) (h4 : t + y ≤ 1125899906842624) :
    0 ≤ grown s (t + y) - grown s t ∧ (grown s (t + y) - grown s t) * 1000000 ≤ s * y + 1000000 ∧ s * y ≤ (grown s (t + y) - grown s t + 1) * 1000000 := by
  rw [grown_floor h0 h1 (by omega) h4, grown_floor h0 h1 h2 (by omega), Int.mul_add]
  have a : 0 ≤ s * y := Int.mul_nonneg h0 h3
  generalize s * y = Y at a ⊢
  generalize s * t = X
  omega
theorem idNext_range {n : Node} {s : NState} {port a asked dst : Int} (hn : okN n) (h0 : 0 ≤ asked) (h1 : asked ≤ 65535) :
    0 ≤ idNext n s port a asked dst ∧ idNext n s port a asked dst < 65536 ∧ (nID n = 0 → idNext n s port a asked dst = 0) ∧ (nID n = 1 → idNext n s port a asked dst = nBase n) ∧ (nID n = 4 → idNext n s port a asked dst = asked) := by
  obtain ⟨n1, n2, n3, n4, n5, n6⟩ := hn
  have hc : ∀ x, 0 ≤ idCount n x a ∧ idCount n x a < 65536 := fun x => by unfold idCount; omega
  have hh := hash_range (nBase n) (0, dst, 0, sSent s, 0)
  unfold idNext
  refine ⟨?_, ?_, fun h => ?_, fun h => ?_, fun h => ?_⟩
  · split
    · omega
    · split
      · exact (hc _).1
      · split
        · split
          · exact (hc _).1
          · exact (hc _).1
        · split
          · omega
          · split <;> omega
  · split
    · omega
    · split
      · exact (hc _).2
      · split
        · split
          · exact (hc _).2
          · exact (hc _).2
        · split
          · omega
          · split <;> omega
  · rw [if_neg (by omega), if_neg (by omega), if_neg (by omega), if_neg (by omega), if_neg (by omega)]
  · rw [if_pos h]
  · rw [if_neg (by omega), if_neg (by omega), if_neg (by omega), if_pos h]
theorem idCount_eq {n : Node} {x a : Int} (hn : okN n) (h0 : 0 ≤ x) (h1 : x ≤ 65535) : (idSum n x a).tmod 65536 = idCount n x a := by
  obtain ⟨n1, n2, n3, n4, n5, n6⟩ := hn
  have := grown_in (speed := nSpeed n) (a := a)
  unfold idCount idSum
  simp only [wI]
  rw [w64 (n := nBase n + x) (by omega) (by omega), w64 (by omega) (by omega), Int.tmod_eq_emod_of_nonneg (by omega)]
theorem idNext_eq {n : Node} {s : NState} {port a asked dst : Int} (hn : okN n) (hs : okS s) : idNext n s port a asked dst = idNextR n s port a asked dst := by
  obtain ⟨s1, s2, s3, s4⟩ := hs
  unfold idNext idNextR
  rw [idCount_eq hn s1 s2, idCount_eq (x := 0) hn (by omega) (by omega)]
  by_cases hp : port < 0 ∨ (sPortSent s).length ≤ port
  · rw [if_pos hp, if_pos hp]
  · rw [if_neg hp, if_neg hp]
    have := s4 _ (getD_mem (i := port) (by omega) (by omega))
    rw [idCount_eq hn (by omega) (by omega)]
def lpGrows : LPs := [(false, .sl cU8), (false, cU64), (false, cU32)]
def ct_law11_IdentifierGrows : Ct := lawCt lpGrows
def an_law11_IdentifierGrows : PDs ct_law11_IdentifierGrows.ps → Anns := (fun _ => {})
theorem vc_law11_IdentifierGrows :
    ∀ (x : List Int) (x_1 x_2 : Int), (List.length x ≤ maxLen ∧ ∀ (x_3 : Int), x_3 ∈ x → (0 : Int) ≤ x_3 ∧ x_3 ≤ (255 : Int)) ∧ ((0 : Int) ≤ x_1 ∧ x_1 ≤ (18446744073709551615 : Int)) ∧ ((0 : Int) ≤ x_2 ∧
     x_2 ≤ (4294967295 : Int)) ∧ True → True → (0 : Int) ≤ (80 : Int) ∧ okC (if ↑(List.length x) ≤ (80 : Int) then x else List.take (Int.toNat (80 : Int)) x, (0 : Int)) ∧ ∀ (d : List (Int × Int) × Int ×
     Int × Bool × List ((Int × Int) × List Int × Int) × Int × Int × Int × Int × Int × (Int × Int) × Bool × Bool × Int × Int) (x : List ((Int × Int) × List Int × Int)) (x_3 : Int) (x_4 : List Int) (x_5 x_6
     x_7 : Int) (x_8 : List Int) (x_9 : Int), okN d ∧ okS (x, x_3, x_4, (x_5, x_6), x_7) ∧ okC (x_8, x_9) → (1125891316908032 : Int) ≠ (0 : Int) ∧ ∀ (x_10 : Int), x_10 = idNext (d.1, d.2.1, d.2.2.1,
     d.2.2.2.1, d.2.2.2.2.1, d.2.2.2.2.2.1, d.2.2.2.2.2.2.1, (2 : Int), d.2.2.2.2.2.2.2.2) (x, x_3, x_4, (x_5, x_6), x_7) (0 : Int) (IntKind.wrap IntKind.i64 (Int.tmod x_1 (1125891316908032 : Int))) (0 :
     Int) (1 : Int) → ∀ (x_11 : Int), x_11 = idNext (d.1, d.2.1, d.2.2.1, d.2.2.2.1, d.2.2.2.2.1, d.2.2.2.2.2.1, d.2.2.2.2.2.2.1, (2 : Int), d.2.2.2.2.2.2.2.2) (x, IntKind.wrap IntKind.i64 (x_3 + (1 :
     Int)), x_4, (x_5, x_6), x_7) (0 : Int) (IntKind.wrap IntKind.i64 (IntKind.wrap IntKind.i64 (Int.tmod x_1 (1125891316908032 : Int)) + IntKind.wrap IntKind.i64 x_2)) (0 : Int) (2 : Int) → ∀ (x : Int), x
     = grown d.2.2.2.2.2.2.2.2.2.1 (IntKind.wrap IntKind.i64 (IntKind.wrap IntKind.i64 (Int.tmod x_1 (1125891316908032 : Int)) + IntKind.wrap IntKind.i64 x_2)) → ∀ (x_12 : Int), x_12 = grown
     d.2.2.2.2.2.2.2.2.2.1 (IntKind.wrap IntKind.i64 (Int.tmod x_1 (1125891316908032 : Int))) → ∀ (b : Bool), b = decide (IntKind.wrap IntKind.i64 (x - x_12) < (0 : Int)) → ((!b) = true → ((!b) = true →
     (!b) = true) ∧ True) ∧ ((!b) = true → ((!b) = true → (!b) = true) ∧ True) ∧ ((!b) = true → ((!b) = true → (!b) = true) ∧ True) ∧ ((!b) = true → ((!b) = true → (!b) = true) ∧ ((!b) = true → (!b) =
     true) ∧ True) ∧ ((!b) = true → ((!b) = true → (!b) = true) ∧ True) ∧ ((!b) = true → ((!b) = true → (!b) = true) ∧ ((!b) = true → (!b) = true) ∧ True) ∧ (b = false → (!b) = true) ∧ ∀ (b_1 : Bool), (b_1
     = bif b then true else decide (IntKind.wrap IntKind.i64 (IntKind.wrap IntKind.i64 (d.2.2.2.2.2.2.2.2.2.1 * IntKind.wrap IntKind.i64 x_2) + (1000000 : Int)) < IntKind.wrap IntKind.i64 (IntKind.wrap
     IntKind.i64 (x - x_12) * (1000000 : Int)))) → ((!b_1) = true → ((!b_1) = true → (!b_1) = true) ∧ True) ∧ ((!b_1) = true → ((!b_1) = true → (!b_1) = true) ∧ True) ∧ ((!b_1) = true → ((!b_1) = true →
     (!b_1) = true) ∧ True) ∧ ((!b_1) = true → ((!b_1) = true → (!b_1) = true) ∧ True) ∧ ((!b_1) = true → ((!b_1) = true → (!b_1) = true) ∧ ((!b_1) = true → (!b_1) = true) ∧ True) ∧ ((!b_1) = true →
     ((!b_1) = true → (!b_1) = true) ∧ ((!b_1) = true → (!b_1) = true) ∧ True) ∧ (b_1 = false → (!b_1) = true) ∧ ifP (bif b_1 then true else decide (IntKind.wrap IntKind.i64 (IntKind.wrap IntKind.i64
     (IntKind.wrap IntKind.i64 (x - x_12) + (1 : Int)) * (1000000 : Int)) < IntKind.wrap IntKind.i64 (d.2.2.2.2.2.2.2.2.2.1 * IntKind.wrap IntKind.i64 x_2))) (false = true) ((65536 : Int) ≠ (0 : Int) ∧
     decide (Int.tmod (IntKind.wrap IntKind.i64 (IntKind.wrap IntKind.i64 (x_10 + (1 : Int)) + IntKind.wrap IntKind.i64 (x - x_12))) (65536 : Int) = x_11) = true) := by
  rintro cl at' by' ⟨-, ⟨a0, a1⟩, ⟨b0, b1⟩, -⟩ -
  refine ⟨by omega, by split <;> simp [okC], ?_⟩
  rintro n rs se ps t1 t2 ba l1 p1 ⟨⟨n1, n2, n3, n4, n5, n6⟩, ⟨s1, s2, s3, s4⟩, hc⟩
  refine ⟨by omega, ?_⟩
  have q0 := tmod_lo (b := 1125891316908032) a0
  have q1 := tmod_hi (b := 1125891316908032) a0 (by omega)
  generalize at'.tmod 1125891316908032 = t at q0 q1 ⊢
  unfold nBase at n3 n4
  unfold nSpeed at n5 n6
  simp only [sSent] at s1 s2
  have et : IntKind.i64.wrap t = t := w64 (by omega) (by omega)
  have eb : IntKind.i64.wrap by' = by' := w64 (by omega) (by omega)
  have eu : IntKind.i64.wrap (t + by') = t + by' := w64 (by omega) (by omega)
  have es : IntKind.i64.wrap (se + 1) = se + 1 := w64 (by omega) (by omega)
  simp only [et, eb, eu, es]
  rintro x hx y hy g2 hg2 g1 hg1
  simp only [idNext, nID, show ¬ ((2 : Int) = 1) from by omega, if_false, if_true] at hx hy
  simp only [idCount, idSum, nBase, nSpeed, sSent, wI] at hx hy
  rw [← hg1] at hx
  rw [← hg2] at hy
  have hm := grown_mono (s := n.2.2.2.2.2.2.2.2.2.1) (t := t) (y := by') (by omega) (by omega) q0 b0 (by omega)
  rw [← hg1, ← hg2] at hm
  have r1 := (grown_in (speed := n.2.2.2.2.2.2.2.2.2.1) (a := t))
  rw [← hg1] at r1
  have r2 := (grown_in (speed := n.2.2.2.2.2.2.2.2.2.1) (a := t + by'))
  rw [← hg2] at r2
  clear hg1 hg2
  generalize n.2.2.2.2.2.2.2.2.2.1 = sp at n5 n6 hm ⊢
  generalize n.2.2.2.2.2.2.2.2.1 = bs at n3 n4 hx hy ⊢
  have k0 : 0 ≤ sp * by' := Int.mul_nonneg n5 b0
  have k1 : sp * by' ≤ 1000000 * 4294967295 := Int.mul_le_mul n6 b1 b0 (by omega)
  generalize sp * by' = k at hm k0 k1 ⊢
  obtain ⟨m1, m2, m3⟩ := hm
  rw [w64 (n := bs + se) (by omega) (by omega), w64 (n := bs + se + g1) (by omega) (by omega)] at hx
  rw [w64 (n := bs + (se + 1)) (by omega) (by omega), w64 (n := bs + (se + 1) + g2) (by omega) (by omega)] at hy
  have e1 : IntKind.i64.wrap (g2 - g1) = g2 - g1 := w64 (by omega) (by omega)
  have e2 : IntKind.i64.wrap k = k := w64 (by omega) (by omega)
  have e3 : IntKind.i64.wrap (k + 1000000) = k + 1000000 := w64 (by omega) (by omega)
  have e4 : IntKind.i64.wrap ((g2 - g1) * 1000000) = (g2 - g1) * 1000000 := w64 (by omega) (by omega)
  have e5 : IntKind.i64.wrap (g2 - g1 + 1) = g2 - g1 + 1 := w64 (by omega) (by omega)
  have e6 : IntKind.i64.wrap ((g2 - g1 + 1) * 1000000) = (g2 - g1 + 1) * 1000000 := w64 (by omega) (by omega)
  have e7 : IntKind.i64.wrap (x + 1) = x + 1 := w64 (by omega) (by omega)
  have e8 : IntKind.i64.wrap (x + 1 + (g2 - g1)) = x + 1 + (g2 - g1) := w64 (by omega) (by omega)
  simp only [e1, e2, e3, e4, e5, e6, e7, e8]
  (repeat (intro (b_ : Bool) (hb_ : b_ = _); (repeat refine ⟨(by simp; done), ?_⟩); subst hb_))
  refine ifP_split (fun h => ?_) (fun _ => ⟨by omega, ?_⟩)
  · simp at h
    omega
  · rw [Int.tmod_eq_emod_of_nonneg (by omega)]
    simp
    omega
theorem ok_law11_IdentifierGrows : SpecOK Try.prog 10 ct_law11_IdentifierGrows.spec := Ct.ok' _ Try.func10 (by kernel_rfl) (withSpec_ok (withSpec_ok (withSpec_ok (withSpec_ok (withSpec_ok noSpecs_ok ok_law11_awake) ok_draw_New) ok_law11_node) (Ct.named ok_identifier_Next)) (Ct.named ok_identifier_Grown)) hmix an_law11_IdentifierGrows (Eq.mpr (by kernel_rfl) vc_law11_IdentifierGrows)
def lpKinds : LPs := [(false, .sl cU8), (false, cU64), (false, cU64), (false, .int .u16), (false, cU32)]
def ct_law11_IdentifierKinds : Ct := lawCt lpKinds
def an_law11_IdentifierKinds : PDs ct_law11_IdentifierKinds.ps → Anns := (fun _ => {})
theorem vc_law11_IdentifierKinds :
    ∀ (x : List Int) (x_1 x_2 x_3 x_4 : Int), (List.length x ≤ maxLen ∧ ∀ (x_5 : Int), x_5 ∈ x → (0 : Int) ≤ x_5 ∧ x_5 ≤ (255 : Int)) ∧ ((0 : Int) ≤ x_1 ∧ x_1 ≤ (18446744073709551615 : Int)) ∧ ((0 : Int)
     ≤ x_2 ∧ x_2 ≤ (18446744073709551615 : Int)) ∧ ((0 : Int) ≤ x_3 ∧ x_3 ≤ (65535 : Int)) ∧ ((0 : Int) ≤ x_4 ∧ x_4 ≤ (4294967295 : Int)) ∧ True → True → (0 : Int) ≤ (80 : Int) ∧ okC (if ↑(List.length x) ≤
     (80 : Int) then x else List.take (Int.toNat (80 : Int)) x, (0 : Int)) ∧ ∀ (d : List (Int × Int) × Int × Int × Bool × List ((Int × Int) × List Int × Int) × Int × Int × Int × Int × Int × (Int × Int) ×
     Bool × Bool × Int × Int) (x : List ((Int × Int) × List Int × Int)) (x_5 : Int) (x_6 : List Int) (x_7 x_8 x_9 : Int) (x_10 : List Int) (x_11 : Int), okN d ∧ okS (x, x_5, x_6, (x_7, x_8), x_9) ∧ okC
     (x_10, x_11) → (1125899906842624 : Int) ≠ (0 : Int) ∧ ∀ (x_12 : Int), x_12 = idNext d (x, x_5, x_6, (x_7, x_8), x_9) (0 : Int) (IntKind.wrap IntKind.i64 (Int.tmod x_1 (1125899906842624 : Int)))
     (IntKind.wrap IntKind.i64 x_3) x_4 → okC (x_10, x_11) ∧ ∀ (x_13 : Int) (x_14 : List Int) (x_15 : Int), (0 : Int) ≤ x_13 ∧ (x_13 < (50 : Int) ∨ x_13 = (0 : Int)) ∧ okC (x_14, x_15) → (1125899906842624
     : Int) ≠ (0 : Int) ∧ ∀ (x_16 : Int), x_16 = idNext d (x, IntKind.wrap IntKind.i64 (x_5 + x_13), x_6, (x_7, x_8), x_9) (0 : Int) (IntKind.wrap IntKind.i64 (Int.tmod x_2 (1125899906842624 : Int)))
     (IntKind.wrap IntKind.i64 x_3) x_4 → ifP (decide (d.2.2.2.2.2.2.2.1 = (0 : Int))) (∀ (b : Bool), b = decide (x_12 = (0 : Int)) → (b = true → (b = true → b = true) ∧ True) ∧ (b = true → b = true) ∧
     (bif b then decide (x_16 = (0 : Int)) else false) = true) (ifP (decide (d.2.2.2.2.2.2.2.1 = (1 : Int))) (∀ (b : Bool), b = decide (x_12 = d.2.2.2.2.2.2.2.2.1) → (b = true → (b = true → b = true) ∧
     True) ∧ (b = true → (b = true → b = true) ∧ (b = true → b = true) ∧ True) ∧ (b = true → b = true) ∧ (bif b then decide (x_16 = d.2.2.2.2.2.2.2.2.1) else false) = true) (ifP (decide (d.2.2.2.2.2.2.2.1
     = (4 : Int))) (∀ (b : Bool), b = decide (x_12 = IntKind.wrap IntKind.i64 x_3) → (b = true → (b = true → b = true) ∧ True) ∧ (b = true → (b = true → b = true) ∧ (b = true → b = true) ∧ True) ∧ (b =
     true → b = true) ∧ (bif b then decide (x_16 = IntKind.wrap IntKind.i64 x_3) else false) = true) (∀ (b : Bool), b = decide ((0 : Int) ≤ x_12) → (b = true → (b = true → b = true) ∧ True) ∧ (b = true → b
     = true) ∧ ∀ (b_1 : Bool), (b_1 = bif b then decide (x_12 < (65536 : Int)) else false) → (b_1 = true → (b_1 = true → b_1 = true) ∧ True) ∧ (b_1 = true → b_1 = true) ∧ ∀ (b : Bool), (b = bif b_1 then
     decide ((0 : Int) ≤ x_16) else false) → (b = true → (b = true → b = true) ∧ True) ∧ (b = true → b = true) ∧ (bif b then decide (x_16 < (65536 : Int)) else false) = true))) := by
  rintro cl at' la asked dst ⟨-, -, -, ⟨h0, h1⟩, -⟩ -
  refine ⟨by omega, by split <;> simp [okC], ?_⟩
  rintro n rs se ps t1 t2 ba l1 p1 ⟨hn, hs, hc⟩
  refine ⟨by omega, ?_⟩
  have e1 : IntKind.i64.wrap asked = asked := w64 (by omega) (by omega)
  simp only [e1]
  rintro x hx
  refine ⟨hc, ?_⟩
  rintro v l2 p2 ⟨-, -, -⟩
  refine ⟨by omega, ?_⟩
  rintro y hy
  have rx := idNext_range (s := (rs, se, ps, (t1, t2), ba)) (port := 0) (a := IntKind.i64.wrap (at'.tmod 1125899906842624)) (asked := asked) (dst := dst) hn h0 h1
  have ry := idNext_range (s := (rs, IntKind.i64.wrap (se + v), ps, (t1, t2), ba)) (port := 0) (a := IntKind.i64.wrap (la.tmod 1125899906842624)) (asked := asked) (dst := dst) hn h0 h1
  rw [← hx] at rx
  rw [← hy] at ry
  obtain ⟨rx0, rx1, rx2, rx3, rx4⟩ := rx
  obtain ⟨ry0, ry1, ry2, ry3, ry4⟩ := ry
  clear hx hy
  unfold nID nBase at *
  refine ifP_split (fun h => ?_) (fun h => ifP_split (fun h => ?_) (fun h => ifP_split (fun h => ?_) (fun h => ?_)))
  · have h := of_decide_eq_true h
    (repeat (intro (b_ : Bool) (hb_ : b_ = _); (repeat refine ⟨(by simp; done), ?_⟩); subst hb_))
    simp [rx2 h, ry2 h]
  · have h := of_decide_eq_true h
    (repeat (intro (b_ : Bool) (hb_ : b_ = _); (repeat refine ⟨(by simp; done), ?_⟩); subst hb_))
    simp [rx3 h, ry3 h]
  · have h := of_decide_eq_true h
    (repeat (intro (b_ : Bool) (hb_ : b_ = _); (repeat refine ⟨(by simp; done), ?_⟩); subst hb_))
    simp [rx4 h, ry4 h]
  · (repeat (intro (b_ : Bool) (hb_ : b_ = _); (repeat refine ⟨(by simp; done), ?_⟩); subst hb_))
    simp
    omega
theorem ok_law11_IdentifierKinds : SpecOK Try.prog 11 ct_law11_IdentifierKinds.spec := Ct.ok' _ Try.func11 (by kernel_rfl) (withSpec_ok (withSpec_ok (withSpec_ok (withSpec_ok (withSpec_ok noSpecs_ok ok_law11_awake) ok_draw_New) ok_law11_node) (Ct.named ok_identifier_Next)) ok_Next) hmix an_law11_IdentifierKinds (Eq.mpr (by kernel_rfl) vc_law11_IdentifierKinds)
def lpIdExact : LPs := [(false, .sl cU8), (true, cNode), (false, cI), (false, cI), (false, cU32), (false, .int .u16)]
def ct_law11_IdentifierExact : Ct := lawCt lpIdExact
def an_law11_IdentifierExact : PDs ct_law11_IdentifierExact.ps → Anns := (fun d => { loops := (fun n => match n with | 7 => some (fun S => { ι := Int, μ := fun i => (5 - i).toNat, inv := fun i => -1 ≤ i ∧ i ≤ 5, keep := [0, 2, 3, 4, 5, 7, 14, 15, 16], slots := fun i => [(17, .int .i64 i)], keepN := [128, 240, 256], names := fun i => [] }) | _ => none) })
theorem vc_law11_IdentifierExact :
    ∀ (x : List Int) (d : List (Int × Int) × Int × Int × Bool × List ((Int × Int) × List Int × Int) × Int × Int × Int × Int × Int × (Int × Int) × Bool × Bool × Int × Int) (x_1 x_2 x_3 x_4 : Int),
     (List.length x ≤ maxLen ∧ ∀ (x_5 : Int), x_5 ∈ x → (0 : Int) ≤ x_5 ∧ x_5 ≤ (255 : Int)) ∧ CT.wf cNode d ∧ ((-9223372036854775808 : Int) ≤ x_1 ∧ x_1 ≤ (9223372036854775807 : Int)) ∧
     ((-9223372036854775808 : Int) ≤ x_2 ∧ x_2 ≤ (9223372036854775807 : Int)) ∧ ((0 : Int) ≤ x_3 ∧ x_3 ≤ (4294967295 : Int)) ∧ ((0 : Int) ≤ x_4 ∧ x_4 ≤ (65535 : Int)) ∧ True → True → (0 : Int) ≤ (80 : Int)
     ∧ okC (if ↑(List.length x) ≤ (80 : Int) then x else List.take (Int.toNat (80 : Int)) x, (0 : Int)) ∧ ∀ (d_1 : List (Int × Int) × Int × Int × Bool × List ((Int × Int) × List Int × Int) × Int × Int ×
     Int × Int × Int × (Int × Int) × Bool × Bool × Int × Int) (x_5 : List ((Int × Int) × List Int × Int)) (x_6 : Int) (x_7 : List Int) (x_8 x_9 x_10 : Int) (x_11 : List Int) (x_12 : Int), okN d_1 ∧ okS
     (x_5, x_6, x_7, (x_8, x_9), x_10) ∧ okC (x_11, x_12) → (1125899906842625 : Int) ≠ (0 : Int) ∧ ∀ (x_13 : Int), x_13 = modI x_2 (1125899906842625 : Int) → (∃ (x_14 : Int), ((-1 : Int) ≤ x_14 ∧ x_14 ≤ (5
     : Int)) ∧ x = x ∧ x_1 = x_1 ∧ x_2 = x_2 ∧ x_3 = x_3 ∧ x_4 = x_4 ∧ x_13 = x_13 ∧ (-1 : Int) = x_14 ∧ d.1 = d.1 ∧ d.2.1 = d.2.1 ∧ d.2.2.1 = d.2.2.1 ∧ d.2.2.2.1 = d.2.2.2.1 ∧ d.2.2.2.2.1 = d.2.2.2.2.1 ∧
     d.2.2.2.2.2.1 = d.2.2.2.2.2.1 ∧ d.2.2.2.2.2.2.1 = d.2.2.2.2.2.2.1 ∧ d.2.2.2.2.2.2.2.1 = d.2.2.2.2.2.2.2.1 ∧ d.2.2.2.2.2.2.2.2.1 = d.2.2.2.2.2.2.2.2.1 ∧ d.2.2.2.2.2.2.2.2.2.1 = d.2.2.2.2.2.2.2.2.2.1 ∧
     d.2.2.2.2.2.2.2.2.2.2.1.1 = d.2.2.2.2.2.2.2.2.2.2.1.1 ∧ d.2.2.2.2.2.2.2.2.2.2.1.2 = d.2.2.2.2.2.2.2.2.2.2.1.2 ∧ d.2.2.2.2.2.2.2.2.2.2.2.1 = d.2.2.2.2.2.2.2.2.2.2.2.1 ∧ d.2.2.2.2.2.2.2.2.2.2.2.2.1 =
     d.2.2.2.2.2.2.2.2.2.2.2.2.1 ∧ d.2.2.2.2.2.2.2.2.2.2.2.2.2.1 = d.2.2.2.2.2.2.2.2.2.2.2.2.2.1 ∧ d.2.2.2.2.2.2.2.2.2.2.2.2.2.2 = d.2.2.2.2.2.2.2.2.2.2.2.2.2.2 ∧ d_1.1 = d_1.1 ∧ d_1.2.1 = d_1.2.1 ∧
     d_1.2.2.1 = d_1.2.2.1 ∧ d_1.2.2.2.1 = d_1.2.2.2.1 ∧ d_1.2.2.2.2.1 = d_1.2.2.2.2.1 ∧ d_1.2.2.2.2.2.1 = d_1.2.2.2.2.2.1 ∧ d_1.2.2.2.2.2.2.1 = d_1.2.2.2.2.2.2.1 ∧ d_1.2.2.2.2.2.2.2.1 =
     d_1.2.2.2.2.2.2.2.1 ∧ d_1.2.2.2.2.2.2.2.2.1 = d_1.2.2.2.2.2.2.2.2.1 ∧ d_1.2.2.2.2.2.2.2.2.2.1 = d_1.2.2.2.2.2.2.2.2.2.1 ∧ d_1.2.2.2.2.2.2.2.2.2.2.1.1 = d_1.2.2.2.2.2.2.2.2.2.2.1.1 ∧
     d_1.2.2.2.2.2.2.2.2.2.2.1.2 = d_1.2.2.2.2.2.2.2.2.2.2.1.2 ∧ d_1.2.2.2.2.2.2.2.2.2.2.2.1 = d_1.2.2.2.2.2.2.2.2.2.2.2.1 ∧ d_1.2.2.2.2.2.2.2.2.2.2.2.2.1 = d_1.2.2.2.2.2.2.2.2.2.2.2.2.1 ∧
     d_1.2.2.2.2.2.2.2.2.2.2.2.2.2.1 = d_1.2.2.2.2.2.2.2.2.2.2.2.2.2.1 ∧ d_1.2.2.2.2.2.2.2.2.2.2.2.2.2.2 = d_1.2.2.2.2.2.2.2.2.2.2.2.2.2.2 ∧ x_5 = x_5 ∧ x_6 = x_6 ∧ x_7 = x_7 ∧ x_8 = x_8 ∧ x_9 = x_9 ∧ x_10
     = x_10 ∧ True) ∧ ∀ (x_14 : Int), (-1 : Int) ≤ x_14 ∧ x_14 ≤ (5 : Int) → ifP (decide (x_14 < (5 : Int))) (ifP (!decide (idNext d_1 (x_5, x_6, x_7, (x_8, x_9), x_10) x_14 x_13 (IntKind.wrap IntKind.i64
     x_4) x_3 = idNextR d_1 (x_5, x_6, x_7, (x_8, x_9), x_10) x_14 x_13 (IntKind.wrap IntKind.i64 x_4) x_3)) (false = true) (∃ (x_15 : Int), ((-1 : Int) ≤ x_15 ∧ x_15 ≤ (5 : Int)) ∧ Int.toNat ((5 : Int) -
     x_15) < Int.toNat ((5 : Int) - x_14) ∧ x = x ∧ x_1 = x_1 ∧ x_2 = x_2 ∧ x_3 = x_3 ∧ x_4 = x_4 ∧ x_13 = x_13 ∧ IntKind.wrap IntKind.i64 (x_14 + (1 : Int)) = x_15 ∧ d.1 = d.1 ∧ d.2.1 = d.2.1 ∧ d.2.2.1 =
     d.2.2.1 ∧ d.2.2.2.1 = d.2.2.2.1 ∧ d.2.2.2.2.1 = d.2.2.2.2.1 ∧ d.2.2.2.2.2.1 = d.2.2.2.2.2.1 ∧ d.2.2.2.2.2.2.1 = d.2.2.2.2.2.2.1 ∧ d.2.2.2.2.2.2.2.1 = d.2.2.2.2.2.2.2.1 ∧ d.2.2.2.2.2.2.2.2.1 =
     d.2.2.2.2.2.2.2.2.1 ∧ d.2.2.2.2.2.2.2.2.2.1 = d.2.2.2.2.2.2.2.2.2.1 ∧ d.2.2.2.2.2.2.2.2.2.2.1.1 = d.2.2.2.2.2.2.2.2.2.2.1.1 ∧ d.2.2.2.2.2.2.2.2.2.2.1.2 = d.2.2.2.2.2.2.2.2.2.2.1.2 ∧
     d.2.2.2.2.2.2.2.2.2.2.2.1 = d.2.2.2.2.2.2.2.2.2.2.2.1 ∧ d.2.2.2.2.2.2.2.2.2.2.2.2.1 = d.2.2.2.2.2.2.2.2.2.2.2.2.1 ∧ d.2.2.2.2.2.2.2.2.2.2.2.2.2.1 = d.2.2.2.2.2.2.2.2.2.2.2.2.2.1 ∧
     d.2.2.2.2.2.2.2.2.2.2.2.2.2.2 = d.2.2.2.2.2.2.2.2.2.2.2.2.2.2 ∧ d_1.1 = d_1.1 ∧ d_1.2.1 = d_1.2.1 ∧ d_1.2.2.1 = d_1.2.2.1 ∧ d_1.2.2.2.1 = d_1.2.2.2.1 ∧ d_1.2.2.2.2.1 = d_1.2.2.2.2.1 ∧ d_1.2.2.2.2.2.1
     = d_1.2.2.2.2.2.1 ∧ d_1.2.2.2.2.2.2.1 = d_1.2.2.2.2.2.2.1 ∧ d_1.2.2.2.2.2.2.2.1 = d_1.2.2.2.2.2.2.2.1 ∧ d_1.2.2.2.2.2.2.2.2.1 = d_1.2.2.2.2.2.2.2.2.1 ∧ d_1.2.2.2.2.2.2.2.2.2.1 =
     d_1.2.2.2.2.2.2.2.2.2.1 ∧ d_1.2.2.2.2.2.2.2.2.2.2.1.1 = d_1.2.2.2.2.2.2.2.2.2.2.1.1 ∧ d_1.2.2.2.2.2.2.2.2.2.2.1.2 = d_1.2.2.2.2.2.2.2.2.2.2.1.2 ∧ d_1.2.2.2.2.2.2.2.2.2.2.2.1 =
     d_1.2.2.2.2.2.2.2.2.2.2.2.1 ∧ d_1.2.2.2.2.2.2.2.2.2.2.2.2.1 = d_1.2.2.2.2.2.2.2.2.2.2.2.2.1 ∧ d_1.2.2.2.2.2.2.2.2.2.2.2.2.2.1 = d_1.2.2.2.2.2.2.2.2.2.2.2.2.2.1 ∧ d_1.2.2.2.2.2.2.2.2.2.2.2.2.2.2 =
     d_1.2.2.2.2.2.2.2.2.2.2.2.2.2.2 ∧ x_5 = x_5 ∧ x_6 = x_6 ∧ x_7 = x_7 ∧ x_8 = x_8 ∧ x_9 = x_9 ∧ x_10 = x_10 ∧ True)) (∀ (b : Bool), b = decide (idCheck d = idCheck d) → (b = true → (b = true → b = true)
     ∧ True) ∧ (b = true → (b = true → b = true) ∧ True) ∧ (b = true → b = true) ∧ ∀ (b_1 : Bool), (b_1 = bif b then decide (idCheck d_1 = (0 : Int)) else false) → (b_1 = true → (b_1 = true → b_1 = true) ∧
     (b_1 = true → b_1 = true) ∧ True) ∧ (b_1 = true → (b_1 = true → b_1 = true) ∧ (b_1 = true → b_1 = true) ∧ True) ∧ (b_1 = true → (b_1 = true → b_1 = true) ∧ (b_1 = true → b_1 = true) ∧ True) ∧ (b_1 =
     true → b_1 = true) ∧ ∀ (b : Bool), (b = bif b_1 then decide (grown x_1 x_2 = grown x_1 x_2) else false) → (b = true → (b = true → b = true) ∧ True) ∧ (b = true → (b = true → b = true) ∧ (b = true → b
     = true) ∧ True) ∧ (b = true → (b = true → b = true) ∧ True) ∧ (b = true → (b = true → b = true) ∧ (b = true → b = true) ∧ True) ∧ (b = true → (b = true → b = true) ∧ (b = true → b = true) ∧ True) ∧ (b
     = true → b = true) ∧ (bif b then decide (grown d_1.2.2.2.2.2.2.2.2.2.1 x_13 = grown d_1.2.2.2.2.2.2.2.2.2.1 x_13) else false) = true) := by
  rintro cl raw sp at' dst asked ⟨-, -, -, -, -, ⟨h0, h1⟩, -⟩ -
  refine ⟨by omega, by split <;> simp [okC], ?_⟩
  rintro n rs se ps t1 t2 ba l1 p1 ⟨hn, hs, hc⟩
  refine ⟨by omega, ?_⟩
  rintro t rfl
  have hr := modI_range at' (n := 1125899906842625) (by omega) (by omega)
  generalize modI at' 1125899906842625 = t at hr ⊢
  refine ⟨⟨-1, by omega, (by repeat' first | exact trivial | refine ⟨(by with_reducible rfl), ?_⟩ | refine ⟨w64 (by omega) (by omega), ?_⟩ | refine ⟨rfl, ?_⟩)⟩, ?_⟩
  rintro j ⟨j0, j1⟩
  refine ifP_split (fun hj => ?_) (fun _ => ?_)
  · have hj := of_decide_eq_true hj
    refine ifP_split (fun h => ?_) (fun _ => ⟨j + 1, by omega, by omega, (by repeat' first | exact trivial | refine ⟨(by with_reducible rfl), ?_⟩ | refine ⟨w64 (by omega) (by omega), ?_⟩ | refine ⟨rfl, ?_⟩)⟩)
    rw [idNext_eq hn hs] at h
    simp at h
  · have hck : idCheck n = 0 := by
      unfold idCheck idOK; rw [if_pos]; simpa [okN] using hn
    (repeat (intro (b_ : Bool) (hb_ : b_ = _); (repeat refine ⟨(by simp; done), ?_⟩); subst hb_))
    simp [hck]
theorem ok_law11_IdentifierExact : SpecOK Try.prog 12 ct_law11_IdentifierExact.spec := Ct.ok' _ Try.func12 (by kernel_rfl) (withSpec_ok (withSpec_ok (withSpec_ok (withSpec_ok (withSpec_ok (withSpec_ok (withSpec_ok (withSpec_ok (withSpec_ok (withSpec_ok noSpecs_ok ok_law11_awake) ok_draw_New) ok_law11_node) (Ct.named ok_draw_Mod)) ok_identifier_Next) ok_ref11_Next) ok_identifier_Check) ok_ref11_Check) ok_identifier_Grown) ok_ref11_Grown) hmix an_law11_IdentifierExact (Eq.mpr (by kernel_rfl) vc_law11_IdentifierExact)
end Go.RS

