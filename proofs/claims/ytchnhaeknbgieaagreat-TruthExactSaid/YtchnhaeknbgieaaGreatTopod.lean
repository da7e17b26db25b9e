/- Fib: forwarding tables. -/
import Derived.Test.YtchnhaeknbgieaaGreatReply
namespace Go.RS
open Go.SX Go.Proofs
set_option maxRecDepth 100000
set_option linter.unusedVariables false

abbrev cRt : CT := .pair cPfx (.pair (.sl cI) cI)
abbrev Rt : Type := Pfx × List Int × Int
def plt (p q : Pfx) : Prop := p.1 < q.1 ∨ p.1 = q.1 ∧ p.2 < q.2
instance (p q : Pfx) : Decidable (plt p q) := by unfold plt; infer_instance
theorem icmp_lt {a b : Int} (h : a < b) : icmp a b = -1 := by unfold icmp; rw [if_pos h]
theorem icmp_gt {a b : Int} (h : b < a) : icmp a b = 1 := by unfold icmp; rw [if_neg (by omega), if_pos h]
theorem icmp_eq (a : Int) : icmp a a = 0 := by unfold icmp; simp
theorem pcmp_cases (p q : Pfx) : (plt p q ∧ pcmp p q = -1) ∨ (p = q ∧ pcmp p q = 0) ∨ (plt q p ∧ pcmp p q = 1) := by
  obtain ⟨a, b⟩ := p; obtain ⟨c, e⟩ := q
  unfold pcmp plt
  rcases Int.lt_trichotomy a c with h | rfl | h
  · left; simp [icmp_lt h, h]
  · rcases Int.lt_trichotomy b e with h | rfl | h
    · left; simp [icmp_eq, icmp_lt h, h]
    · right; left; simp [icmp_eq]
    · right; right; simp [icmp_eq, icmp_gt h, h]
  · right; right; simp [icmp_gt h, h]
theorem plt_irrefl (p : Pfx) : ¬ plt p p := by unfold plt; omega
theorem plt_trans {p q r : Pfx} (h : plt p q) (k : plt q r) : plt p r := by unfold plt at *; omega
theorem plt_asymm {p q : Pfx} (h : plt p q) : ¬ plt q p := by unfold plt at *; omega
theorem plt_total {p q : Pfx} (h : ¬ plt p q) : p = q ∨ plt q p := by rcases pcmp_cases p q with ⟨k, -⟩ | ⟨k, -⟩ | ⟨k, -⟩ <;> simp_all
theorem plt_of_not {p q r : Pfx} (h : ¬ plt p q) (k : plt p r) : ¬ plt r q := fun e => h (plt_trans k e)
theorem pcmp_neg {p q : Pfx} : pcmp p q < 0 ↔ plt p q := by
  rcases pcmp_cases p q with ⟨h, e⟩ | ⟨rfl, e⟩ | ⟨h, e⟩ <;> rw [e]
  · simp [h]
  · simp [plt_irrefl]
  · simp [plt_asymm h]
theorem pcmp_zero {p q : Pfx} : pcmp p q = 0 ↔ p = q := by
  rcases pcmp_cases p q with ⟨h, e⟩ | ⟨h, e⟩ | ⟨h, e⟩ <;> rw [e]
  · simp; rintro rfl; exact plt_irrefl _ h
  · simp [h]
  · simp; rintro rfl; exact plt_irrefl _ h
theorem pcmp_nonneg {p q : Pfx} : 0 ≤ pcmp p q ↔ ¬ plt p q := by rw [← pcmp_neg]; omega

def sortedR (l : List Rt) : Prop := l.Pairwise fun a b => plt a.1 b.1
theorem place_lo {l : List Rt} {p : Pfx} {h : Int} (hs : sortedR l) (h0 : 0 ≤ h) (h1 : h < l.length) (hl : plt (l.getD h.toNat default).1 p) : ∀ y ∈ l.take (h + 1).toNat, plt y.1 p := by
  intro y hy
  have hj : h.toNat < l.length := by omega
  rcases mem_take_succ h0 h1 hy with hy | rfl
  · obtain ⟨k, hk, rfl⟩ := List.mem_iff_getElem.1 hy
    rw [List.getD_eq_getElem?_getD, List.getElem?_eq_getElem hj, Option.getD_some] at hl
    simp at hk ⊢
    exact plt_trans (List.pairwise_iff_getElem.1 hs k h.toNat (by omega) hj (by omega)) hl
  · exact hl
theorem place_hi {l : List Rt} {p : Pfx} {h : Int} (hs : sortedR l) (h0 : 0 ≤ h) (h1 : h < l.length) (hl : ¬ plt (l.getD h.toNat default).1 p) : ∀ y ∈ l.drop h.toNat, ¬ plt y.1 p := by
  intro y hy
  have hj : h.toNat < l.length := by omega
  rw [List.getD_eq_getElem?_getD, List.getElem?_eq_getElem hj, Option.getD_some] at hl
  rw [List.drop_eq_getElem_cons hj] at hy
  rcases List.mem_cons.1 hy with rfl | hy
  · exact hl
  · have hp : ((l.drop h.toNat)).Pairwise fun a b => plt a.1 b.1 := List.Pairwise.drop hs
    rw [List.drop_eq_getElem_cons hj] at hp
    exact plt_of_not hl (List.rel_of_pairwise_cons hp hy)
def ct_slices_Clone_263e : Ct := ⟨[.val (.sl cI)], [.own 3 cI], fun d => [(d.1.length : Int) ≤ 1099511627776], fun d => ((d.1, ()), ())⟩
def an_slices_Clone_263e : PDs ct_slices_Clone_263e.ps → Anns := (fun _ => {})
theorem vc_slices_Clone_263e : ∀ (x : List Int), (x.length <= maxLen /\ ∀ (x1 : Int), x1 ∈ x -> R64 x1) /\ True -> (x.length : Int) <= 1099511627776 -> ∀ (x1 : Bool), (x1 = true -> x.length = (0 : Nat)) -> ifP x1 (([] : List Int) = x) (((0 : Nat) + x.length) * (8 : Nat) <= (140737488355328 : Nat) /\ x = x) := by
  rintro x ⟨⟨hl, -⟩, -⟩ h b hb
  refine ifP_split (fun h1 => ?_) (fun h1 => ⟨by simp; omega, by simp⟩)
  have := hb h1
  exact (List.eq_nil_of_length_eq_zero this).symm
theorem ok_slices_Clone_263e : SpecOK Tryz.prog GL 76 ct_slices_Clone_263e.spec := Ct.okH _ Tryz.func76 (by kernel_rfl) noSpecs_ok hmix an_slices_Clone_263e (hideMp (by kernel_rfl) vc_slices_Clone_263e)

def ct_fib_copied : Ct := ⟨[.agg cRt], [.agg cRt], fun d => [(d.1.2.1.length : Int) ≤ 1099511627776], fun d => ((d.1, ()), ())⟩
def an_fib_copied : PDs ct_fib_copied.ps → Anns := (fun _ => {})
theorem vc_fib_copied : ∀ (x x1 : Int) (x2 : List Int) (x3 : Int), (((0 <= x /\ x <= 4294967295) /\ R64 x1) /\ (x2.length <= maxLen /\ ∀ (x : Int), x ∈ x2 -> R64 x) /\ R64 x3) /\ True -> (x2.length : Int) <= 1099511627776 -> (x2.length : Int) <= 1099511627776 /\ ((x, x1), x2, x3) = ((x, x1), x2, x3) := by
  rintro a b c e - h
  exact ⟨h, rfl⟩
theorem ok_fib_copied : SpecOK Tryz.prog GL 73 ct_fib_copied.spec := Ct.okH _ Tryz.func73 (by kernel_rfl) (withSpec_ok noSpecs_ok ok_slices_Clone_263e) hmix an_fib_copied (hideMp (by kernel_rfl) vc_fib_copied)

def ct_ref09_copied : Ct := ⟨[.agg cRt], [.agg cRt], fun d => [(d.1.2.1.length : Int) ≤ 1099511627776], fun d => ((d.1, ()), ())⟩
def an_ref09_copied : PDs ct_ref09_copied.ps → Anns := (fun _ => {})
theorem vc_ref09_copied : ∀ (x x1 : Int) (x2 : List Int) (x3 : Int), (((0 <= x /\ x <= 4294967295) /\ R64 x1) /\ (x2.length <= maxLen /\ ∀ (x : Int), x ∈ x2 -> R64 x) /\ R64 x3) /\ True -> (x2.length : Int) <= 1099511627776 -> x2.length * (8 : Nat) <= (140737488355328 : Nat) /\ ((x, x1), x2, x3) = ((x, x1), x2, x3) := by
  rintro a b c e - h
  exact ⟨by omega, rfl⟩
theorem ok_ref09_copied : SpecOK Tryz.prog GL 85 ct_ref09_copied.spec := Ct.okH _ Tryz.func85 (by kernel_rfl) noSpecs_ok hmix an_ref09_copied (hideMp (by kernel_rfl) vc_ref09_copied)

def ct_fib_place_1 : Ct := ⟨[.agg cRt, .agg cPfx], [.val cI], fun _ => [], fun d => ((pcmp d.1.1 d.2.1, ()), ())⟩
def an_fib_place_1 : PDs ct_fib_place_1.ps → Anns := (fun _ => {})
theorem vc_fib_place_1 : ∀ (x x1 : Int) (x2 : List Int) (x3 x4 x5 : Int), (((0 <= x /\ x <= 4294967295) /\ R64 x1) /\ (x2.length <= maxLen /\ ∀ (x : Int), x ∈ x2 -> R64 x) /\ R64 x3) /\ ((0 <= x4 /\ x4 <= 4294967295) /\ R64 x5) /\ True -> True -> pcmp (x, x1) (x4, x5) = pcmp (x, x1) (x4, x5) := by
  intros; trivial
theorem ok_fib_place_1 : SpecOK Tryz.prog GL 106 ct_fib_place_1.spec := Ct.okH _ Tryz.func106 (by kernel_rfl) (withSpec_ok noSpecs_ok ok_address_Compare) hmix an_fib_place_1 (hideMp (by kernel_rfl) vc_fib_place_1)
theorem half {i j : Int} (h0 : 0 ≤ i) (h1 : i ≤ j) (h2 : j ≤ 9223372036854775807) : IntKind.wrap IntKind.i64 (shrI IntKind.u64 (IntKind.wrap IntKind.u64 (IntKind.wrap IntKind.i64 (i + j))) (1 : Int)) = (i + j) / 2 := by
  have hw : IntKind.wrap IntKind.u64 (IntKind.wrap IntKind.i64 (i + j)) = i + j := by
    rw [IntKind.wrap_i64, IntKind.wrap_u64]; omega
  rw [hw]
  have : shrI IntKind.u64 (i + j) 1 = (i + j) / 2 := by
    unfold shrI
    rw [Int.fdiv_eq_ediv_of_nonneg _ (by decide)]
    rfl
  rw [this, w64 (by omega) (by omega)]
theorem place_ex (l : List Rt) (p : Pfx) : ∃ k : Int, 0 ≤ k ∧ k ≤ l.length ∧ (sortedR l → (∀ z ∈ l.take k.toNat, plt z.1 p) ∧ ∀ z ∈ l.drop k.toNat, ¬ plt z.1 p) := by
  induction l with
  | nil => exact ⟨0, by simp, by simp, by simp⟩
  | cons a l ih =>
    obtain ⟨k, h0, h1, h2⟩ := ih
    by_cases ha : plt a.1 p
    · refine ⟨k + 1, by omega, by simp; omega, fun hs => ?_⟩
      obtain ⟨q1, q2⟩ := h2 (List.pairwise_cons.1 hs).2
      have e : (k + 1).toNat = k.toNat + 1 := by omega
      rw [e]
      refine ⟨fun z hz => ?_, fun z hz => q2 z (by simpa using hz)⟩
      rw [List.take_succ_cons] at hz
      rcases List.mem_cons.1 hz with rfl | hz
      · exact ha
      · exact q1 z hz
    · refine ⟨0, by omega, by simp only [List.length_cons]; omega, fun hs => ⟨by simp, fun z hz => ?_⟩⟩
      rcases List.mem_cons.1 (show z ∈ a :: l from hz) with rfl | hz
      · exact ha
      · exact plt_of_not ha ((List.pairwise_cons.1 hs).1 z hz)
def ct_slices_BinarySearchFunc_0367 : Cn := ⟨[.val (.sl cRt), .agg cPfx, .fn 106 0], [.val cI, .val .bool], fun _ => [], fun d y => 0 ≤ y.1.1 ∧ y.1.1 ≤ d.1.length ∧ (sortedR d.1 → (∀ z ∈ d.1.take y.1.1.toNat, plt z.1 d.2.1) ∧ ∀ z ∈ d.1.drop y.1.1.toNat, ¬ plt z.1 d.2.1) ∧ y.1.2.1 = decide (y.1.1 < d.1.length ∧ (d.1.getD y.1.1.toNat default).1 = d.2.1), fun d h => let ⟨k, h0, h1, h2⟩ := place_ex d.1 d.2.1; ⟨((k, decide (k < d.1.length ∧ (d.1.getD k.toNat default).1 = d.2.1), ()), ()), h0, h1, h2, rfl⟩⟩
def an_slices_BinarySearchFunc_0367 : PDs ct_slices_BinarySearchFunc_0367.ps → Anns := (fun d => { loops := (fun n => match n with | 3 => some (fun S => { ι := Int × Int, qn := ⟨fun k_ => ∀ (i : Int) (j : Int), k_ (i, j), fun k_ h_ i => h_ i.1 i.2, fun k_ => ∃ (i : Int) (j : Int), k_ (i, j), fun k_ ⟨i, j, h_⟩ => ⟨_, h_⟩⟩, μ := fun i => (i.2 - i.1).toNat, inv := fun i => 0 ≤ i.1 ∧ i.1 ≤ i.2 ∧ i.2 ≤ d.1.length ∧ (sortedR d.1 → (∀ z ∈ d.1.take i.1.toNat, plt z.1 d.2.1) ∧ ∀ z ∈ d.1.drop i.2.toNat, ¬ plt z.1 d.2.1), keep := [0, 2, 4, 8], slots := fun i => [(9, .int .i64 i.1), (10, .int .i64 i.2)], keepN := [80], names := fun i => [] }) | _ => none) })
theorem vc_slices_BinarySearchFunc_0367 : ∀ (x : List ((Int × Int) × List Int × Int)) (x_1 x_2 : Int), (x.length <= maxLen /\ ∀ (x_3 : (Int × Int) × List Int × Int), x_3 ∈ x -> ((0 <= x_3.1.1 /\ x_3.1.1 <= 4294967295) /\ R64 x_3.1.2) /\ (x_3.2.1.length <= maxLen /\ ∀ (x : Int), x ∈ x_3.2.1 -> R64 x) /\ R64 x_3.2.2) /\ ((0 <= x_1 /\ x_1 <= 4294967295) /\ R64 x_2) /\ True /\ True -> True -> (∃ (i : Int) (j : Int), (0 <= i /\ i <= j /\ j <= (x.length : Int) /\ (sortedR x -> (∀ (z : (Int × Int) × List Int × Int), z ∈ List.take i.toNat x -> plt z.1 (x_1, x_2)) /\ ∀ (z : (Int × Int) × List Int × Int), z ∈ List.drop j.toNat x -> ¬plt z.1 (x_1, x_2))) /\ x = x /\ (x.length : Int) = (x.length : Int) /\ (0 : Int) = i /\ (x.length : Int) = j /\ x_1 = x_1 /\ x_2 = x_2 /\ True) /\ ∀ (i j : Int), 0 <= i /\ i <= j /\ j <= (x.length : Int) /\ (sortedR x -> (∀ (z : (Int × Int) × List Int × Int), z ∈
 List.take i.toNat x -> plt z.1 (x_1, x_2)) /\ ∀ (z : (Int × Int) × List Int × Int), z ∈ List.drop j.toNat x -> ¬plt z.1 (x_1, x_2)) -> ifP (decide (i < j)) ((0 : Int) <= 1 /\ 0 <= IntKind.wrap .i64 (shrI IntKind.u64 (IntKind.wrap .u64 (IntKind.wrap .i64 (i + j))) (1 : Int)) /\ IntKind.wrap .i64 (shrI IntKind.u64 (IntKind.wrap .u64 (IntKind.wrap .i64 (i + j))) (1 : Int)) < (x.length : Int) /\ ifP (decide (pcmp (x.getD (Int.toNat (IntKind.wrap .i64 (shrI IntKind.u64 (IntKind.wrap .u64 (IntKind.wrap .i64 (i + j))) (1 : Int)))) default).1 (x_1, x_2) < 0)) (∃ (i_1 : Int) (j_1 : Int), (0 <= i_1 /\ i_1 <= j_1 /\ j_1 <= (x.length : Int) /\ (sortedR x -> (∀ (z : (Int × Int) × List Int × Int), z ∈ List.take i_1.toNat x -> plt z.1 (x_1, x_2)) /\ ∀ (z : (Int × Int) × List Int × Int), z ∈ List.drop j_1.toNat x -> ¬plt z.1 (x_1, x_2))) /\ Int.toNat (j_1 - i_1) < Int.toNat (j - i) /\ x = x /\ (x.length
 : Int) = (x.length : Int) /\ IntKind.wrap .i64 (IntKind.wrap .i64 (shrI IntKind.u64 (IntKind.wrap .u64 (IntKind.wrap .i64 (i + j))) (1 : Int)) + (1 : Int)) = i_1 /\ j = j_1 /\ x_1 = x_1 /\ x_2 = x_2 /\ True) (∃ (i_1 : Int) (j_1 : Int), (0 <= i_1 /\ i_1 <= j_1 /\ j_1 <= (x.length : Int) /\ (sortedR x -> (∀ (z : (Int × Int) × List Int × Int), z ∈ List.take i_1.toNat x -> plt z.1 (x_1, x_2)) /\ ∀ (z : (Int × Int) × List Int × Int), z ∈ List.drop j_1.toNat x -> ¬plt z.1 (x_1, x_2))) /\ Int.toNat (j_1 - i_1) < Int.toNat (j - i) /\ x = x /\ (x.length : Int) = (x.length : Int) /\ i = i_1 /\ IntKind.wrap .i64 (shrI IntKind.u64 (IntKind.wrap .u64 (IntKind.wrap .i64 (i + j))) (1 : Int)) = j_1 /\ x_1 = x_1 /\ x_2 = x_2 /\ True)) (∀ (b : Bool), b = decide (i < (x.length : Int)) -> (b -> (b -> b) /\ (b -> b) /\ 0 <= i /\ i < (x.length : Int) /\ True) /\ (b -> (b -> b) /\ True) /\ (b -> (b -> b) /\ (b
 -> b) /\ (b -> b) /\ True) /\ (b -> (b -> b) /\ True) /\ (b -> b) /\ 0 <= i /\ i <= (x.length : Int) /\ (sortedR x -> (∀ (z : (Int × Int) × List Int × Int), z ∈ List.take i.toNat x -> plt z.1 (x_1, x_2)) /\ ∀ (z : (Int × Int) × List Int × Int), z ∈ List.drop i.toNat x -> ¬plt z.1 (x_1, x_2)) /\ (bif b then decide (pcmp (x.getD i.toNat default).1 (x_1, x_2) = 0) else false) = decide (i < (x.length : Int) /\ (x.getD i.toNat default).1 = (x_1, x_2))) := by
  rintro x p q ⟨⟨hl, -⟩, -⟩ -
  simp only [maxLen] at hl
  refine ⟨⟨0, x.length, ⟨by omega, by omega, by omega, fun _ => by simp⟩, (by repeat' first | exact trivial | refine ⟨trivial, ?_⟩ | refine ⟨(by with_reducible rfl), ?_⟩ | refine ⟨w64 (by omega) (by omega), ?_⟩ | refine ⟨rfl, ?_⟩)⟩, ?_⟩
  rintro i j ⟨h0, h1, h2, h3⟩
  refine ifP_split (fun hb => ?_) (fun hb => ?_)
  · have hb := of_decide_eq_true hb
    rw [half h0 h1 (by omega)]
    refine ⟨by omega, by omega, by omega, ifP_split (fun hc => ?_) (fun hc => ?_)⟩
    · have hc := pcmp_neg.1 (of_decide_eq_true hc)
      rw [w64 (by omega) (by omega)]
      refine ⟨(i + j) / 2 + 1, j, ⟨by omega, by omega, h2, fun hs => ⟨place_lo hs (by omega) (by omega) hc, (h3 hs).2⟩⟩, by omega, (by repeat' first | exact trivial | refine ⟨trivial, ?_⟩ | refine ⟨(by with_reducible rfl), ?_⟩ | refine ⟨w64 (by omega) (by omega), ?_⟩ | refine ⟨rfl, ?_⟩)⟩
    · have hc : ¬ plt _ _ := fun h => absurd (pcmp_neg.2 h) (of_decide_eq_false hc)
      refine ⟨i, (i + j) / 2, ⟨h0, by omega, by omega, fun hs => ⟨(h3 hs).1, place_hi hs (by omega) (by omega) hc⟩⟩, by omega, (by repeat' first | exact trivial | refine ⟨trivial, ?_⟩ | refine ⟨(by with_reducible rfl), ?_⟩ | refine ⟨w64 (by omega) (by omega), ?_⟩ | refine ⟨rfl, ?_⟩)⟩
  · have hb := of_decide_eq_false hb
    have : i = j := by omega
    subst this
    (repeat (intro (b_ : Bool) (hb_ : b_ = _); (repeat refine ⟨(by first | (simp; done) | (rw [hb_]; simp; done) | (rw [hb_]; simp; omega) | (rw [hb_]; simp; intros; omega) | (rw [hb_]; simp +contextual; done)), ?_⟩); subst hb_))
    refine ⟨h0, h2, h3, ?_⟩
    rw [Bool.cond_eq_ite]
    by_cases h : i < x.length <;> simp [h, pcmp_zero]
theorem ok_slices_BinarySearchFunc_0367 : SpecOK Tryz.prog GL 105 ct_slices_BinarySearchFunc_0367.spec := Cn.okH _ Tryz.func105 (by kernel_rfl) (withSpec_ok noSpecs_ok ok_fib_place_1) hmix an_slices_BinarySearchFunc_0367 (hideMp (by kernel_rfl) vc_slices_BinarySearchFunc_0367)

def ct_slices_Grow_fa6c : Ct := ⟨[.nils, .val cI], [.own 79 cRt], fun d => [0 ≤ d.2.1, d.2.1 ≤ 1073741824], fun d => (([], ()), ())⟩
def an_slices_Grow_fa6c : PDs ct_slices_Grow_fa6c.ps → Anns := (fun _ => {})
theorem vc_slices_Grow_fa6c : ∀ (x : Int), True /\ R64 x /\ True -> 0 <= x /\ x <= 1073741824 -> ifP (decide (x < 0)) False (ifP (decide (0 < IntKind.wrap .i64 (x - IntKind.wrap .i64 ((0 : Int) - (0 : Int))))) ((0 : Int) = 0 /\ (0 : Int) = 0 /\ 0 <= IntKind.wrap .i64 (x - IntKind.wrap .i64 ((0 : Int) - (0 : Int))) /\ IntKind.wrap .i64 (x - IntKind.wrap .i64 ((0 : Int) - (0 : Int))) * (↑(48 : Nat) : Int) <= 140737488355328 /\ (0 : Int) <= 0 /\ 0 <= ((List.length (List.replicate (Int.toNat (IntKind.wrap .i64 (x - IntKind.wrap .i64 ((0 : Int) - (0 : Int))))) (((0 : Int), (0 : Int)), ([] : List Int), (0 : Int)))) : Int) /\ List.take (Int.toNat (0 : Int)) (List.replicate (Int.toNat (IntKind.wrap .i64 (x - IntKind.wrap .i64 ((0 : Int) - (0 : Int))))) (((0 : Int), (0 : Int)), ([] : List Int), (0 : Int))) = ([] : List ((Int × Int) × List Int × Int))) (([] : List ((Int × Int) × List Int × Int)) =
 ([] : List ((Int × Int) × List Int × Int)))) := by
  rintro x - ⟨h0, h1⟩
  rw [w64 (n := (0 : Int) - 0) (by omega) (by omega), w64 (by omega) (by omega)]
  refine ifP_split (fun hb => ?_) (fun hb => ifP_split (fun hb => ?_) (fun hb => rfl))
  · have := of_decide_eq_true hb; omega
  · refine ⟨rfl, rfl, by omega, by omega, by omega, by simp only [List.length_replicate]; omega, by simp⟩
theorem ok_slices_Grow_fa6c : SpecOK Tryz.prog GL 141 ct_slices_Grow_fa6c.spec := Ct.okH _ Tryz.func141 (by kernel_rfl) (withOwn_ok noSpecs_ok (d := 25)) hmix an_slices_Grow_fa6c (hideMp (by kernel_rfl) vc_slices_Grow_fa6c)
theorem take_flat {α : Type} {l : List (List α)} {j : Int} (h0 : 0 ≤ j) (h1 : j < l.length) : (l.take (j + 1).toNat).flatten = (l.take j.toNat).flatten ++ l.getD j.toNat default := by
  have hj : j.toNat < l.length := by omega
  have e : (j + 1).toNat = j.toNat + 1 := by omega
  rw [e, List.take_succ_eq_append_getElem hj, List.flatten_append, List.getD_eq_getElem?_getD, List.getElem?_eq_getElem hj, Option.getD_some]
  simp
theorem take_flat_le {α : Type} (l : List (List α)) (k : Nat) : (l.take k).flatten.length ≤ l.flatten.length := by
  conv => rhs; rw [← List.take_append_drop k l, List.flatten_append, List.length_append]
  omega
def ct_slices_Concat_fa6c : Ct := ⟨[.val (.sl (.sl cRt))], [.own 79 cRt], fun d => [(d.1.flatten.length : Int) ≤ 1073741824], fun d => ((d.1.flatten, ()), ())⟩
def an_slices_Concat_fa6c : PDs ct_slices_Concat_fa6c.ps → Anns := (fun d => { loops := (fun n => match n with | 3 => some (fun S => { ι := Int × Int, qn := ⟨fun k_ => ∀ (j : Int) (s : Int), k_ (j, s), fun k_ h_ i => h_ i.1 i.2, fun k_ => ∃ (j : Int) (s : Int), k_ (j, s), fun k_ ⟨j, s, h_⟩ => ⟨_, h_⟩⟩, μ := fun i => (d.1.length - i.1).toNat, inv := fun i => 0 ≤ i.1 ∧ i.1 ≤ d.1.length ∧ i.2 = ((d.1.take i.1.toNat).flatten.length : Int), keep := [0, 9, 10], slots := fun i => [(3, .int .i64 i.2), (11, .int .i64 i.1)], names := fun i => [] }) | 11 => some (fun S => { ι := Int × (List Rt), qn := ⟨fun k_ => ∀ (j : Int) (ys : (List Rt)), k_ (j, ys), fun k_ h_ i => h_ i.1 i.2, fun k_ => ∃ (j : Int) (ys : (List Rt)), k_ (j, ys), fun k_ ⟨j, ys, h_⟩ => ⟨_, h_⟩⟩, μ := fun i => (d.1.length - i.1).toNat, inv := fun i => 0 ≤ i.1 ∧ i.1 ≤ d.1.length ∧ i.2 = (d.1.take i.1.toNat).flatten, keep := [25, 26], slots := fun i => [(6, .own 524288 4), (27, .int .i64 i.1)], names := fun i => [(524288, .live (.row 79 cRt i.2))] }) | _ => none) })
theorem vc_slices_Concat_fa6c : ∀ (x : List (List ((Int × Int) × List Int × Int))), (x.length <= maxLen /\ ∀ (x1 : List ((Int × Int) × List Int × Int)), x1 ∈ x -> x1.length <= maxLen /\ ∀ (x : (Int × Int) × List Int × Int), x ∈ x1 -> ((0 <= x.1.1 /\ x.1.1 <= 4294967295) /\ R64 x.1.2) /\ (x.2.1.length <= maxLen /\ ∀ (x2 : Int), x2 ∈ x.2.1 -> R64 x2) /\ R64 x.2.2) /\ True -> ((List.length (List.flatten x)) : Int) <= 1073741824 -> (∃ (j : Int) (s : Int), (0 <= j /\ j <= (x.length : Int) /\ s = ((List.length (List.flatten (List.take j.toNat x))) : Int)) /\ x = x /\ (0 : Int) = s /\ x = x /\ (x.length : Int) = (x.length : Int) /\ (0 : Int) = j /\ True) /\ ∀ (j s : Int), 0 <= j /\ j <= (x.length : Int) /\ s = ((List.length (List.flatten (List.take j.toNat x))) : Int) -> ifP (decide (j < (x.length : Int))) (0 <= j /\ j < (x.length : Int) /\ ifP (decide (IntKind.wrap .i64 (s + ((List.length
 (x.getD j.toNat default)) : Int)) < 0)) False (∃ (j_1 : Int) (s_1 : Int), (0 <= j_1 /\ j_1 <= (x.length : Int) /\ s_1 = ((List.length (List.flatten (List.take j_1.toNat x))) : Int)) /\ Int.toNat ((x.length : Int) - j_1) < Int.toNat ((x.length : Int) - j) /\ x = x /\ IntKind.wrap .i64 (s + ((List.length (x.getD j.toNat default)) : Int)) = s_1 /\ x = x /\ (x.length : Int) = (x.length : Int) /\ IntKind.wrap .i64 (j + (1 : Int)) = j_1 /\ True)) (0 <= s /\ s <= 1073741824 /\ (∃ (j : Int) (ys : List Rt), (0 <= j /\ j <= (x.length : Int) /\ ys = List.flatten (List.take j.toNat x)) /\ x = x /\ (x.length : Int) = (x.length : Int) /\ (0 : Int) = j /\ ([] : List ((Int × Int) × List Int × Int)) = ys /\ True) /\ ∀ (j : Int) (ys : List Rt), 0 <= j /\ j <= (x.length : Int) /\ ys = List.flatten (List.take j.toNat x) -> ifP (decide (j < (x.length : Int))) (0 <= j /\ j < (x.length : Int) /\ (ys.length +
 List.length (x.getD j.toNat default)) * (48 : Nat) <= (140737488355328 : Nat) /\ ∃ (j_1 : Int) (ys_1 : List Rt), (0 <= j_1 /\ j_1 <= (x.length : Int) /\ ys_1 = List.flatten (List.take j_1.toNat x)) /\ Int.toNat ((x.length : Int) - j_1) < Int.toNat ((x.length : Int) - j) /\ x = x /\ (x.length : Int) = (x.length : Int) /\ IntKind.wrap .i64 (j + (1 : Int)) = j_1 /\ ys ++ x.getD j.toNat default = ys_1 /\ True) (ys = List.flatten x)) := by
  rintro x ⟨⟨hl, -⟩, -⟩ ht
  simp only [maxLen] at hl
  refine ⟨⟨0, 0, ⟨by omega, by omega, by simp⟩, (by repeat' first | exact trivial | refine ⟨trivial, ?_⟩ | refine ⟨(by with_reducible rfl), ?_⟩ | refine ⟨w64 (by omega) (by omega), ?_⟩ | refine ⟨rfl, ?_⟩)⟩, ?_⟩
  rintro j s ⟨h0, h1, h2⟩
  have hle := take_flat_le x j.toNat
  refine ifP_split (fun hb => ?_) (fun hb => ?_)
  · have hb := of_decide_eq_true hb
    have e := take_flat h0 hb
    have hle2 := take_flat_le x (j + 1).toNat
    have el : ((x.take (j + 1).toNat).flatten.length : Int) = s + (x.getD j.toNat default).length := by rw [e, List.length_append]; omega
    rw [w64 (n := s + _) (by omega) (by omega)]
    refine ⟨h0, hb, ifP_split (fun hc => ?_) (fun hc => ?_)⟩
    · have := of_decide_eq_true hc; omega
    · exact ⟨j + 1, _, ⟨by omega, by omega, el.symm⟩, by omega, (by repeat' first | exact trivial | refine ⟨trivial, ?_⟩ | refine ⟨(by with_reducible rfl), ?_⟩ | refine ⟨w64 (by omega) (by omega), ?_⟩ | refine ⟨rfl, ?_⟩)⟩
  · refine ⟨by omega, by omega, ⟨0, [], ⟨by omega, by omega, by simp⟩, (by repeat' first | exact trivial | refine ⟨trivial, ?_⟩ | refine ⟨(by with_reducible rfl), ?_⟩ | refine ⟨w64 (by omega) (by omega), ?_⟩ | refine ⟨rfl, ?_⟩)⟩, ?_⟩
    rintro k ys ⟨k0, k1, rfl⟩
    refine ifP_split (fun hb => ?_) (fun hb => ?_)
    · have hb := of_decide_eq_true hb
      have e := take_flat k0 hb
      have hle2 := take_flat_le x (k + 1).toNat
      refine ⟨k0, hb, ?_, k + 1, _, ⟨by omega, by omega, e.symm⟩, by omega, (by repeat' first | exact trivial | refine ⟨trivial, ?_⟩ | refine ⟨(by with_reducible rfl), ?_⟩ | refine ⟨w64 (by omega) (by omega), ?_⟩ | refine ⟨rfl, ?_⟩)⟩
      rw [← List.length_append, ← e]; omega
    · have hb := of_decide_eq_false hb
      rw [List.take_of_length_le (by omega)]
theorem ok_slices_Concat_fa6c : SpecOK Tryz.prog GL 140 ct_slices_Concat_fa6c.spec := Ct.okH _ Tryz.func140 (by kernel_rfl) (withSpec_ok noSpecs_ok ok_slices_Grow_fa6c) hmix an_slices_Concat_fa6c (hideMp (by kernel_rfl) vc_slices_Concat_fa6c)
theorem set_getD {α : Type} [Inhabited α] {l : List α} {j : Int} (h0 : 0 ≤ j) (h1 : j < l.length) : l.set j.toNat (l.getD j.toNat default) = l := by
  have hj : j.toNat < l.length := by omega
  rw [List.getD_eq_getElem?_getD, List.getElem?_eq_getElem hj, Option.getD_some, List.set_getElem_self]
def ct_fib_table : Ct := ⟨[.val (.sl cRt), .val cI, .val cI, .val (.sl cRt)], [.own 79 cRt], fun d => [0 ≤ d.2.1, d.2.1 ≤ d.1.length, 0 ≤ d.2.2.1, d.2.2.1 ≤ d.1.length, (d.1.length : Int) ≤ 134217728, (d.2.2.2.1.length : Int) ≤ 134217728, ∀ y ∈ d.1, (y.2.1.length : Int) ≤ 1099511627776, ∀ y ∈ d.2.2.2.1, (y.2.1.length : Int) ≤ 1099511627776], fun d => ((d.1.take d.2.1.toNat ++ (d.2.2.2.1 ++ d.1.drop d.2.2.1.toNat), ()), ())⟩
def an_fib_table : PDs ct_fib_table.ps → Anns := (fun d => { loops := (fun n => match n with | 3 => some (fun S => { ι := Int, μ := fun i => (((d.1.take d.2.1.toNat ++ (d.2.2.2.1 ++ d.1.drop d.2.2.1.toNat)).length : Int) - i).toNat, inv := fun i => 0 ≤ i ∧ i ≤ ((d.1.take d.2.1.toNat ++ (d.2.2.2.1 ++ d.1.drop d.2.2.1.toNat)).length : Int), keep := [9, 20, 21], slots := fun i => [(22, .int .i64 i)], keepN := [320], names := fun i => [] }) | _ => none) })
theorem vc_fib_table : ∀ (x : List ((Int × Int) × List Int × Int)) (x1 x2 : Int) (x3 : List ((Int × Int) × List Int × Int)), (x.length <= maxLen /\ ∀ (x4 : (Int × Int) × List Int × Int), x4 ∈ x -> ((0 <= x4.1.1 /\ x4.1.1 <= 4294967295) /\ R64 x4.1.2) /\ (x4.2.1.length <= maxLen /\ ∀ (x : Int), x ∈ x4.2.1 -> R64 x) /\ R64 x4.2.2) /\ R64 x1 /\ R64 x2 /\ (x3.length <= maxLen /\ ∀ (x : (Int × Int) × List Int × Int), x ∈ x3 -> ((0 <= x.1.1 /\ x.1.1 <= 4294967295) /\ R64 x.1.2) /\ (x.2.1.length <= maxLen /\ ∀ (x4 : Int), x4 ∈ x.2.1 -> R64 x4) /\ R64 x.2.2) /\ True -> (0 <= x1 /\ x1 <= (x.length : Int) /\ 0 <= x2 /\ x2 <= (x.length : Int) /\ (x.length : Int) <= 134217728 /\ (x3.length : Int) <= 134217728 /\ (∀ (y : (Int × Int) × List Int × Int), y ∈ x -> (y.2.1.length : Int) <= 1099511627776) /\ ∀ (y : (Int × Int) × List Int × Int), y ∈ x3 -> (y.2.1.length : Int) <= 1099511627776) -> (0 : Int)
 <= 0 /\ 0 <= x1 /\ x1 <= (x.length : Int) /\ 0 <= x2 /\ x2 <= (x.length : Int) /\ (x.length : Int) <= (x.length : Int) /\ ((List.length (List.flatten [subL x (Int.toNat (0 : Int)) x1.toNat, x3, subL x x2.toNat (Int.toNat (x.length : Int))])) : Int) <= 1073741824 /\ (∃ (x4 : Int), (0 <= x4 /\ x4 <= ((List.length (List.take x1.toNat x ++ (x3 ++ List.drop x2.toNat x))) : Int)) /\ ((List.length (List.flatten [subL x (Int.toNat (0 : Int)) x1.toNat, x3, subL x x2.toNat (Int.toNat (x.length : Int))])) : Int) = ((List.length (List.flatten [subL x (Int.toNat (0 : Int)) x1.toNat, x3, subL x x2.toNat (Int.toNat (x.length : Int))])) : Int) /\ (0 : Int) = x4 /\ List.flatten [subL x (Int.toNat (0 : Int)) x1.toNat, x3, subL x x2.toNat (Int.toNat (x.length : Int))] = List.flatten [subL x (Int.toNat (0 : Int)) x1.toNat, x3, subL x x2.toNat (Int.toNat (x.length : Int))] /\ True) /\ ∀ (x4 : Int), 0 <= x4
 /\ x4 <= ((List.length (List.take x1.toNat x ++ (x3 ++ List.drop x2.toNat x))) : Int) -> ifP (decide (x4 < ((List.length (List.flatten [subL x (Int.toNat (0 : Int)) x1.toNat, x3, subL x x2.toNat (Int.toNat (x.length : Int))])) : Int))) (0 <= x4 /\ x4 < ((List.length (List.flatten [subL x (Int.toNat (0 : Int)) x1.toNat, x3, subL x x2.toNat (Int.toNat (x.length : Int))])) : Int) /\ ((List.length (List.getD (List.flatten [subL x (Int.toNat (0 : Int)) x1.toNat, x3, subL x x2.toNat (Int.toNat (x.length : Int))]) x4.toNat default).2.1) : Int) <= 1099511627776 /\ 0 <= x4 /\ x4 < ((List.length (List.flatten [subL x (Int.toNat (0 : Int)) x1.toNat, x3, subL x x2.toNat (Int.toNat (x.length : Int))])) : Int) /\ ∃ (x5 : Int), (0 <= x5 /\ x5 <= ((List.length (List.take x1.toNat x ++ (x3 ++ List.drop x2.toNat x))) : Int)) /\ Int.toNat (((List.length (List.take x1.toNat x ++ (x3 ++ List.drop x2.toNat
 x))) : Int) - x5) < Int.toNat (((List.length (List.take x1.toNat x ++ (x3 ++ List.drop x2.toNat x))) : Int) - x4) /\ ((List.length (List.flatten [subL x (Int.toNat (0 : Int)) x1.toNat, x3, subL x x2.toNat (Int.toNat (x.length : Int))])) : Int) = ((List.length (List.flatten [subL x (Int.toNat (0 : Int)) x1.toNat, x3, subL x x2.toNat (Int.toNat (x.length : Int))])) : Int) /\ IntKind.wrap .i64 (x4 + (1 : Int)) = x5 /\ List.set (List.flatten [subL x (Int.toNat (0 : Int)) x1.toNat, x3, subL x x2.toNat (Int.toNat (x.length : Int))]) x4.toNat (List.getD (List.flatten [subL x (Int.toNat (0 : Int)) x1.toNat, x3, subL x x2.toNat (Int.toNat (x.length : Int))]) x4.toNat default) = List.flatten [subL x (Int.toNat (0 : Int)) x1.toNat, x3, subL x x2.toNat (Int.toNat (x.length : Int))] /\ True) (List.flatten [subL x (Int.toNat (0 : Int)) x1.toNat, x3, subL x x2.toNat (Int.toNat (x.length : Int))] =
 List.take x1.toNat x ++ (x3 ++ List.drop x2.toNat x)) := by
  rintro l a b m - ⟨h0, h1, h2, h3, h4, h5, h6, h7⟩
  have e : List.flatten [subL l (Int.toNat (0 : Int)) (Int.toNat a), m, subL l (Int.toNat b) (Int.toNat (l.length : Int))] = l.take a.toNat ++ (m ++ l.drop b.toNat) := by
    simp [subL]
  rw [e]
  have hall : ∀ y ∈ l.take a.toNat ++ (m ++ l.drop b.toNat), (y.2.1.length : Int) ≤ 1099511627776 := by
    intro y hy
    simp only [List.mem_append] at hy
    rcases hy with hy | hy | hy
    · exact h6 y (List.mem_of_mem_take hy)
    · exact h7 y hy
    · exact h6 y (List.mem_of_mem_drop hy)
  have hlen : (l.take a.toNat ++ (m ++ l.drop b.toNat)).length ≤ l.length + (m.length + l.length) := by
    simp only [List.length_append, List.length_take, List.length_drop]; omega
  generalize l.take a.toNat ++ (m ++ l.drop b.toNat) = o at hall hlen ⊢
  refine ⟨by omega, h0, h1, h2, h3, by omega, by omega, ⟨0, ⟨by omega, by omega⟩, (by repeat' first | exact trivial | refine ⟨trivial, ?_⟩ | refine ⟨(by with_reducible rfl), ?_⟩ | refine ⟨w64 (by omega) (by omega), ?_⟩ | refine ⟨rfl, ?_⟩)⟩, ?_⟩
  rintro j ⟨j0, j1⟩
  refine ifP_split (fun hb => ?_) (fun hb => rfl)
  have hb := of_decide_eq_true hb
  refine ⟨j0, hb, hall _ (getD_mem j0 hb), j0, hb, j + 1, ⟨by omega, by omega⟩, by omega, rfl, w64 (by omega) (by omega), set_getD j0 hb, trivial⟩
theorem ok_fib_table : SpecOK Tryz.prog GL 131 ct_fib_table.spec := Ct.okH _ Tryz.func131 (by kernel_rfl) (withSpec_ok (withSpec_ok noSpecs_ok ok_slices_Concat_fa6c) ok_fib_copied) hmix an_fib_table (hideMp (by kernel_rfl) vc_fib_table)

def ct_fib_place : Cn := ⟨[.val (.sl cRt), .agg cPfx], [.val cI, .val .bool], fun _ => [], fun d y => 0 ≤ y.1.1 ∧ y.1.1 ≤ d.1.length ∧ (sortedR d.1 → (∀ z ∈ d.1.take y.1.1.toNat, plt z.1 d.2.1) ∧ ∀ z ∈ d.1.drop y.1.1.toNat, ¬ plt z.1 d.2.1) ∧ y.1.2.1 = decide (y.1.1 < d.1.length ∧ (d.1.getD y.1.1.toNat default).1 = d.2.1), fun d h => let ⟨k, h0, h1, h2⟩ := place_ex d.1 d.2.1; ⟨((k, decide (k < d.1.length ∧ (d.1.getD k.toNat default).1 = d.2.1), ()), ()), h0, h1, h2, rfl⟩⟩
def an_fib_place : PDs ct_fib_place.ps → Anns := (fun _ => {})
theorem vc_fib_place : ∀ (x : List ((Int × Int) × List Int × Int)) (x1 x2 : Int), (x.length <= maxLen /\ ∀ (x3 : (Int × Int) × List Int × Int), x3 ∈ x -> ((0 <= x3.1.1 /\ x3.1.1 <= 4294967295) /\ R64 x3.1.2) /\ (x3.2.1.length <= maxLen /\ ∀ (x : Int), x ∈ x3.2.1 -> R64 x) /\ R64 x3.2.2) /\ ((0 <= x1 /\ x1 <= 4294967295) /\ R64 x2) /\ True -> True -> ∀ (x3 : Int) (x4 : Bool), 0 <= x3 /\ x3 <= (x.length : Int) /\ (sortedR x -> (∀ (z : (Int × Int) × List Int × Int), z ∈ List.take x3.toNat x -> plt z.1 (x1, x2)) /\ ∀ (z : (Int × Int) × List Int × Int), z ∈ List.drop x3.toNat x -> ¬plt z.1 (x1, x2)) /\ x4 = decide (x3 < (x.length : Int) /\ (x.getD x3.toNat default).1 = (x1, x2)) -> 0 <= x3 /\ x3 <= (x.length : Int) /\ (sortedR x -> (∀ (z : (Int × Int) × List Int × Int), z ∈ List.take x3.toNat x -> plt z.1 (x1, x2)) /\ ∀ (z : (Int × Int) × List Int × Int), z ∈ List.drop x3.toNat x -> ¬plt z.1
 (x1, x2)) /\ x4 = decide (x3 < (x.length : Int) /\ (x.getD x3.toNat default).1 = (x1, x2)) := by
  rintro l p q - - i b h
  exact h
theorem ok_fib_place : SpecOK Tryz.prog GL 71 ct_fib_place.spec := Cn.okH _ Tryz.func71 (by kernel_rfl) (withSpec_ok noSpecs_ok ok_slices_BinarySearchFunc_0367) hmix an_fib_place (hideMp (by kernel_rfl) vc_fib_place)
def putL (l : List Rt) (r : Rt) : List Rt := l.filter (fun a => decide (plt a.1 r.1)) ++ r :: l.filter (fun a => decide (plt r.1 a.1))
def removeL (l : List Rt) (p : Pfx) : List Rt := l.filter (fun a => decide (a.1 ≠ p))
def okL (l : List Rt) : Prop := (l.length : Int) ≤ 134217728 ∧ ∀ y ∈ l, (y.2.1.length : Int) ≤ 1099511627776
def stepR (a : Int) (b : Option Rt) (r : Rt) : Option Rt := if contains r.1 a then match b with | none => some r | some q => if q.1.2 < r.1.2 then some r else some q else b
def look (l : List Rt) (a : Int) : Option Rt := l.foldl (stepR a) none
def lookR (l : List Rt) (a : Int) : Rt := match look l a with | none => ((0, 0), [], 0) | some r => r
def lookB (l : List Rt) (a : Int) : Bool := (look l a).isSome
theorem place_take {l : List Rt} {p : Pfx} {k : Nat} (h1 : ∀ z ∈ l.take k, plt z.1 p) (h2 : ∀ z ∈ l.drop k, ¬ plt z.1 p) : l.take k = l.filter (fun a => decide (plt a.1 p)) := by
  conv => rhs; rw [← List.take_append_drop k l]
  rw [List.filter_append, List.filter_eq_self.2 (by simpa using h1), List.filter_eq_nil_iff.2 (by simpa using h2), List.append_nil]
theorem place_split {l : List Rt} {i : Int} (h0 : 0 ≤ i) (h1 : i < l.length) : l = l.take i.toNat ++ l.getD i.toNat default :: l.drop (i + 1).toNat := by
  have hj : i.toNat < l.length := by omega
  rw [List.getD_eq_getElem?_getD, List.getElem?_eq_getElem hj, Option.getD_some, show (i + 1).toNat = i.toNat + 1 from by omega, ← List.drop_eq_getElem_cons hj, List.take_append_drop]
theorem place_found {l : List Rt} {p : Pfx} {i : Int} (hs : sortedR l) (h0 : 0 ≤ i) (hl : i < l.length) (h1 : ∀ z ∈ l.take i.toNat, plt z.1 p) (he : (l.getD i.toNat default).1 = p) : l.drop (i + 1).toNat = l.filter (fun a => decide (plt p a.1)) ∧ l.take i.toNat ++ l.drop (i + 1).toNat = removeL l p := by
  have hsp := place_split h0 hl
  have hp : (l.getD i.toNat default :: l.drop (i + 1).toNat).Pairwise fun a b => plt a.1 b.1 := by
    have := hs; unfold sortedR at this; rw [hsp] at this; exact (List.pairwise_append.1 this).2.1
  have h3 : ∀ z ∈ l.drop (i + 1).toNat, plt p z.1 := fun z hz => by rw [← he]; exact (List.pairwise_cons.1 hp).1 z hz
  generalize l.getD i.toNat default = r at *
  generalize l.take i.toNat = A at *
  generalize l.drop (i + 1).toNat = B at *
  subst hsp
  subst he
  constructor
  · rw [List.filter_append, List.filter_cons, if_neg (by simp [plt_irrefl]), List.filter_eq_nil_iff.2 (by simpa using fun z hz => plt_asymm (h1 z hz)), List.nil_append, List.filter_eq_self.2 (by simpa using h3)]
  · rw [removeL, List.filter_append, List.filter_cons, if_neg (by simp), List.filter_eq_self.2 (fun z hz => decide_eq_true (fun (e : z.1 = r.1) => plt_irrefl _ (e ▸ h1 z hz))), List.filter_eq_self.2 (fun z hz => decide_eq_true (fun (e : z.1 = r.1) => plt_irrefl _ (e ▸ h3 z hz)))]
theorem place_not {l : List Rt} {p : Pfx} {i : Int} (hs : sortedR l) (h0 : 0 ≤ i) (h1 : ∀ z ∈ l.take i.toNat, plt z.1 p) (h2 : ∀ z ∈ l.drop i.toNat, ¬ plt z.1 p) (he : ¬ (i < l.length ∧ (l.getD i.toNat default).1 = p)) : l.drop i.toNat = l.filter (fun a => decide (plt p a.1)) ∧ l = removeL l p := by
  have h3 : ∀ z ∈ l.drop i.toNat, plt p z.1 := by
    intro z hz
    rcases plt_total (h2 z hz) with e | h
    · exfalso
      by_cases hl : i < l.length
      · have hj : i.toNat < l.length := by omega
        have hne : (l.getD i.toNat default).1 ≠ p := fun e => he ⟨hl, e⟩
        rw [List.getD_eq_getElem?_getD, List.getElem?_eq_getElem hj, Option.getD_some] at hne
        have hp : (l.drop i.toNat).Pairwise fun a b => plt a.1 b.1 := List.Pairwise.drop hs
        rw [List.drop_eq_getElem_cons hj] at hz hp h2
        rcases List.mem_cons.1 hz with rfl | hz
        · exact hne e
        · exact h2 _ (List.mem_cons_self) (e ▸ (List.pairwise_cons.1 hp).1 z hz)
      · rw [List.drop_eq_nil_of_le (by omega)] at hz; simp at hz
    · exact h
  have hsp := List.take_append_drop i.toNat l
  constructor
  · conv => rhs; rw [← hsp]
    rw [List.filter_append, List.filter_eq_nil_iff.2 (by simpa using fun z hz => plt_asymm (h1 z hz)), List.nil_append, List.filter_eq_self.2 (by simpa using h3)]
  · symm
    apply List.filter_eq_self.2
    intro z hz
    rw [← hsp] at hz
    apply decide_eq_true
    rcases List.mem_append.1 hz with hz | hz
    · exact fun e => plt_irrefl _ (e ▸ h1 z hz)
    · exact fun e => plt_irrefl _ (e ▸ h3 z hz)
def ct_fib_Put : Ct := ⟨[.val (.sl cRt), .agg cRt], [.own 79 cRt], fun d => [sortedR d.1, okL d.1, (d.2.1.2.1.length : Int) ≤ 1099511627776], fun d => ((putL d.1 d.2.1, ()), ())⟩
def an_fib_Put : PDs ct_fib_Put.ps → Anns := (fun _ => {})
theorem vc_fib_Put : ∀ (x : List ((Int × Int) × List Int × Int)) (x1 x2 : Int) (x3 : List Int) (x4 : Int), (x.length <= maxLen /\ ∀ (x5 : (Int × Int) × List Int × Int), x5 ∈ x -> ((0 <= x5.1.1 /\ x5.1.1 <= 4294967295) /\ R64 x5.1.2) /\ (x5.2.1.length <= maxLen /\ ∀ (x : Int), x ∈ x5.2.1 -> R64 x) /\ R64 x5.2.2) /\ (((0 <= x1 /\ x1 <= 4294967295) /\ R64 x2) /\ (x3.length <= maxLen /\ ∀ (x : Int), x ∈ x3 -> R64 x) /\ R64 x4) /\ True -> sortedR x /\ okL x /\ (x3.length : Int) <= 1099511627776 -> ∀ (x5 : Int) (x6 : Bool), 0 <= x5 /\ x5 <= (x.length : Int) /\ (sortedR x -> (∀ (z : (Int × Int) × List Int × Int), z ∈ List.take x5.toNat x -> plt z.1 (x1, x2)) /\ ∀ (z : (Int × Int) × List Int × Int), z ∈ List.drop x5.toNat x -> ¬plt z.1 (x1, x2)) /\ x6 = decide (x5 < (x.length : Int) /\ (x.getD x5.toNat default).1 = (x1, x2)) -> ifP x6 (0 <= x5 /\ x5 <= (x.length : Int) /\ 0 <= IntKind.wrap .i64
 (x5 + (1 : Int)) /\ IntKind.wrap .i64 (x5 + (1 : Int)) <= (x.length : Int) /\ (x.length : Int) <= 134217728 /\ ((List.length [((x1, x2), x3, x4)]) : Int) <= 134217728 /\ (∀ (y : (Int × Int) × List Int × Int), y ∈ x -> (y.2.1.length : Int) <= 1099511627776) /\ (∀ (y : (Int × Int) × List Int × Int), y ∈ [((x1, x2), x3, x4)] -> (y.2.1.length : Int) <= 1099511627776) /\ List.take x5.toNat x ++ ([((x1, x2), x3, x4)] ++ List.drop (Int.toNat (IntKind.wrap .i64 (x5 + (1 : Int)))) x) = putL x ((x1, x2), x3, x4)) (0 <= x5 /\ x5 <= (x.length : Int) /\ 0 <= x5 /\ x5 <= (x.length : Int) /\ (x.length : Int) <= 134217728 /\ ((List.length [((x1, x2), x3, x4)]) : Int) <= 134217728 /\ (∀ (y : (Int × Int) × List Int × Int), y ∈ x -> (y.2.1.length : Int) <= 1099511627776) /\ (∀ (y : (Int × Int) × List Int × Int), y ∈ [((x1, x2), x3, x4)] -> (y.2.1.length : Int) <= 1099511627776) /\ List.take x5.toNat x ++
 ([((x1, x2), x3, x4)] ++ List.drop x5.toNat x) = putL x ((x1, x2), x3, x4)) := by
  rintro l a n nx b - ⟨hs, ⟨hl, hx⟩, hn⟩ i f ⟨h0, h1, h2, rfl⟩
  obtain ⟨h2, h3⟩ := h2 hs
  refine ifP_split (fun hf => ?_) (fun hf => ?_)
  · obtain ⟨f1, f2⟩ := of_decide_eq_true hf
    rw [w64 (by omega) (by omega)]
    refine ⟨h0, h1, by omega, by omega, hl, by simp, hx, by simpa using hn, ?_⟩
    rw [(place_found hs h0 f1 h2 f2).1, place_take h2 h3]; rfl
  · have hf := of_decide_eq_false hf
    refine ⟨h0, h1, h0, h1, hl, by simp, hx, by simpa using hn, ?_⟩
    rw [(place_not hs h0 h2 h3 hf).1, place_take h2 h3]; rfl
theorem ok_fib_Put : SpecOK Tryz.prog GL 111 ct_fib_Put.spec := Ct.okH _ Tryz.func111 (by kernel_rfl) (withSpec_ok (withSpec_ok noSpecs_ok ok_fib_place) ok_fib_table) hmix an_fib_Put (hideMp (by kernel_rfl) vc_fib_Put)

def ct_fib_Remove : Ct := ⟨[.val (.sl cRt), .agg cPfx], [.own 79 cRt], fun d => [sortedR d.1, okL d.1], fun d => ((removeL d.1 d.2.1, ()), ())⟩
def an_fib_Remove : PDs ct_fib_Remove.ps → Anns := (fun _ => {})
theorem vc_fib_Remove : ∀ (x : List ((Int × Int) × List Int × Int)) (x1 x2 : Int), (x.length <= maxLen /\ ∀ (x3 : (Int × Int) × List Int × Int), x3 ∈ x -> ((0 <= x3.1.1 /\ x3.1.1 <= 4294967295) /\ R64 x3.1.2) /\ (x3.2.1.length <= maxLen /\ ∀ (x : Int), x ∈ x3.2.1 -> R64 x) /\ R64 x3.2.2) /\ ((0 <= x1 /\ x1 <= 4294967295) /\ R64 x2) /\ True -> (sortedR x /\ (x.length : Int) <= 134217728 /\ ∀ (y : Rt), y ∈ x -> (y.2.1.length : Int) <= 1099511627776) -> ∀ (x3 : Int) (x4 : Bool), 0 <= x3 /\ x3 <= (x.length : Int) /\ (sortedR x -> (∀ (z : (Int × Int) × List Int × Int), z ∈ List.take x3.toNat x -> plt z.1 (x1, x2)) /\ ∀ (z : (Int × Int) × List Int × Int), z ∈ List.drop x3.toNat x -> ¬plt z.1 (x1, x2)) /\ x4 = decide (x3 < (x.length : Int) /\ (x.getD x3.toNat default).1 = (x1, x2)) -> ifP x4 (0 <= x3 /\ x3 <= (x.length : Int) /\ 0 <= IntKind.wrap .i64 (x3 + (1 : Int)) /\ IntKind.wrap .i64 (x3 +
 (1 : Int)) <= (x.length : Int) /\ (x.length : Int) <= 134217728 /\ (↑(0 : Nat) : Int) <= 134217728 /\ (∀ (y : (Int × Int) × List Int × Int), y ∈ x -> (y.2.1.length : Int) <= 1099511627776) /\ (∀ (y : (Int × Int) × List Int × Int), y ∈ ([] : List ((Int × Int) × List Int × Int)) -> (y.2.1.length : Int) <= 1099511627776) /\ List.take x3.toNat x ++ List.drop (Int.toNat (IntKind.wrap .i64 (x3 + (1 : Int)))) x = removeL x (x1, x2)) (0 <= x3 /\ x3 <= (x.length : Int) /\ 0 <= x3 /\ x3 <= (x.length : Int) /\ (x.length : Int) <= 134217728 /\ (↑(0 : Nat) : Int) <= 134217728 /\ (∀ (y : (Int × Int) × List Int × Int), y ∈ x -> (y.2.1.length : Int) <= 1099511627776) /\ (∀ (y : (Int × Int) × List Int × Int), y ∈ ([] : List ((Int × Int) × List Int × Int)) -> (y.2.1.length : Int) <= 1099511627776) /\ List.take x3.toNat x ++ List.drop x3.toNat x = removeL x (x1, x2)) := by
  rintro l a n - ⟨hs, hl, hx⟩ i f ⟨h0, h1, h2, rfl⟩
  obtain ⟨h2, h3⟩ := h2 hs
  refine ifP_split (fun hf => ?_) (fun hf => ?_)
  · obtain ⟨f1, f2⟩ := of_decide_eq_true hf
    rw [w64 (by omega) (by omega)]
    exact ⟨h0, h1, by omega, by omega, hl, by simp, hx, by simp, (place_found hs h0 f1 h2 f2).2⟩
  · have hf := of_decide_eq_false hf
    refine ⟨h0, h1, h0, h1, hl, by simp, hx, by simp, ?_⟩
    rw [List.take_append_drop]; exact (place_not hs h0 h2 h3 hf).2
theorem ok_fib_Remove : SpecOK Tryz.prog GL 110 ct_fib_Remove.spec := Ct.okH _ Tryz.func110 (by kernel_rfl) (withSpec_ok (withSpec_ok noSpecs_ok ok_fib_place) ok_fib_table) hmix an_fib_Remove (hideMp (by kernel_rfl) vc_fib_Remove)
theorem stepR_eq {l : List Rt} {a i : Int} (h0 : 0 ≤ i) (h1 : i < l.length) : look (l.take (i + 1).toNat) a = stepR a (look (l.take i.toNat) a) (l.getD i.toNat default) := by
  have hj : i.toNat < l.length := by omega
  rw [show (i + 1).toNat = i.toNat + 1 from by omega, List.take_succ_eq_append_getElem hj, look, List.foldl_append, List.getD_eq_getElem?_getD, List.getElem?_eq_getElem hj, Option.getD_some]
  rfl
theorem look_step {l : List Rt} {a b i : Int} (h0 : 0 ≤ i) (h1 : i < l.length) (h : look (l.take i.toNat) a = if b < 0 then none else some (l.getD b.toNat default)) (c : Bool)
    (hc : c = (bif contains (l.getD i.toNat default).1 a then bif decide (b < 0) then true else decide ((l.getD b.toNat default).1.2 < (l.getD i.toNat default).1.2) else false)) :
    look (l.take (i + 1).toNat) a = if (if c then i else b) < 0 then none else some (l.getD (if c then i else b).toNat default) := by
  rw [stepR_eq h0 h1, h]
  unfold stepR
  subst hc
  cases hx : contains (l.getD i.toNat default).1 a with
  | false => simp
  | true =>
    by_cases hb : b < 0
    · simp [hb, show ¬ i < 0 from by omega]
    · by_cases hl : (l.getD b.toNat default).1.2 < (l.getD i.toNat default).1.2
      · simp only [List.getD_eq_getElem?_getD] at hl
        simp [hb, hl, show ¬ i < 0 from by omega]
      · simp only [List.getD_eq_getElem?_getD] at hl
        simp [hb, hl]
theorem look_skip {l : List Rt} {a : Int} {k : Nat} (h : ∀ z ∈ l.drop k, contains z.1 a = false) : look l a = look (l.take k) a := by
  conv => lhs; rw [← List.take_append_drop k l]
  unfold look
  rw [List.foldl_append]
  generalize List.foldl (stepR a) none (l.take k) = s
  generalize l.drop k = m at h
  induction m generalizing s with
  | nil => rfl
  | cons z r ih =>
    rw [List.foldl_cons, show stepR a s z = s from by rw [stepR.eq_def, if_neg (by simp [h z List.mem_cons_self])]]
    exact ih (s := s) (fun y hy => h y (List.mem_cons_of_mem _ hy))
theorem contains_far {p : Pfx} {a : Int} (h : ¬ plt p (a, 33)) : contains p a = false := by
  unfold contains pValid
  unfold plt at h
  rw [Bool.and_eq_false_iff]
  simp only [decide_eq_false_iff_not]
  simp only at h
  omega
def ct_fib_Lookup : Ct := ⟨[.val (.sl cRt), .val cU32], [.agg cRt, .val .bool], fun d => [sortedR d.1, okL d.1], fun d => ((lookR d.1 d.2.1, lookB d.1 d.2.1, ()), ())⟩
def an_fib_Lookup : PDs ct_fib_Lookup.ps → Anns := (fun d => { loops := (fun n => match n with | 4 => some (fun S => { ι := Int × Int × Int, qn := ⟨fun k_ => ∀ (i : Int) (b : Int) (n : Int), k_ (i, b, n), fun k_ h_ i => h_ i.1 i.2.1 i.2.2, fun k_ => ∃ (i : Int) (b : Int) (n : Int), k_ (i, b, n), fun k_ ⟨i, b, n, h_⟩ => ⟨_, h_⟩⟩, μ := fun i => (i.2.2 - i.1).toNat, inv := fun i => 0 ≤ i.1 ∧ i.1 ≤ i.2.2 ∧ i.2.2 ≤ d.1.length ∧ -1 ≤ i.2.1 ∧ i.2.1 < i.1 ∧ look (d.1.take i.1.toNat) d.2.1 = (if i.2.1 < 0 then none else some (d.1.getD i.2.1.toNat default)) ∧ (sortedR d.1 → ∀ z ∈ d.1.drop i.2.2.toNat, ¬ plt z.1 (d.2.1, 33)), keep := [0, 1, 4], slots := fun i => [(8, .int .i64 i.2.1), (17, .int .i64 i.2.2), (18, .int .i64 i.1)], keepN := [80], names := fun i => [] }) | _ => none) })
theorem vc_fib_Lookup : ∀ (x : List ((Int × Int) × List Int × Int)) (x1 : Int), (x.length <= maxLen /\ ∀ (x2 : (Int × Int) × List Int × Int), x2 ∈ x -> ((0 <= x2.1.1 /\ x2.1.1 <= 4294967295) /\ R64 x2.1.2) /\ (x2.2.1.length <= maxLen /\ ∀ (x : Int), x ∈ x2.2.1 -> R64 x) /\ R64 x2.2.2) /\ (0 <= x1 /\ x1 <= 4294967295) /\ True -> (sortedR x /\ (x.length : Int) <= 134217728 /\ ∀ (y : Rt), y ∈ x -> (y.2.1.length : Int) <= 1099511627776) -> ∀ (x2 : Int) (x3 : Bool), 0 <= x2 /\ x2 <= (x.length : Int) /\ (sortedR x -> (∀ (z : (Int × Int) × List Int × Int), z ∈ List.take x2.toNat x -> plt z.1 (x1, (33 : Int))) /\ ∀ (z : (Int × Int) × List Int × Int), z ∈ List.drop x2.toNat x -> ¬plt z.1 (x1, (33 : Int))) /\ x3 = decide (x2 < (x.length : Int) /\ (x.getD x2.toNat default).1 = (x1, (33 : Int))) -> (∃ (i : Int) (b : Int), ∃ (n : Int), (0 <= i /\ i <= n /\ n <= (x.length : Int) /\ -1 <= b /\ b < i /\
 (look (List.take i.toNat x) x1 = if b < 0 then none else some (x.getD b.toNat default)) /\ (sortedR x -> ∀ (z : (Int × Int) × List Int × Int), z ∈ List.drop n.toNat x -> ¬plt z.1 (x1, (33 : Int)))) /\ x = x /\ x1 = x1 /\ (-1 : Int) = b /\ x2 = n /\ (0 : Int) = i /\ (0 : Int) = 0 /\ (0 : Int) = 0 /\ (0 : Int) = 0 /\ True) /\ ∀ (i b n : Int), 0 <= i /\ i <= n /\ n <= (x.length : Int) /\ -1 <= b /\ b < i /\ (look (List.take i.toNat x) x1 = if b < 0 then none else some (x.getD b.toNat default)) /\ (sortedR x -> ∀ (z : (Int × Int) × List Int × Int), z ∈ List.drop n.toNat x -> ¬plt z.1 (x1, (33 : Int))) -> ifP (decide (i < n)) (0 <= i /\ i < (x.length : Int) /\ ∀ (b1 : Bool), b1 = contains (x.getD i.toNat default).1 x1 -> (b1 -> (b1 -> b1) /\ True) /\ (b1 -> (b1 -> b1) /\ True) /\ ∀ (b2 : Bool), b2 = decide (b < 0) -> ((b1 && !b2) -> ((b1 && !b2) -> (b1 && !b2)) /\ ((b1 && !b2) -> (b1 && !b2))
 /\ 0 <= i /\ i < (x.length : Int) /\ True) /\ ((b1 && !b2) -> ((b1 && !b2) -> (b1 && !b2)) /\ True) /\ ((b1 && !b2) -> ((b1 && !b2) -> (b1 && !b2)) /\ True) /\ ((b1 && !b2) -> ((b1 && !b2) -> (b1 && !b2)) /\ True) /\ ((b1 && !b2) -> ((b1 && !b2) -> (b1 && !b2)) /\ ((b1 && !b2) -> (b1 && !b2)) /\ 0 <= b /\ b < (x.length : Int) /\ True) /\ ((b1 && !b2) -> ((b1 && !b2) -> (b1 && !b2)) /\ True) /\ ((b1 && !b2) -> ((b1 && !b2) -> (b1 && !b2)) /\ True) /\ ((b1 && !b2) -> ((b1 && !b2) -> (b1 && !b2)) /\ True) /\ ((b1 && !b2) -> ((b1 && !b2) -> (b1 && !b2)) /\ ((b1 && !b2) -> (b1 && !b2)) /\ True) /\ (b1 -> (b1 -> b1) /\ (b2 = false -> (b1 && !b2)) /\ True) /\ (b1 -> b1) /\ ifP (bif b1 then bif b2 then true else decide ((x.getD b.toNat default).1.2 < (x.getD i.toNat default).1.2) else false) (∃ (i_1 : Int) (b : Int), ∃ (n_1 : Int), (0 <= i_1 /\ i_1 <= n_1 /\ n_1 <= (x.length : Int) /\ -1 <= b /\
 b < i_1 /\ (look (List.take i_1.toNat x) x1 = if b < 0 then none else some (x.getD b.toNat default)) /\ (sortedR x -> ∀ (z : (Int × Int) × List Int × Int), z ∈ List.drop n_1.toNat x -> ¬plt z.1 (x1, (33 : Int)))) /\ Int.toNat (n_1 - i_1) < Int.toNat (n - i) /\ x = x /\ x1 = x1 /\ i = b /\ n = n_1 /\ IntKind.wrap .i64 (i + (1 : Int)) = i_1 /\ (0 : Int) = 0 /\ (0 : Int) = 0 /\ (0 : Int) = 0 /\ True) (∃ (i_1 : Int) (b3 : Int), ∃ (n_1 : Int), (0 <= i_1 /\ i_1 <= n_1 /\ n_1 <= (x.length : Int) /\ -1 <= b3 /\ b3 < i_1 /\ (look (List.take i_1.toNat x) x1 = if b3 < 0 then none else some (x.getD b3.toNat default)) /\ (sortedR x -> ∀ (z : (Int × Int) × List Int × Int), z ∈ List.drop n_1.toNat x -> ¬plt z.1 (x1, (33 : Int)))) /\ Int.toNat (n_1 - i_1) < Int.toNat (n - i) /\ x = x /\ x1 = x1 /\ b = b3 /\ n = n_1 /\ IntKind.wrap .i64 (i + (1 : Int)) = i_1 /\ (0 : Int) = 0 /\ (0 : Int) = 0 /\ (0 : Int)
 = 0 /\ True)) (ifP (decide (b < 0)) ((((0 : Int), (0 : Int)), ([] : List Int), (0 : Int)) = lookR x x1 /\ false = lookB x x1) (0 <= b /\ b < (x.length : Int) /\ ((List.length (x.getD b.toNat default).2.1) : Int) <= 1099511627776 /\ x.getD b.toNat default = lookR x x1 /\ true = lookB x x1)) := by
  rintro l a ⟨⟨hl, -⟩, -⟩ ⟨hs, hk, hx⟩ n f ⟨n0, n1, n2, -⟩
  simp only [maxLen] at hl
  refine ⟨⟨0, -1, n, ⟨by omega, by omega, by omega, by omega, by omega, by simp [look], fun _ => (n2 hs).2⟩, (by repeat' first | exact trivial | refine ⟨trivial, ?_⟩ | refine ⟨(by with_reducible rfl), ?_⟩ | refine ⟨w64 (by omega) (by omega), ?_⟩ | refine ⟨rfl, ?_⟩)⟩, ?_⟩
  rintro i b n ⟨h0, h1, h2, h3, h4, h5, h6⟩
  refine ifP_split (fun hi => ?_) (fun hi => ?_)
  · have hi := of_decide_eq_true hi
    have hst := look_step h0 (by omega) h5
    refine ⟨h0, by omega, ?_⟩
    (repeat (intro (b_ : Bool) (hb_ : b_ = _); (repeat refine ⟨(by first | (simp; done) | (rw [hb_]; simp; done) | (rw [hb_]; simp; omega) | (rw [hb_]; simp; intros; omega) | (rw [hb_]; simp +contextual; done)), ?_⟩); subst hb_))
    refine ifP_split (fun hc => ?_) (fun hc => ?_)
    · have hst := hst true hc.symm
      refine ⟨i + 1, i, n, ⟨by omega, by omega, h2, by omega, by omega, by simpa using hst, h6⟩, by omega, (by repeat' first | exact trivial | refine ⟨trivial, ?_⟩ | refine ⟨(by with_reducible rfl), ?_⟩ | refine ⟨w64 (by omega) (by omega), ?_⟩ | refine ⟨rfl, ?_⟩)⟩
    · have hst := hst false hc.symm
      refine ⟨i + 1, b, n, ⟨by omega, by omega, h2, by omega, by omega, by simpa using hst, h6⟩, by omega, (by repeat' first | exact trivial | refine ⟨trivial, ?_⟩ | refine ⟨(by with_reducible rfl), ?_⟩ | refine ⟨w64 (by omega) (by omega), ?_⟩ | refine ⟨rfl, ?_⟩)⟩
  · have hi := of_decide_eq_false hi
    have e : i = n := by omega
    subst e
    have hlook : look l a = look (l.take i.toNat) a := look_skip (fun z hz => contains_far (h6 hs z hz))
    rw [h5] at hlook
    refine ifP_split (fun hb => ?_) (fun hb => ?_)
    · rw [if_pos (of_decide_eq_true hb)] at hlook
      simp [lookR, lookB, hlook]
    · have hb := of_decide_eq_false hb
      rw [if_neg hb] at hlook
      refine ⟨by omega, by omega, hx _ (getD_mem (by omega) (by omega)), ?_, ?_⟩
      · rw [lookR, hlook]
      · rw [lookB, hlook]; rfl
theorem ok_fib_Lookup : SpecOK Tryz.prog GL 34 ct_fib_Lookup.spec := Ct.okH _ Tryz.func34 (by kernel_rfl) (withSpec_ok (withSpec_ok (withSpec_ok noSpecs_ok ok_fib_place) ok_fib_copied) ok_address_Contains) hmix an_fib_Lookup (hideMp (by kernel_rfl) vc_fib_Lookup)
def nextAt (l links : List Int) (j : Nat) : Prop := (0 < j → l.getD (j - 1) default < l.getD j default) ∧ l.getD j default ∈ links
instance (l links : List Int) (j : Nat) : Decidable (nextAt l links j) := by unfold nextAt; infer_instance
def nextOK (l links : List Int) : Prop := l.length ≤ 16 ∧ ∀ j : Nat, j < l.length → nextAt l links j
instance (l links : List Int) : Decidable (nextOK l links) := by unfold nextOK; infer_instance
def rightR (r : Rt) (links : List Int) : Prop := nextOK r.2.1 links ∧ 1 ≤ r.2.2 ∧ r.2.2 ≤ 3
instance (r : Rt) (links : List Int) : Decidable (rightR r links) := by unfold rightR; infer_instance
def chk (links : List Int) : Option Pfx → List Rt → Int
  | _, [] => 0
  | q, r :: rs => if pValid r.1 = false then 10 else if q.any (fun q => decide (0 ≤ pcmp q r.1)) then 6 else if ¬ rightR r links then 12 else chk links (some r.1) rs
def check (l : List Rt) (links : List Int) : Int := if (64 : Int) < l.length then 5 else chk links none l
def ct_ref09_Lookup : Ct := ⟨[.val (.sl cRt), .val cU32], [.agg cRt, .val .bool], fun d => [okL d.1], fun d => ((lookR d.1 d.2.1, lookB d.1 d.2.1, ()), ())⟩
def an_ref09_Lookup : PDs ct_ref09_Lookup.ps → Anns := (fun d => { loops := (fun n => match n with | 3 => some (fun S => { ι := Int × Int, qn := ⟨fun k_ => ∀ (i : Int) (b : Int), k_ (i, b), fun k_ h_ i => h_ i.1 i.2, fun k_ => ∃ (i : Int) (b : Int), k_ (i, b), fun k_ ⟨i, b, h_⟩ => ⟨_, h_⟩⟩, μ := fun i => (d.1.length - i.1).toNat, inv := fun i => 0 ≤ i.1 ∧ i.1 ≤ d.1.length ∧ -1 ≤ i.2 ∧ i.2 < i.1 ∧ look (d.1.take i.1.toNat) d.2.1 = (if i.2 < 0 then none else some (d.1.getD i.2.toNat default)), keep := [0, 1, 4], slots := fun i => [(6, .int .i64 i.2), (7, .int .i64 i.1)], keepN := [80], names := fun i => [] }) | _ => none) })
theorem vc_ref09_Lookup : ∀ (x : List ((Int × Int) × List Int × Int)) (x1 : Int), (x.length <= maxLen /\ ∀ (x2 : (Int × Int) × List Int × Int), x2 ∈ x -> ((0 <= x2.1.1 /\ x2.1.1 <= 4294967295) /\ R64 x2.1.2) /\ (x2.2.1.length <= maxLen /\ ∀ (x : Int), x ∈ x2.2.1 -> R64 x) /\ R64 x2.2.2) /\ (0 <= x1 /\ x1 <= 4294967295) /\ True -> ((x.length : Int) <= 134217728 /\ ∀ (y : Rt), y ∈ x -> (y.2.1.length : Int) <= 1099511627776) -> (∃ (i : Int) (b : Int), (0 <= i /\ i <= (x.length : Int) /\ -1 <= b /\ b < i /\ look (List.take i.toNat x) x1 = if b < 0 then none else some (x.getD b.toNat default)) /\ x = x /\ x1 = x1 /\ (-1 : Int) = b /\ (0 : Int) = i /\ (0 : Int) = 0 /\ (0 : Int) = 0 /\ (0 : Int) = 0 /\ True) /\ ∀ (i b : Int), (0 <= i /\ i <= (x.length : Int) /\ -1 <= b /\ b < i /\ look (List.take i.toNat x) x1 = if b < 0 then none else some (x.getD b.toNat default)) -> ifP (decide (i < (x.length
 : Int))) (0 <= i /\ i < (x.length : Int) /\ ∀ (b1 : Bool), b1 = contains (x.getD i.toNat default).1 x1 -> (b1 -> (b1 -> b1) /\ True) /\ (b1 -> (b1 -> b1) /\ True) /\ ∀ (b2 : Bool), b2 = decide (b < 0) -> ((b1 && !b2) -> ((b1 && !b2) -> (b1 && !b2)) /\ ((b1 && !b2) -> (b1 && !b2)) /\ 0 <= i /\ i < (x.length : Int) /\ True) /\ ((b1 && !b2) -> ((b1 && !b2) -> (b1 && !b2)) /\ True) /\ ((b1 && !b2) -> ((b1 && !b2) -> (b1 && !b2)) /\ True) /\ ((b1 && !b2) -> ((b1 && !b2) -> (b1 && !b2)) /\ True) /\ ((b1 && !b2) -> ((b1 && !b2) -> (b1 && !b2)) /\ ((b1 && !b2) -> (b1 && !b2)) /\ 0 <= b /\ b < (x.length : Int) /\ True) /\ ((b1 && !b2) -> ((b1 && !b2) -> (b1 && !b2)) /\ True) /\ ((b1 && !b2) -> ((b1 && !b2) -> (b1 && !b2)) /\ True) /\ ((b1 && !b2) -> ((b1 && !b2) -> (b1 && !b2)) /\ True) /\ ((b1 && !b2) -> ((b1 && !b2) -> (b1 && !b2)) /\ ((b1 && !b2) -> (b1 && !b2)) /\ True) /\ (b1 -> (b1 -> b1)
 /\ (b2 = false -> (b1 && !b2)) /\ True) /\ (b1 -> b1) /\ ifP (bif b1 then bif b2 then true else decide ((x.getD b.toNat default).1.2 < (x.getD i.toNat default).1.2) else false) (∃ (i_1 : Int) (b : Int), (0 <= i_1 /\ i_1 <= (x.length : Int) /\ -1 <= b /\ b < i_1 /\ look (List.take i_1.toNat x) x1 = if b < 0 then none else some (x.getD b.toNat default)) /\ Int.toNat ((x.length : Int) - i_1) < Int.toNat ((x.length : Int) - i) /\ x = x /\ x1 = x1 /\ i = b /\ IntKind.wrap .i64 (i + (1 : Int)) = i_1 /\ (0 : Int) = 0 /\ (0 : Int) = 0 /\ (0 : Int) = 0 /\ True) (∃ (i_1 : Int) (b3 : Int), (0 <= i_1 /\ i_1 <= (x.length : Int) /\ -1 <= b3 /\ b3 < i_1 /\ look (List.take i_1.toNat x) x1 = if b3 < 0 then none else some (x.getD b3.toNat default)) /\ Int.toNat ((x.length : Int) - i_1) < Int.toNat ((x.length : Int) - i) /\ x = x /\ x1 = x1 /\ b = b3 /\ IntKind.wrap .i64 (i + (1 : Int)) = i_1 /\ (0 : Int)
 = 0 /\ (0 : Int) = 0 /\ (0 : Int) = 0 /\ True)) (ifP (decide (b < 0)) ((((0 : Int), (0 : Int)), ([] : List Int), (0 : Int)) = lookR x x1 /\ false = lookB x x1) (0 <= b /\ b < (x.length : Int) /\ ((List.length (x.getD b.toNat default).2.1) : Int) <= 1099511627776 /\ x.getD b.toNat default = lookR x x1 /\ true = lookB x x1)) := by
  rintro l a ⟨⟨hl, -⟩, -⟩ ⟨hk, hx⟩
  simp only [maxLen] at hl
  refine ⟨⟨0, -1, ⟨by omega, by omega, by omega, by omega, by simp [look]⟩, (by repeat' first | exact trivial | refine ⟨trivial, ?_⟩ | refine ⟨(by with_reducible rfl), ?_⟩ | refine ⟨w64 (by omega) (by omega), ?_⟩ | refine ⟨rfl, ?_⟩)⟩, ?_⟩
  rintro i b ⟨h0, h2, h3, h4, h5⟩
  refine ifP_split (fun hi => ?_) (fun hi => ?_)
  · have hi := of_decide_eq_true hi
    have hst := look_step h0 (by omega) h5
    refine ⟨h0, by omega, ?_⟩
    (repeat (intro (b_ : Bool) (hb_ : b_ = _); (repeat refine ⟨(by first | (simp; done) | (rw [hb_]; simp; done) | (rw [hb_]; simp; omega) | (rw [hb_]; simp; intros; omega) | (rw [hb_]; simp +contextual; done)), ?_⟩); subst hb_))
    refine ifP_split (fun hc => ?_) (fun hc => ?_)
    · have hst := hst true hc.symm
      refine ⟨i + 1, i, ⟨by omega, by omega, by omega, by omega, by simpa using hst⟩, by omega, (by repeat' first | exact trivial | refine ⟨trivial, ?_⟩ | refine ⟨(by with_reducible rfl), ?_⟩ | refine ⟨w64 (by omega) (by omega), ?_⟩ | refine ⟨rfl, ?_⟩)⟩
    · have hst := hst false hc.symm
      refine ⟨i + 1, b, ⟨by omega, by omega, by omega, by omega, by simpa using hst⟩, by omega, (by repeat' first | exact trivial | refine ⟨trivial, ?_⟩ | refine ⟨(by with_reducible rfl), ?_⟩ | refine ⟨w64 (by omega) (by omega), ?_⟩ | refine ⟨rfl, ?_⟩)⟩
  · have hi := of_decide_eq_false hi
    have hlook := h5
    rw [List.take_of_length_le (by omega)] at hlook
    refine ifP_split (fun hb => ?_) (fun hb => ?_)
    · rw [if_pos (of_decide_eq_true hb)] at hlook
      simp [lookR, lookB, hlook]
    · have hb := of_decide_eq_false hb
      rw [if_neg hb] at hlook
      refine ⟨by omega, by omega, hx _ (getD_mem (by omega) (by omega)), ?_, ?_⟩
      · rw [lookR, hlook]
      · rw [lookB, hlook]; rfl
theorem ok_ref09_Lookup : SpecOK Tryz.prog GL 44 ct_ref09_Lookup.spec := Ct.okH _ Tryz.func44 (by kernel_rfl) (withSpec_ok (withSpec_ok noSpecs_ok ok_ref09_copied) ok_ref01_Contains) hmix an_ref09_Lookup (hideMp (by kernel_rfl) vc_ref09_Lookup)
theorem take_at {l : List Rt} {i : Int} (h0 : 0 ≤ i) (h1 : i < l.length) : l.take (i + 1).toNat = l.take i.toNat ++ [l.getD i.toNat default] := by
  have hj : i.toNat < l.length := by omega
  rw [show (i + 1).toNat = i.toNat + 1 from by omega, List.take_succ_eq_append_getElem hj, List.getD_eq_getElem?_getD, List.getElem?_eq_getElem hj, Option.getD_some]
theorem putL_lo {m : List Rt} {r : Rt} (h : ∀ z ∈ m, plt z.1 r.1) : putL m r = m ++ [r] := by
  rw [putL, List.filter_eq_self.2 (fun z hz => decide_eq_true (h z hz)), List.filter_eq_nil_iff.2 (fun z hz => by simpa using plt_asymm (h z hz))]
theorem putL_snoc {m : List Rt} {r e : Rt} (h : plt r.1 e.1) : putL (m ++ [e]) r = putL m r ++ [e] := by
  rw [putL, putL, List.filter_append, List.filter_append, List.filter_cons, if_neg (by simpa using plt_asymm h), List.filter_cons, if_pos (by simpa using h)]
  simp
theorem putL_same {m : List Rt} {r e : Rt} (h : ∀ z ∈ m, plt z.1 r.1) (he : e.1 = r.1) : putL (m ++ [e]) r = m ++ [r] := by
  have hi : ¬ plt e.1 r.1 := by rw [he]; exact plt_irrefl _
  have hj : ¬ plt r.1 e.1 := by rw [he]; exact plt_irrefl _
  have f1 : m.filter (fun a => decide (plt a.1 r.1)) = m := List.filter_eq_self.2 (fun z hz => decide_eq_true (h z hz))
  have f2 : m.filter (fun a => decide (plt r.1 a.1)) = [] := List.filter_eq_nil_iff.2 (fun z hz => by simpa using plt_asymm (h z hz))
  simp [putL, f1, f2, hi, hj]
theorem later {l : List Rt} {p : Pfx} {i : Int} (hs : sortedR l) (h0 : 0 ≤ i) (h1 : i < l.length) {z : Rt} (hz : z ∈ l.take i.toNat) (hp : ¬ plt z.1 p) : plt p (l.getD i.toNat default).1 := by
  have hsp := place_split h0 h1
  unfold sortedR at hs
  rw [hsp] at hs
  have := (List.pairwise_append.1 hs).2.2 z hz _ List.mem_cons_self
  rcases plt_total hp with e | h
  · rw [← e]; exact this
  · exact plt_trans h this
def ct_ref09_Put : Ct := ⟨[.val (.sl cRt), .agg cRt], [.own 79 cRt], fun d => [sortedR d.1, okL d.1, (d.2.1.2.1.length : Int) ≤ 1099511627776], fun d => ((putL d.1 d.2.1, ()), ())⟩
def an_ref09_Put : PDs ct_ref09_Put.ps → Anns := (fun d => { loops := (fun n => match n with | 4 => some (fun S => { ι := Int × Bool × (List Rt), qn := ⟨fun k_ => ∀ (i : Int) (dn : Bool) (ys : (List Rt)), k_ (i, dn, ys), fun k_ h_ i => h_ i.1 i.2.1 i.2.2, fun k_ => ∃ (i : Int) (dn : Bool) (ys : (List Rt)), k_ (i, dn, ys), fun k_ ⟨i, dn, ys, h_⟩ => ⟨_, h_⟩⟩, μ := fun i => (d.1.length - i.1).toNat, inv := fun i => 0 ≤ i.1 ∧ i.1 ≤ d.1.length ∧ (i.2.2.length : Int) ≤ i.1 + 1 ∧ (i.2.1 = false → (∀ z ∈ d.1.take i.1.toNat, plt z.1 d.2.1.1) ∧ i.2.2 = d.1.take i.1.toNat) ∧ (i.2.1 = true → (∃ z ∈ d.1.take i.1.toNat, ¬ plt z.1 d.2.1.1) ∧ i.2.2 = putL (d.1.take i.1.toNat) d.2.1), keep := [0, 3], slots := fun i => [(5, .own 524288 4), (6, .bool i.2.1), (7, .int .i64 i.1)], keepN := [64], names := fun i => [(524288, .live (.row 79 cRt i.2.2))] }) | _ => none) })
theorem vc_ref09_Put : ∀ (x : List ((Int × Int) × List Int × Int)) (x1 x2 : Int) (x3 : List Int) (x4 : Int), (x.length <= maxLen /\ ∀ (x5 : (Int × Int) × List Int × Int), x5 ∈ x -> ((0 <= x5.1.1 /\ x5.1.1 <= 4294967295) /\ R64 x5.1.2) /\ (x5.2.1.length <= maxLen /\ ∀ (x : Int), x ∈ x5.2.1 -> R64 x) /\ R64 x5.2.2) /\ (((0 <= x1 /\ x1 <= 4294967295) /\ R64 x2) /\ (x3.length <= maxLen /\ ∀ (x : Int), x ∈ x3 -> R64 x) /\ R64 x4) /\ True -> sortedR x /\ okL x /\ (x3.length : Int) <= 1099511627776 -> (∃ (i : Int) (dn : Bool), ∃ (ys : List Rt), (0 <= i /\ i <= (x.length : Int) /\ (ys.length : Int) <= i + (1 : Int) /\ (dn = false -> (∀ (z : (Int × Int) × List Int × Int), z ∈ List.take i.toNat x -> plt z.1 (x1, x2)) /\ ys = List.take i.toNat x) /\ (dn = true -> (∃ (z : (Int × Int) × List Int × Int), z ∈ List.take i.toNat x /\ ¬plt z.1 (x1, x2)) /\ ys = putL (List.take i.toNat x) ((x1, x2), x3,
 x4))) /\ x = x /\ false = dn /\ (0 : Int) = i /\ x1 = x1 /\ x2 = x2 /\ x3 = x3 /\ x4 = x4 /\ ys = ([] : List ((Int × Int) × List Int × Int)) /\ True) /\ ∀ (i : Int) (dn : Bool) (ys : List Rt), 0 <= i /\ i <= (x.length : Int) /\ (ys.length : Int) <= i + (1 : Int) /\ (dn = false -> (∀ (z : (Int × Int) × List Int × Int), z ∈ List.take i.toNat x -> plt z.1 (x1, x2)) /\ ys = List.take i.toNat x) /\ (dn = true -> (∃ (z : (Int × Int) × List Int × Int), z ∈ List.take i.toNat x /\ ¬plt z.1 (x1, x2)) /\ ys = putL (List.take i.toNat x) ((x1, x2), x3, x4)) -> ifP (decide (i < (x.length : Int))) (0 <= i /\ i < (x.length : Int) /\ ∀ (b : Bool), b = decide (0 <= pcmp (x.getD i.toNat default).1 (x1, x2)) -> (b -> (b -> b) /\ True) /\ (b -> b) /\ ifP (bif b then !dn else false) ((x3.length : Int) <= 1099511627776 /\ (ys.length + List.length [((x1, x2), x3, x4)]) * (48 : Nat) <= (140737488355328 : Nat) /\
 ifP (!decide (pcmp (x.getD i.toNat default).1 (x1, x2) = 0)) (0 <= i /\ i < (x.length : Int) /\ ((List.length (x.getD i.toNat default).2.1) : Int) <= 1099511627776 /\ (List.length (ys ++ [((x1, x2), x3, x4)]) + List.length [x.getD i.toNat default]) * (48 : Nat) <= (140737488355328 : Nat) /\ ∃ (i_1 : Int) (dn : Bool), ∃ (ys_1 : List Rt), (0 <= i_1 /\ i_1 <= (x.length : Int) /\ (ys_1.length : Int) <= i_1 + (1 : Int) /\ (dn = false -> (∀ (z : (Int × Int) × List Int × Int), z ∈ List.take i_1.toNat x -> plt z.1 (x1, x2)) /\ ys_1 = List.take i_1.toNat x) /\ (dn = true -> (∃ (z : (Int × Int) × List Int × Int), z ∈ List.take i_1.toNat x /\ ¬plt z.1 (x1, x2)) /\ ys_1 = putL (List.take i_1.toNat x) ((x1, x2), x3, x4))) /\ Int.toNat ((x.length : Int) - i_1) < Int.toNat ((x.length : Int) - i) /\ x = x /\ true = dn /\ IntKind.wrap .i64 (i + (1 : Int)) = i_1 /\ x1 = x1 /\ x2 = x2 /\ x3 = x3 /\ x4 = x4
 /\ ys ++ [((x1, x2), x3, x4)] ++ [x.getD i.toNat default] = ys_1 /\ True) (∃ (i_1 : Int) (dn : Bool), ∃ (ys_1 : List Rt), (0 <= i_1 /\ i_1 <= (x.length : Int) /\ (ys_1.length : Int) <= i_1 + (1 : Int) /\ (dn = false -> (∀ (z : (Int × Int) × List Int × Int), z ∈ List.take i_1.toNat x -> plt z.1 (x1, x2)) /\ ys_1 = List.take i_1.toNat x) /\ (dn = true -> (∃ (z : (Int × Int) × List Int × Int), z ∈ List.take i_1.toNat x /\ ¬plt z.1 (x1, x2)) /\ ys_1 = putL (List.take i_1.toNat x) ((x1, x2), x3, x4))) /\ Int.toNat ((x.length : Int) - i_1) < Int.toNat ((x.length : Int) - i) /\ x = x /\ true = dn /\ IntKind.wrap .i64 (i + (1 : Int)) = i_1 /\ x1 = x1 /\ x2 = x2 /\ x3 = x3 /\ x4 = x4 /\ ys ++ [((x1, x2), x3, x4)] = ys_1 /\ True)) (ifP (!decide (pcmp (x.getD i.toNat default).1 (x1, x2) = 0)) (0 <= i /\ i < (x.length : Int) /\ ((List.length (x.getD i.toNat default).2.1) : Int) <= 1099511627776 /\
 (ys.length + List.length [x.getD i.toNat default]) * (48 : Nat) <= (140737488355328 : Nat) /\ ∃ (i_1 : Int) (dn_1 : Bool), ∃ (ys_1 : List Rt), (0 <= i_1 /\ i_1 <= (x.length : Int) /\ (ys_1.length : Int) <= i_1 + (1 : Int) /\ (dn_1 = false -> (∀ (z : (Int × Int) × List Int × Int), z ∈ List.take i_1.toNat x -> plt z.1 (x1, x2)) /\ ys_1 = List.take i_1.toNat x) /\ (dn_1 = true -> (∃ (z : (Int × Int) × List Int × Int), z ∈ List.take i_1.toNat x /\ ¬plt z.1 (x1, x2)) /\ ys_1 = putL (List.take i_1.toNat x) ((x1, x2), x3, x4))) /\ Int.toNat ((x.length : Int) - i_1) < Int.toNat ((x.length : Int) - i) /\ x = x /\ dn = dn_1 /\ IntKind.wrap .i64 (i + (1 : Int)) = i_1 /\ x1 = x1 /\ x2 = x2 /\ x3 = x3 /\ x4 = x4 /\ ys ++ [x.getD i.toNat default] = ys_1 /\ True) (∃ (i_1 : Int) (dn_1 : Bool), ∃ (ys_1 : List Rt), (0 <= i_1 /\ i_1 <= (x.length : Int) /\ (ys_1.length : Int) <= i_1 + (1 : Int) /\ (dn_1 =
 false -> (∀ (z : (Int × Int) × List Int × Int), z ∈ List.take i_1.toNat x -> plt z.1 (x1, x2)) /\ ys_1 = List.take i_1.toNat x) /\ (dn_1 = true -> (∃ (z : (Int × Int) × List Int × Int), z ∈ List.take i_1.toNat x /\ ¬plt z.1 (x1, x2)) /\ ys_1 = putL (List.take i_1.toNat x) ((x1, x2), x3, x4))) /\ Int.toNat ((x.length : Int) - i_1) < Int.toNat ((x.length : Int) - i) /\ x = x /\ dn = dn_1 /\ IntKind.wrap .i64 (i + (1 : Int)) = i_1 /\ x1 = x1 /\ x2 = x2 /\ x3 = x3 /\ x4 = x4 /\ ys = ys_1 /\ True))) (ifP (!dn) ((x3.length : Int) <= 1099511627776 /\ (ys.length + List.length [((x1, x2), x3, x4)]) * (48 : Nat) <= (140737488355328 : Nat) /\ ys ++ [((x1, x2), x3, x4)] = putL x ((x1, x2), x3, x4)) (ys = putL x ((x1, x2), x3, x4))) := by
  rintro l a n nx b ⟨⟨hl0, -⟩, -⟩ ⟨hs, ⟨hl, hx⟩, hn⟩
  refine ⟨⟨0, false, [], ⟨by omega, by omega, by simp, fun _ => by simp, fun h => by simp at h⟩, (by repeat' first | exact trivial | refine ⟨trivial, ?_⟩ | refine ⟨(by with_reducible rfl), ?_⟩ | refine ⟨w64 (by omega) (by omega), ?_⟩ | refine ⟨rfl, ?_⟩)⟩, ?_⟩
  rintro i dn ys ⟨h0, h1, h2, h3, h4⟩
  refine ifP_split (fun hi => ?_) (fun hi => ?_)
  · have hi := of_decide_eq_true hi
    have ht := take_at h0 hi
    have hxi := hx _ (getD_mem h0 hi)
    have hlt : ∀ (z : Rt), z ∈ l.take i.toNat → z ∈ l.take (i + 1).toNat := fun z hz => by rw [ht]; exact List.mem_append_left _ hz
    have hsi : l.getD i.toNat default ∈ l.take (i + 1).toNat := by rw [ht]; simp [-List.getD_eq_getElem?_getD, -Int.default_eq_zero]
    have hlater := fun z hz hp => later (p := (a, n)) (z := z) hs h0 hi hz hp
    generalize l.getD i.toNat default = e at *
    refine ⟨h0, hi, ?_⟩
    (repeat (intro (b_ : Bool) (hb_ : b_ = _); (repeat refine ⟨(by first | (simp; done) | (rw [hb_]; simp; done) | (rw [hb_]; simp; omega) | (rw [hb_]; simp; intros; omega) | (rw [hb_]; simp +contextual; done)), ?_⟩); subst hb_))
    refine ifP_split (fun hc => ?_) (fun hc => ?_)
    · have hq : ¬ plt e.1 (a, n) ∧ dn = false := by rw [← pcmp_nonneg]; simpa [Bool.cond_eq_ite] using hc
      clear hc
      obtain ⟨hc, rfl⟩ := hq
      obtain ⟨k1, rfl⟩ := h3 rfl
      refine ⟨hn, by simp only [List.length_singleton]; omega, ifP_split (fun hz => ?_) (fun hz => ?_)⟩
      · have hz : ¬ pcmp e.1 (a, n) = 0 := by simpa using hz
        have hgt : plt (a, n) e.1 := by
          rcases plt_total hc with h | h
          · exact absurd (pcmp_zero.2 h) hz
          · exact h
        refine ⟨h0, hi, hxi, by simp only [List.length_append, List.length_singleton]; omega, i + 1, true, _, ⟨by omega, by omega, ?_, by simp, fun _ => ⟨⟨e, hsi, hc⟩, rfl⟩⟩, by omega, rfl, rfl, w64 (by omega) (by omega), rfl, rfl, rfl, rfl, ?_, trivial⟩
        · rw [ht, putL_snoc hgt, putL_lo k1]; simp only [List.length_append, List.length_singleton, List.length_take]; omega
        · rw [ht, putL_snoc hgt, putL_lo k1]
      · have hz : pcmp e.1 (a, n) = 0 := by simpa using hz
        have hz := pcmp_zero.1 hz
        refine ⟨i + 1, true, _, ⟨by omega, by omega, ?_, by simp, fun _ => ⟨⟨e, hsi, hc⟩, rfl⟩⟩, by omega, rfl, rfl, w64 (by omega) (by omega), rfl, rfl, rfl, rfl, ?_, trivial⟩
        · rw [ht, putL_same k1 hz]; simp only [List.length_append, List.length_singleton, List.length_take]; omega
        · rw [ht, putL_same k1 hz]
    · have hc : ¬ (¬ plt e.1 (a, n) ∧ dn = false) := by rw [← pcmp_nonneg]; simpa [Bool.cond_eq_ite] using hc
      cases dn with
      | false =>
        have hc : plt e.1 (a, n) := Classical.byContradiction fun h => hc ⟨h, rfl⟩
        obtain ⟨k1, rfl⟩ := h3 rfl
        have hz : ¬ pcmp e.1 (a, n) = 0 := by have := pcmp_neg.2 hc; omega
        rw [decide_eq_false hz]
        refine ⟨h0, hi, hxi, by simp only [List.length_singleton]; omega, i + 1, false, _, ⟨by omega, by omega, ?_, fun _ => ⟨?_, rfl⟩, by simp⟩, by omega, rfl, rfl, w64 (by omega) (by omega), rfl, rfl, rfl, rfl, ht.symm, trivial⟩
        · simp only [List.length_take]; omega
        · rw [ht]; intro z hz
          rcases List.mem_append.1 hz with hz | hz
          · exact k1 z hz
          · rw [List.mem_singleton.1 hz]; exact hc
      | true =>
        obtain ⟨⟨z, z1, z2⟩, rfl⟩ := h4 rfl
        have hgt := hlater z z1 z2
        have hz : ¬ pcmp e.1 (a, n) = 0 := fun h => by have h := pcmp_zero.1 h; rw [h] at hgt; exact plt_irrefl _ hgt
        rw [decide_eq_false hz]
        have hp := putL_snoc (m := l.take i.toNat) (r := ((a, n), nx, b)) hgt
        refine ⟨h0, hi, hxi, by simp only [List.length_singleton]; omega, i + 1, true, _, ⟨by omega, by omega, ?_, by simp, fun _ => ⟨⟨z, hlt z z1, z2⟩, rfl⟩⟩, by omega, rfl, rfl, w64 (by omega) (by omega), rfl, rfl, rfl, rfl, ?_, trivial⟩
        · rw [ht, hp, List.length_append, List.length_singleton]; omega
        · rw [ht, hp]
  · have hi := of_decide_eq_false hi
    rw [List.take_of_length_le (by omega)] at h3 h4
    refine ifP_split (fun hd => ?_) (fun hd => ?_)
    · obtain ⟨k1, rfl⟩ := h3 (by simpa using hd)
      exact ⟨hn, by simp only [List.length_singleton]; omega, (putL_lo k1).symm⟩
    · exact (h4 (by simpa using hd)).2
theorem ok_ref09_Put : SpecOK Tryz.prog GL 104 ct_ref09_Put.spec := Ct.okH _ Tryz.func104 (by kernel_rfl) (withSpec_ok (withSpec_ok noSpecs_ok ok_ref09_copied) ok_ref01_Compare) hmix an_ref09_Put (hideMp (by kernel_rfl) vc_ref09_Put)
theorem removeL_snoc {m : List Rt} {p : Pfx} {e : Rt} : removeL (m ++ [e]) p = removeL m p ++ (if e.1 = p then [] else [e]) := by
  rw [removeL, removeL, List.filter_append, List.filter_cons, List.filter_nil]
  by_cases h : e.1 = p <;> simp [h]
theorem removeL_le (m : List Rt) (p : Pfx) : (removeL m p).length ≤ m.length := List.length_filter_le _ _
def ct_ref09_Remove : Ct := ⟨[.val (.sl cRt), .agg cPfx], [.own 79 cRt], fun d => [okL d.1], fun d => ((removeL d.1 d.2.1, ()), ())⟩
def an_ref09_Remove : PDs ct_ref09_Remove.ps → Anns := (fun d => { loops := (fun n => match n with | 3 => some (fun S => { ι := Int × (List Rt), qn := ⟨fun k_ => ∀ (i : Int) (ys : (List Rt)), k_ (i, ys), fun k_ h_ i => h_ i.1 i.2, fun k_ => ∃ (i : Int) (ys : (List Rt)), k_ (i, ys), fun k_ ⟨i, ys, h_⟩ => ⟨_, h_⟩⟩, μ := fun i => (d.1.length - i.1).toNat, inv := fun i => 0 ≤ i.1 ∧ i.1 ≤ d.1.length ∧ i.2 = removeL (d.1.take i.1.toNat) d.2.1, keep := [0, 3], slots := fun i => [(5, .own 524288 4), (6, .int .i64 i.1)], keepN := [64], names := fun i => [(524288, .live (.row 79 cRt i.2))] }) | _ => none) })
theorem vc_ref09_Remove : ∀ (x : List ((Int × Int) × List Int × Int)) (x1 x2 : Int), (x.length <= maxLen /\ ∀ (x3 : (Int × Int) × List Int × Int), x3 ∈ x -> ((0 <= x3.1.1 /\ x3.1.1 <= 4294967295) /\ R64 x3.1.2) /\ (x3.2.1.length <= maxLen /\ ∀ (x : Int), x ∈ x3.2.1 -> R64 x) /\ R64 x3.2.2) /\ ((0 <= x1 /\ x1 <= 4294967295) /\ R64 x2) /\ True -> ((x.length : Int) <= 134217728 /\ ∀ (y : Rt), y ∈ x -> (y.2.1.length : Int) <= 1099511627776) -> (∃ (i : Int) (ys : List Rt), (0 <= i /\ i <= (x.length : Int) /\ ys = removeL (List.take i.toNat x) (x1, x2)) /\ x = x /\ (0 : Int) = i /\ x1 = x1 /\ x2 = x2 /\ ys = ([] : List ((Int × Int) × List Int × Int)) /\ True) /\ ∀ (i : Int) (ys : List Rt), 0 <= i /\ i <= (x.length : Int) /\ ys = removeL (List.take i.toNat x) (x1, x2) -> ifP (decide (i < (x.length : Int))) (0 <= i /\ i < (x.length : Int) /\ ifP (!(decide ((x.getD i.toNat default).1.1 = x1) &&
 (decide ((x.getD i.toNat default).1.2 = x2) && true))) (0 <= i /\ i < (x.length : Int) /\ ((List.length (x.getD i.toNat default).2.1) : Int) <= 1099511627776 /\ (ys.length + List.length [x.getD i.toNat default]) * (48 : Nat) <= (140737488355328 : Nat) /\ ∃ (i_1 : Int) (ys_1 : List Rt), (0 <= i_1 /\ i_1 <= (x.length : Int) /\ ys_1 = removeL (List.take i_1.toNat x) (x1, x2)) /\ Int.toNat ((x.length : Int) - i_1) < Int.toNat ((x.length : Int) - i) /\ x = x /\ IntKind.wrap .i64 (i + (1 : Int)) = i_1 /\ x1 = x1 /\ x2 = x2 /\ ys ++ [x.getD i.toNat default] = ys_1 /\ True) (∃ (i_1 : Int) (ys_1 : List Rt), (0 <= i_1 /\ i_1 <= (x.length : Int) /\ ys_1 = removeL (List.take i_1.toNat x) (x1, x2)) /\ Int.toNat ((x.length : Int) - i_1) < Int.toNat ((x.length : Int) - i) /\ x = x /\ IntKind.wrap .i64 (i + (1 : Int)) = i_1 /\ x1 = x1 /\ x2 = x2 /\ ys = ys_1 /\ True)) (ys = removeL x (x1, x2)) := by
  rintro l a n ⟨⟨hl0, -⟩, -⟩ ⟨hl, hx⟩
  refine ⟨⟨0, [], ⟨by omega, by omega, by simp [removeL]⟩, (by repeat' first | exact trivial | refine ⟨trivial, ?_⟩ | refine ⟨(by with_reducible rfl), ?_⟩ | refine ⟨w64 (by omega) (by omega), ?_⟩ | refine ⟨rfl, ?_⟩)⟩, ?_⟩
  rintro i ys ⟨h0, h1, rfl⟩
  refine ifP_split (fun hi => ?_) (fun hi => ?_)
  · have hi := of_decide_eq_true hi
    have ht := take_at h0 hi
    have hxi := hx _ (getD_mem h0 hi)
    have hle := removeL_le (l.take i.toNat) (a, n)
    have hle2 : (l.take i.toNat).length ≤ l.length := by simp only [List.length_take]; omega
    generalize l.getD i.toNat default = e at *
    obtain ⟨⟨c, f⟩, g⟩ := e
    refine ⟨h0, hi, ifP_split (fun hc => ?_) (fun hc => ?_)⟩
    · have hc : ¬ (c, f) = (a, n) := by
        intro h; cases h; simp at hc
      refine ⟨h0, hi, hxi, by simp only [List.length_singleton]; omega, i + 1, _, ⟨by omega, by omega, rfl⟩, by omega, rfl, w64 (by omega) (by omega), rfl, rfl, ?_, trivial⟩
      rw [ht, removeL_snoc, if_neg hc]
    · have hc : (c, f) = (a, n) := by
        simp at hc; rw [hc.1, hc.2]
      refine ⟨i + 1, _, ⟨by omega, by omega, rfl⟩, by omega, rfl, w64 (by omega) (by omega), rfl, rfl, ?_, trivial⟩
      rw [ht, removeL_snoc, if_pos hc, List.append_nil]
  · have hi := of_decide_eq_false hi
    rw [List.take_of_length_le (by omega)]
theorem ok_ref09_Remove : SpecOK Tryz.prog GL 116 ct_ref09_Remove.spec := Ct.okH _ Tryz.func116 (by kernel_rfl) (withSpec_ok noSpecs_ok ok_ref09_copied) hmix an_ref09_Remove (hideMp (by kernel_rfl) vc_ref09_Remove)
def hasL (l : List Rt) (p : Pfx) : Bool := decide ((removeL l p).length < l.length)
def ct_ref09_Has : Ct := ⟨[.val (.sl cRt), .agg cPfx], [.val .bool], fun d => [okL d.1], fun d => ((hasL d.1 d.2.1, ()), ())⟩
def an_ref09_Has : PDs ct_ref09_Has.ps → Anns := (fun _ => {})
theorem vc_ref09_Has : ∀ (x : List ((Int × Int) × List Int × Int)) (x1 x2 : Int), (x.length <= maxLen /\ ∀ (x3 : (Int × Int) × List Int × Int), x3 ∈ x -> ((0 <= x3.1.1 /\ x3.1.1 <= 4294967295) /\ R64 x3.1.2) /\ (x3.2.1.length <= maxLen /\ ∀ (x : Int), x ∈ x3.2.1 -> R64 x) /\ R64 x3.2.2) /\ ((0 <= x1 /\ x1 <= 4294967295) /\ R64 x2) /\ True -> ((x.length : Int) <= 134217728 /\ ∀ (y : Rt), y ∈ x -> (y.2.1.length : Int) <= 1099511627776) -> okL x /\ decide (((List.length (removeL x (x1, x2))) : Int) < (x.length : Int)) = hasL x (x1, x2) := by
  rintro l a n - h
  exact ⟨h, decide_eq_decide.2 Int.ofNat_lt⟩
theorem ok_ref09_Has : SpecOK Tryz.prog GL 103 ct_ref09_Has.spec := Ct.okH _ Tryz.func103 (by kernel_rfl) (withSpec_ok noSpecs_ok ok_ref09_Remove) hmix an_ref09_Has (hideMp (by kernel_rfl) vc_ref09_Has)
theorem take_same {α : Type} [Inhabited α] {l m : List α} {i : Int} (h0 : 0 ≤ i) (h1 : i < l.length) (h2 : i < m.length) (h : l.take i.toNat = m.take i.toNat) (he : l.getD i.toNat default = m.getD i.toNat default) : l.take (i + 1).toNat = m.take (i + 1).toNat := by
  have hj : i.toNat < l.length := by omega
  have hk : i.toNat < m.length := by omega
  rw [List.getD_eq_getElem?_getD, List.getElem?_eq_getElem hj, Option.getD_some, List.getD_eq_getElem?_getD, List.getElem?_eq_getElem hk, Option.getD_some] at he
  rw [show (i + 1).toNat = i.toNat + 1 from by omega, List.take_succ_eq_append_getElem hj, List.take_succ_eq_append_getElem hk, h, he]

end Go.RS


/- Law09: the laws of forwarding tables. -/
namespace Go.RS
open Go.SX Go.Proofs
set_option maxRecDepth 100000
set_option linter.unusedVariables false

theorem putL_mem {l : List Rt} {r z : Rt} : z ∈ putL l r ↔ z = r ∨ (z ∈ l ∧ z.1 ≠ r.1) := by
  unfold putL
  simp only [List.mem_append, List.mem_cons, List.mem_filter, decide_eq_true_eq]
  constructor
  · rintro (⟨h, k⟩ | h | ⟨h, k⟩)
    · exact .inr ⟨h, fun e => plt_irrefl _ (e ▸ k)⟩
    · exact .inl h
    · exact .inr ⟨h, fun e => plt_irrefl _ (e ▸ k)⟩
  · rintro (h | ⟨h, k⟩)
    · exact .inr (.inl h)
    · by_cases hp : plt z.1 r.1
      · exact .inl ⟨h, hp⟩
      · rcases plt_total hp with e | e
        · exact absurd e k
        · exact .inr (.inr ⟨h, e⟩)
theorem putL_sorted {l : List Rt} {r : Rt} (hs : sortedR l) : sortedR (putL l r) := by
  unfold sortedR putL
  refine List.pairwise_append.2 ⟨List.Pairwise.filter _ hs, List.pairwise_cons.2 ⟨fun z hz => ?_, List.Pairwise.filter _ hs⟩, fun x hx y hy => ?_⟩
  · simpa using (List.mem_filter.1 hz).2
  · have hx : plt x.1 r.1 := by simpa using (List.mem_filter.1 hx).2
    rcases List.mem_cons.1 hy with rfl | hy
    · exact hx
    · exact plt_trans hx (by simpa using (List.mem_filter.1 hy).2)
theorem putL_len (l : List Rt) (r : Rt) : (putL l r).length ≤ l.length + 1 := by
  unfold putL
  rw [List.length_append, List.length_cons]
  suffices h : (l.filter (fun a => decide (plt a.1 r.1))).length + (l.filter (fun a => decide (plt r.1 a.1))).length ≤ l.length by omega
  induction l with
  | nil => simp
  | cons a l ih =>
    simp only [List.filter_cons]
    by_cases h1 : plt a.1 r.1
    · have h2 := plt_asymm h1
      simp only [h1, h2, decide_true, decide_false, if_true, List.length_cons]
      simp; omega
    · by_cases h2 : plt r.1 a.1
      · simp [h1, h2]; omega
      · simp [h1, h2]; omega
def lookIs (m : List Rt) (a : Int) : Option Rt → Prop
  | none => ∀ z ∈ m, contains z.1 a = false
  | some r => r ∈ m ∧ contains r.1 a = true ∧ ∀ z ∈ m, contains z.1 a = true → z.1.2 ≤ r.1.2
theorem look_aux (a : Int) (l : List Rt) : ∀ (m : List Rt) (s : Option Rt), lookIs m a s → lookIs (m ++ l) a (l.foldl (stepR a) s) := by
  induction l with
  | nil => intro m s h; simpa using h
  | cons e l ih =>
    intro m s h
    rw [List.foldl_cons, show m ++ e :: l = (m ++ [e]) ++ l from by simp]
    apply ih
    unfold stepR
    by_cases hc : contains e.1 a = true
    · rw [if_pos hc]
      cases s with
      | none =>
        refine ⟨by simp, hc, fun z hz hq => ?_⟩
        rcases List.mem_append.1 hz with hz | hz
        · rw [h z hz] at hq; cases hq
        · rw [List.mem_singleton.1 hz]; omega
      | some q =>
        obtain ⟨h1, h2, h3⟩ := h
        by_cases hl : q.1.2 < e.1.2
        · simp only [hl, if_true]
          refine ⟨by simp, hc, fun z hz hq => ?_⟩
          rcases List.mem_append.1 hz with hz | hz
          · have := h3 z hz hq; omega
          · rw [List.mem_singleton.1 hz]; omega
        · simp only [hl, if_false]
          refine ⟨List.mem_append_left _ h1, h2, fun z hz hq => ?_⟩
          rcases List.mem_append.1 hz with hz | hz
          · exact h3 z hz hq
          · rw [List.mem_singleton.1 hz]; omega
    · rw [if_neg hc]
      cases s with
      | none =>
        intro z hz
        rcases List.mem_append.1 hz with hz | hz
        · exact h z hz
        · rw [List.mem_singleton.1 hz]; simpa using hc
      | some q =>
        obtain ⟨h1, h2, h3⟩ := h
        refine ⟨List.mem_append_left _ h1, h2, fun z hz hq => ?_⟩
        rcases List.mem_append.1 hz with hz | hz
        · exact h3 z hz hq
        · rw [List.mem_singleton.1 hz] at hq; exact absurd hq hc
theorem look_is (l : List Rt) (a : Int) : lookIs l a (look l a) := look_aux a l [] none (by intro z hz; cases hz)
theorem lookB_iff (l : List Rt) (a : Int) : lookB l a = decide (∃ z ∈ l, contains z.1 a = true) := by
  have h := look_is l a
  unfold lookB
  cases hl : look l a with
  | none =>
    rw [hl] at h
    symm; apply decide_eq_false
    rintro ⟨z, hz, hq⟩; rw [h z hz] at hq; cases hq
  | some r =>
    rw [hl] at h
    symm; apply decide_eq_true
    exact ⟨r, h.1, h.2.1⟩
theorem lookR_is {l : List Rt} {a : Int} (hb : ∃ z ∈ l, contains z.1 a = true) : lookR l a ∈ l ∧ contains (lookR l a).1 a = true ∧ ∀ z ∈ l, contains z.1 a = true → z.1.2 ≤ (lookR l a).1.2 := by
  have h := look_is l a
  unfold lookR
  cases hl : look l a with
  | none =>
    rw [hl] at h
    obtain ⟨z, hz, hq⟩ := hb
    rw [h z hz] at hq; cases hq
  | some r => rw [hl] at h; exact h
end Go.RS


/- Nodec: the parts and the errors of a node. -/
namespace Go.RS
open Go.SX Go.Proofs
set_option maxRecDepth 100000
set_option linter.unusedVariables false


def pLinks (x : Node) : List Int := (nPorts x).map (·.2)
def pAddrs (x : Node) : List Int := (nPorts x).map (·.1)
def findP (q : Int × Int → Bool) (l : List (Int × Int)) : Int := if l.findIdx q < l.length then (l.findIdx q : Int) else -1
def isA (a : Int) (p : Int × Int) : Bool := decide (p.1 = a)
def isL (k : Int) (p : Int × Int) : Bool := decide (p.2 = k)
def portA (x : Node) (a : Int) : Int := findP (isA a) (nPorts x)
def portL (x : Node) (k : Int) : Int := findP (isL k) (nPorts x)
def ownsA (x : Node) (a : Int) : Bool := decide (0 ≤ portA x a) || (!decide (nLoop x = 0) && decide (nLoop x = a))
theorem take_step {α : Type} [Inhabited α] {l : List α} {k : Int} (h0 : 0 ≤ k) (h1 : k < l.length) : l.take (k + 1).toNat = l.take k.toNat ++ [l.getD k.toNat default] := by
  rw [show (k + 1).toNat = k.toNat + 1 by omega, List.take_add_one, List.getElem?_eq_getElem (by omega), List.getD_eq_getElem?_getD, List.getElem?_eq_getElem (by omega)]; rfl




def ct_node_port_1 : Ct := ⟨[.agg cPort, .box 24 cU32], [.val .bool], fun d => [], fun d => ((isA d.2.1 d.1, ()), (d.2.1, ()))⟩
def an_node_port_1 : PDs ct_node_port_1.ps → Anns := (fun _ => {})
theorem vc_node_port_1 : ∀ (x x1 x2 : Int), ((0 <= x /\ x <= 4294967295) /\ R64 x1) /\ (0 <= x2 /\ x2 <= 4294967295) /\ True -> True -> decide (x = x2) = isA x2 (x, x1) /\ x2 = x2 := by
  rintro a b c - -
  exact ⟨rfl, rfl⟩
theorem ok_node_port_1 : SpecOK Tryz.prog GL 112 ct_node_port_1.spec := Ct.okH _ Tryz.func112 (by kernel_rfl) noSpecs_ok hmix an_node_port_1 (hideMp (by kernel_rfl) vc_node_port_1)

def ct_node_PortOf_1 : Ct := ⟨[.agg cPort, .box 3 cI], [.val .bool], fun d => [], fun d => ((isL d.2.1 d.1, ()), (d.2.1, ()))⟩
def an_node_PortOf_1 : PDs ct_node_PortOf_1.ps → Anns := (fun _ => {})
theorem vc_node_PortOf_1 : ∀ (x x1 x2 : Int), ((0 <= x /\ x <= 4294967295) /\ R64 x1) /\ R64 x2 /\ True -> True -> decide (x1 = x2) = isL x2 (x, x1) /\ x2 = x2 := by
  rintro a b c - -
  exact ⟨rfl, rfl⟩
theorem ok_node_PortOf_1 : SpecOK Tryz.prog GL 83 ct_node_PortOf_1.spec := Ct.okH _ Tryz.func83 (by kernel_rfl) noSpecs_ok hmix an_node_PortOf_1 (hideMp (by kernel_rfl) vc_node_PortOf_1)

def ct_IndexA : Ct := ⟨[.val (.sl cPort), .fn 112 1, .box 24 cU32], [.val cI], fun d => [], fun d => ((findP (isA d.2.2.1) d.1, ()), (d.2.2.1, ()))⟩
def an_IndexA : PDs ct_IndexA.ps → Anns := (fun d => { loops := (fun n => match n with | 2 => some (fun S => { ι := Int, μ := fun i => (d.1.length - i).toNat, inv := fun i => 0 ≤ i ∧ i ≤ d.1.length ∧ ∀ x ∈ d.1.take i.toNat, isA d.2.2.1 x = false, keep := [0, 1, 6, 7], slots := fun i => [(8, .int .i64 i)], keepN := [1048576], names := fun i => [] }) | _ => none) })
theorem vc_IndexA : ∀ (x : List (Int × Int)) (x1 : Int), (x.length <= maxLen /\ ∀ (x2 : Int × Int), x2 ∈ x -> (0 <= x2.1 /\ x2.1 <= 4294967295) /\ R64 x2.2) /\ True /\ (0 <= x1 /\ x1 <= 4294967295) /\ True -> True -> (∃ (x2 : Int), (0 <= x2 /\ x2 <= (x.length : Int) /\ ∀ (x3 : Int × Int), x3 ∈ List.take x2.toNat x -> isA x1 x3 = false) /\ x = x /\ x = x /\ (x.length : Int) = (x.length : Int) /\ (0 : Int) = x2 /\ x1 = x1 /\ True) /\ ∀ (x2 : Int), (0 <= x2 /\ x2 <= (x.length : Int) /\ ∀ (x3 : Int × Int), x3 ∈ List.take x2.toNat x -> isA x1 x3 = false) -> ifP (decide (x2 < (x.length : Int))) (0 <= x2 /\ x2 < (x.length : Int) /\ ifP (isA x1 (x.getD x2.toNat default)) (x2 = findP (isA x1) x /\ x1 = x1) (∃ (x3 : Int), (0 <= x3 /\ x3 <= (x.length : Int) /\ ∀ (x4 : Int × Int), x4 ∈ List.take x3.toNat x -> isA x1 x4 = false) /\ Int.toNat ((x.length : Int) - x3) < Int.toNat ((x.length : Int) - x2)
 /\ x = x /\ x = x /\ (x.length : Int) = (x.length : Int) /\ IntKind.wrap .i64 (x2 + (1 : Int)) = x3 /\ x1 = x1 /\ True)) ((-1 : Int) = findP (isA x1) x /\ x1 = x1) := by
  rintro l a ⟨⟨hl, -⟩, -⟩ -
  simp only [maxLen] at hl
  refine ⟨⟨0, ⟨by omega, by omega, by simp⟩, (by repeat' first | exact trivial | refine ⟨trivial, ?_⟩ | refine ⟨(by with_reducible rfl), ?_⟩ | refine ⟨w64 (by omega) (by omega), ?_⟩ | refine ⟨rfl, ?_⟩)⟩, ?_⟩
  rintro j ⟨j0, j1, hj⟩
  refine ifP_split (fun hk => ?_) (fun hk => ?_)
  · have hk := of_decide_eq_true hk
    refine ⟨j0, hk, ifP_split (fun hm => ?_) (fun hm => ?_)⟩
    · exact ⟨findI_at j0 hk hj hm, rfl⟩
    · exact ⟨j + 1, ⟨by omega, by omega, all_next j0 hk hj hm⟩, by omega, (by repeat' first | exact trivial | refine ⟨trivial, ?_⟩ | refine ⟨(by with_reducible rfl), ?_⟩ | refine ⟨w64 (by omega) (by omega), ?_⟩ | refine ⟨rfl, ?_⟩)⟩
  · exact ⟨findI_none (of_decide_eq_false hk) hj, rfl⟩
theorem ok_IndexA : SpecOK Tryz.prog GL 82 ct_IndexA.spec := Ct.okH _ Tryz.func82 (by kernel_rfl) (withSpec_ok noSpecs_ok ok_node_port_1) hmix an_IndexA (hideMp (by kernel_rfl) vc_IndexA)

def ct_IndexL : Ct := ⟨[.val (.sl cPort), .fn 83 1, .box 3 cI], [.val cI], fun d => [], fun d => ((findP (isL d.2.2.1) d.1, ()), (d.2.2.1, ()))⟩
def an_IndexL : PDs ct_IndexL.ps → Anns := (fun d => { loops := (fun n => match n with | 2 => some (fun S => { ι := Int, μ := fun i => (d.1.length - i).toNat, inv := fun i => 0 ≤ i ∧ i ≤ d.1.length ∧ ∀ x ∈ d.1.take i.toNat, isL d.2.2.1 x = false, keep := [0, 1, 6, 7], slots := fun i => [(8, .int .i64 i)], keepN := [1048576], names := fun i => [] }) | _ => none) })
theorem vc_IndexL : ∀ (x : List (Int × Int)) (x1 : Int), (x.length <= maxLen /\ ∀ (x2 : Int × Int), x2 ∈ x -> (0 <= x2.1 /\ x2.1 <= 4294967295) /\ R64 x2.2) /\ True /\ R64 x1 /\ True -> True -> (∃ (x2 : Int), (0 <= x2 /\ x2 <= (x.length : Int) /\ ∀ (x3 : Int × Int), x3 ∈ List.take x2.toNat x -> isL x1 x3 = false) /\ x = x /\ x = x /\ (x.length : Int) = (x.length : Int) /\ (0 : Int) = x2 /\ x1 = x1 /\ True) /\ ∀ (x2 : Int), (0 <= x2 /\ x2 <= (x.length : Int) /\ ∀ (x3 : Int × Int), x3 ∈ List.take x2.toNat x -> isL x1 x3 = false) -> ifP (decide (x2 < (x.length : Int))) (0 <= x2 /\ x2 < (x.length : Int) /\ ifP (isL x1 (x.getD x2.toNat default)) (x2 = findP (isL x1) x /\ x1 = x1) (∃ (x3 : Int), (0 <= x3 /\ x3 <= (x.length : Int) /\ ∀ (x4 : Int × Int), x4 ∈ List.take x3.toNat x -> isL x1 x4 = false) /\ Int.toNat ((x.length : Int) - x3) < Int.toNat ((x.length : Int) - x2) /\ x = x /\ x = x /\
 (x.length : Int) = (x.length : Int) /\ IntKind.wrap .i64 (x2 + (1 : Int)) = x3 /\ x1 = x1 /\ True)) ((-1 : Int) = findP (isL x1) x /\ x1 = x1) := by
  rintro l a ⟨⟨hl, -⟩, -⟩ -
  simp only [maxLen] at hl
  refine ⟨⟨0, ⟨by omega, by omega, by simp⟩, (by repeat' first | exact trivial | refine ⟨trivial, ?_⟩ | refine ⟨(by with_reducible rfl), ?_⟩ | refine ⟨w64 (by omega) (by omega), ?_⟩ | refine ⟨rfl, ?_⟩)⟩, ?_⟩
  rintro j ⟨j0, j1, hj⟩
  refine ifP_split (fun hk => ?_) (fun hk => ?_)
  · have hk := of_decide_eq_true hk
    refine ⟨j0, hk, ifP_split (fun hm => ?_) (fun hm => ?_)⟩
    · exact ⟨findI_at j0 hk hj hm, rfl⟩
    · exact ⟨j + 1, ⟨by omega, by omega, all_next j0 hk hj hm⟩, by omega, (by repeat' first | exact trivial | refine ⟨trivial, ?_⟩ | refine ⟨(by with_reducible rfl), ?_⟩ | refine ⟨w64 (by omega) (by omega), ?_⟩ | refine ⟨rfl, ?_⟩)⟩
  · exact ⟨findI_none (of_decide_eq_false hk) hj, rfl⟩
theorem ok_IndexL : SpecOK Tryz.prog GL 82 ct_IndexL.spec := Ct.okH _ Tryz.func82 (by kernel_rfl) (withSpec_ok noSpecs_ok ok_node_PortOf_1) hmix an_IndexL (hideMp (by kernel_rfl) vc_IndexL)

def ct_node_port : Ct := ⟨[.agg cNode, .val cU32], [.val cI], fun d => [], fun d => ((portA d.1 d.2.1, ()), ())⟩
def an_node_port : PDs ct_node_port.ps → Anns := (fun _ => {})
theorem vc_node_port : ∀ (d : List (Int × Int) × Int × Int × Bool × List ((Int × Int) × List Int × Int) × Int × Int × Int × Int × Int × (Int × Int) × Bool × Bool × Int × Int) (x : Int), CT.wf cNode d /\ (0 <= x /\ x <= 4294967295) /\ True -> True -> findP (isA x) d.1 = portA d x := by
  rintro d x - -
  rfl
theorem ok_node_port : SpecOK Tryz.prog GL 78 ct_node_port.spec := Ct.okH _ Tryz.func78 (by kernel_rfl) (withSpec_ok noSpecs_ok ok_IndexA) hmix an_node_port (hideMp (by kernel_rfl) vc_node_port)

def ct_node_PortOf : Ct := ⟨[.agg cNode, .val cI], [.val cI], fun d => [], fun d => ((portL d.1 d.2.1, ()), ())⟩
def an_node_PortOf : PDs ct_node_PortOf.ps → Anns := (fun _ => {})
theorem vc_node_PortOf : ∀ (d : List (Int × Int) × Int × Int × Bool × List ((Int × Int) × List Int × Int) × Int × Int × Int × Int × Int × (Int × Int) × Bool × Bool × Int × Int) (x : Int), CT.wf cNode d /\ R64 x /\ True -> True -> findP (isL x) d.1 = portL d x := by
  rintro d x - -
  rfl
theorem ok_node_PortOf : SpecOK Tryz.prog GL 43 ct_node_PortOf.spec := Ct.okH _ Tryz.func43 (by kernel_rfl) (withSpec_ok noSpecs_ok ok_IndexL) hmix an_node_PortOf (hideMp (by kernel_rfl) vc_node_PortOf)

def ct_node_Owns : Ct := ⟨[.agg cNode, .val cU32], [.val .bool], fun d => [], fun d => ((ownsA d.1 d.2.1, ()), ())⟩
def an_node_Owns : PDs ct_node_Owns.ps → Anns := (fun _ => {})
theorem vc_node_Owns : ∀ (d : List (Int × Int) × Int × Int × Bool × List ((Int × Int) × List Int × Int) × Int × Int × Int × Int × Int × (Int × Int) × Bool × Bool × Int × Int) (x : Int), CT.wf cNode d /\ (0 <= x /\ x <= 4294967295) /\ True -> True -> ∀ (x1 : Int), x1 = portA d x -> ∀ (b : Bool), b = decide (0 <= x1) -> ((!b) -> ((!b) -> (!b)) /\ True) /\ ((!b) -> ((!b) -> (!b)) /\ True) /\ ((!b) -> ((!b) -> (!b)) /\ True) /\ ∀ (b1 : Bool), b1 = !decide (d.2.1 = 0) -> ((!b && b1) -> ((!b && b1) -> (!b && b1)) /\ True) /\ ((!b && b1) -> ((!b && b1) -> (!b && b1)) /\ ((!b && b1) -> (!b && b1)) /\ True) /\ ((!b) -> ((!b) -> (!b)) /\ (b1 -> (!b && b1)) /\ True) /\ (b = false -> (!b)) /\ (bif b then true else bif b1 then decide (d.2.1 = x) else false) = ownsA d x := by
  rintro d x - - q hq
  unfold ownsA
  rw [show nLoop d = d.2.1 from rfl, ← hq]
  generalize d.2.1 = z
  intro b hb
  refine ⟨by simp, by simp, by simp, ?_⟩
  intro b1 hb1
  (repeat refine ⟨(by cases b <;> cases b1 <;> simp), ?_⟩)
  rw [hb, hb1]
  cases decide (0 ≤ q) <;> cases decide (z = 0) <;> cases decide (z = x) <;> rfl
theorem ok_node_Owns : SpecOK Tryz.prog GL 36 ct_node_Owns.spec := Ct.okH _ Tryz.func36 (by kernel_rfl) (withSpec_ok noSpecs_ok (Ct.named ok_node_port)) hmix an_node_Owns (hideMp (by kernel_rfl) vc_node_Owns)

end Go.RS


/- Nodek: the first error of a node, in the program and in the reference; the reference's parts of a node. -/
namespace Go.RS
open Go.SX Go.Proofs
set_option maxRecDepth 100000
set_option linter.unusedVariables false

def first (f : Nat → Int) : Nat → Int
  | 0 => 0
  | n + 1 => if first f n ≠ 0 then first f n else f n
def ct_ref13_PortOf : Ct := ⟨[.agg cNode, .val cI], [.val cI], fun d => [], fun d => ((portL d.1 d.2.1, ()), ())⟩
def an_ref13_PortOf : PDs ct_ref13_PortOf.ps → Anns := (fun d => { loops := (fun n => match n with | 2 => some (fun S => { ι := Int, μ := fun i => ((nPorts d.1).length - i).toNat, inv := fun i => 0 ≤ i ∧ i ≤ (nPorts d.1).length ∧ ∀ x ∈ (nPorts d.1).take i.toNat, isL d.2.1 x = false, keep := [1, 2], slots := fun i => [(5, .int .i64 i)], keepN := [48], names := fun i => [] }) | _ => none) })
theorem vc_ref13_PortOf : ∀ (d : List (Int × Int) × Int × Int × Bool × List ((Int × Int) × List Int × Int) × Int × Int × Int × Int × Int × (Int × Int) × Bool × Bool × Int × Int) (x : Int), CT.wf cNode d /\ R64 x /\ True -> True -> (∃ (x1 : Int), (0 <= x1 /\ x1 <= ((List.length (nPorts d)) : Int) /\ ∀ (x2 : Int × Int), x2 ∈ List.take x1.toNat (nPorts d) -> isL x x2 = false) /\ x = x /\ (0 : Int) = x1 /\ d.1 = d.1 /\ d.2.1 = d.2.1 /\ d.2.2.1 = d.2.2.1 /\ d.2.2.2.1 = d.2.2.2.1 /\ d.2.2.2.2.1 = d.2.2.2.2.1 /\ d.2.2.2.2.2.1 = d.2.2.2.2.2.1 /\ d.2.2.2.2.2.2.1 = d.2.2.2.2.2.2.1 /\ d.2.2.2.2.2.2.2.1 = d.2.2.2.2.2.2.2.1 /\ d.2.2.2.2.2.2.2.2.1 = d.2.2.2.2.2.2.2.2.1 /\ d.2.2.2.2.2.2.2.2.2.1 = d.2.2.2.2.2.2.2.2.2.1 /\ d.2.2.2.2.2.2.2.2.2.2.1.1 = d.2.2.2.2.2.2.2.2.2.2.1.1 /\ d.2.2.2.2.2.2.2.2.2.2.1.2 = d.2.2.2.2.2.2.2.2.2.2.1.2 /\ d.2.2.2.2.2.2.2.2.2.2.2.1 = d.2.2.2.2.2.2.2.2.2.2.2.1 /\
 d.2.2.2.2.2.2.2.2.2.2.2.2.1 = d.2.2.2.2.2.2.2.2.2.2.2.2.1 /\ d.2.2.2.2.2.2.2.2.2.2.2.2.2.1 = d.2.2.2.2.2.2.2.2.2.2.2.2.2.1 /\ d.2.2.2.2.2.2.2.2.2.2.2.2.2.2 = d.2.2.2.2.2.2.2.2.2.2.2.2.2.2 /\ True) /\ ∀ (x1 : Int), (0 <= x1 /\ x1 <= ((List.length (nPorts d)) : Int) /\ ∀ (x2 : Int × Int), x2 ∈ List.take x1.toNat (nPorts d) -> isL x x2 = false) -> ifP (decide (x1 < (d.1.length : Int))) (0 <= x1 /\ x1 < (d.1.length : Int) /\ ifP (decide ((List.getD d.1 x1.toNat default).2 = x)) (x1 = portL d x) (∃ (x2 : Int), (0 <= x2 /\ x2 <= ((List.length (nPorts d)) : Int) /\ ∀ (x3 : Int × Int), x3 ∈ List.take x2.toNat (nPorts d) -> isL x x3 = false) /\ Int.toNat (((List.length (nPorts d)) : Int) - x2) < Int.toNat (((List.length (nPorts d)) : Int) - x1) /\ x = x /\ IntKind.wrap .i64 (x1 + (1 : Int)) = x2 /\ d.1 = d.1 /\ d.2.1 = d.2.1 /\ d.2.2.1 = d.2.2.1 /\ d.2.2.2.1 = d.2.2.2.1 /\ d.2.2.2.2.1 =
 d.2.2.2.2.1 /\ d.2.2.2.2.2.1 = d.2.2.2.2.2.1 /\ d.2.2.2.2.2.2.1 = d.2.2.2.2.2.2.1 /\ d.2.2.2.2.2.2.2.1 = d.2.2.2.2.2.2.2.1 /\ d.2.2.2.2.2.2.2.2.1 = d.2.2.2.2.2.2.2.2.1 /\ d.2.2.2.2.2.2.2.2.2.1 = d.2.2.2.2.2.2.2.2.2.1 /\ d.2.2.2.2.2.2.2.2.2.2.1.1 = d.2.2.2.2.2.2.2.2.2.2.1.1 /\ d.2.2.2.2.2.2.2.2.2.2.1.2 = d.2.2.2.2.2.2.2.2.2.2.1.2 /\ d.2.2.2.2.2.2.2.2.2.2.2.1 = d.2.2.2.2.2.2.2.2.2.2.2.1 /\ d.2.2.2.2.2.2.2.2.2.2.2.2.1 = d.2.2.2.2.2.2.2.2.2.2.2.2.1 /\ d.2.2.2.2.2.2.2.2.2.2.2.2.2.1 = d.2.2.2.2.2.2.2.2.2.2.2.2.2.1 /\ d.2.2.2.2.2.2.2.2.2.2.2.2.2.2 = d.2.2.2.2.2.2.2.2.2.2.2.2.2.2 /\ True)) ((-1 : Int) = portL d x) := by
  rintro d k ⟨⟨⟨hl, -⟩, -⟩, -⟩ -
  have hd : d.1 = nPorts d := rfl
  rw [hd] at hl ⊢
  simp only [maxLen] at hl
  refine ⟨⟨0, ⟨by omega, by omega, by simp⟩, (by repeat' first | exact trivial | refine ⟨trivial, ?_⟩ | refine ⟨(by with_reducible rfl), ?_⟩ | refine ⟨w64 (by omega) (by omega), ?_⟩ | refine ⟨rfl, ?_⟩)⟩, ?_⟩
  rintro j ⟨j0, j1, hj⟩
  refine ifP_split (fun hk => ?_) (fun hk => ?_)
  · have hk := of_decide_eq_true hk
    refine ⟨j0, hk, ifP_split (fun hm => ?_) (fun hm => ?_)⟩
    · exact findI_at j0 hk hj hm
    · exact ⟨j + 1, ⟨by omega, by omega, all_next j0 hk hj hm⟩, by omega, (by repeat' first | exact trivial | refine ⟨trivial, ?_⟩ | refine ⟨(by with_reducible rfl), ?_⟩ | refine ⟨w64 (by omega) (by omega), ?_⟩ | refine ⟨rfl, ?_⟩)⟩
  · exact findI_none (of_decide_eq_false hk) hj
theorem ok_ref13_PortOf : SpecOK Tryz.prog GL 46 ct_ref13_PortOf.spec := Ct.okH _ Tryz.func46 (by kernel_rfl) noSpecs_ok hmix an_ref13_PortOf (hideMp (by kernel_rfl) vc_ref13_PortOf)

def ct_ref13_Owns : Ct := ⟨[.agg cNode, .val cU32], [.val .bool], fun d => [], fun d => ((ownsA d.1 d.2.1, ()), ())⟩
def an_ref13_Owns : PDs ct_ref13_Owns.ps → Anns := (fun d => { loops := (fun n => match n with | 2 => some (fun S => { ι := Int, μ := fun i => ((nPorts d.1).length - i).toNat, inv := fun i => 0 ≤ i ∧ i ≤ (nPorts d.1).length ∧ ∀ x ∈ (nPorts d.1).take i.toNat, isA d.2.1 x = false, keep := [1, 2], slots := fun i => [(5, .int .i64 i)], keepN := [48], names := fun i => [] }) | _ => none) })
theorem vc_ref13_Owns : ∀ (d : List (Int × Int) × Int × Int × Bool × List ((Int × Int) × List Int × Int) × Int × Int × Int × Int × Int × (Int × Int) × Bool × Bool × Int × Int) (x : Int), CT.wf cNode d /\ (0 <= x /\ x <= 4294967295) /\ True -> True -> (∃ (x1 : Int), (0 <= x1 /\ x1 <= ((List.length (nPorts d)) : Int) /\ ∀ (x2 : Int × Int), x2 ∈ List.take x1.toNat (nPorts d) -> isA x x2 = false) /\ x = x /\ (0 : Int) = x1 /\ d.1 = d.1 /\ d.2.1 = d.2.1 /\ d.2.2.1 = d.2.2.1 /\ d.2.2.2.1 = d.2.2.2.1 /\ d.2.2.2.2.1 = d.2.2.2.2.1 /\ d.2.2.2.2.2.1 = d.2.2.2.2.2.1 /\ d.2.2.2.2.2.2.1 = d.2.2.2.2.2.2.1 /\ d.2.2.2.2.2.2.2.1 = d.2.2.2.2.2.2.2.1 /\ d.2.2.2.2.2.2.2.2.1 = d.2.2.2.2.2.2.2.2.1 /\ d.2.2.2.2.2.2.2.2.2.1 = d.2.2.2.2.2.2.2.2.2.1 /\ d.2.2.2.2.2.2.2.2.2.2.1.1 = d.2.2.2.2.2.2.2.2.2.2.1.1 /\ d.2.2.2.2.2.2.2.2.2.2.1.2 = d.2.2.2.2.2.2.2.2.2.2.1.2 /\ d.2.2.2.2.2.2.2.2.2.2.2.1 =
 d.2.2.2.2.2.2.2.2.2.2.2.1 /\ d.2.2.2.2.2.2.2.2.2.2.2.2.1 = d.2.2.2.2.2.2.2.2.2.2.2.2.1 /\ d.2.2.2.2.2.2.2.2.2.2.2.2.2.1 = d.2.2.2.2.2.2.2.2.2.2.2.2.2.1 /\ d.2.2.2.2.2.2.2.2.2.2.2.2.2.2 = d.2.2.2.2.2.2.2.2.2.2.2.2.2.2 /\ True) /\ ∀ (x1 : Int), (0 <= x1 /\ x1 <= ((List.length (nPorts d)) : Int) /\ ∀ (x2 : Int × Int), x2 ∈ List.take x1.toNat (nPorts d) -> isA x x2 = false) -> ifP (decide (x1 < (d.1.length : Int))) (0 <= x1 /\ x1 < (d.1.length : Int) /\ ifP (decide ((List.getD d.1 x1.toNat default).1 = x)) (true = ownsA d x) (∃ (x2 : Int), (0 <= x2 /\ x2 <= ((List.length (nPorts d)) : Int) /\ ∀ (x3 : Int × Int), x3 ∈ List.take x2.toNat (nPorts d) -> isA x x3 = false) /\ Int.toNat (((List.length (nPorts d)) : Int) - x2) < Int.toNat (((List.length (nPorts d)) : Int) - x1) /\ x = x /\ IntKind.wrap .i64 (x1 + (1 : Int)) = x2 /\ d.1 = d.1 /\ d.2.1 = d.2.1 /\ d.2.2.1 = d.2.2.1 /\ d.2.2.2.1 =
 d.2.2.2.1 /\ d.2.2.2.2.1 = d.2.2.2.2.1 /\ d.2.2.2.2.2.1 = d.2.2.2.2.2.1 /\ d.2.2.2.2.2.2.1 = d.2.2.2.2.2.2.1 /\ d.2.2.2.2.2.2.2.1 = d.2.2.2.2.2.2.2.1 /\ d.2.2.2.2.2.2.2.2.1 = d.2.2.2.2.2.2.2.2.1 /\ d.2.2.2.2.2.2.2.2.2.1 = d.2.2.2.2.2.2.2.2.2.1 /\ d.2.2.2.2.2.2.2.2.2.2.1.1 = d.2.2.2.2.2.2.2.2.2.2.1.1 /\ d.2.2.2.2.2.2.2.2.2.2.1.2 = d.2.2.2.2.2.2.2.2.2.2.1.2 /\ d.2.2.2.2.2.2.2.2.2.2.2.1 = d.2.2.2.2.2.2.2.2.2.2.2.1 /\ d.2.2.2.2.2.2.2.2.2.2.2.2.1 = d.2.2.2.2.2.2.2.2.2.2.2.2.1 /\ d.2.2.2.2.2.2.2.2.2.2.2.2.2.1 = d.2.2.2.2.2.2.2.2.2.2.2.2.2.1 /\ d.2.2.2.2.2.2.2.2.2.2.2.2.2.2 = d.2.2.2.2.2.2.2.2.2.2.2.2.2.2 /\ True)) (∀ (b : Bool), b = !decide (d.2.1 = 0) -> (b -> (b -> b) /\ True) /\ (b -> (b -> b) /\ (b -> b) /\ True) /\ (b -> b) /\ (bif b then decide (d.2.1 = x) else false) = ownsA d x) := by
  rintro d a ⟨⟨⟨hl, -⟩, -⟩, -⟩ -
  have hd : d.1 = nPorts d := rfl
  rw [hd] at hl ⊢
  simp only [maxLen] at hl
  refine ⟨⟨0, ⟨by omega, by omega, by simp⟩, (by repeat' first | exact trivial | refine ⟨trivial, ?_⟩ | refine ⟨(by with_reducible rfl), ?_⟩ | refine ⟨w64 (by omega) (by omega), ?_⟩ | refine ⟨rfl, ?_⟩)⟩, ?_⟩
  rintro j ⟨j0, j1, hj⟩
  refine ifP_split (fun hk => ?_) (fun hk => ?_)
  · have hk := of_decide_eq_true hk
    refine ⟨j0, hk, ifP_split (fun hm => ?_) (fun hm => ?_)⟩
    · have e : j = portA d a := findI_at j0 hk hj hm
      unfold ownsA
      rw [← e, decide_eq_true j0]; rfl
    · exact ⟨j + 1, ⟨by omega, by omega, all_next j0 hk hj hm⟩, by omega, (by repeat' first | exact trivial | refine ⟨trivial, ?_⟩ | refine ⟨(by with_reducible rfl), ?_⟩ | refine ⟨w64 (by omega) (by omega), ?_⟩ | refine ⟨rfl, ?_⟩)⟩
  · have e : -1 = portA d a := findI_none (of_decide_eq_false hk) hj
    (repeat (intro (b_ : Bool) (hb_ : b_ = _); (repeat refine ⟨(by first | (simp; done) | (rw [hb_]; simp; done) | (rw [hb_]; simp; omega) | (rw [hb_]; simp; intros; omega) | (rw [hb_]; simp +contextual; done)), ?_⟩); subst hb_))
    unfold ownsA
    rw [← e, show d.2.1 = nLoop d from rfl]
    cases decide (nLoop d = 0) <;> rfl
theorem ok_ref13_Owns : SpecOK Tryz.prog GL 80 ct_ref13_Owns.spec := Ct.okH _ Tryz.func80 (by kernel_rfl) noSpecs_ok hmix an_ref13_Owns (hideMp (by kernel_rfl) vc_ref13_Owns)
end Go.RS


/- Netd: networks as the laws draw them: exact. -/
namespace Go.RS
open Go.SX Go.Proofs
set_option maxRecDepth 100000
set_option linter.unusedVariables false

abbrev cLink : CT := .pair cI (.pair cI (.pair cI (.pair cI (.pair cI cI))))
abbrev cChange : CT := .pair cI (.pair cI (.pair .bool cRt))
abbrev cNet : CT := .pair (.sl cNode) (.pair (.sl cLink) (.sl cChange))
abbrev Link : Type := Int × Int × Int × Int × Int × Int
abbrev Change : Type := Int × Int × Bool × Rt
abbrev Net : Type := List Node × List Link × List Change
abbrev Codes : Type := List Int × Int
abbrev Port : Type := Int × Int
def lA (l : Link) : Int := l.1
def lB (l : Link) : Int := l.2.1
def lDelay (l : Link) : Int := l.2.2.1
def lJitter (l : Link) : Int := l.2.2.2.1
def lLoss (l : Link) : Int := l.2.2.2.2.1
def lSeed (l : Link) : Int := l.2.2.2.2.2
theorem getD_setne {α : Type} [Inhabited α] {l : List α} {i j : Nat} {a : α} (h : i ≠ j) : (l.set i a).getD j default = l.getD j default := by
  rw [List.getD_eq_getElem?_getD, List.getD_eq_getElem?_getD, List.getElem?_set_ne h]
def codeAt (c : Codes) : Int := c.1.getD c.2.toNat default
def next1 (c : Codes) (n : Int) : Int × Codes := if (c.1.length : Int) ≤ c.2 ∨ n < 1 then (0, c) else ((codeAt c).tmod n, (c.1, c.2 + 1))
def nextV (c : Codes) (n : Int) : Int × Codes :=
  if (c.1.length : Int) ≤ c.2 ∨ n < 1 then (0, c)
  else if 256 < n then ((256 * codeAt c + (next1 (c.1, c.2 + 1) 256).1).tmod n, (next1 (c.1, c.2 + 1) 256).2)
  else ((codeAt c).tmod n, (c.1, c.2 + 1))
structure okB (c : Codes) : Prop where
  at' : okC c
  b : ∀ x ∈ c.1, 0 ≤ x ∧ x ≤ 255
theorem okB.code {c : Codes} (h : okB c) (hb : ¬ (c.1.length : Int) ≤ c.2) : 0 ≤ codeAt c ∧ codeAt c ≤ 255 := h.b _ (getD_mem h.at'.1 (by omega))
theorem next1_ok {c : Codes} (h : okB c) (n : Int) : okB (next1 c n).2 ∧ 0 ≤ (next1 c n).1 ∧ ((next1 c n).1 < n ∨ (next1 c n).1 = 0) := by
  unfold next1
  split
  · exact ⟨h, by simp, .inr rfl⟩
  · rename_i hb
    have hc := h.code (by omega)
    have ha := h.at'
    exact ⟨⟨⟨by have := ha.1; show 0 ≤ c.2 + 1; omega, by show c.2 + 1 ≤ (c.1.length : Int); omega⟩, h.b⟩, tmod_lo hc.1, .inl (tmod_hi hc.1 (by omega))⟩
theorem nextV_ok {c : Codes} (h : okB c) (n : Int) : okB (nextV c n).2 ∧ 0 ≤ (nextV c n).1 ∧ ((nextV c n).1 < n ∨ (nextV c n).1 = 0) := by
  unfold nextV
  split
  · exact ⟨h, by simp, .inr rfl⟩
  · rename_i hb
    have hc := h.code (by omega)
    have ha := h.at'
    have h1 : okB (c.1, c.2 + 1) := ⟨⟨by have := ha.1; show 0 ≤ c.2 + 1; omega, by show c.2 + 1 ≤ (c.1.length : Int); omega⟩, h.b⟩
    split
    · have k := next1_ok h1 256
      exact ⟨k.1, tmod_lo (by omega), .inl (tmod_hi (by omega) (by omega))⟩
    · exact ⟨h1, tmod_lo hc.1, .inl (tmod_hi hc.1 (by omega))⟩
theorem nextV_lt {c : Codes} (h : okB c) {n : Int} (hn : 0 < n) : 0 ≤ (nextV c n).1 ∧ (nextV c n).1 < n := by
  have := nextV_ok h n; omega
def newNode (i : Int) (host : Bool) (f sd : Int) : Node := ([], 0, 1 + i / 3, host, [], 1, 0, 0, 0, 0, (0, 0), false, false, f, sd)
abbrev Scene : Type := Net × Codes
def nodeS (s : Scene) (host : Bool) : Scene :=
  ((s.1.1 ++ [newNode s.1.1.length host (([64, 255, 128] : List Int).getD (nextV s.2 3).1.toNat default) (nextV (nextV s.2 3).2 256).1], s.1.2), (nextV (nextV s.2 3).2 256).2)
def addPort (ns : List Node) (x : Int) (p : Port) : List Node := ns.set x.toNat ((ns.getD x.toNat default).1 ++ [p], (ns.getD x.toNat default).2)
def baseA (l : Int) : Int := 167837696 + 4 * l
def linkS (s : Scene) (a b : Int) : Scene :=
  ((addPort (addPort s.1.1 a (baseA s.1.2.1.length + 1, s.1.2.1.length)) b (baseA s.1.2.1.length + 2, s.1.2.1.length),
    s.1.2.1 ++ [(a, b, 1 + (nextV s.2 20).1, 0, 0, (nextV (nextV s.2 20).2 256).1)], s.1.2.2), (nextV (nextV s.2 20).2 256).2)
def insN (k : Int) : List Int → List Int
  | [] => [k]
  | x :: r => if k < x then k :: x :: r else x :: insN k r
theorem insN_none {k : Int} : ∀ {l : List Int}, (∀ x ∈ l, ¬ k < x) → insN k l = l ++ [k]
  | [], _ => rfl
  | x :: r, h => by rw [insN, if_neg (h x List.mem_cons_self), insN_none fun y hy => h y (List.mem_cons_of_mem _ hy)]; rfl
theorem insN_some {k : Int} {m : List Int} : ∀ {l : List Int}, (∃ x ∈ l, k < x) → insN k (l ++ m) = insN k l ++ m
  | [], h => by obtain ⟨x, hx, -⟩ := h; cases hx
  | y :: r, h => by
    rw [List.cons_append, insN, insN]
    by_cases hy : k < y
    · rw [if_pos hy, if_pos hy]; rfl
    · rw [if_neg hy, if_neg hy, insN_some (l := r)]; rfl
      obtain ⟨x, hx, hk⟩ := h
      rcases List.mem_cons.1 hx with rfl | hx
      · exact absurd hk hy
      · exact ⟨x, hx, hk⟩
theorem insN_new {k x : Int} : ∀ {l : List Int}, (∀ y ∈ l, ¬ k < y) → k < x → insN k (l ++ [x]) = l ++ [k] ++ [x]
  | [], _, h => by rw [List.nil_append, insN, if_pos h]; rfl
  | y :: r, h, hk => by rw [List.cons_append, insN, if_neg (h y List.mem_cons_self), insN_new (fun z hz => h z (List.mem_cons_of_mem _ hz)) hk]; rfl
theorem insN_len (k : Int) : ∀ l : List Int, (insN k l).length = l.length + 1
  | [] => rfl
  | x :: r => by rw [insN]; split <;> simp [insN_len k r]
def rFind (l : List Rt) (p : Pfx) : Nat := l.findIdx fun r => decide (r.1 = p)
def setRoutes (x : Node) (l : List Rt) : Node := (x.1, x.2.1, x.2.2.1, x.2.2.2.1, l, x.2.2.2.2.2)
def routeL (l : List Rt) (p : Pfx) (k way : Int) : List Rt :=
  if rFind l p < l.length then
    if k ∈ (l.getD (rFind l p) default).2.1 then l else putL l (p, insN k (l.getD (rFind l p) default).2.1, (l.getD (rFind l p) default).2.2)
  else putL l (p, [k], way)
def routeN (ns : List Node) (n : Int) (p : Pfx) (k way : Int) : List Node := ns.set n.toNat (setRoutes (ns.getD n.toNat default) (routeL (nRoutes (ns.getD n.toNat default)) p k way))
def relax (d : List Int) (l : Link) : List Int :=
  (d.set (lA l).toNat (min (d.getD (lA l).toNat default) (d.getD (lB l).toNat default + 1))).set (lB l).toNat (min (d.getD (lB l).toNat default) (d.getD (lA l).toNat default + 1))
def distL (nn : Nat) (ls : List Link) (to : Int) : List Int := (List.range nn).foldl (fun d _ => ls.foldl relax d) ((List.replicate nn (1000 : Int)).set to.toNat 0)
def stepE (d : List Int) (to : Int) (p : Pfx) (plain : Bool) (k way : Int) (ns : List Node) (a b : Int) : List Node :=
  if d.getD a.toNat default ≠ d.getD b.toNat default + 1 ∨ (b ≠ to ∧ nHost (ns.getD b.toNat default) = true) then ns
  else if plain = true ∧ hasL (nRoutes (ns.getD a.toNat default)) p = true then ns else routeN ns a p k way
def stepK (ls : List Link) (d : List Int) (to : Int) (p : Pfx) (plain : Bool) (way : Int) (ns : List Node) (k : Nat) : List Node :=
  stepE d to p plain k way (stepE d to p plain k way ns (lA (ls.getD k default)) (lB (ls.getD k default))) (lB (ls.getD k default)) (lA (ls.getD k default))
def stepP (ls : List Link) (d : List Int) (to : Int) (plain : Bool) (way : Int) (ns : List Node) (q : Port) : List Node :=
  (List.range ls.length).foldl (stepK ls d to (q.1, 32) plain way) ns
def wayC (c : Codes) : Int × Codes := if 1 + (nextV c 3).1 = 3 then (if 0 < (nextV (nextV c 3).2 3).1 then 1 else 3, (nextV (nextV c 3).2 3).2) else (1 + (nextV c 3).1, (nextV c 3).2)
def stepT (ls : List Link) (plain : Bool) (s : List Node × Codes) (to : Nat) : List Node × Codes :=
  ((nPorts (s.1.getD to default)).foldl (stepP ls (distL s.1.length ls to) to plain (wayC s.2).1) s.1, (wayC s.2).2)
def routesS (s : Scene) (plain : Bool) : Scene :=
  let r := (List.range s.1.1.length).foldl (stepT s.1.2.1 plain) (s.1.1, s.2)
  ((r.1, s.1.2), r.2)
def odSilent (x : Node) : Node := (x.1, x.2.1, x.2.2.1, x.2.2.2.1, x.2.2.2.2.1, x.2.2.2.2.2.1, x.2.2.2.2.2.2.1, x.2.2.2.2.2.2.2.1, x.2.2.2.2.2.2.2.2.1, x.2.2.2.2.2.2.2.2.2.1, x.2.2.2.2.2.2.2.2.2.2.1, true, x.2.2.2.2.2.2.2.2.2.2.2.2)
def odLimit (x : Node) (b : Int × Int) : Node := (x.1, x.2.1, x.2.2.1, x.2.2.2.1, x.2.2.2.2.1, x.2.2.2.2.2.1, x.2.2.2.2.2.2.1, x.2.2.2.2.2.2.2.1, x.2.2.2.2.2.2.2.2.1, x.2.2.2.2.2.2.2.2.2.1, b, x.2.2.2.2.2.2.2.2.2.2.2)
def odOpaque (x : Node) (b : Bool) : Node := (x.1, x.2.1, x.2.2.1, x.2.2.2.1, x.2.2.2.2.1, x.2.2.2.2.2.1, x.2.2.2.2.2.2.1, x.2.2.2.2.2.2.2.1, x.2.2.2.2.2.2.2.2.1, x.2.2.2.2.2.2.2.2.2.1, x.2.2.2.2.2.2.2.2.2.2.1, x.2.2.2.2.2.2.2.2.2.2.2.1, b, x.2.2.2.2.2.2.2.2.2.2.2.2.2)
def odSource (x : Node) (s : Int) : Node := (x.1, x.2.1, x.2.2.1, x.2.2.2.1, x.2.2.2.2.1, s, x.2.2.2.2.2.2)
def odLoop (x : Node) (a s : Int) : Node := (x.1, a, x.2.2.1, x.2.2.2.1, x.2.2.2.2.1, s, x.2.2.2.2.2.2)
def odFixed (x : Node) (a s : Int) : Node := (x.1, x.2.1, x.2.2.1, x.2.2.2.1, x.2.2.2.2.1, s, a, x.2.2.2.2.2.2.2)
def odIds (x : Node) (i b s : Int) : Node := (x.1, x.2.1, x.2.2.1, x.2.2.2.1, x.2.2.2.2.1, x.2.2.2.2.2.1, x.2.2.2.2.2.2.1, i, b, s, x.2.2.2.2.2.2.2.2.2.2)
def odWay (x : Node) (i : Int) (c : Codes) : Node × Codes :=
  let a := nextV c 10
  if a.1 = 1 then (odSilent x, a.2)
  else if a.1 = 2 then (odLimit x (1 + (nextV a.2 3).1, 1 + (nextV (nextV a.2 3).2 200).1), (nextV (nextV a.2 3).2 200).2)
  else if a.1 = 3 then (odOpaque x (!nHost x && decide (i % 2 = 1)), a.2)
  else if a.1 = 4 then (odSource x 2, a.2)
  else if a.1 = 5 then (odLoop x (167903232 + i) 3, a.2)
  else if a.1 = 6 then (odFixed x (167837696 + (nextV a.2 40).1) 4, (nextV a.2 40).2)
  else (x, a.2)
def odNode (x : Node) (i : Int) (c : Codes) : Node × Codes :=
  let y := odWay x i c
  (odIds y.1 (nextV y.2 6).1 (nextV (nextV y.2 6).2 65536).1 (nextV (nextV (nextV y.2 6).2 65536).2 1000).1, (nextV (nextV (nextV y.2 6).2 65536).2 1000).2)
def odNodes (s : List Node × Codes) (i : Nat) : List Node × Codes := (s.1.set i (odNode (s.1.getD i default) i s.2).1, (odNode (s.1.getD i default) i s.2).2)
def odLink (l : Link) (c : Codes) : Link × Codes :=
  let a := nextV c 6
  if a.1 = 1 then ((l.1, l.2.1, l.2.2.1, (nextV a.2 10).1, l.2.2.2.2), (nextV a.2 10).2)
  else if a.1 = 2 then ((l.1, l.2.1, l.2.2.1, l.2.2.2.1, ([65536, 20000, 3] : List Int).getD (nextV a.2 3).1.toNat default, l.2.2.2.2.2), (nextV a.2 3).2)
  else (l, a.2)
def odClear (ns : List Node) (l : Link) : List Node :=
  if nOpaque (ns.getD (lA l).toNat default) = true ∧ nOpaque (ns.getD (lB l).toNat default) = true then ns.set (lB l).toNat (odOpaque (ns.getD (lB l).toNat default) false) else ns
def odLinks (s : (List Node × List Link) × Codes) (i : Nat) : (List Node × List Link) × Codes :=
  let r := odLink (s.1.2.getD i default) s.2
  ((odClear s.1.1 r.1, s.1.2.set i r.1), r.2)
def odChange (ns : List Node) (s : List Change × Int × Codes) : List Change × Int × Codes :=
  let a := nextV s.2.2 60
  let at' := s.2.1 + a.1
  let w := nextV a.2 ns.length
  let x := ns.getD w.1.toNat default
  if (nRoutes x).length = 0 then (s.1, at', w.2)
  else
    let r := nextV w.2 (nRoutes x).length
    let p := nextV r.2 (nPorts x).length
    let z := nextV p.2 4
    let rt := (nRoutes x).getD r.1.toNat default
    (s.1 ++ [(at', w.1, false, (rt.1, if z.1 = 3 then [] else [((nPorts x).getD p.1.toNat default).2], rt.2.2))], at', z.2)
def oddS (s : Scene) : Scene :=
  let n := (List.range s.1.1.length).foldl odNodes (s.1.1, s.2)
  let l := (List.range s.1.2.1.length).foldl odLinks ((n.1, s.1.2.1), n.2)
  let k := nextV l.2 4
  let h := (List.range k.1.toNat).foldl (fun s _ => odChange l.1.1 s) ([], 0, k.2)
  ((l.1.1, l.1.2, h.1), h.2.2)
def chainS (s : Scene) (k : Nat) : Scene := linkS (nodeS s false) k (k + 1)
def shortS (n : Int) (s : Scene) : Scene :=
  let a := nextV s.2 n
  let b := nextV a.2 n
  if a.1 = b.1 then (s.1, b.2) else linkS (s.1, b.2) (1 + a.1) (1 + b.1)
def lineS (c : Codes) : Int × Scene :=
  let a := nodeS (([], [], []), c) true
  let m := nextV a.2 5
  let s := (List.range (1 + m.1).toNat).foldl chainS (a.1, m.2)
  (1 + m.1, linkS (nodeS s true) (1 + m.1) (1 + m.1 + 1))
def moreS (plain : Bool) (n : Int) (s : Scene) : Scene :=
  let k := nextV s.2 4
  let s1 := if 1 < n ∧ plain = false then (List.range k.1.toNat).foldl (fun s _ => shortS n s) (s.1, k.2) else (s.1, k.2)
  if plain = true ∧ 2 < n then
    if (nextV s1.2 2).1 = 1 then linkS (s1.1, (nextV (nextV s1.2 2).2 (n - 1)).2) (1 + (nextV (nextV s1.2 2).2 (n - 1)).1) n else (s1.1, (nextV s1.2 2).2)
  else s1
def netS (plain : Bool) (c : Codes) : Scene :=
  let s := routesS (moreS plain (lineS c).1 (lineS c).2) plain
  if plain then s else oddS s
def netV (plain : Bool) (c : Codes) : Net := (netS plain c).1
def netC (plain : Bool) (c : Codes) : Codes := (netS plain c).2
end Go.RS


/- Topo: networks: their errors and their parts. -/
namespace Go.RS
open Go.SX Go.Proofs
set_option maxRecDepth 100000
set_option linter.unusedVariables false

def adrs (x : Node) : List Int := pAddrs x ++ (if nLoop x = 0 then [] else [nLoop x])
def ct_topology_within : Ct := ⟨[.val cI, .val cI, .val cI], [.val .bool], fun _ => [], fun d => ((decide (d.2.1 ≤ d.1 ∧ d.1 ≤ d.2.2.1), ()), ())⟩
def an_topology_within : PDs ct_topology_within.ps → Anns := (fun _ => {})
theorem vc_topology_within : ∀ (x x1 x2 : Int), R64 x /\ R64 x1 /\ R64 x2 /\ True -> True -> ∀ (b : Bool), b = decide (x1 <= x) -> (b -> (b -> b) /\ (b -> b) /\ True) /\ (b -> b) /\ (bif b then decide (x <= x2) else false) = decide (x1 <= x /\ x <= x2) := by
  rintro a b c - -
  (repeat (intro (b_ : Bool) (hb_ : b_ = _); (repeat refine ⟨(by first | (simp; done) | (rw [hb_]; simp; done) | (rw [hb_]; simp; omega) | (rw [hb_]; simp; intros; omega) | (rw [hb_]; simp +contextual; done)), ?_⟩); subst hb_))
  by_cases h1 : b ≤ a <;> by_cases h2 : a ≤ c <;> simp [h1, h2]
theorem ok_topology_within : SpecOK Tryz.prog GL 74 ct_topology_within.spec := Ct.okH _ Tryz.func74 (by kernel_rfl) noSpecs_ok hmix an_topology_within (hideMp (by kernel_rfl) vc_topology_within)

def otherV (ls : List Link) (k x : Int) : Int := if k < 0 ∨ (ls.length : Int) ≤ k then -1 else if x = lA (ls.getD k.toNat default) then lB (ls.getD k.toNat default) else if x = lB (ls.getD k.toNat default) then lA (ls.getD k.toNat default) else -1
def ct_topology_Other : Ct := ⟨[.agg cNet, .val cI, .val cI], [.val cI], fun _ => [], fun d => ((otherV d.1.2.1 d.2.1 d.2.2.1, ()), ())⟩
def an_topology_Other : PDs ct_topology_Other.ps → Anns := (fun _ => {})
theorem vc_topology_Other : ∀ (x : List Node) (x1 : List Link) (x2 : List Change) (x3 x4 : Int), ((x.length <= maxLen /\ ∀ (x5 : Node), x5 ∈ x -> CT.wf cNode x5) /\ (x1.length <= maxLen /\ ∀ (x : Link), x ∈ x1 -> CT.wf cLink x) /\ x2.length <= maxLen /\ ∀ (x : Change), x ∈ x2 -> CT.wf cChange x) /\ R64 x3 /\ R64 x4 /\ True -> True -> ifP (!decide (0 <= x3 /\ x3 <= IntKind.wrap .i64 ((x1.length : Int) - (1 : Int)))) ((-1 : Int) = otherV x1 x3 x4) (0 <= x3 /\ x3 < (x1.length : Int) /\ ifP (decide (x4 = (x1.getD x3.toNat default).1)) ((x1.getD x3.toNat default).2.1 = otherV x1 x3 x4) (ifP (decide (x4 = (x1.getD x3.toNat default).2.1)) ((x1.getD x3.toNat default).1 = otherV x1 x3 x4) ((-1 : Int) = otherV x1 x3 x4))) := by
  rintro ns ls hs k x ⟨⟨-, ⟨hl, -⟩, -⟩, -⟩ -
  simp only [maxLen] at hl
  rw [w64 (n := (ls.length : Int) - 1) (by omega) (by omega)]
  unfold otherV lA lB
  refine ifP_split (fun h => ?_) (fun h => ?_)
  · have h := nd_t h
    rw [if_pos (by omega)]
  have h := nd_f h
  rw [if_neg (by omega)]
  refine ⟨h.1, by omega, ifP_split (fun h1 => ?_) (fun h1 => ?_)⟩
  · rw [if_pos (of_decide_eq_true h1)]
  rw [if_neg (of_decide_eq_false h1)]
  refine ifP_split (fun h2 => ?_) (fun h2 => ?_)
  · rw [if_pos (of_decide_eq_true h2)]
  · rw [if_neg (of_decide_eq_false h2)]
theorem ok_topology_Other : SpecOK Tryz.prog GL 39 ct_topology_Other.spec := Ct.okH _ Tryz.func39 (by kernel_rfl) (withSpec_ok noSpecs_ok ok_topology_within) hmix an_topology_Other (hideMp (by kernel_rfl) vc_topology_Other)
def deafL (ns : List Node) (l : Link) : Bool := nOpaque (ns.getD (lA l).toNat default) && nOpaque (ns.getD (lB l).toNat default)
def loose (n : Net) (k : Nat) : Bool := decide (portL (n.1.getD (lA (n.2.1.getD k default)).toNat default) k < 0) || decide (portL (n.1.getD (lB (n.2.1.getD k default)).toNat default) k < 0)
end Go.RS


/- Topod: what the errors of networks, their parts and their routes at a time are: plain. -/
namespace Go.RS
open Go.SX Go.Proofs
set_option maxRecDepth 100000
set_option linter.unusedVariables false

def hAt (c : Change) : Int := c.1
def hWho (c : Change) : Int := c.2.1
def hRem (c : Change) : Bool := c.2.2.1
def hRoute (c : Change) : Rt := c.2.2.2
def chV (l : List Rt) (c : Change) : List Rt := if hRem c = true then removeL l (hRoute c).1 else putL l (hRoute c)
theorem getD_memN {α : Type} [Inhabited α] {xs : List α} {i : Nat} (h : i < xs.length) : xs.getD i default ∈ xs := by
  have := getD_mem (xs := xs) (i := (i : Nat)) (by omega) (by omega)
  simpa using this
structure okNet (n : Net) : Prop where
  t : ∀ x ∈ n.1, sortedR (nRoutes x) ∧ (nRoutes x).length ≤ 1000 ∧ ∀ r ∈ nRoutes x, (r.2.1.length : Int) ≤ 1099511627776
  c : n.2.2.length ≤ 1000
  s : ∀ c ∈ n.2.2, ((hRoute c).2.1.length : Int) ≤ 1099511627776
def stepC (who at' : Int) (l : List Rt) (c : Change) : List Rt := if hWho c = who ∧ hAt c ≤ at' then chV l c else l
def routesK (n : Net) (who at' : Int) (k : Int) : List Rt := (n.2.2.take k.toNat).foldl (stepC who at') (nRoutes (n.1.getD who.toNat default))
def routesV (n : Net) (who at' : Int) : List Rt := if who < 0 ∨ (n.1.length : Int) ≤ who then [] else routesK n who at' n.2.2.length
structure okTb (m : Nat) (l : List Rt) : Prop where
  s : sortedR l
  n : l.length ≤ m
  x : ∀ r ∈ l, (r.2.1.length : Int) ≤ 1099511627776
theorem okTb.okL {m : Nat} {l : List Rt} (h : okTb m l) (hm : m ≤ 100000) : okL l := ⟨by have := h.n; omega, h.x⟩
theorem okTb.ch {m : Nat} {l : List Rt} (h : okTb m l) {c : Change} (hc : ((hRoute c).2.1.length : Int) ≤ 1099511627776) : okTb (m + 1) (chV l c) := by
  unfold chV
  split
  · refine ⟨List.Pairwise.filter _ h.s, ?_, fun r hr => h.x r (List.mem_filter.1 hr).1⟩
    have := removeL_le l (hRoute c).1
    have := h.n
    omega
  · refine ⟨putL_sorted h.s, ?_, fun r hr => ?_⟩
    · have := putL_len l (hRoute c)
      have := h.n
      omega
    · rcases putL_mem.1 hr with rfl | ⟨hr, -⟩
      · exact hc
      · exact h.x r hr
theorem routesK_next {n : Net} {who at' k : Int} (k0 : 0 ≤ k) (k1 : k < n.2.2.length) : routesK n who at' (k + 1) = stepC who at' (routesK n who at' k) (n.2.2.getD k.toNat default) := by
  unfold routesK
  rw [take_step k0 k1, List.foldl_append]; rfl
theorem routesK_ok {n : Net} (h : okNet n) {who at' : Int} (w0 : 0 ≤ who) (w1 : who < n.1.length) : ∀ k : Nat, k ≤ n.2.2.length → okTb (1000 + k) (routesK n who at' k)
  | 0, _ => by
    have := h.t _ (getD_mem w0 w1)
    exact ⟨this.1, this.2.1, this.2.2⟩
  | k + 1, hk => by
    have i := routesK_ok h (at' := at') w0 w1 k (by omega)
    rw [show ((k + 1 : Nat) : Int) = (k : Int) + 1 by omega, routesK_next (by omega) (by omega)]
    unfold stepC
    split
    · have := i.ch (c := n.2.2.getD (k : Int).toNat default) (h.s _ (getD_mem (by omega) (by omega)))
      exact this
    · exact ⟨i.s, by have := i.n; omega, i.x⟩
theorem routesV_ok {n : Net} (h : okNet n) (who at' : Int) : okTb 2000 (routesV n who at') := by
  unfold routesV
  split
  · exact ⟨List.Pairwise.nil, by simp, fun r hr => by cases hr⟩
  · have := routesK_ok h (who := who) (at' := at') (by omega) (by omega) n.2.2.length (Nat.le_refl _)
    have hc := h.c
    exact ⟨this.s, by have := this.n; omega, this.x⟩
def findI (ns : List Node) (a : Int) : Nat := ns.findIdx fun x => ownsA x a
def findB (n : Net) (a : Int) : Bool := decide (findI n.1 a < n.1.length)
def findV (n : Net) (a : Int) : Int := if findI n.1 a < n.1.length then (findI n.1 a : Int) else 0
def between (s t : Int) (c : Change) : Bool := decide (s < hAt c ∧ hAt c ≤ t)
end Go.RS

