/- Law09: the laws of forwarding tables. -/
import Derived.Test.YtnpjmdldhdhdkaaFib
namespace Go.RS
open Go.SX Go.Proofs
set_option maxRecDepth 100000
set_option linter.unusedVariables false

def six : List Int := [0, 1, 2, 3, 4, 5]
def okRt (r : Rt) : Prop := pValid r.1 = true ∧ rightR r six
def okTab (l : List Rt) : Prop := sortedR l ∧ l.length ≤ 8 ∧ ∀ r ∈ l, okRt r
theorem nextOK_of {l links : List Int} (h0 : l.length ≤ 16) (h1 : l.Pairwise (· < ·)) (h2 : ∀ x ∈ l, x ∈ links) : nextOK l links := by
  refine ⟨h0, fun j hj => ⟨fun hp => ?_, ?_⟩⟩
  · rw [List.getD_eq_getElem?_getD, List.getElem?_eq_getElem (by omega), Option.getD_some, List.getD_eq_getElem?_getD, List.getElem?_eq_getElem hj, Option.getD_some]
    exact List.pairwise_iff_getElem.1 h1 (j - 1) j (by omega) hj (by omega)
  · rw [List.getD_eq_getElem?_getD, List.getElem?_eq_getElem hj, Option.getD_some]
    exact h2 _ (List.getElem_mem hj)
theorem putL_mem {l : List Rt} {r z : Rt} : z ∈ putL l r ↔ z = r ∨ (z ∈ l ∧ z.1 ≠ r.1) := by
  unfold putL
  simp only [List.mem_append, List.mem_cons, List.mem_filter, decide_eq_true_eq]
  constructor
  · rintro (⟨h, k⟩ | h | ⟨h, k⟩)
    · exact .inr ⟨h, fun e => plt_irrefl _ (e ▸ k)⟩
    · exact .inl h
    · exact .inr ⟨h, fun e => plt_irrefl _ (e ▸ k)⟩
  · rintro (h | ⟨h, k⟩)
    · exact .inr (.inl h)
    · by_cases hp : plt z.1 r.1
      · exact .inl ⟨h, hp⟩
      · rcases plt_total hp with e | e
        · exact absurd e k
        · exact .inr (.inr ⟨h, e⟩)
theorem putL_sorted {l : List Rt} {r : Rt} (hs : sortedR l) : sortedR (putL l r) := by
  unfold sortedR putL
  refine List.pairwise_append.2 ⟨List.Pairwise.filter _ hs, List.pairwise_cons.2 ⟨fun z hz => ?_, List.Pairwise.filter _ hs⟩, fun x hx y hy => ?_⟩
  · simpa using (List.mem_filter.1 hz).2
  · have hx : plt x.1 r.1 := by simpa using (List.mem_filter.1 hx).2
    rcases List.mem_cons.1 hy with rfl | hy
    · exact hx
    · exact plt_trans hx (by simpa using (List.mem_filter.1 hy).2)
theorem putL_len (l : List Rt) (r : Rt) : (putL l r).length ≤ l.length + 1 := by
  unfold putL
  rw [List.length_append, List.length_cons]
  suffices h : (l.filter (fun a => decide (plt a.1 r.1))).length + (l.filter (fun a => decide (plt r.1 a.1))).length ≤ l.length by omega
  induction l with
  | nil => simp
  | cons a l ih =>
    simp only [List.filter_cons]
    by_cases h1 : plt a.1 r.1
    · have h2 := plt_asymm h1
      simp only [h1, h2, decide_true, decide_false, if_true, List.length_cons]
      simp; omega
    · by_cases h2 : plt r.1 a.1
      · simp [h1, h2]; omega
      · simp [h1, h2]; omega
theorem okRt_next {r : Rt} (h : okRt r) : (r.2.1.length : Int) ≤ 1099511627776 := by have := h.2.1.1; omega
theorem okTab_okL {l : List Rt} (h : okTab l) : okL l := ⟨by have := h.2.1; omega, fun y hy => okRt_next (h.2.2 y hy)⟩
theorem okTab_put {l : List Rt} {r : Rt} (h : okTab l) (hr : okRt r) (hl : l.length < 8) : okTab (putL l r) := by
  refine ⟨putL_sorted h.1, by have := putL_len l r; omega, fun z hz => ?_⟩
  rcases putL_mem.1 hz with rfl | ⟨hz, -⟩
  · exact hr
  · exact h.2.2 z hz
theorem okRt_inh : okRt ((0, 0), [], 1) := ⟨by decide, by decide⟩
def ct_law09_route : Cn := ⟨[.box 94 cCodes], [.agg cRt], fun d => [okC d.1], fun d y => okRt y.1.1 ∧ okC y.2.1, fun d h => ⟨((((0, 0), [], 1), ()), (d.1, ())), okRt_inh, h.1⟩⟩
def an_law09_route : PDs ct_law09_route.ps → Anns := (fun d => { loops := (fun n => match n with | 3 => some (fun S => { ι := Int × (List Int) × (List Int × Int) × Int × Int × Int, qn := ⟨fun k_ => ∀ (i : Int) (ns : (List Int)) (cs : (List Int × Int)) (a : Int) (n : Int) (b : Int), k_ (i, ns, cs, a, n, b), fun k_ h_ i => h_ i.1 i.2.1 i.2.2.1 i.2.2.2.1 i.2.2.2.2.1 i.2.2.2.2.2, fun k_ => ∃ (i : Int) (ns : (List Int)) (cs : (List Int × Int)) (a : Int) (n : Int) (b : Int), k_ (i, ns, cs, a, n, b), fun k_ ⟨i, ns, cs, a, n, b, h_⟩ => ⟨_, h_⟩⟩, μ := fun i => (6 - i.1).toNat, inv := fun i => okC i.2.2.1 ∧ 0 ≤ i.1 ∧ i.1 ≤ 6 ∧ (i.2.1.length : Int) ≤ i.1 ∧ i.2.1.Pairwise (· < ·) ∧ (∀ x ∈ i.2.1, 0 ≤ x ∧ x < i.1) ∧ pValid (i.2.2.2.1, i.2.2.2.2.1) = true ∧ 1 ≤ i.2.2.2.2.2 ∧ i.2.2.2.2.2 ≤ 3, keep := [0, 2, 3], slots := fun i => [(4, .int .i64 i.1)], keepN := [48], names := fun i => [(1048576, .live (.cells 94 (flat cCodes i.2.2.1))), (64, .live (.cells 36 [.int .u32 i.2.2.2.1, .int .i64 i.2.2.2.2.1, .own 524288 1, .int .i64 i.2.2.2.2.2])), (524288, .live (.row 3 cI i.2.1))] }) | _ => none) })
theorem vc_law09_route :
    ∀ (x : List Int) (x_1 : Int), ((List.length x ≤ maxLen ∧ ∀ (x_2 : Int), x_2 ∈ x → (0 : Int) ≤ x_2 ∧ x_2 ≤ (255 : Int)) ∧ (-9223372036854775808 : Int) ≤ x_1 ∧ x_1 ≤ (9223372036854775807 : Int)) ∧ True
     → (0 : Int) ≤ x_1 ∧ x_1 ≤ (↑(List.length x) : Int) → okC (x, x_1) ∧ ∀ (x x_2 : Int) (x_3 : List Int) (x_4 : Int), okC (x_3, x_4) ∧ pValid (x, x_2) = true → okC (x_3, x_4) ∧ ∀ (x_5 : Int) (x_6 : List
     Int) (x_7 : Int), (0 : Int) ≤ x_5 ∧ (x_5 < (3 : Int) ∨ x_5 = (0 : Int)) ∧ okC (x_6, x_7) → (∃ (i : Int), ∃ (ns : List Int), ∃ (cs : List Int × Int), ∃ (a : Int), ∃ (n : Int), ∃ (b : Int), (okC cs ∧ (0
     : Int) ≤ i ∧ i ≤ (6 : Int) ∧ (↑(List.length ns) : Int) ≤ i ∧ List.Pairwise (fun (x1 x2 : Int) => x1 < x2) ns ∧ (∀ (x : Int), x ∈ ns → (0 : Int) ≤ x ∧ x < i) ∧ pValid (a, n) = true ∧ (1 : Int) ≤ b ∧ b ≤
     (3 : Int)) ∧ (0 : Int) = i ∧ (0 : Int) = (0 : Int) ∧ (0 : Int) = (0 : Int) ∧ (0 : Int) = (0 : Int) ∧ x_6 = cs.1 ∧ x_7 = cs.2 ∧ x = a ∧ x_2 = n ∧ IntKind.wrap IntKind.i64 ((1 : Int) + x_5) = b ∧ ns =
     ([] : List Int) ∧ True) ∧ ∀ (i : Int) (ns : List Int) (cs : List Int × Int) (a n b : Int), okC cs ∧ (0 : Int) ≤ i ∧ i ≤ (6 : Int) ∧ (↑(List.length ns) : Int) ≤ i ∧ List.Pairwise (fun (x1 x2 : Int) =>
     x1 < x2) ns ∧ (∀ (x : Int), x ∈ ns → (0 : Int) ≤ x ∧ x < i) ∧ pValid (a, n) = true ∧ (1 : Int) ≤ b ∧ b ≤ (3 : Int) → ifP (decide (i < (6 : Int))) (okC cs ∧ ∀ (x : Int) (x_8 : List Int) (x_9 : Int), (0
     : Int) ≤ x ∧ (x < (3 : Int) ∨ x = (0 : Int)) ∧ okC (x_8, x_9) → ifP (decide (x = (0 : Int))) ((List.length ns + List.length [i]) * (8 : Nat) ≤ (140737488355328 : Nat) ∧ ∃ (i_1 : Int), ∃ (ns_1 : List
     Int), ∃ (cs : List Int × Int), ∃ (a_3 : Int), ∃ (n_1 : Int), ∃ (b_1 : Int), (okC cs ∧ (0 : Int) ≤ i_1 ∧ i_1 ≤ (6 : Int) ∧ (↑(List.length ns_1) : Int) ≤ i_1 ∧ List.Pairwise (fun (x1 x2 : Int) => x1 <
     x2) ns_1 ∧ (∀ (x : Int), x ∈ ns_1 → (0 : Int) ≤ x ∧ x < i_1) ∧ pValid (a_3, n_1) = true ∧ (1 : Int) ≤ b_1 ∧ b_1 ≤ (3 : Int)) ∧ Int.toNat ((6 : Int) - i_1) < Int.toNat ((6 : Int) - i) ∧ IntKind.wrap
     IntKind.i64 (i + (1 : Int)) = i_1 ∧ (0 : Int) = (0 : Int) ∧ (0 : Int) = (0 : Int) ∧ (0 : Int) = (0 : Int) ∧ x_8 = cs.1 ∧ x_9 = cs.2 ∧ a = a_3 ∧ n = n_1 ∧ b = b_1 ∧ ns ++ [i] = ns_1 ∧ True) (∃ (i_1 :
     Int), ∃ (ns_1 : List Int), ∃ (cs : List Int × Int), ∃ (a_3 : Int), ∃ (n_1 : Int), ∃ (b_1 : Int), (okC cs ∧ (0 : Int) ≤ i_1 ∧ i_1 ≤ (6 : Int) ∧ (↑(List.length ns_1) : Int) ≤ i_1 ∧ List.Pairwise (fun
     (x1 x2 : Int) => x1 < x2) ns_1 ∧ (∀ (x : Int), x ∈ ns_1 → (0 : Int) ≤ x ∧ x < i_1) ∧ pValid (a_3, n_1) = true ∧ (1 : Int) ≤ b_1 ∧ b_1 ≤ (3 : Int)) ∧ Int.toNat ((6 : Int) - i_1) < Int.toNat ((6 : Int) -
     i) ∧ IntKind.wrap IntKind.i64 (i + (1 : Int)) = i_1 ∧ (0 : Int) = (0 : Int) ∧ (0 : Int) = (0 : Int) ∧ (0 : Int) = (0 : Int) ∧ x_8 = cs.1 ∧ x_9 = cs.2 ∧ a = a_3 ∧ n = n_1 ∧ b = b_1 ∧ ns = ns_1 ∧ True))
     (okRt ((a, n), ns, b) ∧ okC cs) := by
  rintro l p - h
  refine ⟨h, ?_⟩
  rintro a n l1 p1 ⟨h1, h2⟩
  refine ⟨h1, ?_⟩
  rintro b l2 p2 ⟨b1, b2, h3⟩
  rw [w64 (n := 1 + b) (by omega) (by omega)]
  refine ⟨⟨0, [], (l2, p2), a, n, 1 + b, ⟨h3, by omega, by omega, by simp, .nil, by simp, h2, by omega, by omega⟩, (by repeat' first | exact trivial | refine ⟨(by with_reducible rfl), ?_⟩ | refine ⟨w64 (by omega) (by omega), ?_⟩ | refine ⟨rfl, ?_⟩)⟩, ?_⟩
  rintro i ns cs a n b ⟨i1, i2, i3, i4, i5, i6, i7, i8, i9⟩
  refine ifP_split (fun hi => ?_) (fun hi => ?_)
  · have hi := of_decide_eq_true hi
    refine ⟨i1, ?_⟩
    rintro x l3 p3 ⟨x1, x2, h4⟩
    refine ifP_split (fun hx => ?_) (fun hx => ?_)
    · refine ⟨by simp only [List.length_singleton]; omega, i + 1, ns ++ [i], (l3, p3), a, n, b, ⟨h4, by omega, by omega, by simp only [List.length_append, List.length_singleton]; omega, ?_, ?_, i7, i8, i9⟩, by omega, w64 (by omega) (by omega), (by repeat' first | exact trivial | refine ⟨(by with_reducible rfl), ?_⟩ | refine ⟨w64 (by omega) (by omega), ?_⟩ | refine ⟨rfl, ?_⟩)⟩
      · refine List.pairwise_append.2 ⟨i5, by simp, fun u hu v hv => ?_⟩
        rw [List.mem_singleton.1 hv]; exact (i6 u hu).2
      · intro u hu
        rcases List.mem_append.1 hu with hu | hu
        · have := i6 u hu; omega
        · rw [List.mem_singleton.1 hu]; omega
    · refine ⟨i + 1, ns, (l3, p3), a, n, b, ⟨h4, by omega, by omega, by omega, i5, fun u hu => by have := i6 u hu; omega, i7, i8, i9⟩, by omega, w64 (by omega) (by omega), (by repeat' first | exact trivial | refine ⟨(by with_reducible rfl), ?_⟩ | refine ⟨w64 (by omega) (by omega), ?_⟩ | refine ⟨rfl, ?_⟩)⟩
  · refine ⟨⟨i7, nextOK_of (by show ns.length ≤ 16; omega) i5 (fun u hu => ?_), i8, i9⟩, i1⟩
    have := i6 u hu
    simp only [six, List.mem_cons, List.not_mem_nil]
    omega
theorem ok_law09_route : SpecOK Try.prog 37 ct_law09_route.spec := Cn.ok' _ Try.func37 (by kernel_rfl) (withSpec_ok (withSpec_ok noSpecs_ok ok_Next) ok_draw_Codes_Prefix) hmix an_law09_route (Eq.mpr (by kernel_rfl) vc_law09_route)

def ct_law09_table : Cn := ⟨[.box 94 cCodes], [.own 36 cRt], fun d => [okC d.1], fun d y => okTab y.1.1 ∧ okC y.2.1, fun d h => ⟨(([], ()), (d.1, ())), ⟨List.Pairwise.nil, by simp, by simp⟩, h.1⟩⟩
def an_law09_table : PDs ct_law09_table.ps → Anns := (fun d => { loops := (fun n => match n with | 3 => some (fun S => { ι := Int × (List Rt) × (List Int × Int), qn := ⟨fun k_ => ∀ (k : Int) (l : (List Rt)) (cs : (List Int × Int)), k_ (k, l, cs), fun k_ h_ i => h_ i.1 i.2.1 i.2.2, fun k_ => ∃ (k : Int) (l : (List Rt)) (cs : (List Int × Int)), k_ (k, l, cs), fun k_ ⟨k, l, cs, h_⟩ => ⟨_, h_⟩⟩, μ := fun i => i.1.toNat, inv := fun i => okC i.2.2 ∧ 0 ≤ i.1 ∧ i.2.1.length + i.1 ≤ 8 ∧ okTab i.2.1, keep := [0], slots := fun i => [(3, .own 524288 4), (4, .int .i64 i.1)], names := fun i => [(1048576, .live (.cells 94 (flat cCodes i.2.2))), (524288, .live (.row 36 cRt i.2.1))] }) | _ => none) })
theorem vc_law09_table :
    ∀ (x : List Int) (x_1 : Int), ((List.length x ≤ maxLen ∧ ∀ (x_2 : Int), x_2 ∈ x → (0 : Int) ≤ x_2 ∧ x_2 ≤ (255 : Int)) ∧ (-9223372036854775808 : Int) ≤ x_1 ∧ x_1 ≤ (9223372036854775807 : Int)) ∧ True
     → (0 : Int) ≤ x_1 ∧ x_1 ≤ (↑(List.length x) : Int) → okC (x, x_1) ∧ ∀ (x : Int) (x_2 : List Int) (x_3 : Int), (0 : Int) ≤ x ∧ (x < (9 : Int) ∨ x = (0 : Int)) ∧ okC (x_2, x_3) → (∃ (k : Int), ∃ (l :
     List Rt), ∃ (cs : List Int × Int), (okC cs ∧ (0 : Int) ≤ k ∧ (↑(List.length l) : Int) + k ≤ (8 : Int) ∧ okTab l) ∧ x = k ∧ x_2 = cs.1 ∧ x_3 = cs.2 ∧ l = ([] : List ((Int × Int) × List Int × Int)) ∧
     True) ∧ ∀ (k : Int) (l : List Rt) (cs : List Int × Int), okC cs ∧ (0 : Int) ≤ k ∧ (↑(List.length l) : Int) + k ≤ (8 : Int) ∧ okTab l → ifP (decide ((0 : Int) < k)) (okC cs ∧ ∀ (x x_4 : Int) (x_5 :
     List Int) (x_6 : Int) (x_7 : List Int) (x_8 : Int), okRt ((x, x_4), x_5, x_6) ∧ okC (x_7, x_8) → sortedR l ∧ okL l ∧ (↑(List.length x_5) : Int) ≤ (1099511627776 : Int) ∧ ∃ (k_1 : Int), ∃ (l_1 : List
     Rt), ∃ (cs : List Int × Int), (okC cs ∧ (0 : Int) ≤ k_1 ∧ (↑(List.length l_1) : Int) + k_1 ≤ (8 : Int) ∧ okTab l_1) ∧ Int.toNat k_1 < Int.toNat k ∧ IntKind.wrap IntKind.i64 (k - (1 : Int)) = k_1 ∧ x_7
     = cs.1 ∧ x_8 = cs.2 ∧ putL l ((x, x_4), x_5, x_6) = l_1 ∧ True) (okTab l ∧ okC cs) := by
  rintro l p - h
  refine ⟨h, ?_⟩
  rintro k l1 p1 ⟨h1, h2, h3⟩
  refine ⟨⟨k, [], (l1, p1), ⟨h3, h1, by simp only [List.length_nil]; omega, List.Pairwise.nil, by simp, by simp⟩, (by repeat' first | exact trivial | refine ⟨(by with_reducible rfl), ?_⟩ | refine ⟨w64 (by omega) (by omega), ?_⟩ | refine ⟨rfl, ?_⟩)⟩, ?_⟩
  rintro k l cs ⟨i1, i2, i3, i4⟩
  refine ifP_split (fun hk => ?_) (fun hk => ?_)
  · have hk := of_decide_eq_true hk
    refine ⟨i1, ?_⟩
    rintro a n x b l2 p2 ⟨r1, r2⟩
    have := putL_len l ((a, n), x, b)
    exact ⟨i4.1, okTab_okL i4, okRt_next r1, k - 1, _, (l2, p2), ⟨r2, by omega, by omega, okTab_put i4 r1 (by omega)⟩, by omega, w64 (by omega) (by omega), (by repeat' first | exact trivial | refine ⟨(by with_reducible rfl), ?_⟩ | refine ⟨w64 (by omega) (by omega), ?_⟩ | refine ⟨rfl, ?_⟩)⟩
  · exact ⟨i4, i1⟩
theorem ok_law09_table : SpecOK Try.prog 14 ct_law09_table.spec := Cn.ok' _ Try.func14 (by kernel_rfl) (withSpec_ok (withSpec_ok (withSpec_ok noSpecs_ok ok_Next) ok_law09_route) ok_ref09_Put) hmix an_law09_table (Eq.mpr (by kernel_rfl) vc_law09_table)

def ct_law09_awake : Ct := ⟨[], [.val .bool], fun _ => [], fun _ => ((true, ()), ())⟩
def an_law09_awake : PDs ct_law09_awake.ps → Anns := (fun _ => {})
theorem vc_law09_awake :
    True → True → sortedR [(((167772160 : Int), (8 : Int)), [(1 : Int)], (1 : Int)), (((167837696 : Int), (16 : Int)), [(2 : Int)], (1 : Int))] ∧ okL [(((167772160 : Int), (8 : Int)), [(1 : Int)], (1 :
     Int)), (((167837696 : Int), (16 : Int)), [(2 : Int)], (1 : Int))] ∧ ∀ (b : Bool), b = lookB [(((167772160 : Int), (8 : Int)), [(1 : Int)], (1 : Int)), (((167837696 : Int), (16 : Int)), [(2 : Int)], (1
     : Int))] (167837701 : Int) → (b = true → (b = true → b = true) ∧ True) ∧ (b = true → (b = true → b = true) ∧ True) ∧ (b = true → (b = true → b = true) ∧ True) ∧ (b = true → b = true) ∧ ∀ (b_1 : Bool),
     (b_1 = bif b then decide ((↑(List.length (lookR [(((167772160 : Int), (8 : Int)), [(1 : Int)], (1 : Int)), (((167837696 : Int), (16 : Int)), [(2 : Int)], (1 : Int))] (167837701 : Int)).2.1) : Int) =
     (1 : Int)) else false) → (b_1 = true → (b_1 = true → b_1 = true) ∧ True) ∧ (b_1 = true → (b_1 = true → b_1 = true) ∧ (0 : Int) ≤ (0 : Int) ∧ (0 : Int) < (↑(List.length (lookR [(((167772160 : Int), (8
     : Int)), [(1 : Int)], (1 : Int)), (((167837696 : Int), (16 : Int)), [(2 : Int)], (1 : Int))] (167837701 : Int)).2.1) : Int) ∧ True) ∧ (b_1 = true → (b_1 = true → b_1 = true) ∧ True) ∧ (b_1 = true →
     (b_1 = true → b_1 = true) ∧ True) ∧ (b_1 = true → b_1 = true) ∧ (bif b_1 then decide (List.getD (lookR [(((167772160 : Int), (8 : Int)), [(1 : Int)], (1 : Int)), (((167837696 : Int), (16 : Int)), [(2
     : Int)], (1 : Int))] (167837701 : Int)).2.1 (Int.toNat (0 : Int)) default = (2 : Int)) else false) = true := by
  intro _ _
  refine ⟨by unfold sortedR; decide, by unfold okL; decide, ?_⟩
  intro b hb
  have hb : b = true := hb.trans (by decide +kernel)
  subst hb
  refine ⟨by simp, by simp, by simp, by simp, ?_⟩
  intro b hb
  have hb : b = true := hb.trans (by decide +kernel)
  subst hb
  exact ⟨by simp, fun _ => ⟨fun _ => rfl, by decide, by decide +kernel, trivial⟩, by simp, by simp, by simp, by decide +kernel⟩
theorem ok_law09_awake : SpecOK Try.prog 12 ct_law09_awake.spec := Ct.ok' _ Try.func12 (by kernel_rfl) (withSpec_ok noSpecs_ok ok_fib_Lookup) hmix an_law09_awake (Eq.mpr (by kernel_rfl) vc_law09_awake)
/-- What 'look' finds. -/
def lookIs (m : List Rt) (a : Int) : Option Rt → Prop
  | none => ∀ z ∈ m, contains z.1 a = false
  | some r => r ∈ m ∧ contains r.1 a = true ∧ ∀ z ∈ m, contains z.1 a = true → z.1.2 ≤ r.1.2
theorem look_aux (a : Int) (l : List Rt) : ∀ (m : List Rt) (s : Option Rt), lookIs m a s → lookIs (m ++ l) a (l.foldl (stepR a) s) := by
  induction l with
  | nil => intro m s h; simpa using h
  | cons e l ih =>
    intro m s h
    rw [List.foldl_cons, show m ++ e :: l = (m ++ [e]) ++ l from by simp]
    apply ih
    unfold stepR
    by_cases hc : contains e.1 a = true
    · rw [if_pos hc]
      cases s with
      | none =>
        refine ⟨by simp, hc, fun z hz hq => ?_⟩
        rcases List.mem_append.1 hz with hz | hz
        · rw [h z hz] at hq; cases hq
        · rw [List.mem_singleton.1 hz]; omega
      | some q =>
        obtain ⟨h1, h2, h3⟩ := h
        by_cases hl : q.1.2 < e.1.2
        · simp only [hl, if_true]
          refine ⟨by simp, hc, fun z hz hq => ?_⟩
          rcases List.mem_append.1 hz with hz | hz
          · have := h3 z hz hq; omega
          · rw [List.mem_singleton.1 hz]; omega
        · simp only [hl, if_false]
          refine ⟨List.mem_append_left _ h1, h2, fun z hz hq => ?_⟩
          rcases List.mem_append.1 hz with hz | hz
          · exact h3 z hz hq
          · rw [List.mem_singleton.1 hz]; omega
    · rw [if_neg hc]
      cases s with
      | none =>
        intro z hz
        rcases List.mem_append.1 hz with hz | hz
        · exact h z hz
        · rw [List.mem_singleton.1 hz]; simpa using hc
      | some q =>
        obtain ⟨h1, h2, h3⟩ := h
        refine ⟨List.mem_append_left _ h1, h2, fun z hz hq => ?_⟩
        rcases List.mem_append.1 hz with hz | hz
        · exact h3 z hz hq
        · rw [List.mem_singleton.1 hz] at hq; exact absurd hq hc
theorem look_is (l : List Rt) (a : Int) : lookIs l a (look l a) := look_aux a l [] none (by intro z hz; cases hz)
theorem lookB_iff (l : List Rt) (a : Int) : lookB l a = decide (∃ z ∈ l, contains z.1 a = true) := by
  have h := look_is l a
  unfold lookB
  cases hl : look l a with
  | none =>
    rw [hl] at h
    symm; apply decide_eq_false
    rintro ⟨z, hz, hq⟩; rw [h z hz] at hq; cases hq
  | some r =>
    rw [hl] at h
    symm; apply decide_eq_true
    exact ⟨r, h.1, h.2.1⟩
theorem lookR_is {l : List Rt} {a : Int} (hb : ∃ z ∈ l, contains z.1 a = true) : lookR l a ∈ l ∧ contains (lookR l a).1 a = true ∧ ∀ z ∈ l, contains z.1 a = true → z.1.2 ≤ (lookR l a).1.2 := by
  have h := look_is l a
  unfold lookR
  cases hl : look l a with
  | none =>
    rw [hl] at h
    obtain ⟨z, hz, hq⟩ := hb
    rw [h z hz] at hq; cases hq
  | some r => rw [hl] at h; exact h
theorem hasL_iff (l : List Rt) (p : Pfx) : hasL l p = decide (∃ z ∈ l, z.1 = p) := by
  unfold hasL removeL
  apply decide_eq_decide.2
  rw [List.length_filter_lt_length_iff_exists]
  simp
theorem removeL_split {l : List Rt} {p : Pfx} (hs : sortedR l) : removeL l p = l.filter (fun a => decide (plt a.1 p)) ++ l.filter (fun a => decide (plt p a.1)) := by
  obtain ⟨k, h0, h1, h2⟩ := place_ex l p
  obtain ⟨h2, h3⟩ := h2 hs
  by_cases hf : k < l.length ∧ (l.getD k.toNat default).1 = p
  · obtain ⟨e1, e2⟩ := place_found hs h0 hf.1 h2 hf.2
    rw [← e2, e1, place_take h2 h3]
  · obtain ⟨e1, e2⟩ := place_not hs h0 h2 h3 hf
    rw [← e2]
    conv => lhs; rw [← List.take_append_drop k.toNat l]
    rw [e1, place_take h2 h3]
theorem remove_put {l : List Rt} {r : Rt} (hs : sortedR l) : removeL (putL l r) r.1 = removeL l r.1 := by
  rw [removeL_split hs, putL, removeL, List.filter_append, List.filter_cons, if_neg (by simp)]
  congr 1
  · apply List.filter_eq_self.2
    intro z hz
    have := (List.mem_filter.1 hz).2
    simp only [decide_eq_true_eq] at this ⊢
    exact fun e => plt_irrefl _ (e ▸ this)
  · apply List.filter_eq_self.2
    intro z hz
    have := (List.mem_filter.1 hz).2
    simp only [decide_eq_true_eq] at this ⊢
    exact fun e => plt_irrefl _ (e ▸ this)
theorem removeL_not {l : List Rt} {p : Pfx} (h : hasL l p = false) : removeL l p = l := by
  rw [hasL_iff, decide_eq_false_iff_not] at h
  exact List.filter_eq_self.2 fun z hz => decide_eq_true fun e => h ⟨z, hz, e⟩
theorem removeL_has (l : List Rt) (p : Pfx) : hasL (removeL l p) p = false := by
  rw [hasL_iff, decide_eq_false_iff_not]
  rintro ⟨z, hz, e⟩
  have := (List.mem_filter.1 hz).2
  simp [e] at this
theorem sorted_ext : ∀ {a b : List Rt}, sortedR a → sortedR b → (∀ z, z ∈ a ↔ z ∈ b) → a = b
  | [], [], _, _, _ => rfl
  | [], y :: b, _, _, h => by have := (h y).2 List.mem_cons_self; cases this
  | x :: a, [], _, _, h => by have := (h x).1 List.mem_cons_self; cases this
  | x :: a, y :: b, ha, hb, h => by
    have ha := List.pairwise_cons.1 ha
    have hb := List.pairwise_cons.1 hb
    have e : x = y := by
      rcases List.mem_cons.1 ((h x).1 List.mem_cons_self) with e | h1
      · exact e
      · rcases List.mem_cons.1 ((h y).2 List.mem_cons_self) with e | h2
        · exact e.symm
        · exact absurd (ha.1 y h2) (plt_asymm (hb.1 x h1))
    subst e
    congr 1
    refine sorted_ext ha.2 hb.2 fun z => ⟨fun hz => ?_, fun hz => ?_⟩
    · rcases List.mem_cons.1 ((h z).1 (List.mem_cons_of_mem _ hz)) with e | h1
      · exact absurd (e ▸ ha.1 z hz) (plt_irrefl _)
      · exact h1
    · rcases List.mem_cons.1 ((h z).2 (List.mem_cons_of_mem _ hz)) with e | h1
      · exact absurd (e ▸ hb.1 z hz) (plt_irrefl _)
      · exact h1
theorem put_comm {l : List Rt} {r s : Rt} (hs : sortedR l) (h : r.1 ≠ s.1) : putL (putL l r) s = putL (putL l s) r := by
  refine sorted_ext (putL_sorted (putL_sorted hs)) (putL_sorted (putL_sorted hs)) fun z => ?_
  simp only [putL_mem]
  constructor
  · rintro (rfl | ⟨rfl | ⟨h1, h2⟩, h3⟩)
    · exact .inr ⟨.inl rfl, fun e => h e.symm⟩
    · exact .inl rfl
    · exact .inr ⟨.inr ⟨h1, h3⟩, h2⟩
  · rintro (rfl | ⟨rfl | ⟨h1, h2⟩, h3⟩)
    · exact .inr ⟨.inl rfl, h⟩
    · exact .inl rfl
    · exact .inr ⟨.inr ⟨h1, h3⟩, h2⟩
theorem chk_ok {links : List Int} : ∀ {l : List Rt} {q : Option Pfx}, sortedR l → (∀ r ∈ l, pValid r.1 = true ∧ rightR r links) → (∀ p, q = some p → ∀ r ∈ l, plt p r.1) → chk links q l = 0
  | [], q, _, _, _ => by rw [chk]
  | r :: l, q, hs, h1, h2 => by
    have hs := List.pairwise_cons.1 hs
    have hr := h1 r List.mem_cons_self
    rw [chk, if_neg (by simp [hr.1]), if_neg, if_neg (fun h => h hr.2)]
    · refine chk_ok hs.2 (fun z hz => h1 z (List.mem_cons_of_mem _ hz)) fun p hp z hz => ?_
      cases hp; exact hs.1 z hz
    · cases q with
      | none => simp
      | some p =>
        have := pcmp_neg.2 (h2 p rfl r List.mem_cons_self)
        simp; omega
theorem check_ok {l : List Rt} {links : List Int} (hs : sortedR l) (hl : l.length ≤ 64) (h : ∀ r ∈ l, pValid r.1 = true ∧ rightR r links) : check l links = 0 := by
  rw [check, if_neg (by omega)]
  exact chk_ok hs h (fun p hp => by cases hp)
theorem okC_new (l : List Int) : okC (if (l.length : Int) ≤ 200 then l else l.take (Int.toNat 200), 0) := by split <;> simp [okC]
theorem okL_put {l : List Rt} {r : Rt} (h : okTab l) (hr : okRt r) : okL (putL l r) := by
  refine ⟨by have := putL_len l r; have := h.2.1; omega, fun z hz => ?_⟩
  rcases putL_mem.1 hz with rfl | ⟨hz, -⟩
  · exact okRt_next hr
  · exact okRt_next (h.2.2 z hz)
def lpFibCodes : LPs := [(false, .sl cU8)]
def lpFibLongest : LPs := [(false, .sl cU8), (false, cU32)]
def lpFibExact : LPs := [(false, .sl cU8), (false, .sl cRt), (false, .sl cI), (false, cU32), (true, cPfx)]
def ct_law09_FibLongest : Ct := lawCt lpFibLongest
def an_law09_FibLongest : PDs ct_law09_FibLongest.ps → Anns := (fun d => { loops := (fun n => match n with | 10 => some (fun S => { ι := Int × Bool, qn := ⟨fun k_ => ∀ (i : Int) (f : Bool), k_ (i, f), fun k_ h_ i => h_ i.1 i.2, fun k_ => ∃ (i : Int) (f : Bool), k_ (i, f), fun k_ ⟨i, f, h_⟩ => ⟨_, h_⟩⟩, μ := fun i => ((S.r cRt 272).length - i.1).toNat, inv := fun i => 0 ≤ i.1 ∧ i.1 ≤ (S.r cRt 272).length ∧ i.2 = decide (∃ z ∈ (S.r cRt 272).take i.1.toNat, contains z.1 (S.i 1) = true), keep := [1, 6, 7, 8], slots := fun i => [(9, .bool i.2), (10, .int .i64 i.1)], keepN := [128, 272], names := fun i => [] }) | _ => none) })
theorem vc_law09_FibLongest :
    ∀ (x : List Int) (x_1 : Int), (List.length x ≤ maxLen ∧ ∀ (x_2 : Int), x_2 ∈ x → (0 : Int) ≤ x_2 ∧ x_2 ≤ (255 : Int)) ∧ ((0 : Int) ≤ x_1 ∧ x_1 ≤ (4294967295 : Int)) ∧ True → True → (0 : Int) ≤ (200 :
     Int) ∧ okC (if (↑(List.length x) : Int) ≤ (200 : Int) then x else List.take (Int.toNat (200 : Int)) x, (0 : Int)) ∧ ∀ (x : List ((Int × Int) × List Int × Int)) (x_2 : List Int) (x_3 : Int), okTab x ∧
     okC (x_2, x_3) → okC (x_2, x_3) ∧ ∀ (x_4 : Int) (x_5 : List Int) (x_6 : Int), (0 : Int) ≤ x_4 ∧ (x_4 < (2 : Int) ∨ x_4 = (0 : Int)) ∧ okC (x_5, x_6) → ifP (decide (x_4 = (1 : Int))) (okC (x_5, x_6) ∧
     ∀ (x_7 : Int) (x_8 : List Int) (x_9 : Int), okC (x_8, x_9) ∧ (0 : Int) ≤ x_7 ∧ x_7 ≤ (4294967295 : Int) → sortedR x ∧ okL x ∧ (∃ (i : Int), ∃ (f : Bool), ((0 : Int) ≤ i ∧ i ≤ (↑(List.length x) : Int)
     ∧ f = decide (∃ (z : (Int × Int) × List Int × Int), z ∈ List.take (Int.toNat i) x ∧ contains z.1 x_7 = true)) ∧ x_7 = x_7 ∧ lookB x x_7 = lookB x x_7 ∧ false = f ∧ (0 : Int) = i ∧ (lookR x x_7).1.1 =
     (lookR x x_7).1.1 ∧ (lookR x x_7).1.2 = (lookR x x_7).1.2 ∧ (lookR x x_7).2.1 = (lookR x x_7).2.1 ∧ (lookR x x_7).2.2 = (lookR x x_7).2.2 ∧ x = x ∧ True) ∧ ∀ (i : Int) (f : Bool), (0 : Int) ≤ i ∧ i ≤
     (↑(List.length x) : Int) ∧ f = decide (∃ (z : (Int × Int) × List Int × Int), z ∈ List.take (Int.toNat i) x ∧ contains z.1 x_7 = true) → ifP (decide (i < (↑(List.length x) : Int))) ((0 : Int) ≤ i ∧ i <
     (↑(List.length x) : Int) ∧ ifP (contains (List.getD x (Int.toNat i) default).1 x_7) ((0 : Int) ≤ i ∧ i < (↑(List.length x) : Int) ∧ ifP (decide ((lookR x x_7).1.2 < (List.getD x (Int.toNat i)
     default).1.2)) (false = true) (∃ (i_1 : Int), ∃ (f : Bool), ((0 : Int) ≤ i_1 ∧ i_1 ≤ (↑(List.length x) : Int) ∧ f = decide (∃ (z : (Int × Int) × List Int × Int), z ∈ List.take (Int.toNat i_1) x ∧
     contains z.1 x_7 = true)) ∧ Int.toNat ((↑(List.length x) : Int) - i_1) < Int.toNat ((↑(List.length x) : Int) - i) ∧ x_7 = x_7 ∧ lookB x x_7 = lookB x x_7 ∧ true = f ∧ IntKind.wrap IntKind.i64 (i + (1
     : Int)) = i_1 ∧ (lookR x x_7).1.1 = (lookR x x_7).1.1 ∧ (lookR x x_7).1.2 = (lookR x x_7).1.2 ∧ (lookR x x_7).2.1 = (lookR x x_7).2.1 ∧ (lookR x x_7).2.2 = (lookR x x_7).2.2 ∧ x = x ∧ True)) (∃ (i_1 :
     Int), ∃ (f_1 : Bool), ((0 : Int) ≤ i_1 ∧ i_1 ≤ (↑(List.length x) : Int) ∧ f_1 = decide (∃ (z : (Int × Int) × List Int × Int), z ∈ List.take (Int.toNat i_1) x ∧ contains z.1 x_7 = true)) ∧ Int.toNat
     ((↑(List.length x) : Int) - i_1) < Int.toNat ((↑(List.length x) : Int) - i) ∧ x_7 = x_7 ∧ lookB x x_7 = lookB x x_7 ∧ f = f_1 ∧ IntKind.wrap IntKind.i64 (i + (1 : Int)) = i_1 ∧ (lookR x x_7).1.1 =
     (lookR x x_7).1.1 ∧ (lookR x x_7).1.2 = (lookR x x_7).1.2 ∧ (lookR x x_7).2.1 = (lookR x x_7).2.1 ∧ (lookR x x_7).2.2 = (lookR x x_7).2.2 ∧ x = x ∧ True)) (∀ (b : Bool), b = (lookB x x_7 == f) → (b =
     true → (b = true → b = true) ∧ True) ∧ (b = true → (b = true → b = true) ∧ True) ∧ ∀ (b_1 : Bool), b_1 = !lookB x x_7 → ((b && !b_1) = true → ((b && !b_1) = true → (b && !b_1) = true) ∧ True) ∧ ((b &&
     !b_1) = true → ((b && !b_1) = true → (b && !b_1) = true) ∧ ((b && !b_1) = true → (b && !b_1) = true) ∧ True) ∧ ((b && !b_1) = true → ((b && !b_1) = true → (b && !b_1) = true) ∧ True) ∧ ∀ (b_2 : Bool),
     b_2 = contains (lookR x x_7).1 x_7 → ((b && !b_1 && b_2) = true → ((b && !b_1 && b_2) = true → (b && !b_1 && b_2) = true) ∧ True) ∧ ((b && !b_1 && b_2) = true → ((b && !b_1 && b_2) = true → (b && !b_1
     && b_2) = true) ∧ ((b && !b_1 && b_2) = true → (b && !b_1 && b_2) = true) ∧ okL x ∧ True) ∧ ((b && !b_1) = true → ((b && !b_1) = true → (b && !b_1) = true) ∧ (b_2 = true → (b && !b_1 && b_2) = true) ∧
     True) ∧ (b = true → (b = true → b = true) ∧ (b_1 = false → (b && !b_1) = true) ∧ True) ∧ (b = true → b = true) ∧ (bif b then bif b_1 then true else bif b_2 then hasL x (lookR x x_7).1 else false else
     false) = true)) (sortedR x ∧ okL x ∧ (∃ (i : Int), ∃ (f : Bool), ((0 : Int) ≤ i ∧ i ≤ (↑(List.length x) : Int) ∧ f = decide (∃ (z : (Int × Int) × List Int × Int), z ∈ List.take (Int.toNat i) x ∧
     contains z.1 x_1 = true)) ∧ x_1 = x_1 ∧ lookB x x_1 = lookB x x_1 ∧ false = f ∧ (0 : Int) = i ∧ (lookR x x_1).1.1 = (lookR x x_1).1.1 ∧ (lookR x x_1).1.2 = (lookR x x_1).1.2 ∧ (lookR x x_1).2.1 =
     (lookR x x_1).2.1 ∧ (lookR x x_1).2.2 = (lookR x x_1).2.2 ∧ x = x ∧ True) ∧ ∀ (i : Int) (f : Bool), (0 : Int) ≤ i ∧ i ≤ (↑(List.length x) : Int) ∧ f = decide (∃ (z : (Int × Int) × List Int × Int), z ∈
     List.take (Int.toNat i) x ∧ contains z.1 x_1 = true) → ifP (decide (i < (↑(List.length x) : Int))) ((0 : Int) ≤ i ∧ i < (↑(List.length x) : Int) ∧ ifP (contains (List.getD x (Int.toNat i) default).1
     x_1) ((0 : Int) ≤ i ∧ i < (↑(List.length x) : Int) ∧ ifP (decide ((lookR x x_1).1.2 < (List.getD x (Int.toNat i) default).1.2)) (false = true) (∃ (i_1 : Int), ∃ (f : Bool), ((0 : Int) ≤ i_1 ∧ i_1 ≤
     (↑(List.length x) : Int) ∧ f = decide (∃ (z : (Int × Int) × List Int × Int), z ∈ List.take (Int.toNat i_1) x ∧ contains z.1 x_1 = true)) ∧ Int.toNat ((↑(List.length x) : Int) - i_1) < Int.toNat
     ((↑(List.length x) : Int) - i) ∧ x_1 = x_1 ∧ lookB x x_1 = lookB x x_1 ∧ true = f ∧ IntKind.wrap IntKind.i64 (i + (1 : Int)) = i_1 ∧ (lookR x x_1).1.1 = (lookR x x_1).1.1 ∧ (lookR x x_1).1.2 = (lookR
     x x_1).1.2 ∧ (lookR x x_1).2.1 = (lookR x x_1).2.1 ∧ (lookR x x_1).2.2 = (lookR x x_1).2.2 ∧ x = x ∧ True)) (∃ (i_1 : Int), ∃ (f_1 : Bool), ((0 : Int) ≤ i_1 ∧ i_1 ≤ (↑(List.length x) : Int) ∧ f_1 =
     decide (∃ (z : (Int × Int) × List Int × Int), z ∈ List.take (Int.toNat i_1) x ∧ contains z.1 x_1 = true)) ∧ Int.toNat ((↑(List.length x) : Int) - i_1) < Int.toNat ((↑(List.length x) : Int) - i) ∧ x_1
     = x_1 ∧ lookB x x_1 = lookB x x_1 ∧ f = f_1 ∧ IntKind.wrap IntKind.i64 (i + (1 : Int)) = i_1 ∧ (lookR x x_1).1.1 = (lookR x x_1).1.1 ∧ (lookR x x_1).1.2 = (lookR x x_1).1.2 ∧ (lookR x x_1).2.1 =
     (lookR x x_1).2.1 ∧ (lookR x x_1).2.2 = (lookR x x_1).2.2 ∧ x = x ∧ True)) (∀ (b : Bool), b = (lookB x x_1 == f) → (b = true → (b = true → b = true) ∧ True) ∧ (b = true → (b = true → b = true) ∧ True)
     ∧ ∀ (b_1 : Bool), b_1 = !lookB x x_1 → ((b && !b_1) = true → ((b && !b_1) = true → (b && !b_1) = true) ∧ True) ∧ ((b && !b_1) = true → ((b && !b_1) = true → (b && !b_1) = true) ∧ ((b && !b_1) = true →
     (b && !b_1) = true) ∧ True) ∧ ((b && !b_1) = true → ((b && !b_1) = true → (b && !b_1) = true) ∧ True) ∧ ∀ (b_2 : Bool), b_2 = contains (lookR x x_1).1 x_1 → ((b && !b_1 && b_2) = true → ((b && !b_1 &&
     b_2) = true → (b && !b_1 && b_2) = true) ∧ True) ∧ ((b && !b_1 && b_2) = true → ((b && !b_1 && b_2) = true → (b && !b_1 && b_2) = true) ∧ ((b && !b_1 && b_2) = true → (b && !b_1 && b_2) = true) ∧ okL
     x ∧ True) ∧ ((b && !b_1) = true → ((b && !b_1) = true → (b && !b_1) = true) ∧ (b_2 = true → (b && !b_1 && b_2) = true) ∧ True) ∧ (b = true → (b = true → b = true) ∧ (b_1 = false → (b && !b_1) = true)
     ∧ True) ∧ (b = true → b = true) ∧ (bif b then bif b_1 then true else bif b_2 then hasL x (lookR x x_1).1 else false else false) = true)) := by
  rintro cl a0 ⟨-, ⟨a1, a2⟩, -⟩ -
  refine ⟨by omega, okC_new cl, ?_⟩
  rintro l l1 p1 ⟨hl, hc⟩
  refine ⟨hc, ?_⟩
  rintro q l2 p2 ⟨-, -, hc⟩
  have h8 := hl.2.1
  have core : ∀ (a : Int) (i : Int) (f : Bool), (0 : Int) ≤ i ∧ i ≤ l.length ∧ f = decide (∃ z, z ∈ l.take i.toNat ∧ contains z.1 a = true) → ¬ i < l.length → (∀ b : Bool, b = (lookB l a == f) → b = true) ∧ (lookB l a = true → contains (lookR l a).1 a = true ∧ hasL l (lookR l a).1 = true) := by
    rintro a i f ⟨i0, i1, rfl⟩ hi
    rw [List.take_of_length_le (by omega), lookB_iff]
    refine ⟨by simp, fun h => ?_⟩
    have h := lookR_is (of_decide_eq_true h)
    rw [hasL_iff]
    exact ⟨h.2.1, decide_eq_true ⟨_, h.1, rfl⟩⟩
  have hstep0 : ∀ (a : Int) (m : List Rt) (e : Rt), (decide (∃ z, z ∈ m ++ [e] ∧ contains z.1 a = true)) = (decide (∃ z, z ∈ m ∧ contains z.1 a = true) || contains e.1 a) := by
    intro a m e
    rw [Bool.eq_iff_iff]
    simp only [List.mem_append, List.mem_singleton, decide_eq_true_eq, Bool.or_eq_true]
    constructor
    · rintro ⟨z, hz | rfl, h⟩
      · exact .inl ⟨z, hz, h⟩
      · exact .inr h
    · rintro (⟨z, hz, h⟩ | h)
      · exact ⟨z, .inl hz, h⟩
      · exact ⟨_, .inr rfl, h⟩
  refine ifP_split (fun _ => ⟨hc, ?_⟩) (fun _ => ?_)
  · rintro a l3 p3 ⟨-, -, -⟩
    refine ⟨hl.1, okTab_okL hl, ⟨0, false, ⟨by omega, by omega, by simp⟩, (by repeat' first | exact trivial | refine ⟨(by with_reducible rfl), ?_⟩ | refine ⟨w64 (by omega) (by omega), ?_⟩ | refine ⟨rfl, ?_⟩)⟩, ?_⟩
    rintro i f ⟨i0, i1, hf⟩
    refine ifP_split (fun hi => ?_) (fun hi => ?_)
    · have hi := of_decide_eq_true hi
      refine ⟨i0, hi, ifP_split (fun hq => ?_) (fun hq => ?_)⟩
      · refine ⟨i0, hi, ifP_split (fun hz => ?_) (fun hz => ?_)⟩
        · have := (lookR_is ⟨_, getD_mem i0 hi, hq⟩).2.2 _ (getD_mem i0 hi) hq
          have := of_decide_eq_true hz
          omega
        · exact ⟨i + 1, true, ⟨by omega, by omega, by rw [take_at i0 hi, hstep0, hq, Bool.or_true]⟩, by omega, (by repeat' first | exact trivial | refine ⟨(by with_reducible rfl), ?_⟩ | refine ⟨w64 (by omega) (by omega), ?_⟩ | refine ⟨rfl, ?_⟩)⟩
      · exact ⟨i + 1, f, ⟨by omega, by omega, by rw [take_at i0 hi, hstep0, hq, Bool.or_false, hf]⟩, by omega, (by repeat' first | exact trivial | refine ⟨(by with_reducible rfl), ?_⟩ | refine ⟨w64 (by omega) (by omega), ?_⟩ | refine ⟨rfl, ?_⟩)⟩
    · have hi := of_decide_eq_false hi
      obtain ⟨c1, c2⟩ := core a i f ⟨i0, i1, hf⟩ hi
      intro b hb
      have hb := c1 b hb
      subst hb
      have hk := okTab_okL hl
      cases hlb : lookB l a with
      | false => simp [hk]
      | true => obtain ⟨c2, c3⟩ := c2 hlb; simp [c2, c3, hk]
  · generalize a0 = a
    refine ⟨hl.1, okTab_okL hl, ⟨0, false, ⟨by omega, by omega, by simp⟩, (by repeat' first | exact trivial | refine ⟨(by with_reducible rfl), ?_⟩ | refine ⟨w64 (by omega) (by omega), ?_⟩ | refine ⟨rfl, ?_⟩)⟩, ?_⟩
    rintro i f ⟨i0, i1, hf⟩
    refine ifP_split (fun hi => ?_) (fun hi => ?_)
    · have hi := of_decide_eq_true hi
      refine ⟨i0, hi, ifP_split (fun hq => ?_) (fun hq => ?_)⟩
      · refine ⟨i0, hi, ifP_split (fun hz => ?_) (fun hz => ?_)⟩
        · have := (lookR_is ⟨_, getD_mem i0 hi, hq⟩).2.2 _ (getD_mem i0 hi) hq
          have := of_decide_eq_true hz
          omega
        · exact ⟨i + 1, true, ⟨by omega, by omega, by rw [take_at i0 hi, hstep0, hq, Bool.or_true]⟩, by omega, (by repeat' first | exact trivial | refine ⟨(by with_reducible rfl), ?_⟩ | refine ⟨w64 (by omega) (by omega), ?_⟩ | refine ⟨rfl, ?_⟩)⟩
      · exact ⟨i + 1, f, ⟨by omega, by omega, by rw [take_at i0 hi, hstep0, hq, Bool.or_false, hf]⟩, by omega, (by repeat' first | exact trivial | refine ⟨(by with_reducible rfl), ?_⟩ | refine ⟨w64 (by omega) (by omega), ?_⟩ | refine ⟨rfl, ?_⟩)⟩
    · have hi := of_decide_eq_false hi
      obtain ⟨c1, c2⟩ := core a i f ⟨i0, i1, hf⟩ hi
      intro b hb
      have hb := c1 b hb
      subst hb
      have hk := okTab_okL hl
      cases hlb : lookB l a with
      | false => simp [hk]
      | true => obtain ⟨c2, c3⟩ := c2 hlb; simp [c2, c3, hk]
theorem ok_law09_FibLongest : SpecOK Try.prog 3 ct_law09_FibLongest.spec := Ct.ok' _ Try.func3 (by kernel_rfl) (withSpec_ok (withSpec_ok (withSpec_ok (withSpec_ok (withSpec_ok (withSpec_ok (withSpec_ok (withSpec_ok noSpecs_ok ok_law09_awake) ok_draw_New) ok_law09_table) ok_Next) ok_draw_Codes_Address) ok_fib_Lookup) ok_ref01_Contains) ok_ref09_Has) hmix an_law09_FibLongest (Eq.mpr (by kernel_rfl) vc_law09_FibLongest)

def ct_law09_FibRemoves : Ct := lawCt lpFibCodes
def an_law09_FibRemoves : PDs ct_law09_FibRemoves.ps → Anns := (fun _ => {})
theorem vc_law09_FibRemoves :
    ∀ (x : List Int), (List.length x ≤ maxLen ∧ ∀ (x_1 : Int), x_1 ∈ x → (0 : Int) ≤ x_1 ∧ x_1 ≤ (255 : Int)) ∧ True → True → (0 : Int) ≤ (200 : Int) ∧ okC (if (↑(List.length x) : Int) ≤ (200 : Int) then
     x else List.take (Int.toNat (200 : Int)) x, (0 : Int)) ∧ ∀ (x : List ((Int × Int) × List Int × Int)) (x_1 : List Int) (x_2 : Int), okTab x ∧ okC (x_1, x_2) → okC (x_1, x_2) ∧ ∀ (x_3 x_4 : Int) (x_5 :
     List Int) (x_6 : Int) (x_7 : List Int) (x_8 : Int), okRt ((x_3, x_4), x_5, x_6) ∧ okC (x_7, x_8) → sortedR x ∧ okL x ∧ (↑(List.length x_5) : Int) ≤ (1099511627776 : Int) ∧ ∀ (x_9 : List ((Int × Int) ×
     List Int × Int)), x_9 = putL x ((x_3, x_4), x_5, x_6) → sortedR x_9 ∧ okL x_9 ∧ ∀ (x_10 : List ((Int × Int) × List Int × Int)), x_10 = removeL x_9 (x_3, x_4) → okL x_10 ∧ ifP (hasL x_10 (x_3, x_4))
     (false = true) (sortedR x ∧ okL x ∧ ∀ (x_11 : List ((Int × Int) × List Int × Int)), x_11 = removeL x (x_3, x_4) → ∀ (b : Bool), b = decide (x_10 = x_11) → (b = true → (b = true → b = true) ∧ True) ∧
     (b = true → (b = true → b = true) ∧ (b = true → b = true) ∧ okL x ∧ True) ∧ (b = true → (b = true → b = true) ∧ True) ∧ ∀ (b_1 : Bool), b_1 = hasL x (x_3, x_4) → ((b && !b_1) = true → ((b && !b_1) =
     true → (b && !b_1) = true) ∧ ((b && !b_1) = true → (b && !b_1) = true) ∧ True) ∧ (b = true → (b = true → b = true) ∧ (b_1 = false → (b && !b_1) = true) ∧ True) ∧ (b = true → b = true) ∧ (bif b then
     bif b_1 then true else decide (x_10 = x) else false) = true) := by
  rintro cl - -
  refine ⟨by omega, okC_new cl, ?_⟩
  rintro l l1 p1 ⟨hl, hc⟩
  refine ⟨hc, ?_⟩
  rintro a n x b l2 p2 ⟨hr, hc⟩
  refine ⟨hl.1, okTab_okL hl, okRt_next hr, ?_⟩
  rintro m rfl
  refine ⟨putL_sorted hl.1, okL_put hl hr, ?_⟩
  rintro m rfl
  have e := remove_put (r := ((a, n), x, b)) hl.1
  rw [show removeL (putL l ((a, n), x, b)) (a, n) = removeL l (a, n) from e]
  have hk : okL (removeL l (a, n)) := ⟨by have := removeL_le l (a, n); have := hl.2.1; omega, fun z hz => okRt_next (hl.2.2 z (List.mem_filter.1 hz).1)⟩
  refine ⟨hk, ?_⟩
  rw [removeL_has]
  refine ⟨hl.1, okTab_okL hl, ?_⟩
  rintro m rfl b hb
  have hb : b = true := by rw [hb]; simp
  subst hb
  have hk := okTab_okL hl
  cases hh : hasL l (a, n) with
  | true => simp [hk]
  | false => rw [removeL_not hh]; simp [hk]
theorem ok_law09_FibRemoves : SpecOK Try.prog 6 ct_law09_FibRemoves.spec := Ct.ok' _ Try.func6 (by kernel_rfl) (withSpec_ok (withSpec_ok (withSpec_ok (withSpec_ok (withSpec_ok (withSpec_ok (withSpec_ok (withSpec_ok noSpecs_ok ok_law09_awake) ok_draw_New) ok_law09_table) ok_law09_route) (Ct.named ok_fib_Put)) (Ct.named ok_fib_Remove)) ok_ref09_Has) ok_ref09_Same) hmix an_law09_FibRemoves (Eq.mpr (by kernel_rfl) vc_law09_FibRemoves)

def ct_law09_FibPuts : Ct := lawCt lpFibCodes
def an_law09_FibPuts : PDs ct_law09_FibPuts.ps → Anns := (fun _ => {})
theorem vc_law09_FibPuts :
    ∀ (x : List Int), (List.length x ≤ maxLen ∧ ∀ (x_1 : Int), x_1 ∈ x → (0 : Int) ≤ x_1 ∧ x_1 ≤ (255 : Int)) ∧ True → True → (0 : Int) ≤ (200 : Int) ∧ okC (if (↑(List.length x) : Int) ≤ (200 : Int) then
     x else List.take (Int.toNat (200 : Int)) x, (0 : Int)) ∧ ∀ (x : List ((Int × Int) × List Int × Int)) (x_1 : List Int) (x_2 : Int), okTab x ∧ okC (x_1, x_2) → okC (x_1, x_2) ∧ ∀ (x_3 x_4 : Int) (x_5 :
     List Int) (x_6 : Int) (x_7 : List Int) (x_8 : Int), okRt ((x_3, x_4), x_5, x_6) ∧ okC (x_7, x_8) → okC (x_7, x_8) ∧ ∀ (x_9 x_10 : Int) (x_11 : List Int) (x_12 : Int) (x_13 : List Int) (x_14 : Int),
     okRt ((x_9, x_10), x_11, x_12) ∧ okC (x_13, x_14) → sortedR x ∧ okL x ∧ (↑(List.length x_5) : Int) ≤ (1099511627776 : Int) ∧ ∀ (x_15 : List ((Int × Int) × List Int × Int)), x_15 = putL x ((x_3, x_4),
     x_5, x_6) → sortedR x_15 ∧ okL x_15 ∧ (↑(List.length x_11) : Int) ≤ (1099511627776 : Int) ∧ ∀ (x_16 : List ((Int × Int) × List Int × Int)), x_16 = putL x_15 ((x_9, x_10), x_11, x_12) → sortedR x ∧ okL
     x ∧ (↑(List.length x_11) : Int) ≤ (1099511627776 : Int) ∧ ∀ (x_17 : List ((Int × Int) × List Int × Int)), x_17 = putL x ((x_9, x_10), x_11, x_12) → sortedR x_17 ∧ okL x_17 ∧ (↑(List.length x_5) : Int)
     ≤ (1099511627776 : Int) ∧ ∀ (x : List ((Int × Int) × List Int × Int)), x = putL x_17 ((x_3, x_4), x_5, x_6) → ∀ (b : Bool), b = !decide (check x_16 [(0 : Int), (1 : Int), (2 : Int), (3 : Int), (4 :
     Int), (5 : Int)] = (0 : Int)) → ((!b) = true → ((!b) = true → (!b) = true) ∧ ((!b) = true → (!b) = true) ∧ True) ∧ ((!b) = true → ((!b) = true → (!b) = true) ∧ True) ∧ (b = false → (!b) = true) ∧ ∀
     (b_1 : Bool), (b_1 = bif b then true else !decide (check x [(0 : Int), (1 : Int), (2 : Int), (3 : Int), (4 : Int), (5 : Int)] = (0 : Int))) → ((!b_1) = true → ((!b_1) = true → (!b_1) = true) ∧ True) ∧
     ((!b_1) = true → ((!b_1) = true → (!b_1) = true) ∧ True) ∧ ((!b_1) = true → ((!b_1) = true → (!b_1) = true) ∧ ((!b_1) = true → (!b_1) = true) ∧ True) ∧ ((!b_1) = true → ((!b_1) = true → (!b_1) = true)
     ∧ True) ∧ ∀ (b : Bool), b = !(decide (x_3 = x_9) && (decide (x_4 = x_10) && true)) → ((!b_1 && b) = true → ((!b_1 && b) = true → (!b_1 && b) = true) ∧ ((!b_1 && b) = true → (!b_1 && b) = true) ∧ True)
     ∧ ((!b_1 && b) = true → ((!b_1 && b) = true → (!b_1 && b) = true) ∧ True) ∧ ((!b_1) = true → ((!b_1) = true → (!b_1) = true) ∧ (b = true → (!b_1 && b) = true) ∧ True) ∧ (b_1 = false → (!b_1) = true) ∧
     ifP (bif b_1 then true else bif b then !decide (x_16 = x) else false) (false = true) (∀ (x x_18 x_19 : Int), (x, x_18) = (bounds (x_9, x_10)).1 ∧ x_19 = (bounds (x_9, x_10)).2 → sortedR x_16 ∧ okL
     x_16 ∧ ∀ (b : Bool), b = lookB x_16 x → (b = true → (b = true → b = true) ∧ True) ∧ (b = true → (b = true → b = true) ∧ True) ∧ (b = true → (b = true → b = true) ∧ True) ∧ (b = true → (b = true → b =
     true) ∧ True) ∧ (b = true → (b = true → b = true) ∧ (b = true → b = true) ∧ True) ∧ (b = true → b = true) ∧ ∀ (b_2 : Bool), (b_2 = bif b then decide (x_10 ≤ (lookR x_16 x).1.2) else false) → (b_2 =
     true → (b_2 = true → b_2 = true) ∧ True) ∧ (b_2 = true → (b_2 = true → b_2 = true) ∧ True) ∧ (b_2 = true → (b_2 = true → b_2 = true) ∧ (b_2 = true → b_2 = true) ∧ True) ∧ (b_2 = true → (b_2 = true →
     b_2 = true) ∧ True) ∧ ∀ (b : Bool), b = !(decide ((lookR x_16 x).1.1 = x_9) && (decide ((lookR x_16 x).1.2 = x_10) && true)) → ((b_2 && !b) = true → ((b_2 && !b) = true → (b_2 && !b) = true) ∧ ((b_2
     && !b) = true → (b_2 && !b) = true) ∧ True) ∧ (b_2 = true → (b_2 = true → b_2 = true) ∧ (b = false → (b_2 && !b) = true) ∧ True) ∧ (b_2 = true → b_2 = true) ∧ (bif b_2 then bif b then true else decide
     (lookR x_16 x = ((x_9, x_10), x_11, x_12)) else false) = true) := by
  rintro cl - -
  refine ⟨by omega, okC_new cl, ?_⟩
  rintro l l1 p1 ⟨hl, hc⟩
  refine ⟨hc, ?_⟩
  rintro a n x b l2 p2 ⟨hr, hc⟩
  refine ⟨hc, ?_⟩
  rintro c m y e l3 p3 ⟨hs, hc⟩
  have hmem : ∀ u v : Rt, okRt u → okRt v → ∀ z ∈ putL (putL l u) v, okRt z := fun u v hu hv z hz => by
    rcases putL_mem.1 hz with rfl | ⟨hz, -⟩
    · exact hv
    · rcases putL_mem.1 hz with rfl | ⟨hz, -⟩
      · exact hu
      · exact hl.2.2 z hz
  have hlen : ∀ u v : Rt, (putL (putL l u) v).length ≤ 64 := fun u v => by have := putL_len (putL l u) v; have := putL_len l u; have := hl.2.1; omega
  refine ⟨hl.1, okTab_okL hl, okRt_next hr, ?_⟩
  rintro m1 rfl
  refine ⟨putL_sorted hl.1, okL_put hl hr, okRt_next hs, ?_⟩
  rintro m2 rfl
  refine ⟨hl.1, okTab_okL hl, okRt_next hs, ?_⟩
  rintro m3 rfl
  refine ⟨putL_sorted hl.1, okL_put hl hs, okRt_next hr, ?_⟩
  rintro m4 rfl
  have ck1 := check_ok (l := putL (putL l ((a, n), x, b)) ((c, m), y, e)) (links := six) (putL_sorted (putL_sorted hl.1)) (hlen _ _) (fun z hz => hmem _ _ hr hs z hz)
  have ck2 := check_ok (l := putL (putL l ((c, m), y, e)) ((a, n), x, b)) (links := six) (putL_sorted (putL_sorted hl.1)) (hlen _ _) (fun z hz => hmem _ _ hs hr z hz)
  unfold six at ck1 ck2
  rw [ck1, ck2]
  have hin : ((c, m), y, e) ∈ putL (putL l ((a, n), x, b)) ((c, m), y, e) := putL_mem.2 (.inl rfl)
  have hcm := put_comm (l := l) (r := ((a, n), x, b)) (s := ((c, m), y, e)) hl.1
  have hbig : okL (putL (putL l ((a, n), x, b)) ((c, m), y, e)) := ⟨by have := hlen ((a, n), x, b) ((c, m), y, e); omega, fun z hz => okRt_next (hmem _ _ hr hs z hz)⟩
  have hso := putL_sorted (r := ((c, m), y, e)) (putL_sorted (r := ((a, n), x, b)) hl.1)
  have huniq : ∀ z ∈ putL (putL l ((a, n), x, b)) ((c, m), y, e), z.1 = (c, m) → z = ((c, m), y, e) := fun z hz h => by
    rcases putL_mem.1 hz with rfl | ⟨-, h2⟩
    · rfl
    · exact absurd h h2
  generalize putL (putL l ((a, n), x, b)) ((c, m), y, e) = X at *
  generalize putL (putL l ((c, m), y, e)) ((a, n), x, b) = Y at *
  rintro b1 rfl
  refine ⟨by simp, by simp, by simp, ?_⟩
  rintro b1 rfl
  refine ⟨by simp, by simp, by simp, by simp, ?_⟩
  rintro b1 rfl
  refine ⟨by simp, by simp, by simp, by simp, ifP_split (fun hf => ?_) (fun hf => ?_)⟩
  · exfalso
    simp at hf
    exact hf.2 (hcm (fun h => by cases h; simp at hf))
  · rintro lo hi er ⟨h1, -⟩
    have hv : pValid (c, m) = true := hs.1
    rw [bounds, if_pos hv] at h1
    cases h1
    have hcon : contains (c, m) c = true := by
      unfold contains
      have := sz_pos m
      rw [hv]; simp; omega
    have hex : ∃ z ∈ X, contains z.1 c = true := ⟨_, hin, hcon⟩
    obtain ⟨g1, g2, g3⟩ := lookR_is hex
    have g3 : m ≤ (lookR X c).1.2 := g3 _ hin hcon
    refine ⟨hso, hbig, ?_⟩
    intro b1 hb1
    have hb1 : b1 = true := by rw [hb1, lookB_iff]; exact decide_eq_true hex
    subst hb1
    refine ⟨by simp, by simp, by simp, by simp, by simp, by simp, ?_⟩
    intro b2 hb2
    have hb2 : b2 = true := by rw [hb2]; simpa using g3
    subst hb2
    refine ⟨by simp, by simp, by simp, by simp, ?_⟩
    rintro b3 rfl
    refine ⟨by simp, by simp, by simp, ?_⟩
    by_cases hq : (lookR X c).1 = (c, m)
    · rw [huniq _ g1 hq]; simp
    · have hq : ¬ ((lookR X c).1.1 = c ∧ (lookR X c).1.2 = m) := fun h => hq (Prod.ext h.1 h.2)
      by_cases h1 : (lookR X c).1.1 = c
      · have h2 : ¬ (lookR X c).1.2 = m := fun h => hq ⟨h1, h⟩
        simp [h1, h2]
      · simp [h1]
theorem ok_law09_FibPuts : SpecOK Try.prog 9 ct_law09_FibPuts.spec := Ct.ok' _ Try.func9 (by kernel_rfl) (withSpec_ok (withSpec_ok (withSpec_ok (withSpec_ok (withSpec_ok (withSpec_ok (withSpec_ok (withSpec_ok (withSpec_ok (withSpec_ok noSpecs_ok ok_law09_awake) ok_draw_New) ok_law09_table) ok_law09_route) (Ct.named ok_fib_Put)) ok_fib_Check) ok_ref09_Same) (Ct.named ok_ref01_Bounds)) ok_fib_Lookup) ok_ref09_SameRoute) hmix an_law09_FibPuts (Eq.mpr (by kernel_rfl) vc_law09_FibPuts)

def ct_law09_FibExact : Ct := lawCt lpFibExact
def an_law09_FibExact : PDs ct_law09_FibExact.ps → Anns := (fun d => { loops := (fun n => match n with | 9 => some (fun S => { ι := Int, μ := fun i => (3 - i).toNat, inv := fun i => 0 ≤ i ∧ i ≤ 3, keep := [2, 3, 9, 11, 12, 13, 14, 71, 72], slots := fun i => [(73, .int .i64 i)], keepN := [160, 736, 768, 224, 816, 880, 1152], names := fun i => [] }) | 15 => some (fun S => { ι := Int, μ := fun i => (3 - i).toNat, inv := fun i => 0 ≤ i ∧ i ≤ 3, keep := [9, 12, 13, 99, 100], slots := fun i => [(101, .int .i64 i)], keepN := [160, 768, 224, 1600], names := fun i => [] }) | _ => none) })
theorem vc_law09_FibExact :
    ∀ (x : List Int) (x_1 : List ((Int × Int) × List Int × Int)) (x_2 : List Int) (x_3 x_4 x_5 : Int), (List.length x ≤ maxLen ∧ ∀ (x_6 : Int), x_6 ∈ x → (0 : Int) ≤ x_6 ∧ x_6 ≤ (255 : Int)) ∧
     (List.length x_1 ≤ maxLen ∧ ∀ (x : (Int × Int) × List Int × Int), x ∈ x_1 → (((0 : Int) ≤ x.1.1 ∧ x.1.1 ≤ (4294967295 : Int)) ∧ (-9223372036854775808 : Int) ≤ x.1.2 ∧ x.1.2 ≤ (9223372036854775807 :
     Int)) ∧ (List.length x.2.1 ≤ maxLen ∧ ∀ (x_6 : Int), x_6 ∈ x.2.1 → (-9223372036854775808 : Int) ≤ x_6 ∧ x_6 ≤ (9223372036854775807 : Int)) ∧ (-9223372036854775808 : Int) ≤ x.2.2 ∧ x.2.2 ≤
     (9223372036854775807 : Int)) ∧ (List.length x_2 ≤ maxLen ∧ ∀ (x : Int), x ∈ x_2 → (-9223372036854775808 : Int) ≤ x ∧ x ≤ (9223372036854775807 : Int)) ∧ ((0 : Int) ≤ x_3 ∧ x_3 ≤ (4294967295 : Int)) ∧
     (((0 : Int) ≤ x_4 ∧ x_4 ≤ (4294967295 : Int)) ∧ (-9223372036854775808 : Int) ≤ x_5 ∧ x_5 ≤ (9223372036854775807 : Int)) ∧ True → True → ∀ (b : Bool), b = !true → ((!b) = true → ((!b) = true → (!b) =
     true) ∧ True) ∧ ((!b) = true → ((!b) = true → (!b) = true) ∧ True) ∧ (b = false → (!b) = true) ∧ ∀ (b_1 : Bool), (b_1 = bif b then true else decide ((100 : Int) < (↑(List.length x_1) : Int))) →
     ((!b_1) = true → ((!b_1) = true → (!b_1) = true) ∧ True) ∧ ((!b_1) = true → ((!b_1) = true → (!b_1) = true) ∧ True) ∧ (b_1 = false → (!b_1) = true) ∧ ifP (bif b_1 then true else decide ((100 : Int) <
     (↑(List.length x_2) : Int))) (∀ (b : Bool), b = decide ((100 : Int) < (↑(List.length x_1) : Int)) → ((!b) = true → ((!b) = true → (!b) = true) ∧ True) ∧ ((!b) = true → ((!b) = true → (!b) = true) ∧
     True) ∧ (b = false → (!b) = true) ∧ (bif b then true else decide ((100 : Int) < (↑(List.length x_2) : Int))) = true) ((0 : Int) ≤ (200 : Int) ∧ okC (if (↑(List.length x) : Int) ≤ (200 : Int) then x
     else List.take (Int.toNat (200 : Int)) x, (0 : Int)) ∧ ∀ (x : List ((Int × Int) × List Int × Int)) (x_6 : List Int) (x_7 : Int), okTab x ∧ okC (x_6, x_7) → okC (x_6, x_7) ∧ ∀ (x_8 x_9 : Int) (x_10 :
     List Int) (x_11 : Int) (x_12 : List Int) (x_13 : Int), okRt ((x_8, x_9), x_10, x_11) ∧ okC (x_12, x_13) → List.length x * (48 : Nat) ≤ (140737488355328 : Nat) ∧ (List.length x + List.length [((x_8,
     x_9), x_10, x_11)]) * (48 : Nat) ≤ (140737488355328 : Nat) ∧ okC (x_12, x_13) ∧ ∀ (x_14 : Int) (x_15 : List Int) (x_16 : Int), (0 : Int) ≤ x_14 ∧ (x_14 < (↑(List.length (x ++ [((x_8, x_9), x_10,
     x_11)])) : Int) ∨ x_14 = (0 : Int)) ∧ okC (x_15, x_16) → okC (x_15, x_16) ∧ ∀ (x_17 : Int) (x_18 : List Int) (x_19 : Int), (0 : Int) ≤ x_17 ∧ (x_17 < (8 : Int) ∨ x_17 = (0 : Int)) ∧ okC (x_18, x_19) →
     okC (x_18, x_19) ∧ ∀ (x_20 : Int) (x_21 : List Int) (x_22 : Int), (0 : Int) ≤ x_20 ∧ (x_20 < (8 : Int) ∨ x_20 = (0 : Int)) ∧ okC (x_21, x_22) → (0 : Int) ≤ x_14 ∧ x_14 < (↑(List.length (x ++ [((x_8,
     x_9), x_10, x_11)])) : Int) ∧ (∃ (x_23 : Int), ((0 : Int) ≤ x_23 ∧ x_23 ≤ (3 : Int)) ∧ x_2 = x_2 ∧ x_3 = x_3 ∧ (↑(List.length [x, x_1, List.set (x ++ [((x_8, x_9), x_10, x_11)]) (Int.toNat x_14)
     ((List.getD (x ++ [((x_8, x_9), x_10, x_11)]) (Int.toNat x_14) default).1, [x_17, x_20], (List.getD (x ++ [((x_8, x_9), x_10, x_11)]) (Int.toNat x_14) default).2.2)]) : Int) = (↑(List.length [x, x_1,
     List.set (x ++ [((x_8, x_9), x_10, x_11)]) (Int.toNat x_14) ((List.getD (x ++ [((x_8, x_9), x_10, x_11)]) (Int.toNat x_14) default).1, [x_17, x_20], (List.getD (x ++ [((x_8, x_9), x_10, x_11)])
     (Int.toNat x_14) default).2.2)]) : Int) ∧ (0 : Int) = x_23 ∧ x_4 = x_4 ∧ x_5 = x_5 ∧ x_21 = x_21 ∧ x_22 = x_22 ∧ x = x ∧ x_8 = x_8 ∧ x_9 = x_9 ∧ x_10 = x_10 ∧ x_11 = x_11 ∧ [(0 : Int), (1 : Int), (2 :
     Int), (3 : Int), (4 : Int), (5 : Int)] = [(0 : Int), (1 : Int), (2 : Int), (3 : Int), (4 : Int), (5 : Int)] ∧ [((x_8, x_9), x_10, x_11)] = [((x_8, x_9), x_10, x_11)] ∧ [x, x_1, List.set (x ++ [((x_8,
     x_9), x_10, x_11)]) (Int.toNat x_14) ((List.getD (x ++ [((x_8, x_9), x_10, x_11)]) (Int.toNat x_14) default).1, [x_17, x_20], (List.getD (x ++ [((x_8, x_9), x_10, x_11)]) (Int.toNat x_14)
     default).2.2)] = [x, x_1, List.set (x ++ [((x_8, x_9), x_10, x_11)]) (Int.toNat x_14) ((List.getD (x ++ [((x_8, x_9), x_10, x_11)]) (Int.toNat x_14) default).1, [x_17, x_20], (List.getD (x ++ [((x_8,
     x_9), x_10, x_11)]) (Int.toNat x_14) default).2.2)] ∧ True) ∧ ∀ (x_23 : Int), (0 : Int) ≤ x_23 ∧ x_23 ≤ (3 : Int) → ifP (decide (x_23 < (↑(List.length [x, x_1, List.set (x ++ [((x_8, x_9), x_10,
     x_11)]) (Int.toNat x_14) ((List.getD (x ++ [((x_8, x_9), x_10, x_11)]) (Int.toNat x_14) default).1, [x_17, x_20], (List.getD (x ++ [((x_8, x_9), x_10, x_11)]) (Int.toNat x_14) default).2.2)]) : Int)))
     ((0 : Int) ≤ x_23 ∧ x_23 < (↑(List.length [x, x_1, List.set (x ++ [((x_8, x_9), x_10, x_11)]) (Int.toNat x_14) ((List.getD (x ++ [((x_8, x_9), x_10, x_11)]) (Int.toNat x_14) default).1, [x_17, x_20],
     (List.getD (x ++ [((x_8, x_9), x_10, x_11)]) (Int.toNat x_14) default).2.2)]) : Int) ∧ ∀ (b : Bool), b = !decide (check (List.getD [x, x_1, List.set (x ++ [((x_8, x_9), x_10, x_11)]) (Int.toNat x_14)
     ((List.getD (x ++ [((x_8, x_9), x_10, x_11)]) (Int.toNat x_14) default).1, [x_17, x_20], (List.getD (x ++ [((x_8, x_9), x_10, x_11)]) (Int.toNat x_14) default).2.2)] (Int.toNat x_23) default) x_2 =
     check (List.getD [x, x_1, List.set (x ++ [((x_8, x_9), x_10, x_11)]) (Int.toNat x_14) ((List.getD (x ++ [((x_8, x_9), x_10, x_11)]) (Int.toNat x_14) default).1, [x_17, x_20], (List.getD (x ++ [((x_8,
     x_9), x_10, x_11)]) (Int.toNat x_14) default).2.2)] (Int.toNat x_23) default) x_2) → ((!b) = true → ((!b) = true → (!b) = true) ∧ ((!b) = true → (!b) = true) ∧ True) ∧ ((!b) = true → ((!b) = true →
     (!b) = true) ∧ ((!b) = true → (!b) = true) ∧ True) ∧ ((!b) = true → ((!b) = true → (!b) = true) ∧ ((!b) = true → (!b) = true) ∧ True) ∧ (b = false → (!b) = true) ∧ ifP (bif b then true else !decide
     (check (List.getD [x, x_1, List.set (x ++ [((x_8, x_9), x_10, x_11)]) (Int.toNat x_14) ((List.getD (x ++ [((x_8, x_9), x_10, x_11)]) (Int.toNat x_14) default).1, [x_17, x_20], (List.getD (x ++ [((x_8,
     x_9), x_10, x_11)]) (Int.toNat x_14) default).2.2)] (Int.toNat x_23) default) [(0 : Int), (1 : Int), (2 : Int), (3 : Int), (4 : Int), (5 : Int)] = check (List.getD [x, x_1, List.set (x ++ [((x_8,
     x_9), x_10, x_11)]) (Int.toNat x_14) ((List.getD (x ++ [((x_8, x_9), x_10, x_11)]) (Int.toNat x_14) default).1, [x_17, x_20], (List.getD (x ++ [((x_8, x_9), x_10, x_11)]) (Int.toNat x_14)
     default).2.2)] (Int.toNat x_23) default) [(0 : Int), (1 : Int), (2 : Int), (3 : Int), (4 : Int), (5 : Int)])) (false = true) (∃ (x_24 : Int), ((0 : Int) ≤ x_24 ∧ x_24 ≤ (3 : Int)) ∧ Int.toNat ((3 :
     Int) - x_24) < Int.toNat ((3 : Int) - x_23) ∧ x_2 = x_2 ∧ x_3 = x_3 ∧ (↑(List.length [x, x_1, List.set (x ++ [((x_8, x_9), x_10, x_11)]) (Int.toNat x_14) ((List.getD (x ++ [((x_8, x_9), x_10, x_11)])
     (Int.toNat x_14) default).1, [x_17, x_20], (List.getD (x ++ [((x_8, x_9), x_10, x_11)]) (Int.toNat x_14) default).2.2)]) : Int) = (↑(List.length [x, x_1, List.set (x ++ [((x_8, x_9), x_10, x_11)])
     (Int.toNat x_14) ((List.getD (x ++ [((x_8, x_9), x_10, x_11)]) (Int.toNat x_14) default).1, [x_17, x_20], (List.getD (x ++ [((x_8, x_9), x_10, x_11)]) (Int.toNat x_14) default).2.2)]) : Int) ∧
     IntKind.wrap IntKind.i64 (x_23 + (1 : Int)) = x_24 ∧ x_4 = x_4 ∧ x_5 = x_5 ∧ x_21 = x_21 ∧ x_22 = x_22 ∧ x = x ∧ x_8 = x_8 ∧ x_9 = x_9 ∧ x_10 = x_10 ∧ x_11 = x_11 ∧ [(0 : Int), (1 : Int), (2 : Int),
     (3 : Int), (4 : Int), (5 : Int)] = [(0 : Int), (1 : Int), (2 : Int), (3 : Int), (4 : Int), (5 : Int)] ∧ [((x_8, x_9), x_10, x_11)] = [((x_8, x_9), x_10, x_11)] ∧ [x, x_1, List.set (x ++ [((x_8, x_9),
     x_10, x_11)]) (Int.toNat x_14) ((List.getD (x ++ [((x_8, x_9), x_10, x_11)]) (Int.toNat x_14) default).1, [x_17, x_20], (List.getD (x ++ [((x_8, x_9), x_10, x_11)]) (Int.toNat x_14) default).2.2)] =
     [x, x_1, List.set (x ++ [((x_8, x_9), x_10, x_11)]) (Int.toNat x_14) ((List.getD (x ++ [((x_8, x_9), x_10, x_11)]) (Int.toNat x_14) default).1, [x_17, x_20], (List.getD (x ++ [((x_8, x_9), x_10,
     x_11)]) (Int.toNat x_14) default).2.2)] ∧ True)) (okC (x_21, x_22) ∧ ∀ (x_24 : Int) (x_25 : List Int) (x_26 : Int), okC (x_25, x_26) ∧ (0 : Int) ≤ x_24 ∧ x_24 ≤ (4294967295 : Int) → okC (x_25, x_26) ∧
     ∀ (x_27 : Int) (x_28 : List Int) (x_29 : Int), okC (x_28, x_29) ∧ (0 : Int) ≤ x_27 ∧ x_27 ≤ (4294967295 : Int) → (∃ (x_30 : Int), ((0 : Int) ≤ x_30 ∧ x_30 ≤ (3 : Int)) ∧ (↑(List.length [x_3, x_24,
     x_27]) : Int) = (↑(List.length [x_3, x_24, x_27]) : Int) ∧ (0 : Int) = x_30 ∧ x_4 = x_4 ∧ x_5 = x_5 ∧ x = x ∧ x_8 = x_8 ∧ x_9 = x_9 ∧ x_10 = x_10 ∧ x_11 = x_11 ∧ [x_3, x_24, x_27] = [x_3, x_24, x_27]
     ∧ True) ∧ ∀ (x_30 : Int), (0 : Int) ≤ x_30 ∧ x_30 ≤ (3 : Int) → ifP (decide (x_30 < (↑(List.length [x_3, x_24, x_27]) : Int))) ((0 : Int) ≤ x_30 ∧ x_30 < (↑(List.length [x_3, x_24, x_27]) : Int) ∧
     sortedR x ∧ okL x ∧ okL x ∧ ∀ (b : Bool), b = !lookB x (List.getD [x_3, x_24, x_27] (Int.toNat x_30) default) == lookB x (List.getD [x_3, x_24, x_27] (Int.toNat x_30) default) → ((!b) = true → ((!b) =
     true → (!b) = true) ∧ ((!b) = true → (!b) = true) ∧ True) ∧ ((!b) = true → ((!b) = true → (!b) = true) ∧ True) ∧ (b = false → (!b) = true) ∧ ifP (bif b then true else !decide (lookR x (List.getD [x_3,
     x_24, x_27] (Int.toNat x_30) default) = lookR x (List.getD [x_3, x_24, x_27] (Int.toNat x_30) default))) (false = true) (∃ (x_31 : Int), ((0 : Int) ≤ x_31 ∧ x_31 ≤ (3 : Int)) ∧ Int.toNat ((3 : Int) -
     x_31) < Int.toNat ((3 : Int) - x_30) ∧ (↑(List.length [x_3, x_24, x_27]) : Int) = (↑(List.length [x_3, x_24, x_27]) : Int) ∧ IntKind.wrap IntKind.i64 (x_30 + (1 : Int)) = x_31 ∧ x_4 = x_4 ∧ x_5 = x_5
     ∧ x = x ∧ x_8 = x_8 ∧ x_9 = x_9 ∧ x_10 = x_10 ∧ x_11 = x_11 ∧ [x_3, x_24, x_27] = [x_3, x_24, x_27] ∧ True)) (sortedR x ∧ okL x ∧ (↑(List.length x_10) : Int) ≤ (1099511627776 : Int) ∧ ∀ (x_31 : List
     ((Int × Int) × List Int × Int)), x_31 = putL x ((x_8, x_9), x_10, x_11) → sortedR x ∧ okL x ∧ (↑(List.length x_10) : Int) ≤ (1099511627776 : Int) ∧ ∀ (x_32 : List ((Int × Int) × List Int × Int)), x_32
     = putL x ((x_8, x_9), x_10, x_11) → ∀ (b : Bool), b = decide (x_31 = x_32) → (b = true → (b = true → b = true) ∧ True) ∧ ifP b ((b = true → b = true) ∧ (b = true → b = true) ∧ sortedR x ∧ okL x ∧ ∀
     (x_33 : List ((Int × Int) × List Int × Int)), x_33 = removeL x (x_8, x_9) → (b = true → (b = true → b = true) ∧ True) ∧ ifP b ((b = true → b = true) ∧ (b = true → b = true) ∧ okL x ∧ ∀ (x_34 : List
     ((Int × Int) × List Int × Int)), x_34 = removeL x (x_8, x_9) → (b = true → b = true) ∧ ∀ (b_2 : Bool), (b_2 = bif b then decide (x_33 = x_34) else false) → ifP b_2 ((b_2 = true → b_2 = true) ∧ (b_2 =
     true → b_2 = true) ∧ sortedR x ∧ okL x ∧ ∀ (x_35 : List ((Int × Int) × List Int × Int)), x_35 = removeL x (x_4, x_5) → ifP b_2 ((b_2 = true → b_2 = true) ∧ (b_2 = true → b_2 = true) ∧ okL x ∧ ∀ (x_36
     : List ((Int × Int) × List Int × Int)), x_36 = removeL x (x_4, x_5) → (b_2 = true → b_2 = true) ∧ (bif b_2 then decide (x_35 = x_36) else false) = true) (b_2 = false ∧ (b_2 = true → false = true) ∧
     (bif b_2 then false else false) = true)) (ifP b_2 ((b_2 = true → b_2 = true) ∧ (b_2 = true → b_2 = true) ∧ okL x ∧ ∀ (x_35 : List ((Int × Int) × List Int × Int)), x_35 = removeL x (x_4, x_5) → b_2 =
     false ∧ (b_2 = true → false = true) ∧ (bif b_2 then false else false) = true) (b_2 = false ∧ (b_2 = true → false = true) ∧ (bif b_2 then false else false) = true))) (b = false ∧ (b = true → false =
     true) ∧ ∀ (b_2 : Bool), (b_2 = bif b then false else false) → ifP b_2 ((b_2 = true → b_2 = true) ∧ (b_2 = true → b_2 = true) ∧ sortedR x ∧ okL x ∧ ∀ (x_34 : List ((Int × Int) × List Int × Int)), x_34
     = removeL x (x_4, x_5) → ifP b_2 ((b_2 = true → b_2 = true) ∧ (b_2 = true → b_2 = true) ∧ okL x ∧ ∀ (x_35 : List ((Int × Int) × List Int × Int)), x_35 = removeL x (x_4, x_5) → (b_2 = true → b_2 =
     true) ∧ (bif b_2 then decide (x_34 = x_35) else false) = true) (b_2 = false ∧ (b_2 = true → false = true) ∧ (bif b_2 then false else false) = true)) (ifP b_2 ((b_2 = true → b_2 = true) ∧ (b_2 = true →
     b_2 = true) ∧ okL x ∧ ∀ (x_34 : List ((Int × Int) × List Int × Int)), x_34 = removeL x (x_4, x_5) → b_2 = false ∧ (b_2 = true → false = true) ∧ (bif b_2 then false else false) = true) (b_2 = false ∧
     (b_2 = true → false = true) ∧ (bif b_2 then false else false) = true)))) ((b = true → (b = true → b = true) ∧ True) ∧ ifP b ((b = true → b = true) ∧ (b = true → b = true) ∧ okL x ∧ ∀ (x_33 : List
     ((Int × Int) × List Int × Int)), x_33 = removeL x (x_8, x_9) → b = false ∧ (b = true → false = true) ∧ ∀ (b_2 : Bool), (b_2 = bif b then false else false) → ifP b_2 ((b_2 = true → b_2 = true) ∧ (b_2 =
     true → b_2 = true) ∧ sortedR x ∧ okL x ∧ ∀ (x_34 : List ((Int × Int) × List Int × Int)), x_34 = removeL x (x_4, x_5) → ifP b_2 ((b_2 = true → b_2 = true) ∧ (b_2 = true → b_2 = true) ∧ okL x ∧ ∀ (x_35
     : List ((Int × Int) × List Int × Int)), x_35 = removeL x (x_4, x_5) → (b_2 = true → b_2 = true) ∧ (bif b_2 then decide (x_34 = x_35) else false) = true) (b_2 = false ∧ (b_2 = true → false = true) ∧
     (bif b_2 then false else false) = true)) (ifP b_2 ((b_2 = true → b_2 = true) ∧ (b_2 = true → b_2 = true) ∧ okL x ∧ ∀ (x_34 : List ((Int × Int) × List Int × Int)), x_34 = removeL x (x_4, x_5) → b_2 =
     false ∧ (b_2 = true → false = true) ∧ (bif b_2 then false else false) = true) (b_2 = false ∧ (b_2 = true → false = true) ∧ (bif b_2 then false else false) = true))) (b = false ∧ (b = true → false =
     true) ∧ ∀ (b_2 : Bool), (b_2 = bif b then false else false) → ifP b_2 ((b_2 = true → b_2 = true) ∧ (b_2 = true → b_2 = true) ∧ sortedR x ∧ okL x ∧ ∀ (x_33 : List ((Int × Int) × List Int × Int)), x_33
     = removeL x (x_4, x_5) → ifP b_2 ((b_2 = true → b_2 = true) ∧ (b_2 = true → b_2 = true) ∧ okL x ∧ ∀ (x_34 : List ((Int × Int) × List Int × Int)), x_34 = removeL x (x_4, x_5) → (b_2 = true → b_2 =
     true) ∧ (bif b_2 then decide (x_33 = x_34) else false) = true) (b_2 = false ∧ (b_2 = true → false = true) ∧ (bif b_2 then false else false) = true)) (ifP b_2 ((b_2 = true → b_2 = true) ∧ (b_2 = true →
     b_2 = true) ∧ okL x ∧ ∀ (x_33 : List ((Int × Int) × List Int × Int)), x_33 = removeL x (x_4, x_5) → b_2 = false ∧ (b_2 = true → false = true) ∧ (bif b_2 then false else false) = true) (b_2 = false ∧
     (b_2 = true → false = true) ∧ (bif b_2 then false else false) = true))))))) := by
  rintro cl raw ks a c n - -
  (repeat (intro (b_ : Bool) (hb_ : b_ = _); (repeat refine ⟨(by first | (simp; done) | (rw [hb_]; simp; done) | (rw [hb_]; simp; omega) | (rw [hb_]; simp; intros; omega) | (rw [hb_]; simp +contextual; done)), ?_⟩); subst hb_))
  refine ifP_split (fun hb => ?_) (fun hb => ?_)
  · (repeat (intro (b_ : Bool) (hb_ : b_ = _); (repeat refine ⟨(by first | (simp; done) | (rw [hb_]; simp; done) | (rw [hb_]; simp; omega) | (rw [hb_]; simp; intros; omega) | (rw [hb_]; simp +contextual; done)), ?_⟩); subst hb_))
    simpa using hb
  refine ⟨by omega, okC_new cl, ?_⟩
  rintro l l1 p1 ⟨hl, hc⟩
  refine ⟨hc, ?_⟩
  rintro d m x b l2 p2 ⟨hr, hc⟩
  refine ⟨by have := hl.2.1; omega, by have := hl.2.1; simp only [List.length_singleton]; omega, hc, ?_⟩
  rintro i l3 p3 ⟨i0, i1, hc⟩
  refine ⟨hc, ?_⟩
  rintro u l3 p3 ⟨-, -, hc⟩
  refine ⟨hc, ?_⟩
  rintro v l3 p3 ⟨-, -, hc⟩
  have hi : i < ((l ++ [((d, m), x, b)]).length : Int) := by
    rcases i1 with h | h
    · exact h
    · rw [h, List.length_append, List.length_singleton]; omega
  refine ⟨i0, hi, ⟨0, by omega, (by repeat' first | exact trivial | refine ⟨(by with_reducible rfl), ?_⟩ | refine ⟨w64 (by omega) (by omega), ?_⟩ | refine ⟨rfl, ?_⟩)⟩, ?_⟩
  generalize List.set _ _ _ = odd
  rintro k ⟨k0, k1⟩
  refine ifP_split (fun hk => ?_) (fun hk => ?_)
  · refine ⟨k0, of_decide_eq_true hk, ?_⟩
    have hk := of_decide_eq_true hk
    simp only [List.length_cons, List.length_nil] at hk
    rintro b1 rfl
    refine ⟨by simp, by simp, by simp, by simp, ifP_split (fun hf => by simp at hf) (fun _ => ?_)⟩
    exact ⟨k + 1, by omega, by omega, rfl, rfl, rfl, w64 (by omega) (by omega), (by repeat' first | exact trivial | refine ⟨(by with_reducible rfl), ?_⟩ | refine ⟨w64 (by omega) (by omega), ?_⟩ | refine ⟨rfl, ?_⟩)⟩
  refine ⟨hc, ?_⟩
  rintro a2 l4 p4 ⟨hc, -⟩
  refine ⟨hc, ?_⟩
  rintro a3 l5 p5 ⟨hc, -⟩
  refine ⟨⟨0, by omega, (by repeat' first | exact trivial | refine ⟨(by with_reducible rfl), ?_⟩ | refine ⟨w64 (by omega) (by omega), ?_⟩ | refine ⟨rfl, ?_⟩)⟩, ?_⟩
  rintro k ⟨k0, k1⟩
  refine ifP_split (fun hk => ?_) (fun hk => ?_)
  · refine ⟨k0, of_decide_eq_true hk, hl.1, okTab_okL hl, okTab_okL hl, ?_⟩
    have hk := of_decide_eq_true hk
    simp only [List.length_cons, List.length_nil] at hk
    intro b1 hb1
    have hb1 : b1 = false := by rw [hb1]; simp
    subst hb1
    refine ⟨by simp, by simp, by simp, ifP_split (fun hf => by simp at hf) (fun _ => ?_)⟩
    exact ⟨k + 1, by omega, by omega, rfl, w64 (by omega) (by omega), (by repeat' first | exact trivial | refine ⟨(by with_reducible rfl), ?_⟩ | refine ⟨w64 (by omega) (by omega), ?_⟩ | refine ⟨rfl, ?_⟩)⟩
  refine ⟨hl.1, okTab_okL hl, okRt_next hr, ?_⟩
  rintro m1 rfl
  refine ⟨hl.1, okTab_okL hl, okRt_next hr, ?_⟩
  rintro m1 rfl
  intro b1 hb1
  have hb1 : b1 = true := by rw [hb1]; simp
  subst hb1
  refine ⟨by simp, by simp, by simp, hl.1, okTab_okL hl, ?_⟩
  rintro m2 rfl
  refine ⟨by simp, by simp, by simp, okTab_okL hl, ?_⟩
  rintro m2 rfl
  refine ⟨by simp, ?_⟩
  intro b2 hb2
  have hb2 : b2 = true := by rw [hb2]; simp
  subst hb2
  refine ⟨by simp, by simp, hl.1, okTab_okL hl, ?_⟩
  rintro m3 rfl
  refine ⟨by simp, by simp, okTab_okL hl, ?_⟩
  rintro m3 rfl
  exact ⟨by simp, by simp⟩
theorem ok_law09_FibExact : SpecOK Try.prog 10 ct_law09_FibExact.spec := Ct.ok' _ Try.func10 (by kernel_rfl) (withSpec_ok (withSpec_ok (withSpec_ok (withSpec_ok (withSpec_ok (withSpec_ok (withSpec_ok (withSpec_ok (withSpec_ok (withSpec_ok (withSpec_ok (withSpec_ok (withSpec_ok (withSpec_ok (withSpec_ok (withSpec_ok noSpecs_ok ok_law09_awake) ok_draw_New) ok_law09_table) ok_law09_route) ok_Next) ok_fib_Check) ok_ref09_Check) ok_draw_Codes_Address) ok_fib_Lookup) ok_ref09_Lookup) ok_ref09_SameRoute) (Ct.named ok_fib_Put)) (Ct.named ok_fib_Remove)) (Ct.named ok_ref09_Put)) (Ct.named ok_ref09_Remove)) ok_ref09_Same) hmix an_law09_FibExact (Eq.mpr (by kernel_rfl) vc_law09_FibExact)
end Go.RS

