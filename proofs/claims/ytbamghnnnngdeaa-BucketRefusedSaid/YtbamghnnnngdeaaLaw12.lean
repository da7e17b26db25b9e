/- Law12: the laws of buckets. -/
import Derived.Test.YtbamghnnnngdeaaBucket
namespace Go.RS
open Go.SX Go.Proofs
set_option maxRecDepth 100000
set_option linter.unusedVariables false

theorem okB_cap {b : Int × Int} (h : okB b) (hb : b ≠ (0, 0)) : 1 ≤ b.1 ∧ 1 ≤ b.2 ∧ b.2 ≤ 1000 ∧ b.2 ≤ b.1 * b.2 ∧ b.1 * b.2 ≤ 4000 := by
  obtain ⟨x, y⟩ := b
  rcases h with h | ⟨h1, h2, h3, h4⟩
  · exact absurd h hb
  · simp only at h1 h2 h3 h4 ⊢
    have : x = 1 ∨ x = 2 ∨ x = 3 ∨ x = 4 := by omega
    rcases this with rfl | rfl | rfl | rfl <;> omega
theorem bFull_in {b : Int × Int} (h : okB b) (x : Int) : bFull b x = (b.1 * b.2, x) := by
  by_cases hb : b = (0, 0)
  · subst hb; simp [bFull, w]; decide
  · have := okB_cap h hb
    unfold bFull w; rw [w64 (by omega) (by omega)]
theorem bTake_free (t : Int × Int) (x : Int) : bTake (0, 0) t x = ((0, max x t.2), true) := by simp [bTake]
theorem bTake_in {b t : Int × Int} {x : Int} (h : okB b) (hb : b ≠ (0, 0)) (h1 : 0 ≤ t.1) (h2 : t.1 ≤ 100000) (h3 : 0 ≤ t.2) (h4 : t.2 ≤ x) (h5 : x ≤ 100000) :
    bTake b t x = if min (t.1 + (x - t.2)) (b.1 * b.2) < b.2 then ((min (t.1 + (x - t.2)) (b.1 * b.2), x), false) else ((min (t.1 + (x - t.2)) (b.1 * b.2) - b.2, x), true) := by
  have hc := okB_cap h hb
  have hm : max x t.2 = x := by omega
  have e : bCredit b t x = min (t.1 + (x - t.2)) (b.1 * b.2) := by
    unfold bCredit w
    rw [w64 (n := x - t.2) (by omega) (by omega), w64 (by omega) (by omega), w64 (by omega) (by omega)]
  unfold bTake w
  rw [if_neg hb, hm, e]
  split
  · rfl
  · rw [w64 (by omega) (by omega)]
theorem sorted_next {l : List Int} (h : l.Pairwise (· ≤ ·)) {j : Int} (h0 : 0 ≤ j) (h1 : j < l.length) : ∀ y ∈ l.drop (j + 1).toNat, l.getD j.toNat default ≤ y := by
  intro y hy
  have hj : j.toNat < l.length := by omega
  rw [List.getD_eq_getElem?_getD, List.getElem?_eq_getElem hj, Option.getD_some]
  have e : (j + 1).toNat = j.toNat + 1 := by omega
  rw [e] at hy
  obtain ⟨n, hn, rfl⟩ := List.mem_iff_getElem.1 hy
  rw [List.getElem_drop]
  rw [List.length_drop] at hn
  exact List.pairwise_iff_getElem.1 h _ _ hj (by omega) (by omega)
theorem getD_drop {l : List Int} {j : Int} (h0 : 0 ≤ j) (h1 : j < l.length) : l.getD j.toNat default ∈ l.drop j.toNat := by
  have hj : j.toNat < l.length := by omega
  rw [List.getD_eq_getElem?_getD, List.getElem?_eq_getElem hj, Option.getD_some, List.drop_eq_getElem_cons hj]
  exact List.mem_cons_self ..

/-- The tokens 't' are those that 'u' has grown to. -/
def rInv (b : Int × Int) (l : List Int) (t u : Int × Int) (j : Int) : Prop :=
  okB b ∧ okT true l ∧ 0 ≤ j ∧ j ≤ l.length ∧ (∀ x ∈ l.drop j.toNat, t.2 ≤ x) ∧
    (b = (0, 0) → t = u) ∧ (b ≠ (0, 0) → 0 ≤ u.2 ∧ u.2 ≤ t.2 ∧ t.2 ≤ 8000 ∧ 0 ≤ u.1 ∧ u.1 ≤ 4000 ∧ t.1 = min (u.1 + (t.2 - u.2)) (b.1 * b.2))
def lp4 : LPs := [(false, .sl cU8)]
def ct_law12_BucketRefused : Ct := lawCt lp4
def an_law12_BucketRefused : PDs ct_law12_BucketRefused.ps → Anns := (fun d => { loops := (fun n => match n with | 8 => some (fun S => { ι := (Int × Int) × (List Int) × (Int × Int) × (Int × Int) × Int, qn := ⟨fun k_ => ∀ (b : (Int × Int)) (l : (List Int)) (t : (Int × Int)) (u : (Int × Int)) (j : Int), k_ (b, l, t, u, j), fun k_ h_ i => h_ i.1 i.2.1 i.2.2.1 i.2.2.2.1 i.2.2.2.2, fun k_ => ∃ (b : (Int × Int)) (l : (List Int)) (t : (Int × Int)) (u : (Int × Int)) (j : Int), k_ (b, l, t, u, j), fun k_ ⟨b, l, t, u, j, h_⟩ => ⟨_, h_⟩⟩, μ := fun i => (i.2.1.length - i.2.2.2.2).toNat, inv := fun i => rInv i.1 i.2.1 i.2.2.1 i.2.2.2.1 i.2.2.2.2, keep := [4, 5, 6, 7], slots := fun i => [(8, .int .i64 i.2.2.2.2)], names := fun i => [(80, .live (.cells 30 (flat cBucket i.1))), (336, .live (.row 3 cI i.2.1)), (112, .live (.cells 35 (flat cTokens i.2.2.1))), (128, .live (.cells 35 (flat cTokens i.2.2.2.1)))] }) | _ => none) })
theorem vc_law12_BucketRefused :
    ∀ (x : List Int),
     (List.length x ≤ maxLen ∧ ∀ (x_1 : Int), x_1 ∈ x → (0 : Int) ≤ x_1 ∧ x_1 ≤ (255 : Int)) ∧ True →
      True →
       (0 : Int) ≤ (120 : Int) ∧
        okC (if ↑(List.length x) ≤ (120 : Int) then x else List.take (Int.toNat (120 : Int)) x, (0 : Int)) ∧
         ∀ (x x_1 : Int) (x_2 : List Int) (x_3 : Int),
          okB (x, x_1) ∧ okC (x_2, x_3) →
           okC (x_2, x_3) ∧
            ∀ (x_4 x_5 : List Int) (x_6 : Int),
            okT true x_4 ∧ okC (x_5, x_6) →
            (∃ b l t u j,
            rInv b l t u j ∧
            (0 : Int) = j ∧
            x = Prod.fst b ∧
            x_1 = Prod.snd b ∧
            x_4 = l ∧
            w (x * x_1) = Prod.fst t ∧
            (0 : Int) = Prod.snd t ∧ w (x * x_1) = Prod.fst u ∧ (0 : Int) = Prod.snd u ∧ True) ∧
            ∀ (b : Int × Int) (l : List Int) (t u : Int × Int) (j : Int),
            rInv b l t u j →
            ifP (decide (j < ↑(List.length l)))
            ((0 : Int) ≤ j ∧
            j < ↑(List.length l) ∧
            ifP (!Prod.snd (bTake b t (List.getD l (Int.toNat j) default)))
            (∃ b_1 l_1 t_1 u_1 j_1,
            rInv b_1 l_1 t_1 u_1 j_1 ∧
            Int.toNat (↑(List.length l_1) - j_1) < Int.toNat (↑(List.length l) - j) ∧
            IntKind.wrap IntKind.i64 (j + (1 : Int)) = j_1 ∧
            Prod.fst b = Prod.fst b_1 ∧
            Prod.snd b = Prod.snd b_1 ∧
            l = l_1 ∧
            Prod.fst (bTake b t (List.getD l (Int.toNat j) default)).1 =
            Prod.fst t_1 ∧
            Prod.snd (bTake b t (List.getD l (Int.toNat j) default)).1 =
            Prod.snd t_1 ∧
            Prod.fst u = Prod.fst u_1 ∧ Prod.snd u = Prod.snd u_1 ∧ True)
            ((0 : Int) ≤ j ∧
            j < ↑(List.length l) ∧
            ((!!Prod.snd (bTake b u (List.getD l (Int.toNat j) default))) = true →
            ((!!Prod.snd (bTake b u (List.getD l (Int.toNat j) default))) = true →
            (!!Prod.snd (bTake b u (List.getD l (Int.toNat j) default))) = true) ∧
            ((!!Prod.snd (bTake b u (List.getD l (Int.toNat j) default))) = true →
            (!!Prod.snd (bTake b u (List.getD l (Int.toNat j) default))) = true) ∧
            True) ∧
            ((!Prod.snd (bTake b u (List.getD l (Int.toNat j) default))) = false →
            (!!Prod.snd (bTake b u (List.getD l (Int.toNat j) default))) = true) ∧
            ifP
            (bif !Prod.snd (bTake b u (List.getD l (Int.toNat j) default)) then true
            else
            !(decide
            (Prod.fst (bTake b u (List.getD l (Int.toNat j) default)).1 =
            Prod.fst (bTake b t (List.getD l (Int.toNat j) default)).1) &&
            (decide
            (Prod.snd (bTake b u (List.getD l (Int.toNat j) default)).1 =
            Prod.snd (bTake b t (List.getD l (Int.toNat j) default)).1) &&
            true)))
            (false = true)
            (∃ b_1 l_1 t_1 u_1 j_1,
            rInv b_1 l_1 t_1 u_1 j_1 ∧
            Int.toNat (↑(List.length l_1) - j_1) <
            Int.toNat (↑(List.length l) - j) ∧
            IntKind.wrap IntKind.i64 (j + (1 : Int)) = j_1 ∧
            Prod.fst b = Prod.fst b_1 ∧
            Prod.snd b = Prod.snd b_1 ∧
            l = l_1 ∧
            Prod.fst (bTake b t (List.getD l (Int.toNat j) default)).1 =
            Prod.fst t_1 ∧
            Prod.snd (bTake b t (List.getD l (Int.toNat j) default)).1 =
            Prod.snd t_1 ∧
            Prod.fst
            (bTake b u (List.getD l (Int.toNat j) default)).1 =
            Prod.fst u_1 ∧
            Prod.snd
            (bTake b u
            (List.getD l (Int.toNat j) default)).1 =
            Prod.snd u_1 ∧
            True)))
            (true = true) := by
  rintro cl - -
  refine ⟨by omega, by split <;> simp [okC], ?_⟩
  rintro B E l1 p1 ⟨hb, hc1⟩
  refine ⟨hc1, ?_⟩
  rintro l l2 p2 ⟨hl, hc2⟩
  obtain ⟨hl0, hl1, hl2⟩ := hl
  have hfull := bFull_in hb 0
  simp only [bFull] at hfull
  have hw : w (B * E) = B * E := by have := congrArg Prod.fst hfull; exact this
  refine ⟨⟨(B, E), l, (B * E, 0), (B * E, 0), 0, ⟨hb, ⟨hl0, hl1, hl2⟩, by omega, by omega, fun x hx => (hl1 x (List.mem_of_mem_drop hx)).1, fun _ => rfl, fun hne => ?_⟩, rfl, rfl, rfl, rfl, hw, rfl, hw, rfl, trivial⟩, ?_⟩
  · have := okB_cap hb hne
    simp only at this ⊢
    omega
  rintro b l t u j ⟨hb, ⟨hl0, hl1, hl2⟩, hj0, hj1, hle, hz, hnz⟩
  refine ifP_split (fun hj => ?_) (fun _ => rfl)
  have hj := of_decide_eq_true hj
  have hmem := getD_mem hj0 hj
  have hx := hl1 _ hmem
  have htx := hle _ (getD_drop hj0 hj)
  have hnext := sorted_next (hl2 rfl) hj0 hj
  generalize l.getD j.toNat default = x at hmem hx htx hnext ⊢
  have hw1 : IntKind.wrap IntKind.i64 (j + 1) = j + 1 := w64 (by omega) (by omega)
  refine ⟨hj0, hj, ?_⟩
  by_cases hb0 : b = (0, 0)
  · have htu := hz hb0
    subst htu
    have e := bTake_free t x
    rw [← hb0] at e
    rw [e]
    refine ifP_split (fun h => by simp at h) (fun _ => ⟨hj0, hj, (by simp), (by simp), ifP_split (fun h => by simp at h) (fun _ => ?_)⟩)
    exact ⟨b, l, (0, max x t.2), (0, max x t.2), j + 1, ⟨hb, ⟨hl0, hl1, hl2⟩, by omega, by omega, fun y hy => by have := hnext y hy; simp only; omega, fun _ => rfl, fun h => absurd hb0 h⟩, by omega, hw1, rfl, rfl, rfl, rfl, rfl, rfl, rfl, trivial⟩
  · obtain ⟨k1, k2, k3, k4, k5, k6⟩ := hnz hb0
    have hcap := okB_cap hb hb0
    have et := bTake_in (t := t) (x := x) hb hb0 (by omega) (by omega) (by omega) htx (by omega)
    have eu := bTake_in (t := u) (x := x) hb hb0 (by omega) (by omega) (by omega) (by omega) (by omega)
    have hmin : min (t.1 + (x - t.2)) (b.1 * b.2) = min (u.1 + (x - u.2)) (b.1 * b.2) := by omega
    rw [hmin] at et
    rw [← eu] at et
    rw [et]
    by_cases hlt : min (u.1 + (x - u.2)) (b.1 * b.2) < b.2
    · rw [if_pos hlt] at eu
      rw [eu]
      refine ifP_split (fun _ => ?_) (fun h => by simp at h)
      exact ⟨b, l, (min (u.1 + (x - u.2)) (b.1 * b.2), x), u, j + 1, ⟨hb, ⟨hl0, hl1, hl2⟩, by omega, by omega, hnext, fun h => absurd h hb0, fun _ => ⟨k1, by simp only; omega, by simp only; omega, k4, k5, rfl⟩⟩, by omega, hw1, rfl, rfl, rfl, rfl, rfl, rfl, rfl, trivial⟩
    · rw [if_neg hlt] at eu
      rw [eu]
      refine ifP_split (fun h => by simp at h) (fun _ => ⟨hj0, hj, fun h => ⟨fun _ => h, fun _ => h, trivial⟩, fun _ => rfl, ifP_split (fun h => by simp at h) (fun _ => ?_)⟩)
      exact ⟨b, l, (min (u.1 + (x - u.2)) (b.1 * b.2) - b.2, x), (min (u.1 + (x - u.2)) (b.1 * b.2) - b.2, x), j + 1, ⟨hb, ⟨hl0, hl1, hl2⟩, by omega, by omega, hnext, fun h => absurd h hb0, fun _ => ⟨by simp only; omega, by simp only; omega, by simp only; omega, by simp only; omega, by simp only; omega, by simp only; omega⟩⟩, by omega, hw1, rfl, rfl, rfl, rfl, rfl, rfl, rfl, trivial⟩
theorem ok_law12_BucketRefused : SpecOK Try.prog 4 ct_law12_BucketRefused.spec := Ct.ok' _ Try.func4 (by kernel_rfl) (withSpec_ok (withSpec_ok (withSpec_ok (withSpec_ok (withSpec_ok (withSpec_ok noSpecs_ok ok_law12_awake) ok_draw_New) ok_draw_Codes_Bucket) ok_law12_times) ok_bucket_Full) ok_bucket_Take) hmix an_law12_BucketRefused (Eq.mpr (by kernel_rfl) vc_law12_BucketRefused)

def lp6 : LPs := [(false, .sl cU8), (false, cU8)]
def ct_law12_BucketReady : Ct := lawCt lp6
def an_law12_BucketReady : PDs ct_law12_BucketReady.ps → Anns := (fun d => { loops := (fun n => match n with | 8 => some (fun S => { ι := (Int × Int) × (List Int) × (Int × Int) × Int, qn := ⟨fun k_ => ∀ (b : (Int × Int)) (l : (List Int)) (t : (Int × Int)) (j : Int), k_ (b, l, t, j), fun k_ h_ i => h_ i.1 i.2.1 i.2.2.1 i.2.2.2, fun k_ => ∃ (b : (Int × Int)) (l : (List Int)) (t : (Int × Int)) (j : Int), k_ (b, l, t, j), fun k_ ⟨b, l, t, j, h_⟩ => ⟨_, h_⟩⟩, μ := fun i => (i.2.1.length - i.2.2.2).toNat, inv := fun i => okB i.1 ∧ okT true i.2.1 ∧ 0 ≤ i.2.2.2 ∧ i.2.2.2 ≤ i.2.1.length ∧ 0 ≤ i.2.2.1.2 ∧ i.2.2.1.2 ≤ 8000 ∧ (i.1 ≠ (0, 0) → 0 ≤ i.2.2.1.1 ∧ i.2.2.1.1 ≤ i.1.1 * i.1.2) ∧ (∀ x ∈ i.2.1.drop i.2.2.2.toNat, i.2.2.1.2 ≤ x), keep := [1, 6, 7, 8], slots := fun i => [(9, .int .i64 i.2.2.2)], names := fun i => [(112, .live (.cells 30 (flat cBucket i.1))), (384, .live (.row 3 cI i.2.1)), (144, .live (.cells 35 (flat cTokens i.2.2.1)))] }) | _ => none) })
theorem vc_law12_BucketReady :
    ∀ (x : List Int) (x_1 : Int),
     (List.length x ≤ maxLen ∧ ∀ (x_2 : Int), x_2 ∈ x → (0 : Int) ≤ x_2 ∧ x_2 ≤ (255 : Int)) ∧
       ((0 : Int) ≤ x_1 ∧ x_1 ≤ (255 : Int)) ∧ True →
      True →
       (0 : Int) ≤ (120 : Int) ∧
        okC (if ↑(List.length x) ≤ (120 : Int) then x else List.take (Int.toNat (120 : Int)) x, (0 : Int)) ∧
         ∀ (x x_2 : Int) (x_3 : List Int) (x_4 : Int),
          okB (x, x_2) ∧ okC (x_3, x_4) →
           okC (x_3, x_4) ∧
            ∀ (x_5 x_6 : List Int) (x_7 : Int),
            okT true x_5 ∧ okC (x_6, x_7) →
            (∃ b l t j,
            (okB b ∧
            okT true l ∧
            (0 : Int) ≤ j ∧
            j ≤ ↑(List.length l) ∧
            (0 : Int) ≤ Prod.snd t ∧
            Prod.snd t ≤ (8000 : Int) ∧
            (b ≠ ((0 : Int), (0 : Int)) →
            (0 : Int) ≤ Prod.fst t ∧ Prod.fst t ≤ Prod.fst b * Prod.snd b) ∧
            ∀ (x : Int), x ∈ List.drop (Int.toNat j) l → Prod.snd t ≤ x) ∧
            x_1 = x_1 ∧
            (0 : Int) = j ∧
            x = Prod.fst b ∧
            x_2 = Prod.snd b ∧ x_5 = l ∧ w (x * x_2) = Prod.fst t ∧ (0 : Int) = Prod.snd t ∧ True) ∧
            ∀ (b : Int × Int) (l : List Int) (t : Int × Int) (j : Int),
            (okB b ∧
            okT true l ∧
            (0 : Int) ≤ j ∧
            j ≤ ↑(List.length l) ∧
            (0 : Int) ≤ Prod.snd t ∧
            Prod.snd t ≤ (8000 : Int) ∧
            (b ≠ ((0 : Int), (0 : Int)) →
            (0 : Int) ≤ Prod.fst t ∧ Prod.fst t ≤ Prod.fst b * Prod.snd b) ∧
            ∀ (x : Int), x ∈ List.drop (Int.toNat j) l → Prod.snd t ≤ x) →
            ifP (decide (j < ↑(List.length l)))
            ((0 : Int) ≤ j ∧
            j < ↑(List.length l) ∧
            (0 : Int) ≤ j ∧
            j < ↑(List.length l) ∧
            (0 : Int) ≤ j ∧
            j < ↑(List.length l) ∧
            ((!decide
            (bReady b (bTake b t (List.getD l (Int.toNat j) default)).1
            (List.getD l (Int.toNat j) default) <
            List.getD l (Int.toNat j) default)) =
            true →
            ((!decide
            (bReady b (bTake b t (List.getD l (Int.toNat j) default)).1
            (List.getD l (Int.toNat j) default) <
            List.getD l (Int.toNat j) default)) =
            true →
            (!decide
            (bReady b (bTake b t (List.getD l (Int.toNat j) default)).1
            (List.getD l (Int.toNat j) default) <
            List.getD l (Int.toNat j) default)) =
            true) ∧
            True) ∧
            (decide
            (bReady b (bTake b t (List.getD l (Int.toNat j) default)).1
            (List.getD l (Int.toNat j) default) <
            List.getD l (Int.toNat j) default) =
            false →
            (!decide
            (bReady b (bTake b t (List.getD l (Int.toNat j) default)).1
            (List.getD l (Int.toNat j) default) <
            List.getD l (Int.toNat j) default)) =
            true) ∧
            ifP
            (bif
            decide
            (bReady b (bTake b t (List.getD l (Int.toNat j) default)).1
            (List.getD l (Int.toNat j) default) <
            List.getD l (Int.toNat j) default) then
            true
            else
            !Prod.snd
            (bTake b (bTake b t (List.getD l (Int.toNat j) default)).1
            (bReady b (bTake b t (List.getD l (Int.toNat j) default)).1
            (List.getD l (Int.toNat j) default))))
            (false = true)
            ((0 : Int) ≤ j ∧
            j < ↑(List.length l) ∧
            (5 : Int) ≠ (0 : Int) ∧
            ifP
            (decide
            (max (List.getD l (Int.toNat j) default)
            (IntKind.wrap IntKind.i64
            (IntKind.wrap IntKind.i64
            (bReady b
            (bTake b t (List.getD l (Int.toNat j) default)).1
            (List.getD l (Int.toNat j) default) -
            (1 : Int)) -
            Int.tmod (IntKind.wrap IntKind.i64 x_1) (5 : Int))) <
            bReady b (bTake b t (List.getD l (Int.toNat j) default)).1
            (List.getD l (Int.toNat j) default)))
            (ifP
            (Prod.snd
            (bTake b (bTake b t (List.getD l (Int.toNat j) default)).1
            (max (List.getD l (Int.toNat j) default)
            (IntKind.wrap IntKind.i64
            (IntKind.wrap IntKind.i64
            (bReady b
            (bTake b t
            (List.getD l (Int.toNat j) default)).1
            (List.getD l (Int.toNat j) default) -
            (1 : Int)) -
            Int.tmod (IntKind.wrap IntKind.i64 x_1) (5 : Int))))))
            (false = true)
            (∃ b_1 l_1 t_1 j_1,
            (okB b_1 ∧
            okT true l_1 ∧
            (0 : Int) ≤ j_1 ∧
            j_1 ≤ ↑(List.length l_1) ∧
            (0 : Int) ≤ Prod.snd t_1 ∧
            Prod.snd t_1 ≤ (8000 : Int) ∧
            (b_1 ≠ ((0 : Int), (0 : Int)) →
            (0 : Int) ≤ Prod.fst t_1 ∧
            Prod.fst t_1 ≤
            Prod.fst b_1 * Prod.snd b_1) ∧
            ∀ (x : Int),
            x ∈ List.drop (Int.toNat j_1) l_1 →
            Prod.snd t_1 ≤ x) ∧
            Int.toNat (↑(List.length l_1) - j_1) <
            Int.toNat (↑(List.length l) - j) ∧
            x_1 = x_1 ∧
            IntKind.wrap IntKind.i64 (j + (1 : Int)) = j_1 ∧
            Prod.fst b = Prod.fst b_1 ∧
            Prod.snd b = Prod.snd b_1 ∧
            l = l_1 ∧
            Prod.fst
            (bTake b t
            (List.getD l (Int.toNat j)
            default)).1 =
            Prod.fst t_1 ∧
            Prod.snd
            (bTake b t
            (List.getD l (Int.toNat j)
            default)).1 =
            Prod.snd t_1 ∧
            True))
            (∃ b_1 l_1 t_1 j_1,
            (okB b_1 ∧
            okT true l_1 ∧
            (0 : Int) ≤ j_1 ∧
            j_1 ≤ ↑(List.length l_1) ∧
            (0 : Int) ≤ Prod.snd t_1 ∧
            Prod.snd t_1 ≤ (8000 : Int) ∧
            (b_1 ≠ ((0 : Int), (0 : Int)) →
            (0 : Int) ≤ Prod.fst t_1 ∧
            Prod.fst t_1 ≤
            Prod.fst b_1 * Prod.snd b_1) ∧
            ∀ (x : Int),
            x ∈ List.drop (Int.toNat j_1) l_1 →
            Prod.snd t_1 ≤ x) ∧
            Int.toNat (↑(List.length l_1) - j_1) <
            Int.toNat (↑(List.length l) - j) ∧
            x_1 = x_1 ∧
            IntKind.wrap IntKind.i64 (j + (1 : Int)) = j_1 ∧
            Prod.fst b = Prod.fst b_1 ∧
            Prod.snd b = Prod.snd b_1 ∧
            l = l_1 ∧
            Prod.fst
            (bTake b t
            (List.getD l (Int.toNat j) default)).1 =
            Prod.fst t_1 ∧
            Prod.snd
            (bTake b t
            (List.getD l (Int.toNat j)
            default)).1 =
            Prod.snd t_1 ∧
            True)))
            (true = true) := by
  rintro cl by' ⟨-, ⟨hby0, hby1⟩, -⟩ -
  refine ⟨by omega, by split <;> simp [okC], ?_⟩
  rintro B E l1 p1 ⟨hb, hc1⟩
  refine ⟨hc1, ?_⟩
  rintro l l2 p2 ⟨hl, hc2⟩
  obtain ⟨hl0, hl1, hl2⟩ := hl
  have hfull := bFull_in hb 0
  simp only [bFull] at hfull
  have hw : w (B * E) = B * E := by have := congrArg Prod.fst hfull; exact this
  refine ⟨⟨(B, E), l, (B * E, 0), 0, ⟨hb, ⟨hl0, hl1, hl2⟩, by omega, by omega, by simp, by simp, fun hne => ?_, fun x hx => (hl1 x (List.mem_of_mem_drop hx)).1⟩, rfl, rfl, rfl, rfl, rfl, hw, rfl, trivial⟩, ?_⟩
  · have := okB_cap hb hne
    simp only at this ⊢
    omega
  rintro b l t j ⟨hb, ⟨hl0, hl1, hl2⟩, hj0, hj1, ht1, ht2, hnz, hle⟩
  refine ifP_split (fun hj => ?_) (fun _ => rfl)
  have hj := of_decide_eq_true hj
  have hmem := getD_mem hj0 hj
  have hx := hl1 _ hmem
  have htx := hle _ (getD_drop hj0 hj)
  have hnext := sorted_next (hl2 rfl) hj0 hj
  generalize l.getD j.toNat default = x at hmem hx htx hnext ⊢
  have hw1 : IntKind.wrap IntKind.i64 (j + 1) = j + 1 := w64 (by omega) (by omega)
  refine ⟨hj0, hj, hj0, hj, hj0, hj, (by simp), (by simp), ?_⟩
  by_cases hb0 : b = (0, 0)
  · have e := bTake_free t x
    rw [← hb0] at e
    have er : ∀ t, bReady b t x = x := fun t => by unfold bReady; rw [if_pos (.inl hb0)]
    rw [e, er]
    have e2 := bTake_free (0, max x t.2) x
    rw [← hb0] at e2
    rw [e2]
    refine ifP_split (fun h => by simp at h) (fun _ => ⟨hj0, hj, by omega, ifP_split (fun h => ?_) (fun _ => ?_)⟩)
    · have h := of_decide_eq_true h
      omega
    · exact ⟨b, l, (0, max x t.2), j + 1, ⟨hb, ⟨hl0, hl1, hl2⟩, by omega, by omega, by simp only; omega, by simp only; omega, fun h => absurd hb0 h, fun y hy => by have := hnext y hy; simp only; omega⟩, by omega, rfl, hw1, rfl, rfl, rfl, rfl, rfl, trivial⟩
  · obtain ⟨k1, k2⟩ := hnz hb0
    have hcap := okB_cap hb hb0
    have et := bTake_in (t := t) (x := x) hb hb0 (by omega) (by omega) (by omega) htx (by omega)
    have hu : ∃ c ok, bTake b t x = ((c, x), ok) ∧ 0 ≤ c ∧ c ≤ b.1 * b.2 ∧ c ≤ 4000 := by
      split at et
      · exact ⟨_, _, et, by omega, by omega, by omega⟩
      · exact ⟨_, _, et, by omega, by omega, by omega⟩
    obtain ⟨c, ok, eu, c0, c1, c2⟩ := hu
    rw [eu]
    have hx2 := hx.2
    have er : bReady b (c, x) x = max x (x + b.2 - c) := by
      unfold bReady
      split
      · rename_i h
        have : b.2 ≤ c := by rcases h with h | h; exact absurd h hb0; exact h
        omega
      · simp only [w]
        rw [w64 (n := x + b.2) (by omega) (by omega), w64 (by omega) (by omega)]
    have er' := er
    generalize bReady b (c, x) x = r at er er' ⊢
    have e2 := bTake_in (t := (c, x)) (x := r) hb hb0 (by simp only; omega) (by simp only; omega) (by simp only; omega) (by simp only; omega) (by omega)
    rw [if_neg (by simp only; omega)] at e2
    rw [e2]
    have fin : ∃ b_1 l_1 t_1 j_1, (okB b_1 ∧ okT true l_1 ∧ (0 : Int) ≤ j_1 ∧ j_1 ≤ ↑(List.length l_1) ∧ (0 : Int) ≤ Prod.snd t_1 ∧ Prod.snd t_1 ≤ (8000 : Int) ∧
        (b_1 ≠ ((0 : Int), (0 : Int)) → (0 : Int) ≤ Prod.fst t_1 ∧ Prod.fst t_1 ≤ Prod.fst b_1 * Prod.snd b_1) ∧ ∀ (x : Int), x ∈ List.drop (Int.toNat j_1) l_1 → Prod.snd t_1 ≤ x) ∧
        Int.toNat (↑(List.length l_1) - j_1) < Int.toNat (↑(List.length l) - j) ∧ by' = by' ∧ IntKind.wrap IntKind.i64 (j + (1 : Int)) = j_1 ∧ Prod.fst b = Prod.fst b_1 ∧ Prod.snd b = Prod.snd b_1 ∧ l = l_1 ∧
        Prod.fst ((c, x), ok).1 = Prod.fst t_1 ∧ Prod.snd ((c, x), ok).1 = Prod.snd t_1 ∧ True :=
      ⟨b, l, (c, x), j + 1, ⟨hb, ⟨hl0, hl1, hl2⟩, by omega, by omega, by simp only; omega, by simp only; omega, fun _ => by simp only; omega, hnext⟩, by omega, rfl, hw1, rfl, rfl, rfl, rfl, rfl, trivial⟩
    refine ifP_split (fun h => ?_) (fun _ => ⟨hj0, hj, by omega, ifP_split (fun h => ?_) (fun _ => fin)⟩)
    · simp at h; omega
    · have h := of_decide_eq_true h
      have q0 := tmod_lo (b := 5) hby0
      have q1 := tmod_hi (b := 5) hby0 (by omega)
      rw [w64 (n := by') (by omega) (by omega)] at h ⊢
      rw [w64 (n := r - 1) (by omega) (by omega)] at h ⊢
      rw [w64 (n := r - 1 - _) (by omega) (by omega)] at h ⊢
      generalize by'.tmod 5 = q at h q0 q1 ⊢
      have e3 := bTake_in (t := (c, x)) (x := max x (r - 1 - q)) hb hb0 (by simp only; omega) (by simp only; omega) (by simp only; omega) (by simp only; omega) (by omega)
      rw [if_pos (by simp only; omega)] at e3
      rw [e3]
      exact fin
theorem ok_law12_BucketReady : SpecOK Try.prog 6 ct_law12_BucketReady.spec := Ct.ok' _ Try.func6 (by kernel_rfl) (withSpec_ok (withSpec_ok (withSpec_ok (withSpec_ok (withSpec_ok (withSpec_ok (withSpec_ok noSpecs_ok ok_law12_awake) ok_draw_New) ok_draw_Codes_Bucket) ok_law12_times) ok_bucket_Full) ok_bucket_Take) ok_bucket_Ready) hmix an_law12_BucketReady (Eq.mpr (by kernel_rfl) vc_law12_BucketReady)

/-- The uses so far fit the windows. -/
def uOK (b : Int × Int) (us : List Int) : Prop := us.length ≤ 39 ∧ (∀ x ∈ us, 0 ≤ x ∧ x ≤ 8000) ∧ us.Pairwise (· ≤ ·) ∧
  (b ≠ (0, 0) → ∀ i k (_ : i ≤ k) (hk : k < us.length), ((k : Int) - i + 1) * b.2 ≤ b.1 * b.2 + (us[k] - us[i]))
/-- ..and the tokens tell how many more fit. -/
def wInv (b : Int × Int) (l : List Int) (t : Int × Int) (us : List Int) (j : Int) : Prop :=
  okB b ∧ okT true l ∧ 0 ≤ j ∧ j ≤ l.length ∧ us.length ≤ j ∧ (∀ x ∈ l.drop j.toNat, t.2 ≤ x) ∧ 0 ≤ t.2 ∧ t.2 ≤ 8000 ∧ (∀ x ∈ us, x ≤ t.2) ∧ uOK b us ∧
    (b ≠ (0, 0) → 0 ≤ t.1 ∧ t.1 ≤ b.1 * b.2 ∧ ∀ i (h : i < us.length), t.1 + ((us.length : Int) - i) * b.2 ≤ b.1 * b.2 + (t.2 - us[i]))
theorem uOK_push {b : Int × Int} {us : List Int} {x c T : Int} (hu : uOK b us) (h39 : us.length < 39) (hx : 0 ≤ x ∧ x ≤ 8000) (hT : ∀ y ∈ us, y ≤ T) (hTx : T ≤ x) (hb : 1 ≤ b.2 ∧ b.2 ≤ b.1 * b.2)
    (hc0 : b.2 ≤ min (c + (x - T)) (b.1 * b.2)) (hi : ∀ i (h : i < us.length), c + ((us.length : Int) - i) * b.2 ≤ b.1 * b.2 + (T - us[i])) :
    uOK b (us ++ [x]) ∧ ∀ i (h : i < (us ++ [x]).length), (min (c + (x - T)) (b.1 * b.2) - b.2) + (((us ++ [x]).length : Int) - i) * b.2 ≤ b.1 * b.2 + (x - (us ++ [x])[i]) := by
  obtain ⟨u1, u2, u3, u4⟩ := hu
  have hlen : (us ++ [x]).length = us.length + 1 := by simp
  refine ⟨⟨by omega, ?_, ?_, ?_⟩, ?_⟩
  · intro y hy
    rcases List.mem_append.1 hy with hy | hy
    · exact u2 y hy
    · simp at hy; omega
  · rw [List.pairwise_append]
    exact ⟨u3, by simp, fun y hy z hz => by simp at hz; have := hT y hy; omega⟩
  · intro hne i k hik hk
    rw [hlen] at hk
    by_cases hku : k < us.length
    · rw [List.getElem_append_left hku, List.getElem_append_left (by omega)]
      exact u4 hne i k hik hku
    · have hk : k = us.length := by omega
      subst hk
      by_cases hiu : i < us.length
      · have := hi i hiu
        simp only [List.getElem_append_left hiu, List.getElem_concat_length]
        have e : ((us.length : Int) - i + 1) * b.2 = ((us.length : Int) - i) * b.2 + b.2 := by rw [Int.add_mul]; omega
        rw [e]; omega
      · have : i = us.length := by omega
        subst this
        have e : ((us.length : Int) - us.length + 1) * b.2 = b.2 := by rw [Int.sub_self, Int.zero_add, Int.one_mul]
        rw [e]; omega
  · intro i h
    rw [hlen] at h ⊢
    have e : (((us.length + 1 : Nat) : Int) - i) * b.2 = ((us.length : Int) - i) * b.2 + b.2 := by
      have : ((us.length + 1 : Nat) : Int) - i = ((us.length : Int) - i) + 1 := by omega
      rw [this, Int.add_mul]; omega
    rw [e]
    by_cases hiu : i < us.length
    · have := hi i hiu
      simp only [List.getElem_append_left hiu]
      omega
    · have : i = us.length := by omega
      subst this
      simp only [List.getElem_concat_length]
      rw [Int.sub_self, Int.zero_mul]; omega
theorem most_ok {b : Int × Int} {us : List Int} (hb : okB b) (hb1 : 0 < b.1) (hu : uOK b us) {j k : Int} (h0 : 0 ≤ j) (h1 : j ≤ k) (h2 : k < us.length) :
    k - j + 1 ≤ bMost b (w (us.getD k.toNat default - us.getD j.toNat default)) := by
  obtain ⟨u1, u2, u3, u4⟩ := hu
  have hb0 : b ≠ (0, 0) := by rintro rfl; simp at hb1
  have hcap := okB_cap hb hb0
  have hk : k.toNat < us.length := by omega
  have hj : j.toNat < us.length := by omega
  have hw := u4 hb0 j.toNat k.toNat (by omega) hk
  have m1 := u2 _ (List.getElem_mem hk)
  have m2 := u2 _ (List.getElem_mem hj)
  have hle : us[j.toNat] ≤ us[k.toNat] := by
    by_cases e : j.toNat = k.toNat
    · simp only [e]; omega
    · exact List.pairwise_iff_getElem.1 u3 _ _ hj hk (by omega)
  rw [List.getD_eq_getElem?_getD, List.getElem?_eq_getElem hk, Option.getD_some, List.getD_eq_getElem?_getD, List.getElem?_eq_getElem hj, Option.getD_some]
  rw [show ((k.toNat : Int) - (j.toNat : Int) + 1) = k - j + 1 from by omega] at hw
  generalize us[k.toNat] = x at *
  generalize us[j.toNat] = y at *
  have hww : w (x - y) = x - y := w64 (by omega) (by omega)
  rw [hww]
  unfold bMost
  rw [if_neg (by simp only [not_or]; exact ⟨hb0, by omega, by omega⟩)]
  have hdiv : (x - y).tdiv b.2 = (x - y) / b.2 := Int.tdiv_eq_ediv_of_nonneg (by omega)
  rw [hdiv]
  have q1 : 0 ≤ (x - y) / b.2 := Int.ediv_nonneg (by omega) (by omega)
  have q2 : (x - y) / b.2 ≤ x - y := Int.ediv_le_self _ (by omega)
  have hb4 : b.1 ≤ 4 := by
    rcases hb with h | h
    · exact absurd h hb0
    · exact h.2.1
  have hw2 : w ((x - y) / b.2) = (x - y) / b.2 := w64 (by omega) (by omega)
  rw [hw2]
  have hw3 : w (b.1 + (x - y) / b.2) = b.1 + (x - y) / b.2 := w64 (by omega) (by omega)
  rw [hw3]
  have : k - j + 1 - b.1 ≤ (x - y) / b.2 := by
    rw [Int.le_ediv_iff_mul_le (by omega), Int.sub_mul]; omega
  omega
def ct_law12_BucketWindow : Ct := lawCt lp4
def an_law12_BucketWindow : PDs ct_law12_BucketWindow.ps → Anns := (fun d => { loops := (fun n => match n with | 9 => some (fun S => { ι := (Int × Int) × (List Int) × Int, qn := ⟨fun k_ => ∀ (t : (Int × Int)) (us : (List Int)) (j : Int), k_ (t, us, j), fun k_ h_ i => h_ i.1 i.2.1 i.2.2, fun k_ => ∃ (t : (Int × Int)) (us : (List Int)) (j : Int), k_ (t, us, j), fun k_ ⟨t, us, j, h_⟩ => ⟨_, h_⟩⟩, μ := fun i => ((S.o cI 5).length - i.2.2).toNat, inv := fun i => wInv (S.c cBucket 80) (S.o cI 5) i.1 i.2.1 i.2.2, keep := [4, 5, 6], slots := fun i => [(7, .own 524288 1), (8, .int .i64 i.2.2)], keepN := [80, 320], names := fun i => [(112, .live (.cells 35 (flat cTokens i.1))), (524288, .live (.row 3 cI i.2.1))] }) | 18 => some (fun S => { ι := Int, μ := fun i => ((S.o cI 7).length - i).toNat, inv := fun i => 0 ≤ i ∧ i ≤ (S.o cI 7).length, keep := [4, 7], slots := fun i => [(10, .int .i64 i)], keepN := [80, 524288], names := fun i => [] }) | 21 => some (fun S => { ι := Int, μ := fun i => ((S.o cI 7).length - i).toNat, inv := fun i => S.i 10 ≤ i ∧ i ≤ (S.o cI 7).length, keep := [4, 7, 10], slots := fun i => [(11, .int .i64 i)], keepN := [80, 524288], names := fun i => [] }) | _ => none) })
theorem vc_law12_BucketWindow :
    ∀ (x : List Int),
     (List.length x ≤ maxLen ∧ ∀ (x_1 : Int), x_1 ∈ x → (0 : Int) ≤ x_1 ∧ x_1 ≤ (255 : Int)) ∧ True →
      True →
       (0 : Int) ≤ (120 : Int) ∧
        okC (if ↑(List.length x) ≤ (120 : Int) then x else List.take (Int.toNat (120 : Int)) x, (0 : Int)) ∧
         ∀ (x x_1 : Int) (x_2 : List Int) (x_3 : Int),
          okB (x, x_1) ∧ okC (x_2, x_3) →
           okC (x_2, x_3) ∧
            ∀ (x_4 x_5 : List Int) (x_6 : Int),
            okT true x_4 ∧ okC (x_5, x_6) →
            (∃ t us j,
            wInv (x, x_1) x_4 t us j ∧
            (0 : Int) = j ∧
            x = x ∧
            x_1 = x_1 ∧
            x_4 = x_4 ∧ w (x * x_1) = Prod.fst t ∧ (0 : Int) = Prod.snd t ∧ us = [] ∧ True) ∧
            ∀ (t : Int × Int) (us : List Int) (j : Int),
            wInv (x, x_1) x_4 t us j →
            ifP (decide (j < ↑(List.length x_4)))
            ((0 : Int) ≤ j ∧
            j < ↑(List.length x_4) ∧
            ifP (Prod.snd (bTake (x, x_1) t (List.getD x_4 (Int.toNat j) default)))
            ((0 : Int) ≤ j ∧
            j < ↑(List.length x_4) ∧
            (List.length us + List.length [List.getD x_4 (Int.toNat j) default]) * (8 : Nat) ≤
            (140737488355328 : Nat) ∧
            (decide (x = (0 : Int)) = true →
            (decide (x = (0 : Int)) = true → decide (x = (0 : Int)) = true) ∧ True) ∧
            (decide (x = (0 : Int)) = true → decide (x = (0 : Int)) = true) ∧
            ifP
            (bif decide (x = (0 : Int)) then
            !Prod.snd (bTake (x, x_1) t (List.getD x_4 (Int.toNat j) default))
            else false)
            (false = true)
            (∃ t_1 us_1 j_1,
            wInv (x, x_1) x_4 t_1 us_1 j_1 ∧
            Int.toNat (↑(List.length x_4) - j_1) <
            Int.toNat (↑(List.length x_4) - j) ∧
            IntKind.wrap IntKind.i64 (j + (1 : Int)) = j_1 ∧
            x = x ∧
            x_1 = x_1 ∧
            x_4 = x_4 ∧
            Prod.fst
            (bTake (x, x_1) t
            (List.getD x_4 (Int.toNat j) default)).1 =
            Prod.fst t_1 ∧
            Prod.snd
            (bTake (x, x_1) t
            (List.getD x_4 (Int.toNat j) default)).1 =
            Prod.snd t_1 ∧
            us ++ [List.getD x_4 (Int.toNat j) default] = us_1 ∧
            True))
            ((decide (x = (0 : Int)) = true →
            (decide (x = (0 : Int)) = true → decide (x = (0 : Int)) = true) ∧ True) ∧
            (decide (x = (0 : Int)) = true → decide (x = (0 : Int)) = true) ∧
            ifP
            (bif decide (x = (0 : Int)) then
            !Prod.snd (bTake (x, x_1) t (List.getD x_4 (Int.toNat j) default))
            else false)
            (false = true)
            (∃ t_1 us_1 j_1,
            wInv (x, x_1) x_4 t_1 us_1 j_1 ∧
            Int.toNat (↑(List.length x_4) - j_1) < Int.toNat (↑(List.length x_4) - j) ∧
            IntKind.wrap IntKind.i64 (j + (1 : Int)) = j_1 ∧
            x = x ∧
            x_1 = x_1 ∧
            x_4 = x_4 ∧
            Prod.fst
            (bTake (x, x_1) t (List.getD x_4 (Int.toNat j) default)).1 =
            Prod.fst t_1 ∧
            Prod.snd
            (bTake (x, x_1) t
            (List.getD x_4 (Int.toNat j) default)).1 =
            Prod.snd t_1 ∧
            us = us_1 ∧ True)))
            ((∃ x_7,
            ((0 : Int) ≤ x_7 ∧ x_7 ≤ ↑(List.length us)) ∧
            (0 : Int) = x_7 ∧ x = x ∧ x_1 = x_1 ∧ us = us ∧ True) ∧
            ∀ (x_7 : Int),
            (0 : Int) ≤ x_7 ∧ x_7 ≤ ↑(List.length us) →
            (decide (x_7 < ↑(List.length us)) = true →
            (decide (x_7 < ↑(List.length us)) = true →
            decide (x_7 < ↑(List.length us)) = true) ∧
            True) ∧
            (decide (x_7 < ↑(List.length us)) = true →
            (decide (x_7 < ↑(List.length us)) = true →
            decide (x_7 < ↑(List.length us)) = true) ∧
            True) ∧
            (decide (x_7 < ↑(List.length us)) = true →
            decide (x_7 < ↑(List.length us)) = true) ∧
            ifP
            (bif decide (x_7 < ↑(List.length us)) then decide ((0 : Int) < x) else false)
            ((∃ x_8,
            (x_7 ≤ x_8 ∧ x_8 ≤ ↑(List.length us)) ∧
            x_7 = x_7 ∧ x_7 = x_8 ∧ x = x ∧ x_1 = x_1 ∧ us = us ∧ True) ∧
            ∀ (x_8 : Int),
            x_7 ≤ x_8 ∧ x_8 ≤ ↑(List.length us) →
            ifP (decide (x_8 < ↑(List.length us)))
            ((0 : Int) ≤ x_8 ∧
            x_8 < ↑(List.length us) ∧
            (0 : Int) ≤ x_7 ∧
            x_7 < ↑(List.length us) ∧
            ifP
            (decide
            (bMost (x, x_1)
            (IntKind.wrap IntKind.i64
            (List.getD us (Int.toNat x_8) default -
            List.getD us (Int.toNat x_7) default)) <
            IntKind.wrap IntKind.i64
            (IntKind.wrap IntKind.i64 (x_8 - x_7) + (1 : Int))))
            (false = true)
            (∃ x_9,
            (x_7 ≤ x_9 ∧ x_9 ≤ ↑(List.length us)) ∧
            Int.toNat (↑(List.length us) - x_9) <
            Int.toNat (↑(List.length us) - x_8) ∧
            x_7 = x_7 ∧
            IntKind.wrap IntKind.i64 (x_8 + (1 : Int)) = x_9 ∧
            x = x ∧ x_1 = x_1 ∧ us = us ∧ True))
            (∃ x_9,
            ((0 : Int) ≤ x_9 ∧ x_9 ≤ ↑(List.length us)) ∧
            Int.toNat (↑(List.length us) - x_9) <
            Int.toNat (↑(List.length us) - x_7) ∧
            IntKind.wrap IntKind.i64 (x_7 + (1 : Int)) = x_9 ∧
            x = x ∧ x_1 = x_1 ∧ us = us ∧ True))
            (true = true)) := by
  rintro cl - -
  refine ⟨by omega, by split <;> simp [okC], ?_⟩
  rintro B E l1 p1 ⟨hb, hc1⟩
  refine ⟨hc1, ?_⟩
  rintro l l2 p2 ⟨hl, hc2⟩
  obtain ⟨hl0, hl1, hl2⟩ := hl
  have hfull := bFull_in hb 0
  simp only [bFull] at hfull
  have hw : w (B * E) = B * E := by have := congrArg Prod.fst hfull; exact this
  refine ⟨⟨(B * E, 0), [], 0, ⟨hb, ⟨hl0, hl1, hl2⟩, by omega, by omega, by simp, fun x hx => (hl1 x (List.mem_of_mem_drop hx)).1, by simp, by simp, by simp, ⟨by simp, by simp, by simp, by simp⟩, fun hne => ?_⟩, rfl, rfl, rfl, rfl, hw, (by repeat' first | exact trivial | refine ⟨rfl, ?_⟩)⟩, ?_⟩
  · have := okB_cap hb hne
    simp only [List.length_nil] at this ⊢
    exact ⟨by omega, by omega, fun i h => absurd h (by omega)⟩
  rintro t us j ⟨-, -, hj0, hj1, huj, hle, ht1, ht2, hut, hu, hnz⟩
  refine ifP_split (fun hj => ?_) (fun _ => ⟨⟨0, by omega, (by repeat' first | exact trivial | refine ⟨rfl, ?_⟩)⟩, ?_⟩)
  · have hj := of_decide_eq_true hj
    have hmem := getD_mem hj0 hj
    have hx := hl1 _ hmem
    have htx := hle _ (getD_drop hj0 hj)
    have hnext := sorted_next (hl2 rfl) hj0 hj
    generalize l.getD j.toNat default = x at hmem hx htx hnext ⊢
    have hw1 : IntKind.wrap IntKind.i64 (j + 1) = j + 1 := w64 (by omega) (by omega)
    refine ⟨hj0, hj, ?_⟩
    by_cases hb0 : (B, E) = (0, 0)
    · have e := bTake_free t x
      rw [← hb0] at e
      rw [e]
      refine ifP_split (fun _ => ⟨hj0, hj, by simp; omega, (by simp), (by simp), ifP_split (fun h => by simp at h) (fun _ => ?_)⟩) (fun h => by simp at h)
      refine ⟨(0, max x t.2), us ++ [x], j + 1, ⟨hb, ⟨hl0, hl1, hl2⟩, by omega, by omega, by simp; omega, fun y hy => by have := hnext y hy; simp only; omega, by simp only; omega, by simp only; omega, ?_, ?_, fun h => absurd hb0 h⟩, by omega, hw1, (by repeat' first | exact trivial | refine ⟨rfl, ?_⟩)⟩
      · intro y hy
        rcases List.mem_append.1 hy with hy | hy
        · have := hut y hy; simp only; omega
        · simp at hy; subst hy; simp only; omega
      · obtain ⟨u1, u2, u3, u4⟩ := hu
        refine ⟨by simp; omega, fun y hy => ?_, ?_, fun h => absurd hb0 h⟩
        · rcases List.mem_append.1 hy with hy | hy
          · exact u2 y hy
          · simp at hy; omega
        · rw [List.pairwise_append]
          exact ⟨u3, by simp, fun y hy z hz => by simp at hz; have := hut y hy; omega⟩
    · obtain ⟨k1, k2, k3⟩ := hnz hb0
      have hcap := okB_cap hb hb0
      have hB : B ≠ 0 := by simp only at hcap; omega
      have e := bTake_in (t := t) (x := x) hb hb0 (by omega) (by omega) (by omega) htx (by omega)
      by_cases hlt : min (t.1 + (x - t.2)) ((B, E).1 * (B, E).2) < (B, E).2
      · rw [if_pos hlt] at e
        rw [e]
        refine ifP_split (fun h => by simp at h) (fun _ => ⟨(by simp), (by simp), ifP_split (fun h => by simp [hB] at h) (fun _ => ?_)⟩)
        refine ⟨(min (t.1 + (x - t.2)) ((B, E).1 * (B, E).2), x), us, j + 1, ⟨hb, ⟨hl0, hl1, hl2⟩, by omega, by omega, by omega, hnext, by simp only; omega, by simp only; omega, fun y hy => by have := hut y hy; simp only; omega, hu, fun _ => ⟨by simp only at hcap ⊢; omega, by simp only; omega, fun i h => ?_⟩⟩, by omega, hw1, (by repeat' first | exact trivial | refine ⟨rfl, ?_⟩)⟩
        have := k3 i h
        simp only at this ⊢
        omega
      · rw [if_neg hlt] at e
        rw [e]
        refine ifP_split (fun _ => ⟨hj0, hj, by simp; omega, (by simp), (by simp), ifP_split (fun h => by simp at h) (fun _ => ?_)⟩) (fun h => by simp at h)
        obtain ⟨p1, p2⟩ := uOK_push hu (by omega) hx hut htx (by omega) (by omega) k3
        refine ⟨(min (t.1 + (x - t.2)) ((B, E).1 * (B, E).2) - (B, E).2, x), us ++ [x], j + 1, ⟨hb, ⟨hl0, hl1, hl2⟩, by omega, by omega, by simp; omega, hnext, by simp only; omega, by simp only; omega, ?_, p1, fun _ => ⟨by simp only at hlt ⊢; omega, by simp only at hcap hlt ⊢; omega, p2⟩⟩, by omega, hw1, (by repeat' first | exact trivial | refine ⟨rfl, ?_⟩)⟩
        intro y hy
        rcases List.mem_append.1 hy with hy | hy
        · have := hut y hy; simp only; omega
        · simp at hy; subst hy; simp only; omega
  · have hu39 := hu.1
    rintro i ⟨hi0, hi1⟩
    refine ⟨(by simp), (by simp), (by simp), ifP_split (fun h => ?_) (fun _ => rfl)⟩
    simp at h
    refine ⟨⟨i, by omega, (by repeat' first | exact trivial | refine ⟨rfl, ?_⟩)⟩, ?_⟩
    rintro k ⟨hk0, hk1⟩
    refine ifP_split (fun hk => ?_) (fun _ => ?_)
    · have hk := of_decide_eq_true hk
      refine ⟨by omega, hk, hi0, by omega, ifP_split (fun hm => ?_) (fun _ => ⟨k + 1, by omega, by omega, rfl, w64 (by omega) (by omega), (by repeat' first | exact trivial | refine ⟨rfl, ?_⟩)⟩)⟩
      have hm := of_decide_eq_true hm
      have := most_ok hb h.2 hu hi0 hk0 hk
      rw [w64 (n := k - i) (by omega) (by omega), w64 (n := k - i + 1) (by omega) (by omega)] at hm
      simp only [w] at this
      omega
    · exact ⟨i + 1, by omega, by omega, w64 (by omega) (by omega), (by repeat' first | exact trivial | refine ⟨rfl, ?_⟩)⟩
theorem ok_law12_BucketWindow : SpecOK Try.prog 5 ct_law12_BucketWindow.spec := Ct.ok' _ Try.func5 (by kernel_rfl) (withSpec_ok (withSpec_ok (withSpec_ok (withSpec_ok (withSpec_ok (withSpec_ok (withSpec_ok noSpecs_ok ok_law12_awake) ok_draw_New) ok_draw_Codes_Bucket) ok_law12_times) ok_bucket_Full) ok_bucket_Take) ok_bucket_Most) hmix an_law12_BucketWindow (Eq.mpr (by kernel_rfl) vc_law12_BucketWindow)
end Go.RS

