/- Bucket: buckets and their laws' times. -/
import Derived.Test.YtbamghnnnngdeaaDraw
namespace Go.RS
open Go.SX Go.Proofs
set_option maxRecDepth 100000
set_option linter.unusedVariables false

abbrev w (n : Int) : Int := IntKind.i64.wrap n
def bFull (b : Int × Int) (at' : Int) : Int × Int := (w (b.1 * b.2), at')
def bCredit (b t : Int × Int) (at' : Int) : Int := min (w (t.1 + w (at' - t.2))) (w (b.1 * b.2))
def bTake (b t : Int × Int) (at' : Int) : (Int × Int) × Bool :=
  if b = (0, 0) then ((0, max at' t.2), true) else
    if bCredit b t (max at' t.2) < b.2 then ((bCredit b t (max at' t.2), max at' t.2), false) else ((w (bCredit b t (max at' t.2) - b.2), max at' t.2), true)
def bReady (b t : Int × Int) (at' : Int) : Int := if b = (0, 0) ∨ b.2 ≤ t.1 then at' else max at' (w (w (t.2 + b.2) - t.1))
def bMost (b : Int × Int) (n : Int) : Int := if b = (0, 0) ∨ n < 0 ∨ b.2 < 1 then -1 else w (b.1 + w (n.tdiv b.2))

def ct_bucket_unlimited : Ct := ⟨[.agg cBucket], [.val .bool], fun _ => [], fun d => ((decide (d.1 = (0, 0)), ()), ())⟩
def an_bucket_unlimited : PDs ct_bucket_unlimited.ps → Anns := (fun _ => {})
theorem vc_bucket_unlimited :
    ∀ (x x_1 : Int),
     (((-9223372036854775808 : Int) ≤ x ∧ x ≤ (9223372036854775807 : Int)) ∧
        (-9223372036854775808 : Int) ≤ x_1 ∧ x_1 ≤ (9223372036854775807 : Int)) ∧
       True →
      True → (decide (x = (0 : Int)) && (decide (x_1 = (0 : Int)) && true)) = decide ((x, x_1) = ((0 : Int), (0 : Int))) := by
  rintro x y - -
  simp
theorem ok_bucket_unlimited : SpecOK Try.prog 41 ct_bucket_unlimited.spec := Ct.ok' _ Try.func41 (by kernel_rfl) noSpecs_ok hmix an_bucket_unlimited (Eq.mpr (by kernel_rfl) vc_bucket_unlimited)

def ct_bucket_credit : Ct := ⟨[.agg cBucket, .agg cTokens, .val cI], [.val cI], fun _ => [], fun d => ((bCredit d.1 d.2.1 d.2.2.1, ()), ())⟩
def an_bucket_credit : PDs ct_bucket_credit.ps → Anns := (fun _ => {})
theorem vc_bucket_credit :
    ∀ (x x_1 x_2 x_3 x_4 : Int),
     (((-9223372036854775808 : Int) ≤ x ∧ x ≤ (9223372036854775807 : Int)) ∧
        (-9223372036854775808 : Int) ≤ x_1 ∧ x_1 ≤ (9223372036854775807 : Int)) ∧
       (((-9223372036854775808 : Int) ≤ x_2 ∧ x_2 ≤ (9223372036854775807 : Int)) ∧
         (-9223372036854775808 : Int) ≤ x_3 ∧ x_3 ≤ (9223372036854775807 : Int)) ∧
        ((-9223372036854775808 : Int) ≤ x_4 ∧ x_4 ≤ (9223372036854775807 : Int)) ∧ True →
      True →
       min (IntKind.wrap IntKind.i64 (x_2 + IntKind.wrap IntKind.i64 (x_4 - x_3))) (IntKind.wrap IntKind.i64 (x * x_1)) =
        bCredit (x, x_1) (x_2, x_3) x_4 := by
  rintro x y a b c - -
  rfl
theorem ok_bucket_credit : SpecOK Try.prog 42 ct_bucket_credit.spec := Ct.ok' _ Try.func42 (by kernel_rfl) noSpecs_ok hmix an_bucket_credit (Eq.mpr (by kernel_rfl) vc_bucket_credit)

def ct_bucket_Full : Ct := ⟨[.agg cBucket, .val cI], [.agg cTokens], fun _ => [], fun d => ((bFull d.1 d.2.1, ()), ())⟩
def an_bucket_Full : PDs ct_bucket_Full.ps → Anns := (fun _ => {})
theorem vc_bucket_Full :
    ∀ (x x_1 x_2 : Int),
     (((-9223372036854775808 : Int) ≤ x ∧ x ≤ (9223372036854775807 : Int)) ∧
        (-9223372036854775808 : Int) ≤ x_1 ∧ x_1 ≤ (9223372036854775807 : Int)) ∧
       ((-9223372036854775808 : Int) ≤ x_2 ∧ x_2 ≤ (9223372036854775807 : Int)) ∧ True →
      True → (IntKind.wrap IntKind.i64 (x * x_1), x_2) = (w (x * x_1), x_2) := by
  rintro x y a - -
  rfl
theorem ok_bucket_Full : SpecOK Try.prog 19 ct_bucket_Full.spec := Ct.ok' _ Try.func19 (by kernel_rfl) noSpecs_ok hmix an_bucket_Full (Eq.mpr (by kernel_rfl) vc_bucket_Full)

def ct_bucket_Take : Ct := ⟨[.agg cBucket, .agg cTokens, .val cI], [.agg cTokens, .val .bool], fun _ => [], fun d => (((bTake d.1 d.2.1 d.2.2.1).1, (bTake d.1 d.2.1 d.2.2.1).2, ()), ())⟩
def an_bucket_Take : PDs ct_bucket_Take.ps → Anns := (fun _ => {})
theorem vc_bucket_Take :
    ∀ (x x_1 x_2 x_3 x_4 : Int),
     (((-9223372036854775808 : Int) ≤ x ∧ x ≤ (9223372036854775807 : Int)) ∧
        (-9223372036854775808 : Int) ≤ x_1 ∧ x_1 ≤ (9223372036854775807 : Int)) ∧
       (((-9223372036854775808 : Int) ≤ x_2 ∧ x_2 ≤ (9223372036854775807 : Int)) ∧
         (-9223372036854775808 : Int) ≤ x_3 ∧ x_3 ≤ (9223372036854775807 : Int)) ∧
        ((-9223372036854775808 : Int) ≤ x_4 ∧ x_4 ≤ (9223372036854775807 : Int)) ∧ True →
      True →
       ifP (decide ((x, x_1) = ((0 : Int), (0 : Int))))
        (((0 : Int), max x_4 x_3) = (bTake (x, x_1) (x_2, x_3) x_4).1 ∧ true = Prod.snd (bTake (x, x_1) (x_2, x_3) x_4))
        (ifP (decide (bCredit (x, x_1) (x_2, x_3) (max x_4 x_3) < x_1))
         ((bCredit (x, x_1) (x_2, x_3) (max x_4 x_3), max x_4 x_3) = (bTake (x, x_1) (x_2, x_3) x_4).1 ∧
          false = Prod.snd (bTake (x, x_1) (x_2, x_3) x_4))
         ((IntKind.wrap IntKind.i64 (bCredit (x, x_1) (x_2, x_3) (max x_4 x_3) - x_1), max x_4 x_3) =
           (bTake (x, x_1) (x_2, x_3) x_4).1 ∧
          true = Prod.snd (bTake (x, x_1) (x_2, x_3) x_4))) := by
  rintro x y a b c - -
  simp only [bTake]
  refine ifP_split (fun hb => ?_) (fun hb => ?_)
  · have hb := of_decide_eq_true hb
    rw [if_pos hb]; exact ⟨rfl, rfl⟩
  · have hb := of_decide_eq_false hb
    rw [if_neg hb]
    refine ifP_split (fun h => ?_) (fun h => ?_)
    · rw [if_pos (of_decide_eq_true h)]; exact ⟨rfl, rfl⟩
    · rw [if_neg (of_decide_eq_false h)]; exact ⟨rfl, rfl⟩
theorem ok_bucket_Take : SpecOK Try.prog 20 ct_bucket_Take.spec := Ct.ok' _ Try.func20 (by kernel_rfl) (withSpec_ok (withSpec_ok noSpecs_ok ok_bucket_unlimited) ok_bucket_credit) hmix an_bucket_Take (Eq.mpr (by kernel_rfl) vc_bucket_Take)

def ct_bucket_Most : Ct := ⟨[.agg cBucket, .val cI], [.val cI], fun _ => [], fun d => ((bMost d.1 d.2.1, ()), ())⟩
def an_bucket_Most : PDs ct_bucket_Most.ps → Anns := (fun _ => {})
theorem vc_bucket_Most :
    ∀ (x x_1 x_2 : Int),
     (((-9223372036854775808 : Int) ≤ x ∧ x ≤ (9223372036854775807 : Int)) ∧
        (-9223372036854775808 : Int) ≤ x_1 ∧ x_1 ≤ (9223372036854775807 : Int)) ∧
       ((-9223372036854775808 : Int) ≤ x_2 ∧ x_2 ≤ (9223372036854775807 : Int)) ∧ True →
      True →
       ((!decide ((x, x_1) = ((0 : Int), (0 : Int)))) = true →
         ((!decide ((x, x_1) = ((0 : Int), (0 : Int)))) = true →
           (!decide ((x, x_1) = ((0 : Int), (0 : Int)))) = true) ∧
          True) ∧
        (decide ((x, x_1) = ((0 : Int), (0 : Int))) = false → (!decide ((x, x_1) = ((0 : Int), (0 : Int)))) = true) ∧
         ((!bif decide ((x, x_1) = ((0 : Int), (0 : Int))) then true else decide (x_2 < (0 : Int))) = true →
           ((!bif decide ((x, x_1) = ((0 : Int), (0 : Int))) then true else decide (x_2 < (0 : Int))) = true →
            (!bif decide ((x, x_1) = ((0 : Int), (0 : Int))) then true else decide (x_2 < (0 : Int))) = true) ∧
            True) ∧
          ((!bif decide ((x, x_1) = ((0 : Int), (0 : Int))) then true else decide (x_2 < (0 : Int))) = true →
            ((!bif decide ((x, x_1) = ((0 : Int), (0 : Int))) then true else decide (x_2 < (0 : Int))) = true →
            (!bif decide ((x, x_1) = ((0 : Int), (0 : Int))) then true else decide (x_2 < (0 : Int))) = true) ∧
            True) ∧
           ((bif decide ((x, x_1) = ((0 : Int), (0 : Int))) then true else decide (x_2 < (0 : Int))) = false →
            (!bif decide ((x, x_1) = ((0 : Int), (0 : Int))) then true else decide (x_2 < (0 : Int))) = true) ∧
            ifP
            (bif bif decide ((x, x_1) = ((0 : Int), (0 : Int))) then true else decide (x_2 < (0 : Int)) then true
            else decide (x_1 < (1 : Int)))
            ((-1 : Int) = bMost (x, x_1) x_2)
            (x_1 ≠ (0 : Int) ∧
            IntKind.wrap IntKind.i64 (x + IntKind.wrap IntKind.i64 (Int.tdiv x_2 x_1)) = bMost (x, x_1) x_2) := by
  rintro x y a - -
  refine ⟨fun h => ⟨fun _ => h, trivial⟩, fun h => by simp only [h, Bool.not_false], fun h => ⟨fun _ => h, trivial⟩, fun h => ⟨fun _ => h, trivial⟩, fun h => by simp only [h, Bool.not_false], ifP_split (fun hb => ?_) (fun hb => ?_)⟩
  · simp at hb
    unfold bMost; rw [if_pos (by simpa [or_assoc] using hb)]
  · simp at hb
    refine ⟨by omega, ?_⟩
    unfold bMost; rw [if_neg (by simp; omega)]
theorem ok_bucket_Most : SpecOK Try.prog 21 ct_bucket_Most.spec := Ct.ok' _ Try.func21 (by kernel_rfl) (withSpec_ok noSpecs_ok ok_bucket_unlimited) hmix an_bucket_Most (Eq.mpr (by kernel_rfl) vc_bucket_Most)

def ct_bucket_Ready : Ct := ⟨[.agg cBucket, .agg cTokens, .val cI], [.val cI], fun _ => [], fun d => ((bReady d.1 d.2.1 d.2.2.1, ()), ())⟩
def an_bucket_Ready : PDs ct_bucket_Ready.ps → Anns := (fun _ => {})
theorem vc_bucket_Ready :
    ∀ (x x_1 x_2 x_3 x_4 : Int),
     (((-9223372036854775808 : Int) ≤ x ∧ x ≤ (9223372036854775807 : Int)) ∧
        (-9223372036854775808 : Int) ≤ x_1 ∧ x_1 ≤ (9223372036854775807 : Int)) ∧
       (((-9223372036854775808 : Int) ≤ x_2 ∧ x_2 ≤ (9223372036854775807 : Int)) ∧
         (-9223372036854775808 : Int) ≤ x_3 ∧ x_3 ≤ (9223372036854775807 : Int)) ∧
        ((-9223372036854775808 : Int) ≤ x_4 ∧ x_4 ≤ (9223372036854775807 : Int)) ∧ True →
      True →
       ((!decide ((x, x_1) = ((0 : Int), (0 : Int)))) = true →
         ((!decide ((x, x_1) = ((0 : Int), (0 : Int)))) = true →
           (!decide ((x, x_1) = ((0 : Int), (0 : Int)))) = true) ∧
          True) ∧
        ((!decide ((x, x_1) = ((0 : Int), (0 : Int)))) = true →
          ((!decide ((x, x_1) = ((0 : Int), (0 : Int)))) = true →
            (!decide ((x, x_1) = ((0 : Int), (0 : Int)))) = true) ∧
           True) ∧
         ((!decide ((x, x_1) = ((0 : Int), (0 : Int)))) = true →
           ((!decide ((x, x_1) = ((0 : Int), (0 : Int)))) = true →
            (!decide ((x, x_1) = ((0 : Int), (0 : Int)))) = true) ∧
            ((!decide ((x, x_1) = ((0 : Int), (0 : Int)))) = true →
            (!decide ((x, x_1) = ((0 : Int), (0 : Int)))) = true) ∧
            True) ∧
          (decide ((x, x_1) = ((0 : Int), (0 : Int))) = false →
            (!decide ((x, x_1) = ((0 : Int), (0 : Int)))) = true) ∧
           ifP (bif decide ((x, x_1) = ((0 : Int), (0 : Int))) then true else decide (x_1 ≤ x_2))
            (x_4 = bReady (x, x_1) (x_2, x_3) x_4)
            (max x_4 (IntKind.wrap IntKind.i64 (IntKind.wrap IntKind.i64 (x_3 + x_1) - x_2)) =
            bReady (x, x_1) (x_2, x_3) x_4) := by
  rintro x y a b c - -
  refine ⟨fun h => ⟨fun _ => h, trivial⟩, fun h => ⟨fun _ => h, trivial⟩, fun h => ⟨fun _ => h, fun _ => h, trivial⟩, fun h => by simp only [h, Bool.not_false], ifP_split (fun hb => ?_) (fun hb => ?_)⟩
  · simp at hb
    unfold bReady; rw [if_pos (by simpa using hb)]
  · simp at hb
    unfold bReady; rw [if_neg (by simp; omega)]
theorem ok_bucket_Ready : SpecOK Try.prog 22 ct_bucket_Ready.spec := Ct.ok' _ Try.func22 (by kernel_rfl) (withSpec_ok noSpecs_ok ok_bucket_unlimited) hmix an_bucket_Ready (Eq.mpr (by kernel_rfl) vc_bucket_Ready)

def ct_law12_awake : Ct := ⟨[], [.val .bool], fun _ => [], fun _ => ((true, ()), ())⟩
def an_law12_awake : PDs ct_law12_awake.ps → Anns := (fun _ => {})
theorem vc_law12_awake :
    True →
     True →
      (true = true → (true = true → true = true) ∧ True) ∧
       (true = true → true = true) ∧
        ((bif true then !false else false) = true → (bif true then !false else false) = true) ∧
         (bif bif true then !false else false then true else false) = true := by
  decide
theorem ok_law12_awake : SpecOK Try.prog 15 ct_law12_awake.spec := Ct.ok' _ Try.func15 (by kernel_rfl) (withSpec_ok (withSpec_ok noSpecs_ok ok_bucket_Take) ok_bucket_Full) hmix an_law12_awake (Eq.mpr (by kernel_rfl) vc_law12_awake)
/-- A bucket as a law draws it. -/
def okB (b : Int × Int) : Prop := b = (0, 0) ∨ (1 ≤ b.1 ∧ b.1 ≤ 4 ∧ 1 ≤ b.2 ∧ b.2 ≤ 1000)
def ct_draw_Codes_Bucket : Cn := ⟨[.box 75 cCodes], [.agg cBucket], fun d => [okC d.1], fun d y => okB y.1.1 ∧ okC y.2.1, fun d h => ⟨(((0, 0), ()), (d.1, ())), .inl rfl, h.1⟩⟩
def an_draw_Codes_Bucket : PDs ct_draw_Codes_Bucket.ps → Anns := (fun _ => {})
theorem vc_draw_Codes_Bucket :
    ∀ (x : List Int) (x_1 : Int),
     ((List.length x ≤ maxLen ∧ ∀ (x_2 : Int), x_2 ∈ x → (0 : Int) ≤ x_2 ∧ x_2 ≤ (255 : Int)) ∧
        (-9223372036854775808 : Int) ≤ x_1 ∧ x_1 ≤ (9223372036854775807 : Int)) ∧
       True →
      (0 : Int) ≤ x_1 ∧ x_1 ≤ ↑(List.length x) →
       okC (x, x_1) ∧
        ∀ (x : Int) (x_2 : List Int) (x_3 : Int),
         (0 : Int) ≤ x ∧ (x < (3 : Int) ∨ x = (0 : Int)) ∧ okC (x_2, x_3) →
          ifP (decide (x = (0 : Int))) (okB ((0 : Int), (0 : Int)) ∧ okC (x_2, x_3))
           (okC (x_2, x_3) ∧
            ∀ (x : Int) (x_4 : List Int) (x_5 : Int),
            (0 : Int) ≤ x ∧ (x < (4 : Int) ∨ x = (0 : Int)) ∧ okC (x_4, x_5) →
            okC (x_4, x_5) ∧
            ∀ (x_6 : Int) (x_7 : List Int) (x_8 : Int),
            (0 : Int) ≤ x_6 ∧ (x_6 < (4 : Int) ∨ x_6 = (0 : Int)) ∧ okC (x_7, x_8) →
            (0 : Int) ≤ x_6 ∧
            x_6 < ↑(List.length [(1 : Int), (3 : Int), (10 : Int), (1000 : Int)]) ∧
            okB
            (IntKind.wrap IntKind.i64 ((1 : Int) + x),
            List.getD [(1 : Int), (3 : Int), (10 : Int), (1000 : Int)] (Int.toNat x_6)
            default) ∧
            okC (x_7, x_8)) := by
  rintro l p - h
  refine ⟨h, ?_⟩
  rintro r l2 p2 ⟨h1, h2, h3⟩
  refine ifP_split (fun hb => ⟨.inl rfl, h3⟩) (fun hb => ⟨h3, ?_⟩)
  rintro b l3 p3 ⟨h4, h5, h6⟩
  refine ⟨h6, ?_⟩
  rintro e l4 p4 ⟨h7, h8, h9⟩
  refine ⟨h7, by simp; omega, .inr ?_, h9⟩
  rw [w64 (by omega) (by omega)]
  have : e = 0 ∨ e = 1 ∨ e = 2 ∨ e = 3 := by omega
  rcases this with rfl | rfl | rfl | rfl <;> simp <;> omega
theorem ok_draw_Codes_Bucket : SpecOK Try.prog 17 ct_draw_Codes_Bucket.spec := Cn.ok' _ Try.func17 (by kernel_rfl) (withSpec_ok noSpecs_ok ok_Next) hmix an_draw_Codes_Bucket (Eq.mpr (by kernel_rfl) vc_draw_Codes_Bucket)
/-- Times as a law draws them. -/
def okT (up : Bool) (l : List Int) : Prop := l.length ≤ 39 ∧ (∀ x ∈ l, 0 ≤ x ∧ x ≤ 8000) ∧ (up = true → l.Pairwise (· ≤ ·))
def tInv (up : Bool) (l : List Int) (a k : Int) (cs : List Int × Int) : Prop :=
  okC cs ∧ 0 ≤ k ∧ l.length + k ≤ 39 ∧ 0 ≤ a ∧ a ≤ 30 + 200 * (39 - k) ∧ (∀ x ∈ l, 0 ≤ x ∧ x ≤ 8000) ∧ (up = true → l.Pairwise (· ≤ ·) ∧ ∀ x ∈ l, x ≤ a)
def ct_law12_times : Cn := ⟨[.box 75 cCodes, .val .bool], [.own 3 cI], fun d => [okC d.1], fun d y => okT d.2.1 y.1.1 ∧ okC y.2.1, fun d h => ⟨(([], ()), (d.1, ())), ⟨by simp, by simp, fun _ => .nil⟩, h.1⟩⟩
def an_law12_times : PDs ct_law12_times.ps → Anns := (fun d => { loops := (fun n => match n with | 4 => some (fun S => { ι := (List Int) × Int × Int × (List Int × Int), qn := ⟨fun k_ => ∀ (l : (List Int)) (a : Int) (k : Int) (cs : (List Int × Int)), k_ (l, a, k, cs), fun k_ h_ i => h_ i.1 i.2.1 i.2.2.1 i.2.2.2, fun k_ => ∃ (l : (List Int)) (a : Int) (k : Int) (cs : (List Int × Int)), k_ (l, a, k, cs), fun k_ ⟨l, a, k, cs, h_⟩ => ⟨_, h_⟩⟩, μ := fun i => i.2.2.1.toNat, inv := fun i => tInv d.2.1 i.1 i.2.1 i.2.2.1 i.2.2.2, keep := [0, 1], slots := fun i => [(5, .own 524288 1), (6, .int .i64 i.2.1), (7, .int .i64 i.2.2.1)], names := fun i => [(1048576, .live (.cells 75 (flat cCodes i.2.2.2))), (524288, .live (.row 3 cI i.1))] }) | _ => none) })
theorem vc_law12_times :
    ∀ (x : List Int) (x_1 : Int) (x_2 : Bool),
     ((List.length x ≤ maxLen ∧ ∀ (x_3 : Int), x_3 ∈ x → (0 : Int) ≤ x_3 ∧ x_3 ≤ (255 : Int)) ∧
        (-9223372036854775808 : Int) ≤ x_1 ∧ x_1 ≤ (9223372036854775807 : Int)) ∧
       True ∧ True →
      (0 : Int) ≤ x_1 ∧ x_1 ≤ ↑(List.length x) →
       okC (x, x_1) ∧
        ∀ (x : Int) (x_3 : List Int) (x_4 : Int),
         (0 : Int) ≤ x ∧ (x < (30 : Int) ∨ x = (0 : Int)) ∧ okC (x_3, x_4) →
          okC (x_3, x_4) ∧
           ∀ (x_5 : Int) (x_6 : List Int) (x_7 : Int),
            (0 : Int) ≤ x_5 ∧ (x_5 < (40 : Int) ∨ x_5 = (0 : Int)) ∧ okC (x_6, x_7) →
            (∃ l a k cs,
            tInv x_2 l a k cs ∧
            x_2 = x_2 ∧ x = a ∧ x_5 = k ∧ x_6 = Prod.fst cs ∧ x_7 = Prod.snd cs ∧ l = [] ∧ True) ∧
            ∀ (l : List Int) (a k : Int) (cs : List Int × Int),
            tInv x_2 l a k cs →
            ifP (decide ((0 : Int) < k))
            ((List.length l + List.length [a]) * (8 : Nat) ≤ (140737488355328 : Nat) ∧
            okC cs ∧
            ∀ (x : Int) (x_8 : List Int) (x_9 : Int),
            (0 : Int) ≤ x ∧ (x < (12 : Int) ∨ x = (0 : Int)) ∧ okC (x_8, x_9) →
            okC (x_8, x_9) ∧
            ∀ (x_10 : Int) (x_11 : List Int) (x_12 : Int),
            (0 : Int) ≤ x_10 ∧ (x_10 < (200 : Int) ∨ x_10 = (0 : Int)) ∧ okC (x_11, x_12) →
            okC (x_11, x_12) ∧
            ∀ (x_13 : Int) (x_14 : List Int) (x_15 : Int),
            (0 : Int) ≤ x_13 ∧
            (x_13 < (5 : Int) ∨ x_13 = (0 : Int)) ∧ okC (x_14, x_15) →
            (0 : Int) ≤ x_13 ∧
            x_13 < ↑(List.length [(0 : Int), (0 : Int), (1 : Int), x, x_10]) ∧
            ifP (!x_2)
            (((!x_2) = true → (!x_2) = true) ∧
            okC (x_14, x_15) ∧
            ∀ (x_16 : Int) (x_17 : List Int) (x_18 : Int),
            (0 : Int) ≤ x_16 ∧
            (x_16 < (6 : Int) ∨ x_16 = (0 : Int)) ∧ okC (x_17, x_18) →
            ((!x_2) = true → (!x_2) = true) ∧
            ifP (bif !x_2 then decide (x_16 = (5 : Int)) else false)
            (okC (x_17, x_18) ∧
            ∀ (x_19 : Int) (x_20 : List Int) (x_21 : Int),
            (0 : Int) ≤ x_19 ∧
            (x_19 < (20 : Int) ∨ x_19 = (0 : Int)) ∧
            okC (x_20, x_21) →
            ∃ l_1 a_7 k_1 cs,
            tInv x_2 l_1 a_7 k_1 cs ∧
            Int.toNat k_1 < Int.toNat k ∧
            x_2 = x_2 ∧
            max (0 : Int)
            (IntKind.wrap IntKind.i64
            (IntKind.wrap IntKind.i64
            (a +
            List.getD
            [(0 : Int), (0 : Int),
            (1 : Int), x, x_10]
            (Int.toNat x_13)
            default) -
            x_19)) =
            a_7 ∧
            IntKind.wrap IntKind.i64
            (k - (1 : Int)) =
            k_1 ∧
            x_20 = Prod.fst cs ∧
            x_21 = Prod.snd cs ∧
            l ++ [a] = l_1 ∧ True)
            (∃ l_1 a_6 k_1 cs,
            tInv x_2 l_1 a_6 k_1 cs ∧
            Int.toNat k_1 < Int.toNat k ∧
            x_2 = x_2 ∧
            IntKind.wrap IntKind.i64
            (a +
            List.getD
            [(0 : Int), (0 : Int), (1 : Int), x,
            x_10]
            (Int.toNat x_13) default) =
            a_6 ∧
            IntKind.wrap IntKind.i64 (k - (1 : Int)) =
            k_1 ∧
            x_17 = Prod.fst cs ∧
            x_18 = Prod.snd cs ∧
            l ++ [a] = l_1 ∧ True))
            ((!x_2) = false ∧
            ((!x_2) = true → false = true) ∧
            ifP (bif !x_2 then false else false)
            (okC (x_14, x_15) ∧
            ∀ (x_16 : Int) (x_17 : List Int) (x_18 : Int),
            (0 : Int) ≤ x_16 ∧
            (x_16 < (20 : Int) ∨ x_16 = (0 : Int)) ∧
            okC (x_17, x_18) →
            ∃ l_1 a_6 k_1 cs,
            tInv x_2 l_1 a_6 k_1 cs ∧
            Int.toNat k_1 < Int.toNat k ∧
            x_2 = x_2 ∧
            max (0 : Int)
            (IntKind.wrap IntKind.i64
            (IntKind.wrap IntKind.i64
            (a +
            List.getD
            [(0 : Int), (0 : Int),
            (1 : Int), x, x_10]
            (Int.toNat x_13) default) -
            x_16)) =
            a_6 ∧
            IntKind.wrap IntKind.i64 (k - (1 : Int)) =
            k_1 ∧
            x_17 = Prod.fst cs ∧
            x_18 = Prod.snd cs ∧
            l ++ [a] = l_1 ∧ True)
            (∃ l_1 a_5 k_1 cs,
            tInv x_2 l_1 a_5 k_1 cs ∧
            Int.toNat k_1 < Int.toNat k ∧
            x_2 = x_2 ∧
            IntKind.wrap IntKind.i64
            (a +
            List.getD
            [(0 : Int), (0 : Int), (1 : Int), x, x_10]
            (Int.toNat x_13) default) =
            a_5 ∧
            IntKind.wrap IntKind.i64 (k - (1 : Int)) = k_1 ∧
            x_14 = Prod.fst cs ∧
            x_15 = Prod.snd cs ∧ l ++ [a] = l_1 ∧ True)))
            (okT x_2 l ∧ okC cs) := by
  rintro cl cp up - hc
  refine ⟨hc, ?_⟩
  rintro a0 l1 p1 ⟨h1, h2, h3⟩
  refine ⟨h3, ?_⟩
  rintro k0 l2 p2 ⟨h4, h5, h6⟩
  refine ⟨⟨[], a0, k0, (l2, p2), ⟨h6, h4, by simp; omega, h1, by omega, by simp, by simp⟩, rfl, rfl, rfl, rfl, rfl, rfl, trivial⟩, ?_⟩
  rintro l a k cs ⟨i1, i2, i3, i4, i5, i6, i7⟩
  refine ifP_split (fun hk => ?_) (fun hk => ?_)
  · have hk := of_decide_eq_true hk
    refine ⟨by simp; omega, i1, ?_⟩
    rintro u l3 p3 ⟨u1, u2, u3⟩
    refine ⟨u3, ?_⟩
    rintro v l4 p4 ⟨v1, v2, v3⟩
    refine ⟨v3, ?_⟩
    rintro e l5 p5 ⟨e1, e2, e3⟩
    have hd : 0 ≤ [0, 0, 1, u, v].getD e.toNat default ∧ [0, 0, 1, u, v].getD e.toNat default ≤ 199 := by
      have : e = 0 ∨ e = 1 ∨ e = 2 ∨ e = 3 ∨ e = 4 := by omega
      rcases this with rfl | rfl | rfl | rfl | rfl <;> simp <;> omega
    generalize [0, 0, 1, u, v].getD e.toNat default = D at hd ⊢
    rw [w64 (n := a + D) (by omega) (by omega)]
    have hl : ∀ x ∈ l ++ [a], 0 ≤ x ∧ x ≤ 8000 := by
      intro x hx
      rcases List.mem_append.1 hx with hx | hx
      · exact i6 x hx
      · simp at hx; omega
    refine ⟨e1, by simp; omega, ifP_split (fun hup => ⟨fun h => h, e3, ?_⟩) (fun hup => ?_)⟩
    · rintro q l6 p6 ⟨q1, q2, q3⟩
      simp only [Bool.not_eq_true'] at hup
      subst hup
      refine ⟨fun h => h, ifP_split (fun _ => ⟨q3, ?_⟩) (fun _ => ?_)⟩
      · rintro z l7 p7 ⟨z1, z2, z3⟩
        rw [w64 (n := k - 1) (by omega) (by omega), w64 (n := a + D - z) (by omega) (by omega)]
        exact ⟨l ++ [a], max 0 (a + D - z), k - 1, (l7, p7), ⟨z3, by omega, by simp; omega, by omega, by omega, hl, fun h => by cases h⟩, by omega, rfl, rfl, rfl, rfl, rfl, rfl, trivial⟩
      · rw [w64 (n := k - 1) (by omega) (by omega)]
        exact ⟨l ++ [a], a + D, k - 1, (l6, p6), ⟨q3, by omega, by simp; omega, by omega, by omega, hl, fun h => by cases h⟩, by omega, rfl, rfl, rfl, rfl, rfl, rfl, trivial⟩
    · simp only [Bool.not_eq_false'] at hup
      subst hup
      refine ⟨rfl, (fun h => by cases h), ifP_split (fun h => by cases h) (fun _ => ?_)⟩
      rw [w64 (n := k - 1) (by omega) (by omega)]
      refine ⟨l ++ [a], a + D, k - 1, (l5, p5), ⟨e3, by omega, by simp; omega, by omega, by omega, hl, fun _ => ⟨?_, ?_⟩⟩, by omega, rfl, rfl, rfl, rfl, rfl, rfl, trivial⟩
      · rw [List.pairwise_append]
        exact ⟨(i7 rfl).1, by simp, fun x hx y hy => by simp at hy; subst hy; exact (i7 rfl).2 x hx⟩
      · intro x hx
        rcases List.mem_append.1 hx with hx | hx
        · have := (i7 rfl).2 x hx; omega
        · simp at hx; omega
  · have hk := of_decide_eq_false hk
    exact ⟨⟨by omega, i6, fun h => (i7 h).1⟩, i1⟩
theorem ok_law12_times : SpecOK Try.prog 18 ct_law12_times.spec := Cn.ok' _ Try.func18 (by kernel_rfl) (withSpec_ok noSpecs_ok ok_Next) hmix an_law12_times (Eq.mpr (by kernel_rfl) vc_law12_times)
end Go.RS

