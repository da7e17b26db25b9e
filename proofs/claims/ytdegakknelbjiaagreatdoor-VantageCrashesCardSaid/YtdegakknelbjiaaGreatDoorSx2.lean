/- SX, part 2: a symbolic heap and the world that it describes; what an operation's change of the world asks. -/
import Derived.Test.YtdegakknelbjiaaGreatDoorSx1
namespace Go.SX
set_option linter.unusedVariables false

/-- The row of a block as data. -/
def RowDen (A : Nat → Prop) (w : World) (k len : Nat) (E : TypeId) (t : CT) (xs : List t.D) : Prop :=
  ∃ vs cap, w.heap[k]? = some (.cells vs E (0, 0)) ∧ vs.size = cap * t.size ∧ xs.length = len ∧ len ≤ cap ∧ cap ≤ maxLen ∧
    ∀ i (h : i < xs.length), Rd A w t (fun o => vs[o]?) (i * t.size) xs[i]

def BlkDen (A : Nat → Prop) (env : Env) (w : World) (k len : Nat) : Blk → Prop
  | .cells E cs => ∃ vs, w.heap[k]? = some (.cells vs E (0, 0)) ∧ DenL A env w cs vs.toList
  | .row E t xs => RowDen A w k len E t xs
  | .frz E t xs => A k ∧ RowDen A w k len E t xs

def NmDen (A : Nat → Prop) (env : Env) (w : World) (n : Nat) : Nm → Prop
  | .un => env n = .un
  | .dead => True
  | .live b => (∃ k len, env n = .blk k len ∧ BlkDen A env w k len b ∧ (b.mut = true → ¬ A k)) ∨
      (env n = .nil ∧ ∃ E t, b = .row E t [] ∨ b = .frz E t [])

theorem BlkDen.lt {A : Nat → Prop} {env : Env} {w : World} {k len : Nat} {b : Blk} (h : BlkDen A env w k len b) : k < w.heap.size := by
  cases b with
  | cells E cs => obtain ⟨vs, h, _⟩ := h; exact (Array.getElem?_eq_some_iff.1 h).1
  | row E t xs => obtain ⟨vs, cap, h, _⟩ := h; exact (Array.getElem?_eq_some_iff.1 h).1
  | frz E t xs => obtain ⟨_, vs, cap, h, _⟩ := h; exact (Array.getElem?_eq_some_iff.1 h).1

theorem RowDen_mono {A A' : Nat → Prop} {env env' : Env} {w w' : World} (x : Ext A env w A' env' w') {k len : Nat} (hk : w'.heap[k]? = w.heap[k]?)
    {E : TypeId} {t : CT} {xs : List t.D} (h : RowDen A w k len E t xs) : RowDen A' w' k len E t xs := by
  obtain ⟨vs, cap, h, h1, h2, h3, h4, h5⟩ := h
  exact ⟨vs, cap, by rw [hk]; exact h, h1, h2, h3, h4, fun i hi => Rd_mono x.imm x.keep t _ _ _ _ (fun _ _ => rfl) (h5 i hi)⟩

theorem BlkDen_mono {A A' : Nat → Prop} {env env' : Env} {w w' : World} (x : Ext A env w A' env' w') {k len : Nat} (hk : w'.heap[k]? = w.heap[k]?)
    {b : Blk} (h : BlkDen A env w k len b) : BlkDen A' env' w' k len b := by
  cases b with
  | cells E cs => obtain ⟨vs, h, hd⟩ := h; exact ⟨vs, by rw [hk]; exact h, DenL_mono x _ _ hd⟩
  | row E t xs => exact RowDen_mono x hk h
  | frz E t xs => exact ⟨x.imm _ h.1, RowDen_mono x hk h.2⟩

/-- Package-level variables that stand as they were laid. -/
abbrev Globs := Nat → Option ((t : CT) × t.D)
/-- The blocks of the world at the start that a run may change; those that are immutable. -/
structure Old where
  n : Nat → Prop
  a : Nat → Prop
  g : Globs

/-- The symbolic heap 'h' describes the world 'w', which has come of 'w0' by changes of new blocks and of the blocks 'N0' alone. -/
structure Mod (w0 : World) (N0 : Old) (A : Nat → Prop) (env : Env) (h : Heap) (w : World) : Prop where
  os : w.os = w0.os
  tape : w.tape = w0.tape
  output : w.output = w0.output
  size : w0.heap.size ≤ w.heap.size
  fr : ∀ k, k < w0.heap.size → ¬ N0.n k → w.heap[k]? = w0.heap[k]?
  Alt : ∀ b, A b → b < w.heap.size
  nm : ∀ n, NmDen A env w n (h n)
  own : ∀ n b k l, h n = .live b → b.mut = true → env n = .blk k l → N0.n k ∨ w0.heap.size ≤ k
  inj : ∀ n m b c k l l', h n = .live b → h m = .live c → b.mut = true → c.mut = true → env n = .blk k l → env m = .blk k l' → n = m
  fresh : ∀ b, A b → N0.a b ∨ N0.n b ∨ w0.heap.size ≤ b
  gl : ∀ g x, N0.g g = some x → A g ∧ Rd A w x.1 (fun o => w.cell? ⟨g, o, none⟩) 0 x.2

/-- A world change that touches old blocks in 'W' alone, and keeps every block's shape. -/
structure Chg (w w' : World) (W : Nat → Prop) : Prop where
  os : w'.os = w.os
  tape : w'.tape = w.tape
  output : w'.output = w.output
  size : w.heap.size ≤ w'.heap.size
  blk : ∀ k, k < w.heap.size → ¬ W k → w'.heap[k]? = w.heap[k]?
  shape : ∀ k s, w.shape? k = some s → w'.shape? k = some s

theorem Chg.refl (w : World) (W : Nat → Prop) : Chg w w W := ⟨rfl, rfl, rfl, Nat.le_refl _, fun _ _ _ => rfl, fun _ _ h => h⟩

theorem Chg.alloc (w : World) (o : Obj) (W : Nat → Prop) : Chg w (w.alloc o) W :=
  ⟨rfl, rfl, rfl, by simp, fun k hk _ => RowKit.Below.heap_alloc w o k hk, fun k s hs => by
    unfold World.shape? at hs ⊢
    by_cases hk : k < w.heap.size
    · rw [RowKit.Below.heap_alloc w o k hk]; exact hs
    · rw [Array.getElem?_eq_none (by omega)] at hs; cases hs⟩

theorem Chg.drew (w : World) (W : Nat → Prop) : Chg w w.drew W := ⟨rfl, rfl, rfl, Nat.le_refl _, fun _ _ _ => rfl, fun _ _ h => h⟩

theorem Chg.trans {a b c : World} {W : Nat → Prop} (h : Chg a b W) (k : Chg b c W) : Chg a c W :=
  ⟨k.os.trans h.os, k.tape.trans h.tape, k.output.trans h.output, Nat.le_trans h.size k.size,
   fun i hi hw => (k.blk i (Nat.lt_of_lt_of_le hi h.size) hw).trans (h.blk i hi hw), fun i s hs => k.shape i s (h.shape i s hs)⟩

theorem Chg.mono {w w' : World} {W W' : Nat → Prop} (h : Chg w w' W) (hW : ∀ k, W k → W' k) : Chg w w' W' :=
  ⟨h.os, h.tape, h.output, h.size, fun k hk hw => h.blk k hk (fun x => hw (hW k x)), h.shape⟩

theorem World.shape?_setCell (w : World) (a : Addr) (v : Value) (k : Nat) : (w.setCell a v).shape? k = w.shape? k := by
  unfold World.shape? World.setCell
  simp only [Array.getElem?_modify]
  by_cases h : a.block = k
  · subst h
    simp only [if_true]
    cases hk : w.heap[a.block]? with
    | none => simp
    | some o => cases o <;> simp <;> split <;> simp
  · simp [h]

theorem Chg.setCell (w : World) (a : Addr) (v : Value) (W : Nat → Prop) (h : W a.block) : Chg w (w.setCell a v) W :=
  ⟨rfl, rfl, rfl, by simp, fun k hk hw => heap_setCell_other w a k v (fun e => hw (e ▸ h)), fun k s hs => by rw [World.shape?_setCell]; exact hs⟩

/-- Where the blocks of the names that an operation gives new contents come from: new blocks, or blocks of such names. -/
def Src (ns : Nat → Prop) (env : Env) (h : Heap) (w : World) (k : Nat) : Prop :=
  w.heap.size ≤ k ∨ ∃ m b l, ns m ∧ h m = .live b ∧ b.mut = true ∧ env m = .blk k l

/-- What an operation must show. -/
structure Upd (ns : Nat → Prop) (W : Nat → Prop) (A : Nat → Prop) (env : Env) (h : Heap) (w : World) (A' : Nat → Prop) (env' : Env) (h' : Heap) (w' : World) : Prop where
  c : Chg w w' W
  hW : ∀ k, W k → ∃ m b l, ns m ∧ h m = .live b ∧ b.mut = true ∧ env m = .blk k l
  hA : ∀ b, A b → A' b
  hA' : ∀ b, A' b → A b ∨ (Src ns env h w b ∧ b < w'.heap.size)
  he : ∀ n, ¬ ns n → env' n = env n
  he' : ∀ n, env n ≠ .un → env' n = env n
  hh : ∀ n, ¬ ns n → h' n = h n
  hn : ∀ n, ns n → NmDen A' env' w' n (h' n)
  hs : ∀ n b k l, ns n → h' n = .live b → b.mut = true → env' n = .blk k l → Src ns env h w k
  hi : ∀ n m b c k l l', ns n → ns m → h' n = .live b → h' m = .live c → b.mut = true → c.mut = true → env' n = .blk k l → env' m = .blk k l' → n = m

section
variable {w0 : World} {N0 : Old} {A A' : Nat → Prop} {env env' : Env} {h h' : Heap} {w w' : World} {ns W : Nat → Prop}

theorem Mod.live_blk (m : Mod w0 N0 A env h w) {n : Nat} {b : Blk} {k l : Nat} (hl : h n = .live b) (he : env n = .blk k l) : BlkDen A env w k l b ∧ (b.mut = true → ¬ A k) := by
  have := m.nm n
  rw [hl] at this
  rcases this with ⟨k', l', e, hb, hA⟩ | ⟨e, _⟩
  · rw [he] at e; cases e; exact ⟨hb, hA⟩
  · rw [he] at e; cases e

theorem Mod.ext (m : Mod w0 N0 A env h w) (u : Upd ns W A env h w A' env' h' w') : Ext A env w A' env' w' :=
  ⟨u.hA, fun n b l e => by rw [u.he' n (by rw [e]; simp)]; exact e, fun n e => by rw [u.he' n (by rw [e]; simp)]; exact e,
   fun b o hb => by
    have hW : ¬ W b := fun hw => by
      obtain ⟨mm, bb, l, _, hl, hm, he⟩ := u.hW b hw
      exact (m.live_blk hl he).2 hm hb
    exact World.cell?_of_block (a := ⟨b, o, none⟩) (u.c.blk b (m.Alt b hb) hW), u.c.shape⟩

theorem Mod.upd (m : Mod w0 N0 A env h w) (u : Upd ns W A env h w A' env' h' w') : Mod w0 N0 A' env' h' w' := by
  have x := m.ext u
  have old : ∀ n b k l, ¬ ns n → h n = .live b → b.mut = true → env n = .blk k l → ¬ Src ns env h w k := by
    intro n b k l hn hl hm he hs
    have hlt := (m.live_blk hl he).1.lt
    rcases hs with hs | ⟨mm, bb, l', hmm, hl', hm', he'⟩
    · omega
    · exact hn (m.inj n mm b bb k l l' hl hl' hm hm' he he' ▸ hmm)
  refine ⟨u.c.os.trans m.os, u.c.tape.trans m.tape, u.c.output.trans m.output, Nat.le_trans m.size u.c.size, ?_, ?_, ?_, ?_, ?_, ?_, ?_⟩
  · intro k hk hN
    by_cases hW : W k
    · obtain ⟨mm, b, l, _, hl, hm, he⟩ := u.hW k hW
      rcases m.own mm b k l hl hm he with h1 | h1
      · exact absurd h1 hN
      · omega
    · rw [u.c.blk k (Nat.lt_of_lt_of_le hk m.size) hW]; exact m.fr k hk hN
  · intro b hb
    rcases u.hA' b hb with h1 | ⟨_, h1⟩
    · exact Nat.lt_of_lt_of_le (m.Alt b h1) u.c.size
    · exact h1
  · intro n
    by_cases hn : ns n
    · exact u.hn n hn
    · rw [u.hh n hn]
      have := m.nm n
      cases hl : h n with
      | un => rw [hl] at this; simp only [NmDen] at this ⊢; rw [u.he n hn]; exact this
      | dead => trivial
      | live b =>
        rw [hl] at this
        rcases this with ⟨k, l, e, hb, hA⟩ | ⟨e, hb⟩
        · refine .inl ⟨k, l, by rw [u.he n hn]; exact e, ?_, ?_⟩
          · refine BlkDen_mono x ?_ hb
            by_cases hW : W k
            · cases hm : b.mut with
              | true =>
                obtain ⟨mm, bb, l', hmm, hl', hm', he'⟩ := u.hW k hW
                exact absurd (.inr ⟨mm, bb, l', hmm, hl', hm', he'⟩) (old n b k l hn hl hm e)
              | false =>
                obtain ⟨mm, bb, l', hmm, hl', hm', he'⟩ := u.hW k hW
                cases b with
                | frz E t xs => exact absurd hb.1 ((m.live_blk hl' he').2 hm')
                | cells E cs => cases hm
                | row E t xs => cases hm
            · exact u.c.blk k hb.lt hW
          · intro hm hA'
            rcases u.hA' k hA' with h1 | ⟨h1, _⟩
            · exact hA hm h1
            · exact old n b k l hn hl hm e h1
        · exact .inr ⟨by rw [u.he n hn]; exact e, hb⟩
  · intro n b k l hl hm he
    by_cases hn : ns n
    · rcases u.hs n b k l hn hl hm he with h1 | ⟨mm, bb, l', hmm, hl', hm', he'⟩
      · exact .inr (Nat.le_trans m.size h1)
      · exact m.own mm bb k l' hl' hm' he'
    · rw [u.hh n hn] at hl; rw [u.he n hn] at he; exact m.own n b k l hl hm he
  · intro n n' b c k l l' hl hl' hm hm' he he'
    by_cases hn : ns n <;> by_cases hn' : ns n'
    · exact u.hi n n' b c k l l' hn hn' hl hl' hm hm' he he'
    · rw [u.hh n' hn'] at hl'; rw [u.he n' hn'] at he'
      exact absurd (u.hs n b k l hn hl hm he) (old n' c k l' hn' hl' hm' he')
    · rw [u.hh n hn] at hl; rw [u.he n hn] at he
      exact absurd (u.hs n' c k l' hn' hl' hm' he') (old n b k l hn hl hm he)
    · rw [u.hh n hn] at hl; rw [u.he n hn] at he; rw [u.hh n' hn'] at hl'; rw [u.he n' hn'] at he'
      exact m.inj n n' b c k l l' hl hl' hm hm' he he'
  · intro b hb
    rcases u.hA' b hb with h1 | ⟨h1 | ⟨mm, bb, l', hmm, hl', hm', he'⟩, _⟩
    · exact m.fresh b h1
    · exact .inr (.inr (Nat.le_trans m.size h1))
    · exact .inr (m.own mm bb b l' hl' hm' he')
  · intro g y hg
    obtain ⟨h1, h2⟩ := m.gl g y hg
    exact ⟨u.hA g h1, Rd_mono x.imm x.keep _ _ _ _ _ (fun j _ => x.keep g _ h1) h2⟩

/-- Nothing named has changed: new unnamed blocks at most. -/
theorem Upd.none (c : Chg w w' fun _ => False) : Upd (fun _ => False) (fun _ => False) A env h w A env h w' :=
  ⟨c, fun _ h => h.elim, fun _ h => h, fun _ h => .inl h, fun _ _ => rfl, fun _ _ => rfl, fun _ _ => rfl, fun _ h => h.elim, fun _ _ _ _ h => h.elim, fun _ _ _ _ _ _ _ h => h.elim⟩
end

/-- The symbolic heap with some names' contents replaced. -/
def Heap.set (h : Heap) (n : Nat) (x : Nm) : Heap := fun m => if m = n then x else h m
def Env.set (e : Env) (n : Nat) (x : Ev) : Env := fun m => if m = n then x else e m
@[simp] theorem Heap.set_same (h : Heap) (n : Nat) (x : Nm) : h.set n x n = x := by simp [Heap.set]
@[simp] theorem Env.set_same (e : Env) (n : Nat) (x : Ev) : e.set n x n = x := by simp [Env.set]
theorem Heap.set_other (h : Heap) {n m : Nat} (x : Nm) (hm : m ≠ n) : h.set n x m = h m := by simp [Heap.set, hm]
theorem Env.set_other (e : Env) {n m : Nat} (x : Ev) (hm : m ≠ n) : e.set n x m = e m := by simp [Env.set, hm]

section
variable {w0 : World} {N0 : Old} {A : Nat → Prop} {env : Env} {h : Heap} {w w' : World}
/-- A new block under a name that was not used. -/
theorem Upd.fresh (m : Mod w0 N0 A env h w) {n : Nat} (hn : h n = .un) {b : Blk} {len : Nat} {o : Obj} (hmut : b.mut = true) (k : Nat) (hk : w.heap.size ≤ k) (hA : ¬ A k)
    (c : Chg w w' fun _ => False) (hb : BlkDen A (env.set n (.blk k len)) w' k len b) :
    Upd (fun m => m = n) (fun _ => False) A env h w A (env.set n (.blk k len)) (h.set n (.live b)) w' := by
  have hu : env n = .un := by have := m.nm n; rw [hn] at this; exact this
  refine ⟨c, fun _ h => h.elim, fun _ h => h, fun _ h => .inl h, fun m hm => Env.set_other _ _ hm, fun m hm => ?_, fun m hm => Heap.set_other _ _ hm, ?_, ?_, ?_⟩
  · exact Env.set_other _ _ (fun e => hm (e ▸ hu))
  · rintro _ rfl
    rw [Heap.set_same]
    exact .inl ⟨k, len, Env.set_same _ _ _, hb, fun _ => hA⟩
  · rintro _ b' k' l rfl _ _ he
    rw [Env.set_same] at he; cases he
    exact .inl hk
  · rintro _ _ _ _ _ _ _ rfl rfl _ _ _ _ _ _; rfl

/-- The contents of a named block replaced. -/
theorem Upd.write (m : Mod w0 N0 A env h w) {n : Nat} {b b' : Blk} {k len : Nat} (hl : h n = .live b) (hm : b.mut = true) (he : env n = .blk k len)
    (c : Chg w w' fun j => j = k) (hb : BlkDen A env w' k len b') (hm' : b'.mut = true) :
    Upd (fun m => m = n) (fun j => j = k) A env h w A env (h.set n (.live b')) w' := by
  refine ⟨c, ?_, fun _ h => h, fun _ h => .inl h, fun m _ => rfl, fun m hm => rfl, fun m hm => Heap.set_other _ _ hm, ?_, ?_, ?_⟩
  · rintro _ rfl; exact ⟨n, b, len, rfl, hl, hm, he⟩
  · rintro _ rfl
    rw [Heap.set_same]
    exact .inl ⟨k, len, he, hb, fun _ => (m.live_blk hl he).2 hm⟩
  · rintro _ b'' k' l rfl _ _ he'
    rw [he] at he'; cases he'
    exact .inr ⟨_, b, len, rfl, hl, hm, he⟩
  · rintro _ _ _ _ _ _ _ rfl rfl _ _ _ _ _ _; rfl
end
end Go.SX
