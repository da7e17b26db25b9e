/- SX, part 20: into a function and out of it. -/
import Derived.Test.YtfgcoeablgoccaaGreatDoorSx19
import Derived.Laws.Sem
import Derived.Laws.NewBlocks
import Derived.ProofKit
import Derived.OpenShut
import Derived.ChangeOld
import Derived.Below
import Derived.KernelRfl
import Derived.Test.YtfgcoeablgoccaaGreatDoorChecked
namespace Go.SX
set_option linter.unusedVariables false
section
variable {w0:World} {N0:Old} {A Ac:Nat->Prop} {env:Env} {h:Heap} {w:World}
def nodupN:List Nat->Bool
  | []=>true
  | n::r => !memN n r&&nodupN r
theorem nodupN_iff:∀ {l:List Nat},nodupN l=true->l.Nodup
  | [],_=>List.nodup_nil
  | n::r,h=>by
    simp only [nodupN,Bool.and_eq_true,Bool.not_eq_true'] at h
    refine List.nodup_cons.2 ⟨fun hm => ?_,nodupN_iff h.2⟩
    rw [memN_iff.2 hm] at h;cases h.1
def somes:List (Option Nat)->List Nat
  | []=>[]
  | none::r=>somes r
  | some n::r=>n::somes r
theorem mem_somes {n:Nat}:∀ {l:List (Option Nat)},n∈somes l↔some n∈l
  | []=>by simp [somes]
  | none::r=>by simp [somes,mem_somes (l:=r)]
  | some m::r=>by simp [somes,mem_somes (l:=r)]
theorem somes_at {n:Nat}:∀ {l:List (Option Nat)} {i i':Nat},(somes l).Nodup->l[i]? = some (some n)->l[i']? = some (some n)->i=i'
  | [],i,i',_,h,_=>by simp at h
  | none::r,i,i',hn,h,h'=>by
    cases i with
    | zero=>simp at h
    | succ i=>cases i' with
      | zero=>simp at h'
      | succ i'=>have:=somes_at (i:=i) (i':=i') (l:=r) hn (by simpa using h) (by simpa using h');omega
  | some m::r,i,i',hn,h,h'=>by
    obtain ⟨h1,h2⟩:=List.nodup_cons.1 hn
    cases i with
    | zero =>
      simp at h;subst h
      cases i' with
      | zero=>rfl
      | succ i'=>exact absurd (mem_somes.2 (List.mem_of_getElem? (by simpa using h'))) h1
    | succ i=>cases i' with
      | zero=>simp at h';subst h';exact absurd (mem_somes.2 (List.mem_of_getElem? (by simpa using h))) h1
      | succ i'=>have:=somes_at (i:=i) (i':=i') (l:=r) h2 (by simpa using h) (by simpa using h');omega
def srcN (bx:List Nat) (cx:List (Option Nat)) (n:Nat):Option (Option Nat):=match Nat.ble QN n with
  | true=>cx[n-QN]?
  | false=>match Nat.ble PN n with
    | true=>match bx[n-PN]? with
      | some m=>some (some m)
      | none=>none
    | false=>none
def callEnv (env:Env) (bx:List Nat) (cx:List (Option Nat)):Env:=fun n=>match srcN bx cx n with
  | some o=>evOf env o
  | none => .un
theorem srcN_bx {bx:List Nat} {cx:List (Option Nat)} {i n:Nat} (hl:bx.length<=PN) (hi:bx[i]? = some n):srcN bx cx (PN+i)=some (some n):=by
  have hlt:=(List.getElem?_eq_some_iff.1 hi).1
  have h2:QN=PN+PN:=rfl
  unfold srcN
  have h1:Nat.ble QN (PN+i)=false:=by
    cases hb:Nat.ble QN (PN+i) with
    | false=>rfl
    | true=>have:=Nat.le_of_ble_eq_true hb;omega
  rw [h1,Nat.ble_eq_true_of_le (by omega)]
  simp only [Nat.add_sub_cancel_left,hi]
theorem srcN_cx {bx:List Nat} {cx:List (Option Nat)} {i:Nat} {o:Option Nat} (hi:cx[i]? = some o):srcN bx cx (QN+i)=some o:=by
  unfold srcN
  rw [Nat.ble_eq_true_of_le (by omega)]
  simp only [Nat.add_sub_cancel_left,hi]
theorem srcN_inv {bx:List Nat} {cx:List (Option Nat)} {n:Nat} {o:Option Nat} (e:srcN bx cx n=some o):(∃ i m,bx[i]? = some m/\n=PN+i/\n<QN/\o=some m)∨∃ i,cx[i]? = some o/\n=QN+i:=by
  unfold srcN at e
  split at e
  · rename_i hb
    have:=Nat.le_of_ble_eq_true hb
    exact .inr ⟨n-QN,e,by omega⟩
  · rename_i hb
    have hlt:n<QN:=by
      refine Nat.lt_of_not_le fun hle => ?_
      rw [Nat.ble_eq_true_of_le hle] at hb;cases hb
    split at e
    · rename_i hb
      have:=Nat.le_of_ble_eq_true hb
      split at e
      · rename_i m hm;cases e;exact .inl ⟨n-PN,m,hm,by omega,hlt,rfl⟩
      · cases e
    · cases e
theorem callEnv_bx {bx:List Nat} {cx:List (Option Nat)} {i n:Nat} (hl:bx.length<=PN) (hi:bx[i]? = some n):callEnv env bx cx (PN+i)=env n:=by
  unfold callEnv;rw [srcN_bx hl hi];rfl
theorem callEnv_cx {bx:List Nat} {cx:List (Option Nat)} {i:Nat} {o:Option Nat} (hi:cx[i]? = some o):callEnv env bx cx (QN+i)=evOf env o:=by
  unfold callEnv;rw [srcN_cx hi]
def boxBlk (env:Env) (bx:List Nat) (k:Nat):Prop:=∃ n l,n∈bx/\env n = .blk k l
theorem lookN_app {a b:List (Nat×Nm)} {n:Nat}:lookN (a++b) n=if n∈a.map (·.1) then lookN a n else lookN b n:=by
  induction a with
  | nil=>simp
  | cons p a ih =>
    obtain ⟨m,x⟩:=p
    simp only [List.cons_append,lookN,List.map_cons,List.mem_cons]
    cases hb:Nat.beq n m with
    | true=>have:=Nat.eq_of_beq_eq_true hb;simp [this]
    | false =>
      have hne:¬ n=m:=fun e=>by rw [e,Nat.beq_refl] at hb;cases hb
      simp only [hne,false_or,ih]
theorem call_names {A':Nat->Prop} {e':Env} {bx:List Nat} {cx:List (Option Nat)} {lb lc:List (Nat×Nm)} (hl:bx.length<=PN) (hb:LinkOK A' env h e' w (bx.map some) lb PN) (hc:LinkOK A' env h e' w cx lc QN) :
    (∀ n o,srcN bx cx n=some o→∃ b',lookN (lb++lc) n = .live b'∧b'.mut=true/\((∃ q b,o=some q/\h q = .live b/\b.mut=true/\(∀ k len,env q = .blk k len->BlkDen A' e' w k len b')/\(env q = .nil→∃ E t,b' = .row E t []))∨(o=none∧∃ E t,b' = .row E t []))) ∧
    (∀ n,srcN bx cx n=none->lookN (lb++lc) n = .un):=by
  obtain ⟨hbl,hbg⟩:=hb.get
  obtain ⟨hcl,hcg⟩:=hc.get
  have kb:∀ n,n∈lb.map (·.1)→∃ i,i<bx.length/\n=PN+i:=fun n hn=>by
    obtain ⟨⟨n',x⟩,hx,rfl⟩:=List.mem_map.1 hn
    obtain ⟨i,o,h1,h2⟩:=hb.keys _ _ hx
    exact ⟨i,by have:=(List.getElem?_eq_some_iff.1 h2).1;simpa using this,h1⟩
  have kc:∀ n,n∈lc.map (·.1)→∃ i o,cx[i]? = some o/\n=QN+i:=fun n hn=>by
    obtain ⟨⟨n',x⟩,hx,rfl⟩:=List.mem_map.1 hn
    obtain ⟨i,o,h1,h2⟩:=hc.keys _ _ hx
    exact ⟨i,o,h2,h1⟩
  have h2:QN=PN+PN:=rfl
  refine ⟨fun n o e => ?_,fun n e => ?_⟩
  · rcases srcN_inv e with ⟨i,m,hi,rfl,hlt,rfl⟩|⟨i,hi,rfl⟩
    · obtain ⟨b',g1,g2,g3⟩:=hbg i (some m) (by simp [hi])
      refine ⟨b',?_,g3⟩
      rw [lookN_app,if_pos (List.mem_map_of_mem (f:=(·.1)) g2)];exact g1
    · obtain ⟨b',g1,g2,g3⟩:=hcg i o hi
      refine ⟨b',?_,g3⟩
      rw [lookN_app,if_neg]
      · exact g1
      · intro hmem
        obtain ⟨i',hi',e'⟩:=kb _ hmem
        omega
  · rw [lookN_app,if_neg]
    · refine lookN_none fun hmem => ?_
      obtain ⟨i,o,hi,rfl⟩:=kc n hmem
      rw [srcN_cx hi] at e;cases e
    · intro hmem
      obtain ⟨i,hi,rfl⟩:=kb n hmem
      rw [srcN_bx hl (List.getElem?_eq_getElem hi)] at e;cases e
theorem Mod.call (m:Mod w0 N0 A env h w) {lb lc:List (Nat×Nm)} {fz:List (Nat×Nm)} {bx:List Nat} {cx:List (Option Nat)} (hfz:FrzOk h fz) (hl:bx.length<=PN)
    (hb:LinkOK (frzA A env fz) env h (callEnv env bx cx) w (bx.map some) lb PN) (hc:LinkOK (frzA A env fz) env h (callEnv env bx cx) w cx lc QN)
    (hdj:∀ n,n∈bx++somes cx->n ∉ fz.map (·.1)) (hnd:(bx++somes cx).Nodup) :
    Mod w ⟨boxBlk env (bx++somes cx),frzA A env fz,N0.g⟩ (frzA A env fz) (callEnv env bx cx) (lookN (lb++lc)) w:=by
  obtain ⟨hg,hgn⟩:=call_names hl hb hc
  have mf:=(m.freeze hfz).1
  have memS:∀ {n o q},srcN bx cx n=some o->o=some q->q∈bx++somes cx:=fun {n o q} e eo=>by
    subst eo
    rcases srcN_inv e with ⟨i,m,hi,_,_,e⟩|⟨i,hi,_⟩
    · cases e;exact List.mem_append_left _ (List.mem_of_getElem? hi)
    · exact List.mem_append_right _ (mem_somes.2 (List.mem_of_getElem? hi))
  have inj:∀ {n n' q},srcN bx cx n=some (some q)->srcN bx cx n'=some (some q)->n=n':=fun {n n' q} e e'=>by
    obtain ⟨hn1,hn2,hn3⟩:=List.nodup_append.1 hnd
    rcases srcN_inv e with ⟨i,m,hi,rfl,_,em⟩|⟨i,hi,rfl⟩ <;> rcases srcN_inv e' with ⟨i',m',hi',rfl,_,em'⟩|⟨i',hi',rfl⟩
    · cases em;cases em'
      have:=(List.getElem?_inj (List.getElem?_eq_some_iff.1 hi).1 hn1).1 (hi.trans hi'.symm)
      rw [this]
    · cases em
      exact absurd rfl (hn3 _ (List.mem_of_getElem? hi) _ (mem_somes.2 (List.mem_of_getElem? hi')))
    · cases em'
      exact absurd rfl (hn3 _ (List.mem_of_getElem? hi') _ (mem_somes.2 (List.mem_of_getElem? hi)))
    · rw [somes_at hn2 hi hi']
  have blk:∀ {n k l},callEnv env bx cx n = .blk k l→∃ q,srcN bx cx n=some (some q)/\env q = .blk k l:=fun {n k l} he=>by
    unfold callEnv at he
    split at he
    · rename_i o ho
      cases o with
      | none=>cases he
      | some q=>exact ⟨q,ho,he⟩
    · cases he
  refine ⟨rfl,rfl,rfl,Nat.le_refl _,fun _ _ _=>rfl,mf.Alt,?_,?_,?_,fun b hb => .inl hb,mf.gl⟩
  · intro n
    cases hs:srcN bx cx n with
    | none =>
      rw [hgn n hs]
      show callEnv env bx cx n = .un
      unfold callEnv;rw [hs]
    | some o =>
      obtain ⟨b',g1,g4,g5⟩:=hg n o hs
      rw [g1]
      have he:callEnv env bx cx n=evOf env o:=by unfold callEnv;rw [hs]
      rcases g5 with ⟨q,b,rfl,g2,g3,g5,g6⟩|⟨rfl,E,t,e2⟩
      · have hm:=m.nm q
        rw [g2] at hm
        rcases hm with ⟨kk,len,e1,_⟩|⟨e1,_⟩
        · refine .inl ⟨kk,len,by rw [he];exact e1,g5 _ _ e1,fun _ hA => ?_⟩
          rcases hA with hA|⟨n',x',l',hx,he'⟩
          · exact (m.live_blk g2 e1).2 g3 hA
          · obtain ⟨E,t,xs,hl',_⟩:=hfz n' x' hx
            have:=m.inj q n' b _ kk len l' g2 hl' g3 rfl e1 he'
            subst this
            exact hdj q (memS hs rfl) (List.mem_map_of_mem (f:=(·.1)) hx)
        · obtain ⟨E,t,e⟩:=g6 e1
          exact .inr ⟨by rw [he];exact e1,E,t,.inl e⟩
      · exact .inr ⟨by rw [he];rfl,E,t,.inl e2⟩
  · intro n b k l hl hm he
    obtain ⟨q,hs,e2⟩:=blk he
    exact .inl ⟨q,l,memS hs rfl,e2⟩
  · intro n n' b c k l l' hl hl' hm hm' he he'
    obtain ⟨q,hs,e1⟩:=blk he
    obtain ⟨q',hs',e2⟩:=blk he'
    obtain ⟨b1,_,_,⟨q1,c1,e,g2,g3,_⟩|⟨e,_⟩⟩:=hg n _ hs
    · obtain ⟨b2,_,_,⟨q2,c2,e',f2,f3,_⟩|⟨e',_⟩⟩:=hg n' _ hs'
      · cases e;cases e'
        have:=m.inj q q' c1 c2 k l l' g2 f2 g3 f3 e1 e2
        subst this
        exact inj hs hs'
      · cases e'
    · cases e
def retEnv (R:Rn) (env env1:Env):Env:=fun n=>match lookR R n with
  | none=>env n
  | some _=>renEnv R env1 n
theorem Mod.retn {As A' A1:Nat->Prop} {env1:Env} {hs h1:Heap} {w1:World} {Nc:Old} {U:List (Nat×Nm)} {R:Rn}
    (ms:Mod w0 N0 As env hs w) (m1:Mod w Nc A1 env1 h1 w1) (hshape:∀ b s,w.shape? b=some s->w1.shape? b=some s)
    (hU:∀ n x,(n,x)∈U->x = .dead∨∃ b,x = .live b/\b.mut=true/\((∃ m b0,lookR R n=some (some m)/\h1 m = .live b0/\b0.mut=true ∧
      (∀ k len,env1 m = .blk k len->BlkDen A' (retEnv R env env1) w1 k len b)/\(env1 m = .nil→∃ E t,b = .row E t []))∨(lookR R n=some none∧∃ E t,b = .row E t [])))
    (hdom:∀ n,lookR R n≠none->n∈U.map (·.1)) (hinj:InjR R)
    (hold:∀ n,lookR R n≠none->hs n = .un∨∃ b,hs n = .live b/\b.mut=true/\(renEnv R env1 n=env n))
    (hNc:∀ k,Nc.n k→∃ n b l,n∈U.map (·.1)/\hs n = .live b/\b.mut=true/\env n = .blk k l)
    (hA:∀ b,As b->A' b) (hA1:∀ b,A' b->As b∨((Nc.n b∨w.heap.size<=b)/\b<w1.heap.size))
    (hAm:∀ m b k l,h1 m = .live b->b.mut=true->env1 m = .blk k l->(∃ n,lookR R n=some (some m))→¬ A' k) :
    Mod w0 N0 A' (retEnv R env env1) (setAll U hs) w1/\Ext As env w A' (retEnv R env env1) w1:=by
  have src:∀ k,(Nc.n k∨w.heap.size<=k)->Src (fun n=>n∈U.map (·.1)) env hs w k:=fun k hk=>by
    rcases hk with hk|hk
    · obtain ⟨n,b,l,e1,e2,e3,e4⟩:=hNc k hk
      exact .inr ⟨n,b,l,e1,e2,e3,e4⟩
    · exact .inl hk
  have mem:∀ n,n∈U.map (·.1)->(n,setAll U hs n)∈U:=fun n hn=>by
    have hl:∀ (V:List (Nat×Nm)) ,n∈V.map (·.1)->(n,setAll V hs n)∈V:=by
      intro V
      induction V with
      | nil=>intro h;simp at h
      | cons p V ih =>
        obtain ⟨q,y⟩:=p
        intro h
        by_cases hq:n=q
        · subst hq;simp [setAll]
        · rw [setAll,Heap.set_other _ _ hq]
          rcases List.mem_cons.1 h with e|h
          · exact absurd e hq
          · exact List.mem_cons_of_mem _ (ih h)
    exact hl U hn
  have envR:∀ n y,lookR R n=some y->retEnv R env env1 n=renEnv R env1 n:=fun n y hn=>by
    unfold retEnv;rw [hn]
  have u:Upd (fun n=>n∈U.map (·.1)) Nc.n As env hs w A' (retEnv R env env1) (setAll U hs) w1:=by
    refine ⟨⟨m1.os,m1.tape,m1.output,m1.size,m1.fr,hshape⟩,?_,hA,?_,?_,?_,fun n hn=>setAll_other hn,?_,?_,?_⟩
    · intro k hk
      obtain ⟨n,b,l,e1,e2,e3,e4⟩:=hNc k hk
      exact ⟨n,b,l,e1,e2,e3,e4⟩
    · intro b hb
      rcases hA1 b hb with h|⟨h,h'⟩
      · exact .inl h
      · exact .inr ⟨src b h,h'⟩
    · intro n hn
      unfold retEnv
      cases hl:lookR R n with
      | none=>rfl
      | some y=>exact absurd (hdom n (by rw [hl];simp)) hn
    · intro n hn
      unfold retEnv
      cases hl:lookR R n with
      | none=>rfl
      | some y =>
        rcases hold n (by rw [hl];simp) with h|⟨b,_,_,h⟩
        · exact absurd (by have:=ms.nm n;rw [h] at this;exact this) hn
        · exact h
    · intro n hn
      have hmem:=mem n hn
      rcases hU n _ hmem with e|⟨b,e,hmut,hh⟩
      · rw [e];trivial
      · rw [e]
        rcases hh with ⟨m',b0,e1,e2,e3,e4,e5⟩|⟨e1,E,t,e2⟩
        · have he:retEnv R env env1 n=env1 m':=by rw [envR n _ e1,renEnv_some e1]
          have hm':=m1.nm m'
          rw [e2] at hm'
          rcases hm' with ⟨k,len,he',_,_⟩|⟨he',_⟩
          · exact .inl ⟨k,len,he.trans he',e4 k len he',fun _=>hAm m' b0 k len e2 e3 he' ⟨n,e1⟩⟩
          · obtain ⟨E,t,e⟩:=e5 he'
            exact .inr ⟨he.trans he',E,t,.inl e⟩
        · exact .inr ⟨by rw [envR n _ e1,renEnv_nil e1],E,t,.inl e2⟩
    · intro n b k l hn hl hm he
      have hmem:=mem n hn
      rw [hl] at hmem
      rcases hU n _ hmem with e|⟨b',e,hmut,hh⟩
      · cases e
      · rcases hh with ⟨m',b0,e1,e2,e3,_⟩|⟨e1,_⟩
        · rw [envR n _ e1,renEnv_some e1] at he
          exact src k (m1.own m' b0 k l e2 e3 he)
        · rw [envR n _ e1,renEnv_nil e1] at he;cases he
    · intro n n' b c k l l' hn hn' hl hl' hm hm' he he'
      have hmem1:=mem n hn
      have hmem2:=mem n' hn'
      rw [hl] at hmem1
      rw [hl'] at hmem2
      rcases hU n _ hmem1 with e|⟨_,_,_,hh1⟩
      · cases e
      rcases hU n' _ hmem2 with e|⟨_,_,_,hh2⟩
      · cases e
      rcases hh1 with ⟨m',b0,e1,e2,e3,_⟩|⟨e1,_⟩
      · rw [envR n _ e1,renEnv_some e1] at he
        rcases hh2 with ⟨m2,c0,f1,f2,f3,_⟩|⟨f1,_⟩
        · rw [envR n' _ f1,renEnv_some f1] at he'
          have:=m1.inj m' m2 b0 c0 k l l' e2 f2 e3 f3 he he'
          subst this
          exact hinj n n' m' e1 f1
        · rw [envR n' _ f1,renEnv_nil f1] at he';cases he'
      · rw [envR n _ e1,renEnv_nil e1] at he;cases he
  exact ⟨ms.upd u,ms.ext u⟩
end
end Go.SX

/- SX, part 21: a function's contract, off its symbolic run. -/
namespace Go.SX
set_option linter.unusedVariables false
def CT.plain:CT->Bool
  | .sl _=>false
  | .pair a b=>a.plain&&b.plain
  | _=>true
theorem Rd_plain {A A':Nat->Prop} {w w':World}:∀ {t:CT} {cv:Nat->Option Value} {o:Nat} {d:t.D},t.plain=true->Rd A w t cv o d->Rd A' w' t cv o d
  | .int k,cv,o,d,_,h=>h
  | .bool,cv,o,d,_,h=>h
  | .str,cv,o,d,_,h=>h
  | .sl t,cv,o,d,hp,_=>by cases hp
  | .pair a b,cv,o,d,hp,h=>by
    simp only [CT.plain,Bool.and_eq_true] at hp
    exact ⟨Rd_plain hp.1 h.1,Rd_plain hp.2 h.2⟩
theorem Rd_lift {A A':Nat->Prop} {w:World} {t:CT} {cv:Nat->Option Value} {o:Nat} {d:t.D} (L:t.plain=true∨∀ b,A b->A' b) (h:Rd A w t cv o d):Rd A' w t cv o d:=by
  rcases L with L|L
  · exact Rd_plain L h
  · exact Rd_mono L (fun _ _ _=>rfl) t _ _ _ _ (fun _ _=>rfl) h
inductive RK where
  | val (t:CT)
  | agg (o:OT)
  | own (E:TypeId) (t:CT)
  | box (E:TypeId) (o:OT)
  | fn (f:FuncId) (k:Nat)
@[reducible] def RK.D:RK->Type
  | .val t=>t.D
  | .agg o=>o.X
  | .own _ t=>List t.D
  | .box _ o=>o.X
  | .fn _ _=>Unit
@[reducible] def RDs:List RK->Type
  | []=>Unit
  | p::r=>p.D×RDs r
@[reducible] def BDs:List PK->Type
  | []=>Unit
  | .val _::r=>BDs r
  | .agg _::r=>BDs r
  | .own _ _::r=>BDs r
  | .ago _::r=>BDs r
  | .fn _ _::r=>BDs r
  | .nils::r=>BDs r
  | .box _ o::r=>o.X×BDs r
  | .row _ t::r=>List t.D×BDs r
def OT.plain:OT->Bool
  | .dat t=>t.plain
  | .row _ t=>t.plain
  | .rowg _ _=>true
  | .fnc _=>true
  | .ali=>true
  | .ref _ o=>o.plain
  | .pair a b=>a.plain&&b.plain
def rsPlain:List RK->Bool
  | []=>true
  | .val t::r=>t.plain&&rsPlain r
  | .agg o::r=>o.plain&&rsPlain r
  | .own _ t::r=>t.plain&&rsPlain r
  | .box _ o::r=>o.plain&&rsPlain r
  | .fn _ _::r=>rsPlain r
def psPlain:List PK->Bool
  | []=>true
  | .val _::r=>psPlain r
  | .agg _::r=>psPlain r
  | .own _ _::r=>psPlain r
  | .ago _::r=>psPlain r
  | .fn _ _::r=>psPlain r
  | .nils::r=>psPlain r
  | .box _ o::r=>o.plain&&psPlain r
  | .row _ t::r=>t.plain&&psPlain r
structure Ct where
  ps:List PK
  rs:List RK
  pre:PDs ps->List Prop
  out:PDs ps->RDs rs×BDs ps
def takeRowH (E:TypeId) (t:CT) (h:Heap):List SV->Option (List t.D×List SV×Option Nat)
  | .own m sz::r=>match h m with
    | .live (.row E' t' xs)=>match Nat.beq E E',Nat.beq sz t.size,castL t' t xs with
      | true,true,some ys=>some (ys,r,some m)
      | _,_,_=>none
    | _=>none
  | .nilsl::r=>some ([],r,none)
  | _=>none
def oOut (h:Heap) (al:Bool):(o:OT)->Option Nat->List SV->Option (o.X×List SV×List (Nat×Nm)×List (Option Nat))
  | .dat t,_,cs=>match (projC t cs).run h with
    | some ((x,r,fz),_)=>some (x,r,fz,[])
    | none=>none
  | .row E t,_,cs=>match takeRowH E t h cs with
    | some (ys,r,o)=>some (ys,r,[],[o])
    | none=>none
  | .rowg _ _,_,_::r=>some ((),r,[],[])
  | .rowg _ _,_,[]=>none
  | .fnc f,_,.fn g []::r=>match Nat.beq f g with
    | true=>some ((),r,[],[])
    | false=>none
  | .fnc _,_,_=>none
  | .ali,_,.ptr m 0::r=>match al,Nat.beq m PN with
    | true,true=>some ((),r,[],[])
    | _,_=>none
  | .ali,_,_=>none
  | .ref E o,some j,.ptr m 0::r=>match Nat.beq m (PN+j),h m with
    | true,.live (.cells E' cs)=>match Nat.beq E E',oOut h al o (some (j+1)) cs with
      | true,some (x,[],fz,ow)=>some (x,r,fz,ow)
      | _,_=>none
    | _,_=>none
  | .ref _ _,_,_=>none
  | .pair a b,j,cs=>match oOut h al a j cs with
    | some (x,r,f,w)=>match oOut h al b (j.map (· + a.nb)) r with
      | some (y,r',f',w')=>some ((x,y),r',f++f',w++w')
      | none=>none
    | none=>none
def outR (al:Bool):(rs:List RK)->List SV->Heap->Option (RDs rs×List (Nat×Nm)×List (Option Nat))
  | [],[],_=>some ((),[],[])
  | .val t::rs,v::vs,h=>match (projC t [v]).run h with
    | some ((x,[],fz),_)=>match outR al rs vs h with
      | some (y,f,o)=>some ((x,y),fz++f,o)
      | none=>none
    | _=>none
  | .agg t::rs,.agg cs::vs,h=>match oOut h al t none cs with
    | some (x,[],fz,w)=>match outR al rs vs h with
      | some (y,f,o)=>some ((x,y),fz++f,w++o)
      | none=>none
    | _=>none
  | .own E t::rs,v::vs,h=>match takeRowH E t h [v] with
    | some (x,_,w)=>match outR al rs vs h with
      | some (y,f,o)=>some ((x,y),f,w::o)
      | none=>none
    | none=>none
  | .box E t::rs,.ptr m 0::vs,h=>match h m with
    | .live (.cells E' cs)=>match Nat.beq E E',oOut h al t none cs with
      | true,some (x,[],fz,w)=>match outR al rs vs h with
        | some (y,f,o)=>some ((x,y),fz++f,some m::(w++o))
        | none=>none
      | _,_=>none
    | _=>none
  | .fn f k::rs,.fn g cs::vs,h=>match Nat.beq f g,Nat.beq cs.length k with
    | true,true=>match outR al rs (cs++vs) h with
      | some (y,f',o)=>some (((),y),f',o)
      | none=>none
    | _,_=>none
  | _,_,_=>none
def outB:(ps:List PK)->Nat->Heap->Option (BDs ps×List (Nat×Nm)×List (Option Nat))
  | [],_,_=>some ((),[],[])
  | .val _::ps,j,h=>outB ps j h
  | .agg _::ps,j,h=>outB ps j h
  | .own _ _::ps,j,h=>outB ps j h
  | .ago _::ps,j,h=>outB ps j h
  | .fn _ _::ps,j,h=>outB ps j h
  | .nils::ps,j,h=>outB ps j h
  | .box E t::ps,j,h=>match h (PN+j) with
    | .live (.cells E' cs)=>match Nat.beq E E',oOut h true t (some (j+1)) cs with
      | true,some (x,[],fz,w)=>match outB ps (j+1+t.nb) h with
        | some (y,f,o)=>some ((x,y),fz++f,w++o)
        | none=>none
      | _,_=>none
    | _=>none
  | .row E t::ps,j,h=>match h (PN+j) with
    | .live (.row E' t' xs)=>match Nat.beq E E',castL t' t xs with
      | true,some ys=>match outB ps (j+1) h with
        | some (y,f,o)=>some ((ys,y),f,o)
        | none=>none
      | _,_=>none
    | _=>none
def memO (n:Nat):List (Option Nat)->Bool
  | []=>false
  | some m::r=>Nat.beq n m||memO n r
  | none::r=>memO n r
def ownOk (fz:List (Nat×Nm)):List (Option Nat)->Bool
  | []=>true
  | none::r=>ownOk fz r
  | some m::r=>(Nat.blt m PN||Nat.ble QN m)&&notIn m fz && !memO m r&&ownOk fz r
def allLt:List (Nat×Nm)->Bool
  | []=>true
  | (n,_)::r=>(Nat.blt n PN||Nat.ble QN n)&&allLt r
def xCells (b0:Nat):(o:OT)->o.X->List Nat->Nat->List SV
  | .dat t,x,_,_=>flat t x
  | .row _ t,_,_,n=>[.own n t.size]
  | .rowg _ _,_,_,_=>[.junk]
  | .fnc f,_,_,_=>[.fn f []]
  | .ali,_,_,_=>[.ptr b0 0]
  | .ref _ _,_,bx,_=>match bx with
    | q::_=>[.ptr q 0]
    | []=>[.junk]
  | .pair a b,x,bx,n=>xCells b0 a x.1 bx n++xCells b0 b x.2 (bx.drop a.nb) (n+a.nr)
def xBox (b0:Nat):(o:OT)->o.X->List Nat->Nat->List (Nat×Nm)
  | .dat _,_,_,_=>[]
  | .row _ _,_,_,_=>[]
  | .rowg _ _,_,_,_=>[]
  | .fnc _,_,_,_=>[]
  | .ali,_,_,_=>[]
  | .ref E o,x,bx,n=>match bx with
    | q::r=>(q,.live (.cells E (xCells b0 o x r n)))::xBox b0 o x r n
    | []=>[]
  | .pair a b,x,bx,n=>xBox b0 a x.1 bx n++xBox b0 b x.2 (bx.drop a.nb) (n+a.nr)
def xNew:(o:OT)->o.X->Nat->List (Nat×Nm)
  | .dat _,_,_=>[]
  | .row E t,x,n=>[(n,.live (.row E t x))]
  | .rowg _ _,_,_=>[]
  | .fnc _,_,_=>[]
  | .ali,_,_=>[]
  | .ref _ o,x,n=>xNew o x n
  | .pair a b,x,n=>xNew a x.1 n++xNew b x.2 (n+a.nr)
def resSV (b0:Nat):(rs:List RK)->RDs rs->Nat->List SV
  | [],_,_=>[]
  | .val t::rs,d,n=>val1 t d.1::resSV b0 rs d.2 n
  | .agg o::rs,d,n => .agg (xCells b0 o d.1 [] n)::resSV b0 rs d.2 (n+o.nr)
  | .own E t::rs,d,n => .own n t.size::resSV b0 rs d.2 (n+1)
  | .box E o::rs,d,n => .ptr n 0::resSV b0 rs d.2 (n+1+o.nr)
  | .fn f k::rs,d,n => .fn f ((resSV b0 rs d.2 n).take k)::(resSV b0 rs d.2 n).drop k
def resH (b0:Nat):(rs:List RK)->RDs rs->Nat->List (Nat×Nm)
  | [],_,_=>[]
  | .val t::rs,d,n=>resH b0 rs d.2 n
  | .agg o::rs,d,n=>xNew o d.1 n++resH b0 rs d.2 (n+o.nr)
  | .own E t::rs,d,n=>(n,.live (.row E t d.1))::resH b0 rs d.2 (n+1)
  | .box E o::rs,d,n=>(n,.live (.cells E (xCells b0 o d.1 [] (n+1))))::(xNew o d.1 (n+1)++resH b0 rs d.2 (n+1+o.nr))
  | .fn _ _::rs,d,n=>resH b0 rs d.2 n
def nOwn:List RK->Nat
  | []=>0
  | .own _ _::r=>nOwn r+1
  | .box _ o::r=>nOwn r+o.nr+1
  | .val _::r=>nOwn r
  | .agg o::r=>nOwn r+o.nr
  | .fn _ _::r=>nOwn r
def nOwnB:List PK->Nat
  | []=>0
  | .val _::r=>nOwnB r
  | .agg _::r=>nOwnB r
  | .own _ _::r=>nOwnB r
  | .ago _::r=>nOwnB r
  | .fn _ _::r=>nOwnB r
  | .nils::r=>nOwnB r
  | .box _ o::r=>nOwnB r+o.nr
  | .row _ _::r=>nOwnB r
def boxU (b0:Nat):(ps:List PK)->BDs ps->List Nat->Nat->List (Nat×Nm)
  | .val _::ps,d,bx,nb=>boxU b0 ps d bx nb
  | .agg _::ps,d,bx,nb=>boxU b0 ps d bx nb
  | .own _ _::ps,d,bx,nb=>boxU b0 ps d bx nb
  | .ago _::ps,d,bx,nb=>boxU b0 ps d bx nb
  | .fn _ _::ps,d,bx,nb=>boxU b0 ps d bx nb
  | .nils::ps,d,bx,nb=>boxU b0 ps d bx nb
  | .box E o::ps,d,n::bx,nb=>(n,.live (.cells E (xCells b0 o d.1 bx nb)))::(xBox b0 o d.1 bx nb++boxU b0 ps d.2 (bx.drop o.nb) (nb+o.nr))
  | .row E t::ps,d,n::bx,nb=>(n,.live (.row E t d.1))::boxU b0 ps d.2 bx nb
  | _,_,_,_=>[]
def newU:(ps:List PK)->BDs ps->Nat->List (Nat×Nm)
  | [],_,_=>[]
  | .val _::ps,d,nb=>newU ps d nb
  | .agg _::ps,d,nb=>newU ps d nb
  | .own _ _::ps,d,nb=>newU ps d nb
  | .ago _::ps,d,nb=>newU ps d nb
  | .fn _ _::ps,d,nb=>newU ps d nb
  | .nils::ps,d,nb=>newU ps d nb
  | .box E o::ps,d,nb=>xNew o d.1 nb++newU ps d.2 (nb+o.nr)
  | .row E t::ps,d,nb=>newU ps d.2 nb
def deadU:List (Option Nat)->List (Nat×Nm)
  | []=>[]
  | none::r=>deadU r
  | some n::r=>(n,.dead)::deadU r
def resV:List SV->SV
  | [v]=>v
  | l => .tup l
def disjN (fz:List (Nat×Nm)):List Nat->Bool
  | []=>true
  | n::r=>notIn n fz&&disjN fz r
def askUn:Nat->Nat->Dl->Q Dl
  | _,0,d => .ret d
  | n,k+1,d => .ask n fun
    | .un=>askUn (n+1) k d
    | _ => .fail
def keepF (ps:List PK) (rs:List RK):Bool := !(rsPlain rs&&psPlain ps)
def retU (ps:List PK) (rs:List RK) (y:RDs rs×BDs ps) (base:Nat) (fz:List (Nat×Nm)) (bx:List Nat) (cx:List (Option Nat)):List (Nat×Nm) :=
  (boxU (bx.headD 0) ps y.2 bx (base+nOwn rs)++(resH (bx.headD 0) rs y.1 base++(newU ps y.2 (base+nOwn rs)++deadU cx)))++(match keepF ps rs with|true=>fz|false=>[])
def namesOk (fz:List (Nat×Nm)) (bx:List Nat) (cx:List (Option Nat)):Bool:=nodupN (bx++somes cx)&&disjN fz (bx++somes cx)&&Nat.ble bx.length PN
def Ct.spec (c:Ct):Spec:=fun base svs=>(matchArgs none c.ps svs).bind fun p=>match namesOk p.2.1 p.2.2.1 p.2.2.2 with
  | true=>askUn base (nOwn c.rs+nOwnB c.ps) (.det (c.pre p.1) (resV (resSV (p.2.2.1.headD 0) c.rs (c.out p.1).1 base)) (retU c.ps c.rs (c.out p.1) base p.2.1 p.2.2.1 p.2.2.2))
  | false => .fail
structure Cn where
  ps:List PK
  rs:List RK
  pre:PDs ps->List Prop
  post:PDs ps->RDs rs×BDs ps->Prop
  inh:∀ d,conj (pre d)→∃ y,post d y
def xBoxF {X:Type} (b0:Nat):(o:OT)->(X->o.X)->List Nat->Nat->List (Nat×(X->Nm))
  | .dat _,_,_,_=>[]
  | .row _ _,_,_,_=>[]
  | .rowg _ _,_,_,_=>[]
  | .fnc _,_,_,_=>[]
  | .ali,_,_,_=>[]
  | .ref E o,x,bx,n=>match bx with
    | q::r=>(q,fun y => .live (.cells E (xCells b0 o (x y) r n)))::xBoxF b0 o x r n
    | []=>[]
  | .pair a b,x,bx,n=>xBoxF b0 a (fun y=>(x y).1) bx n++xBoxF b0 b (fun y=>(x y).2) (bx.drop a.nb) (n+a.nr)
def xNewF {X:Type}:(o:OT)->(X->o.X)->Nat->List (Nat×(X->Nm))
  | .dat _,_,_=>[]
  | .row E t,x,n=>[(n,fun y => .live (.row E t (x y)))]
  | .rowg _ _,_,_=>[]
  | .fnc _,_,_=>[]
  | .ali,_,_=>[]
  | .ref _ o,x,n=>xNewF o x n
  | .pair a b,x,n=>xNewF a (fun y=>(x y).1) n++xNewF b (fun y=>(x y).2) (n+a.nr)
def boxUF {X:Type} (b0:Nat):(ps:List PK)->(X->BDs ps)->List Nat->Nat->List (Nat×(X->Nm))
  | .val _::ps,d,bx,nb=>boxUF b0 ps d bx nb
  | .agg _::ps,d,bx,nb=>boxUF b0 ps d bx nb
  | .own _ _::ps,d,bx,nb=>boxUF b0 ps d bx nb
  | .ago _::ps,d,bx,nb=>boxUF b0 ps d bx nb
  | .fn _ _::ps,d,bx,nb=>boxUF b0 ps d bx nb
  | .nils::ps,d,bx,nb=>boxUF b0 ps d bx nb
  | .box E o::ps,d,n::bx,nb=>(n,fun x => .live (.cells E (xCells b0 o (d x).1 bx nb)))::(xBoxF b0 o (fun x=>(d x).1) bx nb++boxUF b0 ps (fun x=>(d x).2) (bx.drop o.nb) (nb+o.nr))
  | .row E t::ps,d,n::bx,nb=>(n,fun x => .live (.row E t (d x).1))::boxUF b0 ps (fun x=>(d x).2) bx nb
  | _,_,_,_=>[]
def newUF {X:Type}:(ps:List PK)->(X->BDs ps)->Nat->List (Nat×(X->Nm))
  | [],_,_=>[]
  | .val _::ps,d,nb=>newUF ps d nb
  | .agg _::ps,d,nb=>newUF ps d nb
  | .own _ _::ps,d,nb=>newUF ps d nb
  | .ago _::ps,d,nb=>newUF ps d nb
  | .fn _ _::ps,d,nb=>newUF ps d nb
  | .nils::ps,d,nb=>newUF ps d nb
  | .box E o::ps,d,nb=>xNewF o (fun x=>(d x).1) nb++newUF ps (fun x=>(d x).2) (nb+o.nr)
  | .row E t::ps,d,nb=>newUF ps (fun x=>(d x).2) nb
def resHF {X:Type} (b0:Nat):(rs:List RK)->(X->RDs rs)->Nat->List (Nat×(X->Nm))
  | [],_,_=>[]
  | .val t::rs,d,n=>resHF b0 rs (fun x=>(d x).2) n
  | .agg o::rs,d,n=>xNewF o (fun x=>(d x).1) n++resHF b0 rs (fun x=>(d x).2) (n+o.nr)
  | .own E t::rs,d,n=>(n,fun x => .live (.row E t (d x).1))::resHF b0 rs (fun x=>(d x).2) (n+1)
  | .box E o::rs,d,n=>(n,fun x => .live (.cells E (xCells b0 o (d x).1 [] (n+1))))::(xNewF o (fun x=>(d x).1) (n+1)++resHF b0 rs (fun x=>(d x).2) (n+1+o.nr))
  | .fn _ _::rs,d,n=>resHF b0 rs (fun x=>(d x).2) n
def fzF {X:Type}:List (Nat×Nm)->List (Nat×(X->Nm))
  | []=>[]
  | (n,b)::r=>(n,fun _=>b)::fzF r
def retUF (ps:List PK) (rs:List RK) (base:Nat) (fz:List (Nat×Nm)) (bx:List Nat) (cx:List (Option Nat)):List (Nat×(RDs rs×BDs ps->Nm)) :=
  (boxUF (bx.headD 0) ps (fun y:RDs rs×BDs ps=>y.2) bx (base+nOwn rs)++(resHF (bx.headD 0) rs (fun y:RDs rs×BDs ps=>y.1) base++(newUF ps (fun y:RDs rs×BDs ps=>y.2) (base+nOwn rs)++fzF (deadU cx))))++(match keepF ps rs with|true=>fzF fz|false=>[])
theorem xBoxF_eq {X:Type} {b0:Nat} (y:X):∀ (o:OT) (x:X->o.X) (bx:List Nat) (n:Nat),(xBoxF b0 o x bx n).map (fun p=>(p.1,p.2 y))=xBox b0 o (x y) bx n
  | .dat _,_,_,_=>rfl
  | .row _ _,_,_,_=>rfl
  | .rowg _ _,_,_,_=>rfl
  | .fnc _,_,_,_=>rfl
  | .ali,_,_,_=>rfl
  | .ref E o,x,[],n=>rfl
  | .ref E o,x,q::r,n=>by simp only [xBoxF,xBox,List.map_cons,xBoxF_eq y o]
  | .pair a b,x,bx,n=>by simp only [xBoxF,xBox,List.map_append,xBoxF_eq y a,xBoxF_eq y b]
theorem xNewF_eq {X:Type} (y:X):∀ (o:OT) (x:X->o.X) (n:Nat),(xNewF o x n).map (fun p=>(p.1,p.2 y))=xNew o (x y) n
  | .dat _,_,_=>rfl
  | .row _ _,_,_=>rfl
  | .rowg _ _,_,_=>rfl
  | .fnc _,_,_=>rfl
  | .ali,_,_=>rfl
  | .ref E o,x,n=>by simp only [xNewF,xNew,xNewF_eq y o]
  | .pair a b,x,n=>by simp only [xNewF,xNew,List.map_append,xNewF_eq y a,xNewF_eq y b]
theorem boxUF_eq {X:Type} {b0:Nat} (x:X):∀ (ps:List PK) (d:X->BDs ps) (bx:List Nat) (nb:Nat),(boxUF b0 ps d bx nb).map (fun p=>(p.1,p.2 x))=boxU b0 ps (d x) bx nb
  | [],_,_,_=>rfl
  | .val _::ps,d,bx,nb=>by simp only [boxUF,boxU];exact boxUF_eq x ps d bx nb
  | .agg _::ps,d,bx,nb=>by simp only [boxUF,boxU];exact boxUF_eq x ps d bx nb
  | .own _ _::ps,d,bx,nb=>by simp only [boxUF,boxU];exact boxUF_eq x ps d bx nb
  | .ago _::ps,d,bx,nb=>by simp only [boxUF,boxU];exact boxUF_eq x ps d bx nb
  | .fn _ _::ps,d,bx,nb=>by simp only [boxUF,boxU];exact boxUF_eq x ps d bx nb
  | .nils::ps,d,bx,nb=>by simp only [boxUF,boxU];exact boxUF_eq x ps d bx nb
  | .box E t::ps,d,[],_=>rfl
  | .row E t::ps,d,[],_=>rfl
  | .box E t::ps,d,n::bx,nb=>by simp only [boxUF,boxU,List.map_cons,List.map_append,xBoxF_eq x t,boxUF_eq x ps]
  | .row E t::ps,d,n::bx,nb=>by simp only [boxUF,boxU,List.map_cons,boxUF_eq x ps]
theorem newUF_eq {X:Type} (x:X):∀ (ps:List PK) (d:X->BDs ps) (nb:Nat),(newUF ps d nb).map (fun p=>(p.1,p.2 x))=newU ps (d x) nb
  | [],_,_=>rfl
  | .val _::ps,d,nb=>by simp only [newUF,newU];exact newUF_eq x ps d nb
  | .agg _::ps,d,nb=>by simp only [newUF,newU];exact newUF_eq x ps d nb
  | .own _ _::ps,d,nb=>by simp only [newUF,newU];exact newUF_eq x ps d nb
  | .ago _::ps,d,nb=>by simp only [newUF,newU];exact newUF_eq x ps d nb
  | .fn _ _::ps,d,nb=>by simp only [newUF,newU];exact newUF_eq x ps d nb
  | .nils::ps,d,nb=>by simp only [newUF,newU];exact newUF_eq x ps d nb
  | .box E t::ps,d,nb=>by simp only [newUF,newU,List.map_append,xNewF_eq x t,newUF_eq x ps]
  | .row E t::ps,d,nb=>by simp only [newUF,newU];exact newUF_eq x ps _ nb
theorem resHF_eq {X:Type} {b0:Nat} (x:X):∀ (rs:List RK) (d:X->RDs rs) (n:Nat),(resHF b0 rs d n).map (fun p=>(p.1,p.2 x))=resH b0 rs (d x) n
  | [],_,_=>rfl
  | .val t::rs,d,n=>by simp only [resHF,resH];exact resHF_eq x rs _ n
  | .agg t::rs,d,n=>by simp only [resHF,resH,List.map_append,xNewF_eq x t,resHF_eq x rs]
  | .own E t::rs,d,n=>by simp only [resHF,resH,List.map_cons,resHF_eq x rs]
  | .box E t::rs,d,n=>by simp only [resHF,resH,List.map_cons,List.map_append,xNewF_eq x t,resHF_eq x rs]
  | .fn _ _::rs,d,n=>by simp only [resHF,resH];exact resHF_eq x rs _ n
theorem fzF_eq {X:Type} (x:X):∀ (l:List (Nat×Nm)),(fzF (X:=X) l).map (fun p=>(p.1,p.2 x))=l
  | []=>rfl
  | (n,b)::r=>by simp only [fzF,List.map_cons,fzF_eq x r]
theorem retUF_eq {ps:List PK} {rs:List RK} {base:Nat} {fz:List (Nat×Nm)} {bx:List Nat} {cx:List (Option Nat)} (y:RDs rs×BDs ps):(retUF ps rs base fz bx cx).map (fun p=>(p.1,p.2 y))=retU ps rs y base fz bx cx:=by
  unfold retUF retU
  simp only [List.map_append,boxUF_eq,resHF_eq,newUF_eq,fzF_eq]
  cases keepF ps rs with
  | true=>simp only [fzF_eq]
  | false=>rfl
def allX:(o:OT)->(o.X->Prop)->Prop
  | .dat t,k=>allD t k
  | .row _ t,k=>∀ x:List t.D,k x
  | .rowg _ _,k=>k ()
  | .fnc _,k=>k ()
  | .ali,k=>k ()
  | .ref _ o,k=>allX o k
  | .pair a b,k=>allX a fun x=>allX b fun y=>k (x,y)
theorem allX_all:∀ {o:OT} {k:o.X->Prop},allX o k→∀ d,k d
  | .dat t,k,h,d=>allD_iff.1 h d
  | .row _ t,k,h,d=>h d
  | .rowg _ _,k,h,d=>h
  | .fnc _,k,h,d=>h
  | .ali,k,h,d=>h
  | .ref _ o,k,h,d=>allX_all (o:=o) h d
  | .pair a b,k,h,d=>allX_all (o:=b) (allX_all (o:=a) h d.1) d.2
def allR:(rs:List RK)->(RDs rs->Prop)->Prop
  | [],k=>k ()
  | .val t::r,k=>allD t fun x=>allR r fun y=>k (x,y)
  | .agg o::r,k=>allX o fun x=>allR r fun y=>k (x,y)
  | .own _ t::r,k=>∀ x:List t.D,allR r fun y=>k (x,y)
  | .box _ o::r,k=>allX o fun x=>allR r fun y=>k (x,y)
  | .fn _ _::r,k=>allR r fun y=>k ((),y)
theorem allR_all:∀ {rs:List RK} {k:RDs rs->Prop},allR rs k→∀ d,k d
  | [],k,h,d=>h
  | .val t::r,k,h,d=>allR_all (rs:=r) (allD_iff.1 h d.1) d.2
  | .agg o::r,k,h,d=>allR_all (rs:=r) (allX_all (o:=o) h d.1) d.2
  | .own _ t::r,k,h,d=>allR_all (rs:=r) (h d.1) d.2
  | .box _ o::r,k,h,d=>allR_all (rs:=r) (allX_all (o:=o) h d.1) d.2
  | .fn _ _::r,k,h,d=>allR_all (rs:=r) h d.2
def allB:(ps:List PK)->(BDs ps->Prop)->Prop
  | [],k=>k ()
  | .val _::r,k=>allB r k
  | .agg _::r,k=>allB r k
  | .own _ _::r,k=>allB r k
  | .ago _::r,k=>allB r k
  | .fn _ _::r,k=>allB r k
  | .nils::r,k=>allB r k
  | .box _ o::r,k=>allX o fun x=>allB r fun y=>k (x,y)
  | .row _ t::r,k=>∀ x:List t.D,allB r fun y=>k (x,y)
theorem allB_all:∀ {ps:List PK} {k:BDs ps->Prop},allB ps k→∀ d,k d
  | [],k,h,d=>h
  | .val _::r,k,h,d=>allB_all (ps:=r) h d
  | .agg _::r,k,h,d=>allB_all (ps:=r) h d
  | .own _ _::r,k,h,d=>allB_all (ps:=r) h d
  | .ago _::r,k,h,d=>allB_all (ps:=r) h d
  | .fn _ _::r,k,h,d=>allB_all (ps:=r) h d
  | .nils::r,k,h,d=>allB_all (ps:=r) h d
  | .box _ o::r,k,h,d=>allB_all (ps:=r) (allX_all (o:=o) h d.1) d.2
  | .row _ t::r,k,h,d=>allB_all (ps:=r) (h d.1) d.2
def outQn (rs:List RK) (ps:List PK):Qn (RDs rs×BDs ps) :=
  ⟨fun k=>allR rs fun y=>allB ps fun z=>k (y,z),fun k h x=>allB_all (allR_all h x.1) x.2,fun k=>∃ x,k x,fun _ h=>h⟩
def Cn.spec (c:Cn):Spec:=fun base svs=>(matchArgs none c.ps svs).bind fun p=>match namesOk p.2.1 p.2.2.1 p.2.2.2 with
  | true=>askUn base (nOwn c.rs+nOwnB c.ps) (.nd (RDs c.rs×BDs c.ps) (outQn c.rs c.ps) (c.pre p.1) (c.post p.1) (c.inh p.1) (fun y=>resV (resSV (p.2.2.1.headD 0) c.rs y.1 base)) (retUF c.ps c.rs base p.2.1 p.2.2.1 p.2.2.2))
  | false => .fail
section
variable {w0:World} {N0:Old} {A A' A1 A2:Nat->Prop} {env env1 env':Env} {h h1:Heap} {w w1:World}
theorem lift_l {a b c:Bool} {p:Prop} (h:(a&&b)=true∨p):a=true∨p:=by
  rcases h with h|h
  · exact .inl (by simp only [Bool.and_eq_true] at h;exact h.1)
  · exact .inr h
theorem lift_r {a b:Bool} {p:Prop} (h:(a&&b)=true∨p):b=true∨p:=by
  rcases h with h|h
  · exact .inl (by simp only [Bool.and_eq_true] at h;exact h.2)
  · exact .inr h
theorem outR_agg {al:Bool} {t:OT} {rs:List RK} {svs:List SV} {x} (e:outR al (.agg t::rs) svs h1=some x):∃ cs r,svs = .agg cs::r:=by
  cases svs with
  | nil=>cases e
  | cons s r=>cases s <;> first|exact ⟨_,_,rfl⟩|cases e
theorem outR_own {al:Bool} {E:TypeId} {t:CT} {rs:List RK} {svs:List SV} {x} (e:outR al (.own E t::rs) svs h1=some x):∃ v r,svs=v::r:=by
  cases svs with
  | nil=>cases e
  | cons s r=>exact ⟨_,_,rfl⟩
theorem outR_box {al:Bool} {E:TypeId} {t:OT} {rs:List RK} {svs:List SV} {x} (e:outR al (.box E t::rs) svs h1=some x):∃ m r,svs = .ptr m 0::r:=by
  cases svs with
  | nil=>cases e
  | cons s r=>cases s <;> first|cases e;done|(rename_i m o;cases o <;> first|exact ⟨_,_,rfl⟩|cases e)
theorem outR_fn {al:Bool} {f:FuncId} {k:Nat} {rs:List RK} {svs:List SV} {x} (e:outR al (.fn f k::rs) svs h1=some x):∃ g cs r,svs = .fn g cs::r:=by
  cases svs with
  | nil=>cases e
  | cons s r=>cases s <;> first|exact ⟨_,_,_,rfl⟩|cases e
theorem oOut_ref {al:Bool} {E:TypeId} {t:OT} {j:Option Nat} {svs:List SV} {x} (e:oOut h1 al (.ref E t) j svs=some x):∃ j0 m r,j=some j0/\svs = .ptr m 0::r:=by
  cases j with
  | none=>cases svs <;> cases e
  | some j0 =>
    cases svs with
    | nil=>cases e
    | cons s r=>cases s <;> first|cases e;done|(rename_i m o;cases o <;> first|exact ⟨_,_,_,rfl,rfl⟩|cases e)
theorem oOut_fnc {al:Bool} {f:FuncId} {j:Option Nat} {svs:List SV} {x} (e:oOut h1 al (.fnc f) j svs=some x):∃ r,svs = .fn f []::r/\x=((),r,[],[]):=by
  cases svs with
  | nil=>cases e
  | cons s r =>
    cases s <;> first|cases e;done|skip
    rename_i g cs
    cases cs <;> first|cases e;done|skip
    simp only [oOut] at e
    split at e
    · rename_i hb
      rw [Nat.eq_of_beq_eq_true hb]
      simp only [Option.some.injEq] at e
      exact ⟨_,rfl,e.symm⟩
    · cases e
theorem oOut_rowg {al:Bool} {E:TypeId} {t:CT} {j:Option Nat} {svs:List SV} {x} (e:oOut h1 al (.rowg E t) j svs=some x):∃ v r,svs=v::r:=by
  cases svs with
  | nil=>cases e
  | cons s r=>exact ⟨_,_,rfl⟩
theorem takeRowH_sound {Nc:Old} (m1:Mod w Nc A1 env1 h1 w1) (hA:∀ b,A1 b->A2 b) {E:TypeId} {t:CT} (L:t.plain=true∨∀ b,A2 b->A' b) {cs rest:List SV} {vs:List Value} {ys:List t.D} {on:Option Nat}
    (e:takeRowH E t h1 cs=some (ys,rest,on)) (hd:DenL A1 env1 w1 cs vs) :
    ∃ v vr,vs=v::vr/\rest=cs.drop 1/\DenL A1 env1 w1 rest vr∧∀ (e':Env) (i:Nat),e' i=evOf env1 on->Den A' e' w1 (.own i t.size) v/\LinkOK A' env1 h1 e' w1 [on] [(i,.live (.row E t ys))] i:=by
  cases cs with
  | nil=>cases e
  | cons s cs =>
  cases s with
  | own n sz =>
    simp only [takeRowH] at e
    split at e
    · rename_i E' t' xs hl
      split at e
      · rename_i zs hE hsz hc
        have hE:=Nat.eq_of_beq_eq_true hE
        subst hE
        have hsz:=Nat.eq_of_beq_eq_true hsz
        subst hsz
        obtain ⟨et,ez⟩:=castL_eq hc
        subst et
        simp only at ez
        subst ez
        simp only [Option.some.injEq,Prod.mk.injEq] at e
        obtain ⟨rfl,rfl,rfl⟩:=e
        simp only [DenL,Den] at hd
        obtain ⟨x,vr,rfl,hv,hr⟩:=hd
        have hm:=m1.nm n
        rw [hl] at hm
        refine ⟨x,vr,rfl,rfl,hr,fun e' i he=>⟨?_,⟨rfl,_,rfl,rfl,.inl ⟨n,_,rfl,hl,rfl,fun k len he => ?_,fun he => ?_⟩⟩,trivial⟩⟩
        · simp only [evOf] at he
          simp only [Den]
          rw [he];exact hv
        · rcases hm with ⟨k',len',he',hb,_⟩|⟨he',_⟩
          · rw [he] at he';cases he'
            obtain ⟨us,cap,g1,g2,g3,g4,g5,g6⟩:=hb
            exact ⟨us,cap,g1,g2,g3,g4,g5,fun i hi=>Rd_lift L (Rd_mono hA (fun _ _ _=>rfl) _ _ _ _ _ (fun _ _=>rfl) (g6 i hi))⟩
          · rw [he] at he';cases he'
        · rcases hm with ⟨k',len',he',hb,_⟩|⟨he',E2,t2,hb⟩
          · rw [he] at he';cases he'
          · rcases hb with hb|hb <;> cases hb
            exact ⟨_,_,rfl⟩
      · cases e
    · cases e
  | nilsl =>
    simp only [takeRowH,Option.some.injEq,Prod.mk.injEq] at e
    obtain ⟨rfl,rfl,rfl⟩:=e
    simp only [DenL,Den] at hd
    obtain ⟨x,vr,rfl,rfl,hr⟩:=hd
    refine ⟨_,vr,rfl,rfl,hr,fun e' i he=>⟨?_,⟨rfl,_,rfl,rfl,.inr ⟨rfl,_,_,rfl⟩⟩,trivial⟩⟩
    simp only [Den]
    exact .inl ⟨he,_,rfl⟩
  | _=>cases e
def BxOut (A':Nat->Prop) (env1:Env) (h1:Heap) (env':Env) (w1:World) (bx:List Nat) (j:Nat) (n:Nat) (x:Nm):Prop :=
  ∃ i b b0,bx[i]? = some n/\x = .live b/\b.mut=true/\h1 (PN+(j+i)) = .live b0/\b0.mut=true/\(∀ k len,env1 (PN+(j+i)) = .blk k len->BlkDen A' env' w1 k len b)/\(env1 (PN+(j+i)) = .nil→∃ E t,b = .row E t [])
theorem BxOut.shift {pre bx:List Nat} {j n:Nat} {x:Nm} (h:BxOut A' env1 h1 env' w1 bx (j+pre.length) n x):BxOut A' env1 h1 env' w1 (pre++bx) j n x:=by
  obtain ⟨i,b,b0,g1,g2,g3,g4,g5,g6,g7⟩:=h
  rw [show j+pre.length+i=j+(pre.length+i) from by omega] at g4 g6 g7
  exact ⟨pre.length+i,b,b0,by rw [List.getElem?_append_right (by omega),Nat.add_sub_cancel_left];exact g1,g2,g3,g4,g5,g6,g7⟩
theorem BxOut.grow {bx post:List Nat} {j n:Nat} {x:Nm} (h:BxOut A' env1 h1 env' w1 bx j n x):BxOut A' env1 h1 env' w1 (bx++post) j n x:=by
  obtain ⟨i,b,b0,g1,g2⟩:=h
  exact ⟨i,b,b0,by rw [List.getElem?_append_left (List.getElem?_eq_some_iff.1 g1).1];exact g1,g2⟩
theorem oOut_none {al:Bool}:∀ (o:OT) (cs:List SV) {x},oOut h1 al o none cs=some x->o.nb=0
  | .dat t,_,_,_=>rfl
  | .row _ t,_,_,_=>rfl
  | .rowg _ t,_,_,_=>rfl
  | .fnc _,_,_,_=>rfl
  | .ali,_,_,_=>rfl
  | .ref _ o,cs,x,e=>by obtain ⟨j0,m,r,hj,-⟩:=oOut_ref e;cases hj
  | .pair a b,cs,x,e=>by
    simp only [oOut] at e
    split at e
    · rename_i h1'
      split at e
      · rename_i h2'
        have k1:=oOut_none a _ h1'
        have k2:=oOut_none b _ h2'
        simp only [OT.nb];omega
      · cases e
    · cases e
theorem oOut_ali {al:Bool} {j:Option Nat} {svs:List SV} {x} (e:oOut h1 al .ali j svs=some x):∃ r,svs = .ptr PN 0::r/\al=true/\x=((),r,[],[]):=by
  cases svs with
  | nil=>cases e
  | cons s r =>
    cases s with
    | ptr m off=>cases off with
      | zero =>
        have e:(match (generalizing:=false) al,Nat.beq m PN with|true,true=>(some ((),r,[],[]):Option (Unit×List SV×List (Nat×Nm)×List (Option Nat)))|_,_=>none)=some x:=by
          cases j <;> exact e
        cases hb:Nat.beq m PN with
        | false=>rw [hb] at e;cases al <;> cases e
        | true =>
          rw [hb] at e
          cases al with
          | false=>cases e
          | true =>
            simp only [Option.some.injEq] at e
            exact ⟨r,by rw [Nat.eq_of_beq_eq_true hb],rfl,e.symm⟩
      | succ k=>cases e
    | _=>cases e
theorem oOut_sound {al:Bool} {Nc:Old} (m1:Mod w Nc A1 env1 h1 w1) (hA:∀ b,A1 b->A2 b) (b0:Nat):∀ (o:OT) (j:Option Nat) (cs:List SV) (vs:List Value) (x:o.X) (rest:List SV) (fz:List (Nat×Nm)) (ow:List (Option Nat)) (bx more:List Nat) (n:Nat),
    oOut h1 al o j cs=some (x,rest,fz,ow)->DenL A1 env1 w1 cs vs->(∀ k,FrzBlk env1 fz k->A2 k)->(o.plain=true∨∀ b,A2 b->A' b)->(j=none∨bx.length=o.nb) →
    FrzOk h1 fz/\ow.length=o.nr∧∃ us rs,vs=us++rs/\DenL A1 env1 w1 rest rs ∧
      ((al=true->env' b0=env1 PN)->(∀ k q,ow[k]? = some q->env' (n+k)=evOf env1 q)->(∀ j0 k q,j=some j0->bx[k]? = some q->env' q=env1 (PN+(j0+k))) →
        DenL A' env' w1 (xCells b0 o x (bx++more) n) us/\LinkOK A' env1 h1 env' w1 ow (xNew o x n) n/\(∀ q y,(q,y)∈xBox b0 o x (bx++more) n→∃ j0,j=some j0/\BxOut A' env1 h1 env' w1 bx j0 q y) ∧
        (j≠none→∀ q,q∈bx->q∈(xBox b0 o x (bx++more) n).map (·.1)))
  | .dat t,j,cs,vs,x,rest,fz,ow,bx,more,n,e,hd,hF,L,hbl=>by
    simp only [oOut] at e
    split at e
    · rename_i x1 r1 f1 q1 hp
      simp only [Option.some.injEq,Prod.mk.injEq] at e
      obtain ⟨rfl,rfl,rfl,rfl⟩:=e
      obtain ⟨p1,p2,p3,p4,p5⟩:=projC_sound m1 t cs vs x1 r1 f1 _ hp hd hA hF
      refine ⟨p1,rfl,vs.take t.size,vs.drop t.size,(List.take_append_drop _ _).symm,p5,fun _ _ _=>⟨?_,trivial,fun q y hh=>by simp [xBox] at hh,fun hj q hq => ?_⟩⟩
      · simp only [xCells]
        refine den_flatL (by rw [List.length_take];omega) (Rd_lift L ?_)
        refine Rd_mono (fun _ h=>h) (fun _ _ _=>rfl) t _ _ _ _ (fun k hk => ?_) p4
        simp only [Nat.zero_add,List.getElem?_take]
        rw [if_pos hk]
      · rcases hbl with hbl|hbl
        · exact absurd hbl hj
        · rw [List.length_eq_zero_iff.1 hbl] at hq;cases hq
    · cases e
  | .row E t,j,cs,vs,x,rest,fz,ow,bx,more,n,e,hd,hF,L,hbl=>by
    simp only [oOut] at e
    split at e
    · rename_i x1 r1 o1 hp
      simp only [Option.some.injEq,Prod.mk.injEq] at e
      obtain ⟨rfl,rfl,rfl,rfl⟩:=e
      obtain ⟨v,vr,rfl,-,p2,p3⟩:=takeRowH_sound (A':=A') m1 hA L hp hd
      refine ⟨fun n b hh=>by simp at hh,rfl,[v],vr,rfl,p2,fun _ ho _ => ?_⟩
      obtain ⟨k1,k2⟩:=p3 env' n (ho 0 _ rfl)
      refine ⟨?_,k2,fun q y hh=>by simp [xBox] at hh,fun hj q hq => ?_⟩
      · simp only [xCells,DenL];exact ⟨v,[],rfl,k1,rfl⟩
      · rcases hbl with hbl|hbl
        · exact absurd hbl hj
        · rw [List.length_eq_zero_iff.1 hbl] at hq;cases hq
    · cases e
  | .rowg E t,j,cs0,vs,x,rest,fz,ow,bx,more,n,e,hd,hF,L,hbl=>by
    obtain ⟨v,cs,rfl⟩:=oOut_rowg e
    simp only [oOut,Option.some.injEq,Prod.mk.injEq] at e
    obtain ⟨-,rfl,rfl,rfl⟩:=e
    simp only [DenL] at hd
    obtain ⟨u,vr,rfl,hu,hvr⟩:=hd
    refine ⟨fun n b hh=>by simp at hh,rfl,[u],vr,rfl,hvr,fun _ ho _=>⟨?_,trivial,fun q y hh=>by simp [xBox] at hh,fun hj q hq => ?_⟩⟩
    · simp only [xCells,DenL,Den];exact ⟨u,[],rfl,trivial,rfl⟩
    · rcases hbl with hbl|hbl
      · exact absurd hbl hj
      · rw [List.length_eq_zero_iff.1 hbl] at hq;cases hq
  | .fnc f,j,cs0,vs,x,rest,fz,ow,bx,more,n,e,hd,hF,L,hbl=>by
    obtain ⟨cs,rfl,e2⟩:=oOut_fnc e
    simp only [Prod.mk.injEq] at e2
    obtain ⟨-,rfl,rfl,rfl⟩:=e2
    simp only [DenL] at hd
    obtain ⟨u,vr,rfl,hu,hvr⟩:=hd
    refine ⟨fun n b hh=>by simp at hh,rfl,[u],vr,rfl,hvr,fun _ ho _=>⟨?_,trivial,fun q y hh=>by simp [xBox] at hh,fun hj q hq => ?_⟩⟩
    · simp only [xCells,DenL]
      simp only [Den,DenL] at hu
      refine ⟨u,[],rfl,?_,rfl⟩
      simp only [Den,DenL]
      exact hu
    · rcases hbl with hbl|hbl
      · exact absurd hbl hj
      · rw [List.length_eq_zero_iff.1 hbl] at hq;cases hq
  | .ali,j,cs0,vs,x,rest,fz,ow,bx,more,n,e,hd,hF,L,hbl=>by
    obtain ⟨cs,rfl,hj0,e2⟩:=oOut_ali e
    simp only [Prod.mk.injEq] at e2
    obtain ⟨-,rfl,rfl,rfl⟩:=e2
    simp only [DenL,Den] at hd
    obtain ⟨u,vr,rfl,⟨k,len,hek,rfl⟩,hvr⟩:=hd
    refine ⟨fun n b hh=>by simp at hh,rfl,[_],vr,rfl,hvr,fun hb0 ho _=>⟨?_,trivial,fun q y hh=>by simp [xBox] at hh,fun hj q hq => ?_⟩⟩
    · simp only [xCells,DenL,Den]
      exact ⟨_,[],rfl,⟨k,len,by rw [hb0 hj0];exact hek,rfl⟩,rfl⟩
    · rcases hbl with hbl|hbl
      · exact absurd hbl hj
      · rw [List.length_eq_zero_iff.1 hbl] at hq;cases hq
  | .ref E o,j,cs0,vs,x,rest,fz,ow,bx,more,n,e,hd,hF,L,hbl=>by
    obtain ⟨j0,m,cs,rfl,rfl⟩:=oOut_ref e
    simp only [oOut] at e
    split at e
    · rename_i E' cs' hm hl
      have hm:=Nat.eq_of_beq_eq_true hm
      subst hm
      split at e
      · rename_i x1 f1 w1' hE hp
        have hE:=Nat.eq_of_beq_eq_true hE
        subst hE
        simp only [Option.some.injEq,Prod.mk.injEq] at e
        obtain ⟨rfl,rfl,rfl,rfl⟩:=e
        simp only [DenL,Den] at hd
        obtain ⟨u,vr,rfl,⟨kb,lb,hkb,rfl⟩,hvr⟩:=hd
        obtain ⟨⟨us,hus,hdu⟩,_⟩:=m1.live_blk hl hkb
        cases bx with
        | nil=>rcases hbl with hbl|hbl <;> cases hbl
        | cons q0 bx =>
        have hbl':bx.length=o.nb:=by
          rcases hbl with hbl|hbl
          · cases hbl
          · simpa [OT.nb] using hbl
        obtain ⟨s1,s2,us',rs',s5,s6,s7⟩:=oOut_sound m1 hA b0 o (some (j0+1)) cs' us.toList x1 [] f1 w1' bx more n hp hdu hF L (.inr hbl')
        simp only [DenL] at s6
        subst s6
        rw [List.append_nil] at s5
        subst s5
        refine ⟨s1,s2,[_],vr,rfl,hvr,fun h0b ho hb => ?_⟩
        have h0:=hb j0 0 q0 rfl rfl
        rw [Nat.add_zero] at h0
        obtain ⟨k1,k2,k3,k4⟩:=s7 h0b ho (fun j1 k q hj hq=>by
          cases hj
          have:=hb j0 (k+1) q rfl (by simpa using hq)
          rwa [show j0+(k+1)=j0+1+k from by omega] at this)
        refine ⟨?_,k2,fun q y hh => ?_,fun _ q hq => ?_⟩
        · simp only [xCells,List.cons_append,DenL,Den]
          exact ⟨_,[],rfl,⟨kb,lb,by rw [h0];exact hkb,rfl⟩,rfl⟩
        · simp only [xBox,List.cons_append] at hh
          rcases List.mem_cons.1 hh with hh|hh
          · cases hh
            refine ⟨j0,rfl,0,_,_,rfl,rfl,rfl,hl,rfl,fun k len he => ?_,fun he => ?_⟩
            · rw [Nat.add_zero,hkb] at he;cases he
              exact ⟨us,hus,k1⟩
            · rw [Nat.add_zero,hkb] at he;cases he
          · obtain ⟨j1,hj1,hbx⟩:=k3 q y hh
            cases hj1
            exact ⟨j0,rfl,BxOut.shift (pre:=[q0]) hbx⟩
        · simp only [xBox,List.cons_append,List.map_cons]
          rcases List.mem_cons.1 hq with rfl|hq
          · exact List.mem_cons_self ..
          · exact List.mem_cons_of_mem _ (k4 (by simp) q hq)
      · cases e
    · cases e
  | .pair a b,j,cs,vs,x,rest,fz,ow,bx,more,n,e,hd,hF,L,hbl=>by
    simp only [oOut] at e
    split at e
    · rename_i x1 r1 f1 o1 h1'
      split at e
      · rename_i x2 r2 f2 o2 h2'
        simp only [Option.some.injEq,Prod.mk.injEq] at e
        obtain ⟨rfl,rfl,rfl,rfl⟩:=e
        have hF1:∀ k,FrzBlk env1 f1 k->A2 k:=fun k ⟨n,x,l,hx,he⟩=>hF k ⟨n,x,l,List.mem_append_left _ hx,he⟩
        have hF2:∀ k,FrzBlk env1 f2 k->A2 k:=fun k ⟨n,x,l,hx,he⟩=>hF k ⟨n,x,l,List.mem_append_right _ hx,he⟩
        have La:a.plain=true∨∀ b,A2 b->A' b:=lift_l (c:=true) L
        have Lb:b.plain=true∨∀ b,A2 b->A' b:=lift_r L
        have hla:j=none∨(bx.take a.nb).length=a.nb:=by
          rcases hbl with hbl|hbl
          · exact .inl hbl
          · simp only [OT.nb] at hbl
            exact .inr (by rw [List.length_take];omega)
        have hlb:j.map (· + a.nb)=none∨(bx.drop a.nb).length=b.nb:=by
          rcases hbl with hbl|hbl
          · exact .inl (by rw [hbl];rfl)
          · simp only [OT.nb] at hbl
            exact .inr (by rw [List.length_drop];omega)
        obtain ⟨s1,s2,us,rs,rfl,s6,s7⟩:=oOut_sound m1 hA b0 a j cs vs x1 r1 f1 o1 (bx.take a.nb) (bx.drop a.nb++more) n h1' hd hF1 La hla
        obtain ⟨t1,t2,us',rs',rfl,t6,t7⟩:=oOut_sound m1 hA b0 b (j.map (· + a.nb)) r1 rs x2 r2 f2 o2 (bx.drop a.nb) more (n+a.nr) h2' s6 hF2 Lb hlb
        refine ⟨fun n b hh => ?_,by simp only [List.length_append,s2,t2,OT.nr],us++us',rs',by rw [List.append_assoc],t6,fun h0b ho hb => ?_⟩
        · rcases List.mem_append.1 hh with hh|hh
          · exact s1 n b hh
          · exact t1 n b hh
        have eb:bx.take a.nb++(bx.drop a.nb++more)=bx++more:=by rw [← List.append_assoc,List.take_append_drop]
        obtain ⟨k1,k2,k3,k4⟩:=s7 h0b (fun k q hq=>ho k q (by rw [List.getElem?_append_left (List.getElem?_eq_some_iff.1 hq).1];exact hq))
          (fun j0 k q hj hq=>by
            refine hb j0 k q hj ?_
            rw [List.getElem?_take] at hq
            split at hq
            · exact hq
            · cases hq)
        obtain ⟨l1,l2,l3,l4⟩:=t7 h0b (fun k q hq=>by
            have:=ho (a.nr+k) q (by rw [List.getElem?_append_right (by omega),s2,Nat.add_sub_cancel_left];exact hq)
            rwa [show n+(a.nr+k)=n+a.nr+k from by omega] at this)
          (fun j1 k q hj hq=>by
            cases j with
            | none=>cases hj
            | some j0 =>
              simp only [Option.map_some,Option.some.injEq] at hj
              subst hj
              rw [List.getElem?_drop] at hq
              have:=hb j0 (a.nb+k) q rfl hq
              rwa [show j0+(a.nb+k)=j0+a.nb+k from by omega] at this)
        rw [eb] at k1 k3 k4
        have ed:(bx++more).drop a.nb=bx.drop a.nb++more:=by
          rcases hbl with hbl|hbl
          · subst hbl
            rw [oOut_none a _ h1',List.drop_zero,List.drop_zero]
          · simp only [OT.nb] at hbl
            rw [List.drop_append_of_le_length (by omega)]
        have tl:∀ j0,j=some j0->(bx.take a.nb).length=a.nb:=fun j0 hj=>by
          rcases hla with h|h
          · rw [hj] at h;cases h
          · exact h
        rw [← ed] at l1 l3 l4
        simp only [xCells,xBox,xNew]
        refine ⟨DenL_append k1 l1,k2.append (by rw [s2];exact l2),fun q y hh => ?_,fun hj q hq => ?_⟩
        · rcases List.mem_append.1 hh with hh|hh
          · obtain ⟨j0,hj,hx⟩:=k3 q y hh
            refine ⟨j0,hj,?_⟩
            have:=hx.grow (post:=bx.drop a.nb)
            rwa [List.take_append_drop] at this
          · obtain ⟨j1,hj1,hx⟩:=l3 q y hh
            cases j with
            | none=>cases hj1
            | some j0 =>
              simp only [Option.map_some,Option.some.injEq] at hj1
              subst hj1
              refine ⟨j0,rfl,?_⟩
              have:=BxOut.shift (pre:=bx.take a.nb) (bx:=bx.drop a.nb) (j:=j0) (n:=q) (x:=y) (by rw [tl j0 rfl];exact hx)
              rwa [List.take_append_drop] at this
        · rw [List.map_append]
          rw [← List.take_append_drop a.nb bx] at hq
          rcases List.mem_append.1 hq with hq|hq
          · exact List.mem_append_left _ (k4 hj q hq)
          · exact List.mem_append_right _ (l4 (by cases j with|none=>exact absurd rfl hj|some j0=>simp) q hq)
      · cases e
    · cases e
theorem xBox_keys {b0:Nat}:∀ {o:OT} {x:o.X} {bx more:List Nat} {n:Nat},bx.length=o.nb→∀ q,q∈bx->q∈(xBox b0 o x (bx++more) n).map (·.1)
  | .dat _,x,bx,more,n,hl,q,hq=>by rw [List.length_eq_zero_iff.1 hl] at hq;cases hq
  | .row _ _,x,bx,more,n,hl,q,hq=>by rw [List.length_eq_zero_iff.1 hl] at hq;cases hq
  | .rowg _ _,x,bx,more,n,hl,q,hq=>by rw [List.length_eq_zero_iff.1 hl] at hq;cases hq
  | .fnc _,x,bx,more,n,hl,q,hq=>by rw [List.length_eq_zero_iff.1 hl] at hq;cases hq
  | .ali,x,bx,more,n,hl,q,hq=>by rw [List.length_eq_zero_iff.1 hl] at hq;cases hq
  | .ref E o,x,[],more,n,hl,q,hq=>by cases hq
  | .ref E o,x,q0::bx,more,n,hl,q,hq=>by
    simp only [List.cons_append,xBox,List.map_cons]
    rcases List.mem_cons.1 hq with rfl|hq
    · exact List.mem_cons_self ..
    · exact List.mem_cons_of_mem _ (xBox_keys (o:=o) (by simpa [OT.nb] using hl) q hq)
  | .pair a b,x,bx,more,n,hl,q,hq=>by
    simp only [OT.nb] at hl
    simp only [xBox,List.map_append]
    rw [← List.take_append_drop a.nb bx] at hq
    have e1:bx++more=bx.take a.nb++(bx.drop a.nb++more):=by rw [← List.append_assoc,List.take_append_drop]
    rcases List.mem_append.1 hq with hq|hq
    · refine List.mem_append_left _ ?_
      rw [e1]
      exact xBox_keys (o:=a) (by rw [List.length_take];omega) q hq
    · refine List.mem_append_right _ ?_
      rw [List.drop_append_of_le_length (by omega)]
      exact xBox_keys (o:=b) (by rw [List.length_drop];omega) q hq
theorem outR_sound {al:Bool} {Nc:Old} (m1:Mod w Nc A1 env1 h1 w1) (hA:∀ b,A1 b->A2 b) (b0:Nat):∀ (rs:List RK) (d:RDs rs) (svs:List SV) (vs:List Value) (fz:List (Nat×Nm)) (ow:List (Option Nat)) (n:Nat),
    outR al rs svs h1=some (d,fz,ow)->DenL A1 env1 w1 svs vs->(∀ k,FrzBlk env1 fz k->A2 k)->(rsPlain rs=true∨∀ b,A2 b->A' b) →
    FrzOk h1 fz/\ow.length=nOwn rs/\((al=true->env' b0=env1 PN)->(∀ i o,ow[i]? = some o->env' (n+i)=evOf env1 o)->DenL A' env' w1 (resSV b0 rs d n) vs/\LinkOK A' env1 h1 env' w1 ow (resH b0 rs d n) n)
  | [],d,[],vs,fz,ow,n,e,hd,hF,L=>by
    simp only [outR,Option.some.injEq,Prod.mk.injEq] at e
    obtain ⟨-,rfl,rfl⟩:=e
    exact ⟨fun n b hh=>by simp at hh,rfl,fun _ _=>⟨by simpa [resSV,DenL] using hd,trivial⟩⟩
  | .val t::rs,d,v::svs,vs,fz,ow,n,e,hd,hF,L=>by
    simp only [outR] at e
    split at e
    · rename_i x f1 q hp
      split at e
      · rename_i ps f2 o hr
        simp only [Option.some.injEq,Prod.mk.injEq] at e
        obtain ⟨rfl,rfl,rfl⟩:=e
        simp only [DenL] at hd
        obtain ⟨u,vr,rfl,hu,hvr⟩:=hd
        have hF1:∀ k,FrzBlk env1 f1 k->A2 k:=fun k ⟨n,x,l,hx,he⟩=>hF k ⟨n,x,l,List.mem_append_left _ hx,he⟩
        have hF2:∀ k,FrzBlk env1 f2 k->A2 k:=fun k ⟨n,x,l,hx,he⟩=>hF k ⟨n,x,l,List.mem_append_right _ hx,he⟩
        obtain ⟨p1,_,p3,p4,_⟩:=projC_sound m1 t [v] [u] x [] f1 _ hp (by simp only [DenL];exact ⟨u,[],rfl,hu,rfl⟩) hA hF1
        obtain ⟨s1,s2,s3⟩:=outR_sound m1 hA b0 rs ps svs vr f2 o n hr hvr hF2 (lift_r L)
        refine ⟨fun n b hh => ?_,s2,fun hal he => ?_⟩
        · rcases List.mem_append.1 hh with hh|hh
          · exact p1 n b hh
          · exact s1 n b hh
        · obtain ⟨k1,k2⟩:=s3 hal he
          refine ⟨?_,k2⟩
          simp only [resSV,DenL]
          exact ⟨u,vr,rfl,den_flat1 (rest:=[]) (Rd_lift (lift_l (c:=true) L) p4),k1⟩
      · cases e
    · cases e
  | .agg t::rs,d,svs0,vs,fz,ow,n,e,hd,hF,L=>by
    obtain ⟨cs,svs,rfl⟩:=outR_agg e
    simp only [outR] at e
    split at e
    · rename_i x f1 w' hp
      split at e
      · rename_i ps f2 o hr
        simp only [Option.some.injEq,Prod.mk.injEq] at e
        obtain ⟨rfl,rfl,rfl⟩:=e
        simp only [DenL,Den] at hd
        obtain ⟨u,vr,rfl,⟨us,rfl,hu⟩,hvr⟩:=hd
        have hF1:∀ k,FrzBlk env1 f1 k->A2 k:=fun k ⟨n,x,l,hx,he⟩=>hF k ⟨n,x,l,List.mem_append_left _ hx,he⟩
        have hF2:∀ k,FrzBlk env1 f2 k->A2 k:=fun k ⟨n,x,l,hx,he⟩=>hF k ⟨n,x,l,List.mem_append_right _ hx,he⟩
        obtain ⟨p1,p2,us',rs',p3,p4,p5⟩:=oOut_sound (env':=env') m1 hA b0 t none cs us.toList x [] f1 w' [] [] n hp hu hF1 (lift_l (c:=true) L) (.inl rfl)
        simp only [DenL] at p4
        subst p4
        rw [List.append_nil] at p3
        subst p3
        obtain ⟨s1,s2,s3⟩:=outR_sound m1 hA b0 rs ps svs vr f2 o (n+t.nr) hr hvr hF2 (lift_r L)
        refine ⟨fun n b hh => ?_,by simp only [List.length_append,p2,s2,nOwn];omega,fun hal he => ?_⟩
        · rcases List.mem_append.1 hh with hh|hh
          · exact p1 n b hh
          · exact s1 n b hh
        · obtain ⟨l1,l2,_⟩:=p5 hal (fun k q hq=>he k q (by rw [List.getElem?_append_left (List.getElem?_eq_some_iff.1 hq).1];exact hq)) (fun j0 k q hj _=>by cases hj)
          obtain ⟨k1,k2⟩:=s3 hal (fun k q hq=>by
            have:=he (t.nr+k) q (by rw [List.getElem?_append_right (by omega),p2,Nat.add_sub_cancel_left];exact hq)
            rwa [show n+(t.nr+k)=n+t.nr+k from by omega] at this)
          simp only [resSV,resH,DenL,Den]
          exact ⟨⟨_,vr,rfl,⟨us,rfl,l1⟩,k1⟩,l2.append (by rw [p2];exact k2)⟩
      · cases e
    · cases e
  | .own E t::rs,d,svs0,vs,fz,ow,n,e,hd,hF,L=>by
    obtain ⟨v,svs,rfl⟩:=outR_own e
    simp only [outR] at e
    split at e
    · rename_i x r1 w' hp
      split at e
      · rename_i ps f2 o hr
        simp only [Option.some.injEq,Prod.mk.injEq] at e
        obtain ⟨rfl,rfl,rfl⟩:=e
        simp only [DenL] at hd
        obtain ⟨u,vr,rfl,hu,hvr⟩:=hd
        obtain ⟨v',vr',p1,-,-,p3⟩:=takeRowH_sound (A':=A') m1 hA (lift_l (c:=true) L) hp (vs:=[u]) (by simp only [DenL];exact ⟨u,[],rfl,hu,rfl⟩)
        cases p1
        obtain ⟨s1,s2,s3⟩:=outR_sound m1 hA b0 rs ps svs vr f2 o (n+1) hr hvr hF (lift_r L)
        refine ⟨s1,by simp only [List.length_cons,s2,nOwn],fun hal he => ?_⟩
        obtain ⟨l1,l2⟩:=p3 env' n (he 0 _ rfl)
        obtain ⟨k1,k2⟩:=s3 hal (fun k q hq=>by have:=he (k+1) q (by simpa using hq);rwa [show n+(k+1)=n+1+k from by omega] at this)
        simp only [resSV,resH,DenL]
        exact ⟨⟨u,vr,rfl,l1,k1⟩,l2.1,k2⟩
      · cases e
    · cases e
  | .box E t::rs,d,svs0,vs,fz,ow,n,e,hd,hF,L=>by
    obtain ⟨q,svs,rfl⟩:=outR_box e
    simp only [outR] at e
    split at e
    · rename_i E' cs hl
      split at e
      · rename_i x f1 w' hE hp
        have hE:=Nat.eq_of_beq_eq_true hE
        subst hE
        split at e
        · rename_i ps f2 o hr
          simp only [Option.some.injEq,Prod.mk.injEq] at e
          obtain ⟨rfl,rfl,rfl⟩:=e
          simp only [DenL,Den] at hd
          obtain ⟨u,vr,rfl,⟨kb,lb,hkb,rfl⟩,hvr⟩:=hd
          obtain ⟨⟨us,hus,hdu⟩,_⟩:=m1.live_blk hl hkb
          have hF1:∀ k,FrzBlk env1 f1 k->A2 k:=fun k ⟨n,x,l,hx,he⟩=>hF k ⟨n,x,l,List.mem_append_left _ hx,he⟩
          have hF2:∀ k,FrzBlk env1 f2 k->A2 k:=fun k ⟨n,x,l,hx,he⟩=>hF k ⟨n,x,l,List.mem_append_right _ hx,he⟩
          obtain ⟨p1,p2,us',rs',p3,p4,p5⟩:=oOut_sound (env':=env') m1 hA b0 t none cs us.toList x [] f1 w' [] [] (n+1) hp hdu hF1 (lift_l (c:=true) L) (.inl rfl)
          simp only [DenL] at p4
          subst p4
          rw [List.append_nil] at p3
          subst p3
          obtain ⟨s1,s2,s3⟩:=outR_sound m1 hA b0 rs ps svs vr f2 o (n+1+t.nr) hr hvr hF2 (lift_r L)
          refine ⟨fun n b hh => ?_,by simp only [List.length_cons,List.length_append,p2,s2,nOwn];omega,fun hal he => ?_⟩
          · rcases List.mem_append.1 hh with hh|hh
            · exact p1 n b hh
            · exact s1 n b hh
          · have h0:=he 0 (some q) rfl
            simp only [Nat.add_zero,evOf] at h0
            have he':∀ k q',(w'++o)[k]? = some q'→env' (n+1+k)=evOf env1 q':=fun k q' hq=>by
              have:=he (k+1) q' (by simpa using hq);rwa [show n+(k+1)=n+1+k from by omega] at this
            obtain ⟨l1,l2,_⟩:=p5 hal (fun k q hq=>he' k q (by rw [List.getElem?_append_left (List.getElem?_eq_some_iff.1 hq).1];exact hq)) (fun j0 k q hj _=>by cases hj)
            obtain ⟨k1,k2⟩:=s3 hal (fun k q hq=>by
              have:=he' (t.nr+k) q (by rw [List.getElem?_append_right (by omega),p2,Nat.add_sub_cancel_left];exact hq)
              rwa [show n+1+(t.nr+k)=n+1+t.nr+k from by omega] at this)
            simp only [resSV,resH,DenL,Den]
            refine ⟨⟨_,vr,rfl,⟨kb,lb,by rw [h0];exact hkb,rfl⟩,k1⟩,⟨rfl,_,rfl,rfl,.inl ⟨q,_,rfl,hl,rfl,fun k len hk => ?_,fun hk => ?_⟩⟩,l2.append (by rw [p2];exact k2)⟩
            · rw [hkb] at hk;cases hk
              exact ⟨us,hus,l1⟩
            · rw [hkb] at hk;cases hk
        · cases e
      · cases e
    · cases e
  | .fn f k::rs,d,svs0,vs,fz,ow,n,e,hd,hF,L=>by
    obtain ⟨g,cs,svs,rfl⟩:=outR_fn e
    simp only [outR] at e
    split at e
    · rename_i hf hk
      have hf:=Nat.eq_of_beq_eq_true hf
      have hk:=Nat.eq_of_beq_eq_true hk
      subst hf
      split at e
      · rename_i ps f2 o hr
        simp only [Option.some.injEq,Prod.mk.injEq] at e
        obtain ⟨rfl,rfl,rfl⟩:=e
        simp only [DenL,Den] at hd
        obtain ⟨x,vr,rfl,⟨us,rfl,hu⟩,hvr⟩:=hd
        have hul:=DenL_length hu
        obtain ⟨s1,s2,s3⟩:=outR_sound m1 hA b0 rs ps (cs++svs) (us.toList++vr) f2 o n hr (DenL_append hu hvr) hF L
        refine ⟨s1,s2,fun hal he => ?_⟩
        obtain ⟨k1,k2⟩:=s3 hal he
        refine ⟨?_,k2⟩
        simp only [resSV,DenL,Den]
        refine ⟨_,vr,rfl,⟨us,rfl,?_⟩,?_⟩
        · have:=DenL_take k k1
          rwa [List.take_left' (by omega)] at this
        · have:=DenL_drop k k1
          rwa [List.drop_left' (by omega)] at this
      · cases e
    · cases e
  | [],_,_::_,_,_,_,_,e,_,_,_=>by cases e
  | .val _::_,_,[],_,_,_,_,e,_,_,_=>by cases e
def nBx:List PK->Nat
  | []=>0
  | .val _::r=>nBx r
  | .agg _::r=>nBx r
  | .own _ _::r=>nBx r
  | .ago _::r=>nBx r
  | .fn _ _::r=>nBx r
  | .nils::r=>nBx r
  | .box _ o::r=>o.nb+nBx r+1
  | .row _ _::r=>nBx r+1
theorem oBox_len:∀ {o:OT} {d:o.D} {j i:Nat},(oBox o d j i).length=o.nb
  | .dat _,_,_,_=>rfl
  | .row _ _,_,_,_=>rfl
  | .rowg _ _,_,_,_=>rfl
  | .fnc _,_,_,_=>rfl
  | .ali,_,_,_=>rfl
  | .ref _ o,d,j,i=>by simp only [oBox,List.length_cons,oBox_len (o:=o),OT.nb]
  | .pair a b,d,j,i=>by simp only [oBox,List.length_append,oBox_len (o:=a),oBox_len (o:=b),OT.nb]
theorem boxesOf_len:∀ {ps:List PK} {d:PDs ps} {j i:Nat},(boxesOf ps d j i).length=nBx ps
  | [],_,_,_=>rfl
  | .val t::ps,d,j,i=>boxesOf_len (ps:=ps)
  | .agg t::ps,d,j,i=>boxesOf_len (ps:=ps)
  | .own _ t::ps,d,j,i=>boxesOf_len (ps:=ps)
  | .ago _::ps,d,j,i=>boxesOf_len (ps:=ps)
  | .fn _ _::ps,d,j,i=>boxesOf_len (ps:=ps)
  | .nils::ps,d,j,i=>boxesOf_len (ps:=ps)
  | .box E o::ps,d,j,i=>by simp only [boxesOf,List.length_cons,List.length_append,oBox_len,boxesOf_len (ps:=ps),nBx]
  | .row E t::ps,d,j,i=>by simp only [boxesOf,List.length_cons,boxesOf_len (ps:=ps),nBx]
theorem outB_sound {Nc:Old} (m1:Mod w Nc A1 env1 h1 w1) (hA:∀ b,A1 b->A2 b) (b0:Nat):∀ (ps:List PK) (d:BDs ps) (fz:List (Nat×Nm)) (ow:List (Option Nat)) (bx:List Nat) (j n:Nat),
    outB ps j h1=some (d,fz,ow)->(∀ k,FrzBlk env1 fz k->A2 k)->(psPlain ps=true∨∀ b,A2 b->A' b)->bx.length=nBx ps →
    FrzOk h1 fz/\ow.length=nOwnB ps/\((bx≠[]->env' b0=env1 PN)->(∀ k q,ow[k]? = some q->env' (n+k)=evOf env1 q)->(∀ k q,bx[k]? = some q->env' q=env1 (PN+(j+k))) →
      LinkOK A' env1 h1 env' w1 ow (newU ps d n) n/\(∀ q x,(q,x)∈boxU b0 ps d bx n->BxOut A' env1 h1 env' w1 bx j q x))∧∀ q,q∈bx->q∈(boxU b0 ps d bx n).map (·.1)
  | [],d,fz,ow,bx,j,n,e,hF,L,hl=>by
    simp only [outB,Option.some.injEq,Prod.mk.injEq] at e
    obtain ⟨-,rfl,rfl⟩:=e
    simp only [nBx,List.length_eq_zero_iff] at hl
    subst hl
    exact ⟨fun n b hh=>by simp at hh,rfl,fun _ _ _=>⟨trivial,fun q x hh=>by simp [boxU] at hh⟩,fun q hh=>by simp at hh⟩
  | .val t::ps,d,fz,ow,bx,j,n,e,hF,L,hl=>by
    simp only [boxU,newU,nOwnB]
    exact outB_sound m1 hA b0 ps d fz ow bx j n (by simpa only [outB] using e) hF (by simpa only [psPlain] using L) (by simpa only [nBx] using hl)
  | .agg t::ps,d,fz,ow,bx,j,n,e,hF,L,hl=>by
    simp only [boxU,newU,nOwnB]
    exact outB_sound m1 hA b0 ps d fz ow bx j n (by simpa only [outB] using e) hF (by simpa only [psPlain] using L) (by simpa only [nBx] using hl)
  | .own _ t::ps,d,fz,ow,bx,j,n,e,hF,L,hl=>by
    simp only [boxU,newU,nOwnB]
    exact outB_sound m1 hA b0 ps d fz ow bx j n (by simpa only [outB] using e) hF (by simpa only [psPlain] using L) (by simpa only [nBx] using hl)
  | .ago _::ps,d,fz,ow,bx,j,n,e,hF,L,hl=>by
    simp only [boxU,newU,nOwnB]
    exact outB_sound m1 hA b0 ps d fz ow bx j n (by simpa only [outB] using e) hF (by simpa only [psPlain] using L) (by simpa only [nBx] using hl)
  | .fn _ _::ps,d,fz,ow,bx,j,n,e,hF,L,hl=>by
    simp only [boxU,newU,nOwnB]
    exact outB_sound m1 hA b0 ps d fz ow bx j n (by simpa only [outB] using e) hF (by simpa only [psPlain] using L) (by simpa only [nBx] using hl)
  | .nils::ps,d,fz,ow,bx,j,n,e,hF,L,hl=>by
    simp only [boxU,newU,nOwnB]
    exact outB_sound m1 hA b0 ps d fz ow bx j n (by simpa only [outB] using e) hF (by simpa only [psPlain] using L) (by simpa only [nBx] using hl)
  | .box E o::ps,d,fz,ow,bx,j,n,e,hF,L,hl=>by
    cases bx with
    | nil=>simp [nBx] at hl
    | cons n0 bx =>
    simp only [outB] at e
    split at e
    · rename_i E' cs hlk
      split at e
      · rename_i x f1 w' hE hp
        have hE:=Nat.eq_of_beq_eq_true hE
        subst hE
        split at e
        · rename_i ps' f2 ow2 hr
          simp only [Option.some.injEq,Prod.mk.injEq] at e
          obtain ⟨rfl,rfl,rfl⟩:=e
          simp only [List.length_cons,nBx] at hl
          have hF1:∀ k,FrzBlk env1 f1 k->A2 k:=fun k ⟨n,x,l,hx,he⟩=>hF k ⟨n,x,l,List.mem_append_left _ hx,he⟩
          have hF2:∀ k,FrzBlk env1 f2 k->A2 k:=fun k ⟨n,x,l,hx,he⟩=>hF k ⟨n,x,l,List.mem_append_right _ hx,he⟩
          have hlt:(bx.take o.nb).length=o.nb:=by rw [List.length_take];omega
          have eb:bx.take o.nb++bx.drop o.nb=bx:=List.take_append_drop ..
          obtain ⟨s1,s2,s3,s4⟩:=outB_sound m1 hA b0 ps ps' f2 ow2 (bx.drop o.nb) (j+1+o.nb) (n+o.nr) hr hF2 (lift_r L) (by rw [List.length_drop];omega)
          have hm:=m1.nm (PN+j)
          rw [hlk] at hm
          have hbd:∃ kb lb us,env1 (PN+j) = .blk kb lb/\w1.heap[kb]? = some (.cells us E (0,0))/\DenL A1 env1 w1 cs us.toList:=by
            rcases hm with ⟨k',len',he',⟨us,hus,hdu⟩,_⟩|⟨he',_,_,hb|hb⟩
            · exact ⟨k',len',us,he',hus,hdu⟩
            · cases hb
            · cases hb
          obtain ⟨kb,lb,us,hkb,hus,hdu⟩:=hbd
          obtain ⟨p1,p2,us',rs',p3,p4,p5⟩:=oOut_sound (al:=true) (env':=env') m1 hA b0 o (some (j+1)) cs us.toList x [] f1 w' (bx.take o.nb) (bx.drop o.nb) n hp hdu hF1 (lift_l (c:=true) L) (.inr hlt)
          simp only [DenL] at p4
          subst p4
          rw [List.append_nil] at p3
          subst p3
          rw [eb] at p5
          refine ⟨fun n b hh => ?_,by simp only [List.length_append,p2,s2,nOwnB];omega,fun h0b ho hb => ?_,fun q hq => ?_⟩
          · rcases List.mem_append.1 hh with hh|hh
            · exact p1 n b hh
            · exact s1 n b hh
          · obtain ⟨l1,l2,l3,_⟩:=p5 (fun _=>h0b (by simp)) (fun k q hq=>ho k q (by rw [List.getElem?_append_left (List.getElem?_eq_some_iff.1 hq).1];exact hq))
              (fun j0 k q hj hq=>by
                cases hj
                rw [List.getElem?_take] at hq
                split at hq
                · have:=hb (k+1) q (by simpa using hq)
                  rwa [show j+(k+1)=j+1+k from by omega] at this
                · cases hq)
            obtain ⟨k1,k2⟩:=s3 (fun _=>h0b (by simp)) (fun k q hq=>by
                have:=ho (o.nr+k) q (by rw [List.getElem?_append_right (by omega),p2,Nat.add_sub_cancel_left];exact hq)
                rwa [show n+(o.nr+k)=n+o.nr+k from by omega] at this)
              (fun k q hq=>by
                rw [List.getElem?_drop] at hq
                have:=hb (o.nb+k+1) q (by simpa using hq)
                rwa [show j+(o.nb+k+1)=j+1+o.nb+k from by omega] at this)
            simp only [newU,boxU]
            refine ⟨l2.append (by rw [p2];exact k1),fun q y hh => ?_⟩
            rcases List.mem_cons.1 hh with hh|hh
            · cases hh
              refine ⟨0,_,_,rfl,rfl,rfl,hlk,rfl,fun k len he => ?_,fun he => ?_⟩
              · rw [Nat.add_zero,hkb] at he;cases he
                exact ⟨us,hus,l1⟩
              · rw [Nat.add_zero,hkb] at he;cases he
            · rcases List.mem_append.1 hh with hh|hh
              · obtain ⟨j0,hj,hx⟩:=l3 q y hh
                cases hj
                have:=(BxOut.shift (pre:=[n0]) (j:=j) hx).grow (post:=bx.drop o.nb)
                rwa [List.append_assoc,eb] at this
              · have:=BxOut.shift (pre:=n0::bx.take o.nb) (bx:=bx.drop o.nb) (j:=j) (n:=q) (x:=y) (by rw [List.length_cons,hlt,show j+(o.nb+1)=j+1+o.nb from by omega];exact k2 q y hh)
                rwa [List.cons_append,eb] at this
          · simp only [boxU,List.map_cons,List.map_append]
            rcases List.mem_cons.1 hq with rfl|hq
            · exact List.mem_cons_self ..
            · refine List.mem_cons_of_mem _ ?_
              rw [← eb] at hq
              rcases List.mem_append.1 hq with hq|hq
              · refine List.mem_append_left _ ?_
                have:=xBox_keys (b0:=b0) (o:=o) (x:=x) (n:=n) (more:=bx.drop o.nb) hlt q hq
                rwa [eb] at this
              · exact List.mem_append_right _ (s4 q hq)
        · cases e
      · cases e
    · cases e
  | .row E t::ps,d,fz,ow,bx,j,n,e,hF,L,hl=>by
    cases bx with
    | nil=>simp [nBx] at hl
    | cons n0 bx =>
    simp only [outB] at e
    split at e
    · rename_i E' t' xs hlk
      split at e
      · rename_i ys hE hcl
        have hE:=Nat.eq_of_beq_eq_true hE
        subst hE
        obtain ⟨et,ez⟩:=castL_eq hcl
        subst et
        simp only at ez
        subst ez
        split at e
        · rename_i ps' f2 ow2 hr
          simp only [Option.some.injEq,Prod.mk.injEq] at e
          obtain ⟨rfl,rfl,rfl⟩:=e
          obtain ⟨s1,s2,s3,s4⟩:=outB_sound m1 hA b0 ps ps' f2 ow2 bx (j+1) n hr hF (lift_r L) (by simpa [nBx] using hl)
          have hm:=m1.nm (PN+j)
          rw [hlk] at hm
          refine ⟨s1,s2,fun h0b ho hb => ?_,fun q hq => ?_⟩
          · obtain ⟨k1,k2⟩:=s3 (fun _=>h0b (by simp)) ho (fun k q hq=>by have:=hb (k+1) q (by simpa using hq);rwa [show j+(k+1)=j+1+k from by omega] at this)
            simp only [newU,boxU]
            refine ⟨k1,fun q y hh => ?_⟩
            rcases List.mem_cons.1 hh with hh|hh
            · cases hh
              refine ⟨0,_,_,rfl,rfl,rfl,hlk,rfl,fun k len he => ?_,fun he => ?_⟩
              · rcases hm with ⟨k',len',he',hb,_⟩|⟨he',_⟩
                · rw [Nat.add_zero] at he;rw [he] at he';cases he'
                  obtain ⟨us,cap,g1,g2,g3,g4,g5,g6⟩:=hb
                  exact ⟨us,cap,g1,g2,g3,g4,g5,fun i hi=>Rd_lift (lift_l (c:=true) L) (Rd_mono hA (fun _ _ _=>rfl) _ _ _ _ _ (fun _ _=>rfl) (g6 i hi))⟩
                · rw [Nat.add_zero] at he;rw [he] at he';cases he'
              · rcases hm with ⟨k',len',he',hb,_⟩|⟨he',E2,t2,hb⟩
                · rw [Nat.add_zero] at he;rw [he] at he';cases he'
                · rcases hb with hb|hb <;> cases hb
                  exact ⟨_,_,rfl⟩
            · exact BxOut.shift (pre:=[n0]) (k2 q y hh)
          · simp only [boxU,List.map_cons]
            rcases List.mem_cons.1 hq with rfl|hq
            · exact List.mem_cons_self ..
            · exact List.mem_cons_of_mem _ (s4 q hq)
        · cases e
      · cases e
    · cases e
end
end Go.SX

/- SX, part 22: a function's contract, off its symbolic run (the proof). -/
namespace Go.SX
set_option linter.unusedVariables false
def boxR:List Nat->Nat->Rn
  | [],_=>[]
  | n::bx,j=>(n,some (PN+j))::boxR bx (j+1)
def resR:List (Option Nat)->Nat->Rn
  | [],_=>[]
  | o::r,n=>(n,o)::resR r (n+1)
theorem lookR_append {a b:Rn} {n:Nat}:lookR (a++b) n=(match lookR a n with|some x=>some x|none=>lookR b n):=by
  induction a with
  | nil=>rfl
  | cons p a ih =>
    obtain ⟨m,x⟩:=p
    simp only [List.cons_append,lookR_cons]
    split
    · rfl
    · exact ih
theorem boxR_look:∀ {bx:List Nat} {j n:Nat} {y:Option Nat},lookR (boxR bx j) n=some y→∃ i,bx[i]? = some n/\y=some (PN+(j+i))
  | [],j,n,y,h=>by simp [boxR,lookR] at h
  | m::bx,j,n,y,h=>by
    simp only [boxR,lookR_cons] at h
    split at h
    · rename_i e;cases h;exact ⟨0,by simp [e],rfl⟩
    · obtain ⟨i,h1,h2⟩:=boxR_look h
      exact ⟨i+1,by simpa using h1,by rw [h2,show j+1+i=j+(i+1) from by omega]⟩
theorem boxR_at:∀ {bx:List Nat} {j n i:Nat},bx.Nodup->bx[i]? = some n->lookR (boxR bx j) n=some (some (PN+(j+i)))
  | [],j,n,i,_,h=>by simp at h
  | m::bx,j,n,0,_,h=>by
    simp at h;subst h
    simp only [boxR,lookR_cons,if_pos,Nat.add_zero]
  | m::bx,j,n,i+1,hn,h=>by
    have h':bx[i]? = some n:=by simpa using h
    obtain ⟨h1,h2⟩:=List.nodup_cons.1 hn
    have hne:n≠m:=fun e=>h1 (e▸List.mem_of_getElem? h')
    simp only [boxR,lookR_cons,if_neg hne,boxR_at h2 h']
    rw [show j+1+i=j+(i+1) from by omega]
theorem boxR_none {bx:List Nat} {j n:Nat} (h:n ∉ bx):lookR (boxR bx j) n=none:=by
  cases hl:lookR (boxR bx j) n with
  | none=>rfl
  | some y=>obtain ⟨i,hi,_⟩:=boxR_look hl;exact absurd (List.mem_of_getElem? hi) h
theorem resR_look:∀ {ow:List (Option Nat)} {n0 n:Nat} {y:Option Nat},lookR (resR ow n0) n=some y→∃ i,ow[i]? = some y/\n=n0+i
  | [],n0,n,y,h=>by simp [resR,lookR] at h
  | o::ow,n0,n,y,h=>by
    simp only [resR,lookR_cons] at h
    split at h
    · rename_i e;cases h;exact ⟨0,by simp,by omega⟩
    · obtain ⟨i,h1,h2⟩:=resR_look h
      exact ⟨i+1,by simpa using h1,by omega⟩
theorem resR_at:∀ {ow:List (Option Nat)} {n0 i:Nat} {o:Option Nat},ow[i]? = some o->lookR (resR ow n0) (n0+i)=some o
  | [],n0,i,o,h=>by simp at h
  | p::ow,n0,0,o,h=>by simp at h;subst h;simp [resR,lookR_cons]
  | p::ow,n0,i+1,o,h=>by
    have h':ow[i]? = some o:=by simpa using h
    have:=resR_at (n0:=n0+1) h'
    simp only [resR,lookR_cons,if_neg (show ¬ n0+(i+1)=n0 from by omega)]
    rw [show n0+(i+1)=n0+1+i from by omega];exact this
theorem memO_iff {n:Nat}:∀ {l:List (Option Nat)},memO n l=true↔some n∈l
  | []=>by simp [memO]
  | none::r=>by simp [memO,memO_iff (l:=r)]
  | some m::r=>by simp [memO,memO_iff (l:=r)]
theorem ownOk_spec {fz:List (Nat×Nm)}:∀ {ow:List (Option Nat)},ownOk fz ow=true→∀ (i m:Nat),ow[i]? = some (some m)->(m<PN∨QN<=m)/\m ∉ fz.map (·.1)∧∀ i':Nat,ow[i']? = some (some m)->i=i'
  | [],_,i,m,h=>by simp at h
  | none::r,h,i,m,hi=>by
    simp only [ownOk] at h
    cases i with
    | zero=>simp at hi
    | succ i =>
      obtain ⟨h1,h2,h3⟩:=ownOk_spec h i m (by simpa using hi)
      refine ⟨h1,h2,fun i' hi' => ?_⟩
      cases i' with
      | zero=>simp at hi'
      | succ i'=>rw [h3 i' (by simpa using hi')]
  | some q::r,h,i,m,hi=>by
    simp only [ownOk,Bool.and_eq_true,Bool.or_eq_true,Bool.not_eq_true'] at h
    obtain ⟨⟨⟨h1,h2⟩,h3⟩,h4⟩:=h
    have hno:∀ i:Nat,r[i]? ≠ some (some q):=fun i hi=>by
      have:memO q r=true:=memO_iff.2 (List.mem_of_getElem? hi)
      rw [this] at h3;cases h3
    cases i with
    | zero =>
      simp at hi;subst hi
      refine ⟨h1.imp (fun h=>Nat.le_of_ble_eq_true h) (fun h=>Nat.le_of_ble_eq_true h),notIn_spec h2,fun i' hi' => ?_⟩
      cases i' with
      | zero=>rfl
      | succ i'=>exact absurd (by simpa using hi') (hno i')
    | succ i =>
      obtain ⟨g1,g2,g3⟩:=ownOk_spec h4 i m (by simpa using hi)
      refine ⟨g1,g2,fun i' hi' => ?_⟩
      cases i' with
      | zero=>simp at hi';subst hi';exact absurd (by simpa using hi) (hno i)
      | succ i'=>rw [g3 i' (by simpa using hi')]
theorem allLt_spec:∀ {fz:List (Nat×Nm)},allLt fz=true→∀ n,n∈fz.map (·.1)->n<PN∨QN<=n
  | [],_,n,h=>by simp at h
  | (m,b)::r,h,n,hn=>by
    simp only [allLt,Bool.and_eq_true,Bool.or_eq_true] at h
    rcases List.mem_cons.1 hn with e|hn
    · have e:n=m:=e
      subst e;exact h.1.imp (fun h=>Nat.le_of_ble_eq_true h) (fun h=>Nat.le_of_ble_eq_true h)
    · exact allLt_spec h.2 n hn
theorem disjN_spec {fz:List (Nat×Nm)}:∀ {bx:List Nat},disjN fz bx=true→∀ n,n∈bx->n ∉ fz.map (·.1)
  | [],_,n,h=>by simp at h
  | m::r,h,n,hn=>by
    simp only [disjN,Bool.and_eq_true] at h
    rcases List.mem_cons.1 hn with rfl|hn
    · exact notIn_spec h.1
    · exact disjN_spec h.2 n hn
theorem askUn_spec {h:Heap} {dl d:Dl}:∀ {k n:Nat} {r:List Nat},(askUn n k dl).run h=some (d,r)->d=dl∧∀ i,i<k->h (n+i) = .un
  | 0,n,r,e=>by
    simp only [askUn,Q.run,Option.some.injEq,Prod.mk.injEq] at e
    exact ⟨e.1.symm,fun i hi=>by omega⟩
  | k+1,n,r,e=>by
    simp only [askUn,Q.run] at e
    split at e
    · rename_i p q hk
      simp only [Option.some.injEq,Prod.mk.injEq] at e
      obtain ⟨rfl,rfl⟩:=e
      split at hk
      · rename_i hun
        obtain ⟨h1,h2⟩:=askUn_spec hk
        refine ⟨h1,fun i hi => ?_⟩
        cases i with
        | zero=>exact hun
        | succ i=>rw [show n+(i+1)=n+1+i from by omega];exact h2 i (by omega)
      · cases hk
    · cases e
theorem mem_deadU {n:Nat} {x:Nm}:∀ {cx:List (Option Nat)},(n,x)∈deadU cx->x = .dead/\n∈somes cx
  | [],h=>by simp [deadU] at h
  | none::r,h=>by simp only [deadU] at h;simpa only [somes] using mem_deadU (cx:=r) h
  | some m::r,h=>by
    simp only [deadU] at h
    rcases List.mem_cons.1 h with h|h
    · cases h;exact ⟨rfl,List.mem_cons_self ..⟩
    · obtain ⟨h1,h2⟩:=mem_deadU (cx:=r) h
      exact ⟨h1,List.mem_cons_of_mem _ h2⟩
theorem deadU_keys:∀ {cx:List (Option Nat)},(deadU cx).map (·.1)=somes cx
  | []=>rfl
  | none::r=>by simp only [deadU,somes];exact deadU_keys (cx:=r)
  | some m::r=>by simp only [deadU,somes,List.map_cons,deadU_keys (cx:=r)]
def sCell (P:Program) (ty:TypeId) (v:SV) (h:Heap):Option SV:=match v with
  | .ptr n off=>match h n with
    | .live (.cells _ cs)=>partS P ty cs off
    | _=>none
  | _=>none
def resSVs (P:Program):List ResultVar->List SV->Heap->Option (List SV)
  | [],_,_=>some []
  | .tmp t::r,sl,h=>match resSVs P r sl h with
    | some l=>some (getSl sl t::l)
    | none=>none
  | .cell a ty::r,sl,h=>match sCell P ty (getSl sl a) h,resSVs P r sl h with
    | some v,some l=>some (v::l)
    | _,_=>none
def mkRes (l:List Value):Value:=if h:l.toArray.size=1 then l.toArray[0] else .tuple l.toArray
theorem sCell_sound {P:Program} {w0:World} {N0:Old} {A:Nat->Prop} {env:Env} {h:Heap} {w:World} (m:Mod w0 N0 A env h w) {ty:TypeId} {s s':SV} {v:Value} (e:sCell P ty s h=some s') (hd:Den A env w s v) :
    ∃ u,(do loadVar ty (← asAddr v):Sem Value).run P w = .ok u w/\Den A env w s' u:=by
  unfold sCell at e
  split at e
  · rename_i n off
    split at e
    · rename_i E cs hl
      simp only [Den] at hd
      obtain ⟨b,l,he,rfl⟩:=hd
      obtain ⟨⟨vs,hh,hd⟩,_⟩:=m.live_blk hl he
      obtain ⟨u,hr,hv⟩:=partS_load (o:=0) (k:=b) e hd (fun j hj=>by rw [cell_of_row w b _ vs E (0,0) hh];simp)
      rw [Nat.zero_add] at hr
      exact ⟨u,by simp [asAddr,hr],hv⟩
    · cases e
  · cases e
theorem mapM_res {P:Program} {w0:World} {N0:Old} {A:Nat->Prop} {env:Env} {h:Heap} {w:World} (m:Mod w0 N0 A env h w) {sl:List SV} {a:Act} (f:FD A env w (getSl sl) a) {F:ResultVar->Sem Value}
    (h1:∀ t,F (.tmp t)=pure (a.tmps.getD t undef)) (h2:∀ t ty,F (.cell t ty)=do loadVar ty (← asAddr (a.tmps.getD t undef))):∀ (l:List ResultVar) (svs:List SV),resSVs P l sl h=some svs →
    ∃ vs,(l.mapM F).run P w = .ok vs w/\DenL A env w svs vs
  | [],svs,e=>by cases e;exact ⟨[],rfl,by simp [DenL]⟩
  | .tmp t::l,svs,e=>by
    simp only [resSVs] at e
    split at e
    · rename_i l' hl
      cases e
      obtain ⟨vs,hr,hd⟩:=mapM_res m f h1 h2 l l' hl
      refine ⟨a.tmps.getD t undef::vs,?_,by simp only [DenL];exact ⟨_,_,rfl,f t,hd⟩⟩
      rw [List.mapM_cons,h1]
      simp [hr]
    · cases e
  | .cell t ty::l,svs,e=>by
    simp only [resSVs] at e
    split at e
    · rename_i v l' hv hl
      cases e
      obtain ⟨vs,hr,hd⟩:=mapM_res m f h1 h2 l l' hl
      obtain ⟨u,hu,hdu⟩:=sCell_sound m hv (f t)
      refine ⟨u::vs,?_,by simp only [DenL];exact ⟨_,_,rfl,hdu,hd⟩⟩
      rw [List.mapM_cons,h2,Sem.run_bind,hu]
      simp [hr]
    · cases e
theorem results_run {P:Program} {w0:World} {N0:Old} {A:Nat->Prop} {env:Env} {h:Heap} {w:World} (m:Mod w0 N0 A env h w) {sl:List SV} {a:Act} (f:FD A env w (getSl sl) a) {fn:Func} {svs:List SV} (e:resSVs P fn.results.toList sl h=some svs) :
    ∃ vs,(results fn a.tmps).run P w = .ok (mkRes vs) w/\DenL A env w svs vs:=by
  unfold results
  rw [Array.mapM_eq_mapM_toList]
  obtain ⟨vs,hr,hd⟩:=mapM_res (P:=P) m f (F:=fun | .tmp t=>pure (a.tmps.getD t undef) | .cell t ty=>do loadVar ty (← asAddr (a.tmps.getD t undef))) (fun t=>rfl) (fun t ty=>rfl) fn.results.toList svs e
  refine ⟨vs,?_,hd⟩
  rw [Sem.run_bind,Sem.run_map]
  erw [hr]
  rfl
theorem resV_den {A:Nat->Prop} {env:Env} {w:World} {svs:List SV} {vs:List Value} (h:DenL A env w svs vs):Den A env w (resV svs) (mkRes vs):=by
  have hl:=DenL_length h
  unfold resV
  split
  · simp only [DenL] at h
    obtain ⟨v,r,rfl,h,rfl⟩:=h
    exact h
  · rename_i hne
    have:¬ vs.length=1:=fun e=>by
      rw [hl] at e
      obtain ⟨x,hx⟩:=List.length_eq_one_iff.1 e
      exact hne x hx
    simp only [mkRes,Den]
    rw [dif_neg (by simpa using this)]
    exact ⟨_,rfl,h⟩
def conjE:List Prop->Prop
  | []=>True
  | [p]=>p
  | p::q::r=>p/\conjE (q::r)
theorem conjE_iff:∀ {l:List Prop},conjE l↔conj l
  | []=>Iff.rfl
  | [p]=>by simp [conjE,conj]
  | p::q::r=>by rw [conjE,conj,conjE_iff]
def retG (P:Program) (ps:List PK) (rs:List RK) (rv:List ResultVar) (k:RDs rs×BDs ps->Prop):Ex->St->Prop:=fun e S=>match e with
  | .exit _=>False
  | _=>match resSVs P rv S.sl (lookN S.H) with
    | none=>False
    | some vs=>match outR (Nat.blt 0 (nBx ps)) rs vs (lookN S.H),outB ps 0 (lookN S.H) with
      | some (y,f1,ow),some (z,f2,ow2)=>match ownOk (f1++f2) (ow++ow2),allLt (f1++f2) with
        | true,true=>k (y,z)
        | _,_=>False
      | _,_=>False
def padS:List SV->Nat->List SV
  | _,0=>[]
  | [],n+1 => .junk::padS [] n
  | v::l,n+1=>v::padS l n
def startSt (ps:List PK) (d:PDs ps) (n:Nat):St:=⟨padS (argsOf ps d 0 0) n,boxesOf ps d 0 0++consOf ps d 0⟩
theorem padS_len:∀ {l:List SV} {n:Nat},(padS l n).length=n
  | _,0=>by simp [padS]
  | [],n+1=>by simp [padS,padS_len (l:=[]) (n:=n)]
  | v::l,n+1=>by simp [padS,padS_len (l:=l) (n:=n)]
theorem padS_get:∀ {l:List SV} {n i:Nat},getSl (padS l n) i = .junk∨∃ s,l[i]? = some s/\getSl (padS l n) i=s
  | _,0,i=>by left;simp [padS,getSl,getL]
  | [],n+1,0=>by left;simp [padS,getSl,getL]
  | [],n+1,i+1=>by
    rcases padS_get (l:=[]) (n:=n) (i:=i) with h|⟨s,h,_⟩
    · left;simpa [padS,getSl,getL] using h
    · simp at h
  | v::l,n+1,0=>by right;exact ⟨v,by simp,by simp [padS,getSl,getL]⟩
  | v::l,n+1,i+1=>by
    rcases padS_get (l:=l) (n:=n) (i:=i) with h|⟨s,h,h'⟩
    · left;simpa [padS,getSl,getL] using h
    · right;exact ⟨s,by simpa using h,by simpa [padS,getSl,getL] using h'⟩
section
variable {P:Program} {sp:Specs}
theorem run_ok {ps:List PK} {rs:List RK} (post:PDs ps->RDs rs×BDs ps->Prop) {f:FuncId} {fn:Func} {code:Code} (hf:P.funcs[f]? = some fn) (hb:fn.body=some code) (hs:SpecsOK P sp) (hmix:P.follows .mixedOrders=true) (an:PDs ps->Anns)
    {base:Nat} {svs:List SV} {h:Heap} {dd:PDs ps} {fz:List (Nat×Nm)} {bx:List Nat} {cx:List (Option Nat)} {q1:List Nat} (e1:(matchArgs none ps svs).run h=some ((dd,fz,bx,cx),q1)) (hnm:namesOk fz bx cx=true)
    (hun:∀ i,i<nOwn rs+nOwnB ps->h (base+i) = .un) (vc:wfP ps dd->forceSt (startSt ps dd fn.ntmps) (sx P sp (an dd) code (retG P ps rs fn.results.toList (post dd))))
    {w0:World} {N0:Old} {A:Nat->Prop} {env:Env} {w:World} {vs:List Value} (hG:N0.g=sp.gl) (m:Mod w0 N0 A env h w) (hd:DenL A env w svs vs) :
    Calls P f vs.toArray w fun e w'=>∃ v y,e = .returned v/\post dd y∧∃ (A':Nat->Prop) (env':Env),Mod w0 N0 A' env' (setAll (retU ps rs y base fz bx cx) h) w'∧Ext A env w A' env' w'∧Den A' env' w' (resV (resSV (bx.headD 0) rs y.1 base)) v:=by
  simp only [namesOk,Bool.and_eq_true] at hnm
  obtain ⟨⟨hnd,hdj⟩,hbl⟩:=hnm
  have hnd:=nodupN_iff hnd
  have hdj:=disjN_spec hdj
  have hbl:=Nat.le_of_ble_eq_true hbl
  obtain ⟨a1,a4,a6⟩:=matchArgs_sound (envc:=callEnv env bx cx) m (Ac:=frzA A env fz) (fun b hb => .inl hb) none ps svs vs dd fz bx cx q1 0 0 e1 hd (fun k hk => .inr hk)
  obtain ⟨dargs,lb,lc⟩:=a6 (fun _=>rfl) (fun n hn=>by cases hn) (fun k n hn=>by rw [Nat.zero_add];exact callEnv_bx hbl hn) (fun k q hq=>by rw [Nat.zero_add];exact callEnv_cx hq)
  rw [Nat.add_zero] at lb lc
  have mc:=m.call a1 hbl lb lc hdj hnd
  have hlen:bx.length=nBx ps:=by
    have:=lb.get.1
    rw [List.length_map,boxesOf_len] at this;exact this
  have hnd1:bx.Nodup:=(List.nodup_append.1 hnd).1
  have hvc:=vc a4
  rw [forceSt_eq] at hvc
  have hvl:=DenL_length dargs
  have live_ne:∀ q b,h q = .live b->env q ≠ .un:=fun q b hq=>by
    have:=m.nm q
    rw [hq] at this
    rcases this with ⟨k,len,e,_⟩|⟨e,_⟩ <;> rw [e] <;> simp
  have hlive:∀ n,n∈bx++somes cx→∃ b,h n = .live b/\b.mut=true/\env n ≠ .un:=fun n hn=>by
    rcases List.mem_append.1 hn with hn|hn
    · obtain ⟨i,hi⟩:=List.mem_iff_getElem?.1 hn
      obtain ⟨b',_,_,_,⟨q,b,e,h1,h2,_⟩|⟨e,_⟩⟩:=lb.get.2 i (some n) (by simp [hi])
      · cases e;exact ⟨b,h1,h2,live_ne _ _ h1⟩
      · cases e
    · obtain ⟨i,hi⟩:=List.mem_iff_getElem?.1 (mem_somes.1 hn)
      obtain ⟨b',_,_,_,⟨q,b,e,h1,h2,_⟩|⟨e,_⟩⟩:=lc.get.2 i (some n) hi
      · cases e;exact ⟨b,h1,h2,live_ne _ _ h1⟩
      · cases e
  refine calls_of_wp hf hb (sx_wp (N0:=⟨boxBlk env (bx++somes cx),frzA A env fz,N0.g⟩) ⟨hs,hG⟩ hmix code _ _ _ (frzA A env fz) (callEnv env bx cx) _ w hvc ⟨mc,?_,?_,rfl⟩ ?_)
  · simp only [St.fs,startSt,padS_len,Array.size_append,Array.size_replicate];omega
  · intro i
    simp only [St.fs,startSt]
    rcases padS_get (l:=argsOf ps dd 0 0) (n:=fn.ntmps) (i:=i) with hj|⟨s,h1,h2⟩
    · rw [hj];simp only [Den]
    · rw [h2]
      obtain ⟨v,hv,hdv⟩:=DenL_get i s dargs h1
      have hi:i<vs.length:=(List.getElem?_eq_some_iff.1 hv).1
      have:(vs.toArray++Array.replicate (fn.ntmps-vs.toArray.size) undef).getD i undef=v:=by
        have h3:(vs.toArray++Array.replicate (fn.ntmps-vs.toArray.size) undef)[i]? = some v:=by
          rw [Array.getElem?_append_left (by simpa using hi)];simpa using hv
        simp only [Array.getD_eq_getD_getElem?,h3,Option.getD_some]
      rw [this];exact hdv
  · intro ex S' A1 env1 act w1 hK t' x'
    have hend:∃ rsv y f1 owr z f2 owb,resSVs P fn.results.toList S'.sl (lookN S'.H)=some rsv/\outR (Nat.blt 0 (nBx ps)) rs rsv (lookN S'.H)=some (y,f1,owr)/\outB ps 0 (lookN S'.H)=some (z,f2,owb) ∧
        ownOk (f1++f2) (owr++owb)=true/\allLt (f1++f2)=true/\post dd (y,z)/\(ex = .normal∨ex = .ret):=by
      unfold retG at hK
      split at hK
      · exact hK.elim
      · rename_i hex
        split at hK
        · exact hK.elim
        · rename_i rsv hts
          split at hK
          · rename_i y f1 ow z f2 ow2 h1 h2
            split at hK
            · rename_i h3 h4
              refine ⟨rsv,y,f1,ow,z,f2,ow2,hts,h1,h2,h3,h4,hK,?_⟩
              cases ex with
              | normal=>exact .inl rfl
              | ret=>exact .inr rfl
              | exit i=>exact absurd rfl (hex i)
            · exact hK.elim
          · exact hK.elim
    obtain ⟨rsv,y,f1,owr,z,f2,owb,hts,ho,hob,hown,hlt,hpost,hex⟩:=hend
    obtain ⟨rvs,hrun,hres⟩:=results_run t'.m t'.f hts
    have hA2:∀ b,A1 b->frzA A1 env1 (f1++f2) b:=fun b hb => .inl hb
    have hF1:∀ k,FrzBlk env1 f1 k->frzA A1 env1 (f1++f2) k:=fun k ⟨n,x,l,hx,he⟩ => .inr ⟨n,x,l,List.mem_append_left _ hx,he⟩
    have hF2:∀ k,FrzBlk env1 f2 k->frzA A1 env1 (f1++f2) k:=fun k ⟨n,x,l,hx,he⟩ => .inr ⟨n,x,l,List.mem_append_right _ hx,he⟩
    have hlt:=allLt_spec hlt
    have hownS:=ownOk_spec hown
    have hPQ:QN=PN+PN:=rfl
    have fin:∀ (As A':Nat->Prop) (hs':Heap),Mod w0 N0 As env hs' w->(∀ n,n∈bx++somes cx->hs' n=h n)->(∀ i,i<nOwn rs+nOwnB ps->hs' (base+i) = .un)->(∀ b,As b->A' b)->(∀ b,A' b->frzA A1 env1 (f1++f2) b) →
        (∀ b,A' b->As b∨((boxBlk env (bx++somes cx) b∨w.heap.size<=b)/\b<w1.heap.size))->(rsPlain rs=true∨∀ b,frzA A1 env1 (f1++f2) b->A' b)->(psPlain ps=true∨∀ b,frzA A1 env1 (f1++f2) b->A' b) →
        ∃ env',Mod w0 N0 A' env' (setAll (boxU (bx.headD 0) ps z bx (base+nOwn rs)++(resH (bx.headD 0) rs y base++(newU ps z (base+nOwn rs)++deadU cx))) hs') w1/\Ext As env w A' env' w1/\Den A' env' w1 (resV (resSV (bx.headD 0) rs y base)) (mkRes rvs):=by
      intro As A' hs' ms hsb hsu hAA hA'2 hA1' L1 L2
      obtain ⟨b1,b2,b3⟩:=outR_sound (A':=A') (env':=retEnv (boxR bx 0++resR (owr++owb) base) env env1) t'.m hA2 (bx.headD 0) rs y _ _ f1 owr base ho hres hF1 L1
      obtain ⟨c1,c2,c3,c4⟩:=outB_sound (A':=A') (env':=retEnv (boxR bx 0++resR (owr++owb) base) env env1) t'.m hA2 (bx.headD 0) ps z f2 owb bx 0 (base+nOwn rs) hob hF2 L2 hlen
      have hfo:FrzOk (lookN S'.H) (f1++f2):=fun n b hh=>by
        rcases List.mem_append.1 hh with hh|hh
        · exact b1 n b hh
        · exact c1 n b hh
      have howl:(owr++owb).length=nOwn rs+nOwnB ps:=by rw [List.length_append,b2,c2]
      have hnotbx:∀ i,i<nOwn rs+nOwnB ps->base+i ∉ bx:=fun i hi hmem=>by
        have h1:=hsu i hi
        rw [hsb _ (List.mem_append_left _ hmem)] at h1
        obtain ⟨b,hb',_⟩:=hlive _ (List.mem_append_left _ hmem)
        rw [h1] at hb';cases hb'
      have hRbox:∀ i n,bx[i]? = some n->lookR (boxR bx 0++resR (owr++owb) base) n=some (some (PN+i)):=fun i n hi=>by
        rw [lookR_append,boxR_at (j:=0) hnd1 hi,Nat.zero_add]
      have hRres:∀ i o,(owr++owb)[i]? = some o->lookR (boxR bx 0++resR (owr++owb) base) (base+i)=some o:=fun i o hi=>by
        have hlti:i<nOwn rs+nOwnB ps:=by have:=(List.getElem?_eq_some_iff.1 hi).1;omega
        rw [lookR_append,boxR_none (hnotbx i hlti)]
        exact resR_at hi
      have hRinv:∀ n y,lookR (boxR bx 0++resR (owr++owb) base) n=some y->(∃ i,bx[i]? = some n/\y=some (PN+i))∨∃ i,(owr++owb)[i]? = some y/\n=base+i/\i<nOwn rs+nOwnB ps:=fun n y hy=>by
        rw [lookR_append] at hy
        split at hy
        · rename_i x hx
          cases hy
          obtain ⟨i,h1,h2⟩:=boxR_look hx
          rw [Nat.zero_add] at h2
          exact .inl ⟨i,h1,h2⟩
        · obtain ⟨i,h1,h2⟩:=resR_look hy
          exact .inr ⟨i,h1,h2,by have:=(List.getElem?_eq_some_iff.1 h1).1;omega⟩
      have hbxlt:∀ i n,bx[i]? = some n->i<PN:=fun i n hi=>by have:=(List.getElem?_eq_some_iff.1 hi).1;omega
      have henvp:∀ i n,bx[i]? = some n->env1 (PN+i)=env n:=fun i n hi=>by
        obtain ⟨b,_,_,hne⟩:=hlive n (List.mem_append_left _ (List.mem_of_getElem? hi))
        have:=hbxlt i n hi
        have:=x'.envp (PN+i) (by omega) (by omega) (by rw [callEnv_bx hbl hi];exact hne)
        rw [this,callEnv_bx hbl hi]
      have eenv:∀ i o,(owr++owb)[i]? = some o->retEnv (boxR bx 0++resR (owr++owb) base) env env1 (base+i)=evOf env1 o:=fun i o hi=>by
        unfold retEnv
        rw [hRres i o hi]
        simp only [renEnv,hRres i o hi]
        cases o <;> rfl
      have hhead:bx≠[]->retEnv (boxR bx 0++resR (owr++owb) base) env env1 (bx.headD 0)=env1 PN:=fun hne=>by
        obtain ⟨n0,r,hbx⟩:=List.exists_cons_of_ne_nil hne
        have h0:bx[0]? = some (bx.headD 0):=by rw [hbx];rfl
        unfold retEnv
        rw [hRbox 0 _ h0]
        simp only [renEnv,hRbox 0 _ h0,Nat.add_zero]
      obtain ⟨d1,d2⟩:=b3 (fun hal=>hhead (fun hnil=>by
          have h0:nBx ps=0:=by rw [← hlen,hnil];rfl
          rw [h0] at hal;cases hal)) (fun i o hi=>eenv i o (by rw [List.getElem?_append_left (List.getElem?_eq_some_iff.1 hi).1];exact hi))
      obtain ⟨d3,d4⟩:=c3 hhead (fun k q hq=>by
          have:=eenv (nOwn rs+k) q (by rw [List.getElem?_append_right (by omega),b2,Nat.add_sub_cancel_left];exact hq)
          rwa [← Nat.add_assoc] at this)
        (fun k q hq=>by
          unfold retEnv
          rw [hRbox k q hq]
          simp only [renEnv,hRbox k q hq,Nat.zero_add])
      have hlookA:∀ q b k l,lookN S'.H q = .live b->b.mut=true->env1 q = .blk k l->q ∉ (f1++f2).map (·.1)→¬ A' k:=fun q b k l hq hbm he hqn hA'=>by
        have mf:=(t'.m.freeze hfo).1
        have:setAll (f1++f2) S'.fs.h q = .live b:=by rw [setAll_other hqn];exact hq
        exact (mf.live_blk this he).2 hbm (hA'2 k hA')
      suffices hk:Mod w0 N0 A' (retEnv (boxR bx 0++resR (owr++owb) base) env env1) (setAll (boxU (bx.headD 0) ps z bx (base+nOwn rs)++(resH (bx.headD 0) rs y base++(newU ps z (base+nOwn rs)++deadU cx))) hs') w1/\Ext As env w A' (retEnv (boxR bx 0++resR (owr++owb) base) env env1) w1 by
        exact ⟨_,hk.1,hk.2,resV_den d1⟩
      have hnew:∀ {l:List (Nat×Nm)} {os:List (Option Nat)} {n0:Nat},LinkOK A' env1 (lookN S'.H) (retEnv (boxR bx 0++resR (owr++owb) base) env env1) w1 os l (base+n0)->(∀ i o,os[i]? = some o->(owr++owb)[n0+i]? = some o)→∀ n x,(n,x)∈l →
          ∃ b,x = .live b/\b.mut=true/\((∃ m b0,lookR (boxR bx 0++resR (owr++owb) base) n=some (some m)/\lookN S'.H m = .live b0/\b0.mut=true ∧
            (∀ k len,env1 m = .blk k len->BlkDen A' (retEnv (boxR bx 0++resR (owr++owb) base) env env1) w1 k len b)/\(env1 m = .nil→∃ E t,b = .row E t []))∨(lookR (boxR bx 0++resR (owr++owb) base) n=some none∧∃ E t,b = .row E t [])):=by
        intro l os n0 hl hos n x hx
        have:∀ {os:List (Option Nat)} {l:List (Nat×Nm)} {k0:Nat},LinkOK A' env1 (lookN S'.H) (retEnv (boxR bx 0++resR (owr++owb) base) env env1) w1 os l k0→∀ n x,(n,x)∈l→∃ i o b',os[i]? = some o/\n=k0+i/\x = .live b'∧b'.mut=true ∧
            ((∃ q b,o=some q/\lookN S'.H q = .live b/\b.mut=true/\(∀ k len,env1 q = .blk k len->BlkDen A' (retEnv (boxR bx 0++resR (owr++owb) base) env env1) w1 k len b')/\(env1 q = .nil→∃ E t,b' = .row E t []))∨(o=none∧∃ E t,b' = .row E t [])):=by
          intro os
          induction os with
          | nil=>intro l k0 hl n x hx;cases l with
            | nil=>cases hx
            | cons p l=>exact hl.elim
          | cons o os ih =>
            intro l k0 hl n x hx
            cases l with
            | nil=>cases hx
            | cons p l =>
              obtain ⟨m',y'⟩:=p
              obtain ⟨⟨hm,b',g1,g2,g3⟩,hr⟩:=hl
              rcases List.mem_cons.1 hx with e|hx
              · cases e;exact ⟨0,o,b',rfl,by omega,g1,g2,g3⟩
              · obtain ⟨i,o',b'',k1,k2,k3⟩:=ih hr n x hx
                exact ⟨i+1,o',b'',by simpa using k1,by omega,k3⟩
        obtain ⟨i,o,b',k1,rfl,k3,k4,k5⟩:=this hl n x hx
        have hr:=hRres _ _ (hos i o k1)
        rw [← Nat.add_assoc] at hr
        refine ⟨b',k3,k4,?_⟩
        rcases k5 with ⟨q,b,rfl,g1,g2,g3,g4⟩|⟨rfl,g1⟩
        · exact .inl ⟨q,b,hr,g1,g2,g3,g4⟩
        · exact .inr ⟨hr,g1⟩
      refine Mod.retn (R:=boxR bx 0++resR (owr++owb) base) (U:=boxU (bx.headD 0) ps z bx (base+nOwn rs)++(resH (bx.headD 0) rs y base++(newU ps z (base+nOwn rs)++deadU cx))) (A':=A') ms t'.m x'.shape ?_ ?_ ?_ ?_ ?_ hAA hA1' ?_
      · intro n x hx
        rcases List.mem_append.1 hx with hx|hx
        · obtain ⟨i,b,b0,h1,h2,h3,h4,h5,h6,h7⟩:=d4 n x hx
          rw [Nat.zero_add] at h4 h6 h7
          exact .inr ⟨b,h2,h3,.inl ⟨PN+i,b0,hRbox i n h1,h4,h5,h6,h7⟩⟩
        · rcases List.mem_append.1 hx with hx|hx
          · exact .inr (hnew (n0:=0) (by rw [Nat.add_zero];exact d2) (fun i o hi=>by rw [Nat.zero_add,List.getElem?_append_left (List.getElem?_eq_some_iff.1 hi).1];exact hi) n x hx)
          · rcases List.mem_append.1 hx with hx|hx
            · exact .inr (hnew d3 (fun i o hi=>by rw [List.getElem?_append_right (by omega),b2,Nat.add_sub_cancel_left];exact hi) n x hx)
            · exact .inl (mem_deadU hx).1
      · intro n hn
        obtain ⟨y',hy⟩:=Option.ne_none_iff_exists'.1 hn
        simp only [List.map_append]
        rcases hRinv n y' hy with ⟨i,h1,_⟩|⟨i,h1,rfl,hi⟩
        · exact List.mem_append_left _ (c4 n (List.mem_of_getElem? h1))
        · refine List.mem_append_right _ ?_
          by_cases hlt':i<nOwn rs
          · refine List.mem_append_left _ ?_
            obtain ⟨b',_,hmem,_⟩:=d2.get.2 i _ (by rw [List.getElem?_append_left (by omega)] at h1;exact h1)
            exact List.mem_map_of_mem (f:=(·.1)) hmem
          · refine List.mem_append_right _ (List.mem_append_left _ ?_)
            obtain ⟨b',_,hmem,_⟩:=d3.get.2 (i-nOwn rs) _ (by rw [List.getElem?_append_right (by omega),b2] at h1;exact h1)
            have:=List.mem_map_of_mem (f:=(·.1)) hmem
            rwa [show base+nOwn rs+(i-nOwn rs)=base+i from by omega] at this
      · intro n n' q hn hn'
        rcases hRinv n _ hn with ⟨i,h1,h2⟩|⟨i,h1,rfl,_⟩ <;> rcases hRinv n' _ hn' with ⟨i',h1',h2'⟩|⟨i',h1',rfl,_⟩
        · simp only [Option.some.injEq] at h2 h2'
          have:i=i':=by omega
          subst this
          rw [h1] at h1';exact Option.some.inj h1'
        · simp only [Option.some.injEq] at h2
          have:=(hownS i' q h1').1
          have:=hbxlt _ _ h1
          omega
        · simp only [Option.some.injEq] at h2'
          have:=(hownS i q h1).1
          have:=hbxlt _ _ h1'
          omega
        · rw [(hownS i q h1).2.2 i' h1']
      · intro n hn
        obtain ⟨y',hy⟩:=Option.ne_none_iff_exists'.1 hn
        rcases hRinv n y' hy with ⟨i,h1,rfl⟩|⟨i,h1,rfl,h2⟩
        · have hmem:n∈bx++somes cx:=List.mem_append_left _ (List.mem_of_getElem? h1)
          obtain ⟨b,g2',g3',_⟩:=hlive n hmem
          exact .inr ⟨b,by rw [hsb n hmem];exact g2',g3',by rw [renEnv_some hy];exact henvp i n h1⟩
        · exact .inl (hsu i h2)
      · rintro k ⟨n,l,hn,he⟩
        obtain ⟨b,g2',g3',_⟩:=hlive n hn
        refine ⟨n,b,l,?_,by rw [hsb n hn];exact g2',g3',he⟩
        simp only [List.map_append,deadU_keys]
        rcases List.mem_append.1 hn with hn|hn
        · exact List.mem_append_left _ (c4 n hn)
        · exact List.mem_append_right _ (List.mem_append_right _ (List.mem_append_right _ hn))
      · rintro q b k l hq hbm he ⟨n,hn⟩
        refine hlookA q b k l hq hbm he fun hmem => ?_
        rcases hRinv n _ hn with ⟨i,h1,h2⟩|⟨i,h1,rfl,_⟩
        · simp only [Option.some.injEq] at h2
          have:=hlt q hmem
          have:=hbxlt _ _ h1
          omega
        · exact (hownS i q h1).2.1 hmem
    suffices hfin:∃ (A':Nat->Prop) (env':Env),Mod w0 N0 A' env' (setAll (retU ps rs (y,z) base fz bx cx) h) w1/\Ext A env w A' env' w1/\Den A' env' w1 (resV (resSV (bx.headD 0) rs y base)) (mkRes rvs) by
      have hthis:act.defers=[]∧∃ v,(results fn act.tmps).run P w1 = .ok v w1∧∃ v' y',Ending.returned v = .returned v'∧post dd y'∧∃ (A':Nat->Prop) (env':Env),Mod w0 N0 A' env' (setAll (retU ps rs y' base fz bx cx) h) w1/\Ext A env w A' env' w1/\Den A' env' w1 (resV (resSV (bx.headD 0) rs y'.1 base)) v' :=
        ⟨t'.dfr,_,hrun,_,(y,z),rfl,hpost,hfin⟩
      rcases hex with rfl|rfl
      · exact hthis
      · exact hthis
    unfold retU
    cases hk:keepF ps rs with
    | true =>
      obtain ⟨mf,xf⟩:=m.freeze a1
      have hback:∀ b,frzA A1 env1 (f1++f2) b->frzA A env fz b∨((boxBlk env (bx++somes cx) b∨w.heap.size<=b)/\b<w1.heap.size):=by
        intro b hb
        have hfo:FrzOk (lookN S'.H) (f1++f2):=by
          obtain ⟨b1,_⟩:=outR_sound (A':=frzA A1 env1 (f1++f2)) (env':=env1) t'.m hA2 (bx.headD 0) rs y _ _ f1 owr base ho hres hF1 (.inr fun b hb=>hb)
          obtain ⟨c1,_⟩:=outB_sound (A':=frzA A1 env1 (f1++f2)) (env':=env1) t'.m hA2 (bx.headD 0) ps z f2 owb bx 0 base hob hF2 (.inr fun b hb=>hb) hlen
          intro n b hh
          rcases List.mem_append.1 hh with hh|hh
          · exact b1 n b hh
          · exact c1 n b hh
        have hAlt:=(t'.m.freeze hfo).1.Alt b hb
        rcases hb with hb|⟨n,x,l,hx,he⟩
        · rcases t'.m.fresh b hb with h1|h1|h1
          · exact .inl h1
          · exact .inr ⟨.inl h1,hAlt⟩
          · exact .inr ⟨.inr h1,hAlt⟩
        · obtain ⟨E,t,xs,hl,_⟩:=hfo n x hx
          rcases t'.m.own n _ b l hl rfl he with h1|h1
          · exact .inr ⟨.inl h1,hAlt⟩
          · exact .inr ⟨.inr h1,hAlt⟩
      obtain ⟨env',k1,k2,k3⟩:=fin (frzA A env fz) (frzA A1 env1 (f1++f2)) (setAll fz h) mf (fun n hn=>setAll_other (hdj n hn)) (fun i hi=>by
          rw [setAll_other]
          · exact hun i hi
          · intro hmem
            obtain ⟨⟨n,x⟩,hx,he⟩:=List.mem_map.1 hmem
            simp only at he
            subst he
            obtain ⟨E,t,xs,hl,_⟩:=a1 _ _ hx
            rw [hun i hi] at hl;cases hl)
        (fun b hb => .inl (x'.imm b hb)) (fun b hb=>hb) hback (.inr fun b hb=>hb) (.inr fun b hb=>hb)
      refine ⟨_,env',?_,xf.trans k2,k3⟩
      rw [setAll_append];exact k1
    | false =>
      have hpl:rsPlain rs=true/\psPlain ps=true:=by
        simpa [keepF] using hk
      obtain ⟨env',k1,k2,k3⟩:=fin A A h m (fun n hn=>rfl) hun (fun b hb=>hb) (fun b hb => .inl (x'.imm b (.inl hb))) (fun b hb => .inl hb) (.inl hpl.1) (.inl hpl.2)
      refine ⟨_,env',?_,k2,k3⟩
      rw [List.append_nil];exact k1
def eqRs:(rs:List RK)->RDs rs->RDs rs->List Prop
  | [],_,_=>[]
  | _::rs,x,y=>(x.1=y.1)::eqRs rs x.2 y.2
def eqBs:(ps:List PK)->BDs ps->BDs ps->List Prop
  | [],_,_=>[]
  | .val _::ps,x,y=>eqBs ps x y
  | .agg _::ps,x,y=>eqBs ps x y
  | .own _ _::ps,x,y=>eqBs ps x y
  | .ago _::ps,x,y=>eqBs ps x y
  | .fn _ _::ps,x,y=>eqBs ps x y
  | .nils::ps,x,y=>eqBs ps x y
  | .box _ _::ps,x,y=>(x.1=y.1)::eqBs ps x.2 y.2
  | .row _ _::ps,x,y=>(x.1=y.1)::eqBs ps x.2 y.2
theorem eqRs_eq:∀ {rs:List RK} {x y:RDs rs},conj (eqRs rs x y)->x=y
  | [],x,y,_=>rfl
  | _::rs,x,y,h=>Prod.ext h.1 (eqRs_eq (rs:=rs) h.2)
theorem eqBs_eq:∀ {ps:List PK} {x y:BDs ps},conj (eqBs ps x y)->x=y
  | [],x,y,_=>rfl
  | .val _::ps,x,y,h=>eqBs_eq (ps:=ps) h
  | .agg _::ps,x,y,h=>eqBs_eq (ps:=ps) h
  | .own _ _::ps,x,y,h=>eqBs_eq (ps:=ps) h
  | .ago _::ps,x,y,h=>eqBs_eq (ps:=ps) h
  | .fn _ _::ps,x,y,h=>eqBs_eq (ps:=ps) h
  | .nils::ps,x,y,h=>eqBs_eq (ps:=ps) h
  | .box _ _::ps,x,y,h=>Prod.ext h.1 (eqBs_eq (ps:=ps) h.2)
  | .row _ _::ps,x,y,h=>Prod.ext h.1 (eqBs_eq (ps:=ps) h.2)
theorem eqRs_refl:∀ {rs:List RK} {x:RDs rs},conj (eqRs rs x x)
  | [],_=>trivial
  | _::rs,x=>⟨rfl,eqRs_refl (rs:=rs)⟩
theorem eqBs_refl:∀ {ps:List PK} {x:BDs ps},conj (eqBs ps x x)
  | [],_=>trivial
  | .val _::ps,x=>eqBs_refl (ps:=ps)
  | .agg _::ps,x=>eqBs_refl (ps:=ps)
  | .own _ _::ps,x=>eqBs_refl (ps:=ps)
  | .ago _::ps,x=>eqBs_refl (ps:=ps)
  | .fn _ _::ps,x=>eqBs_refl (ps:=ps)
  | .nils::ps,x=>eqBs_refl (ps:=ps)
  | .box _ _::ps,x=>⟨rfl,eqBs_refl (ps:=ps)⟩
  | .row _ _::ps,x=>⟨rfl,eqBs_refl (ps:=ps)⟩
theorem Ct.ok (c:Ct) {f:FuncId} {fn:Func} {code:Code} (hf:P.funcs[f]? = some fn) (hb:fn.body=some code) (hs:SpecsOK P sp) (hmix:P.follows .mixedOrders=true) (an:PDs c.ps->Anns)
    (vc:allP c.ps fun d=>wfP c.ps d->conjE (c.pre d)->forceSt (startSt c.ps d fn.ntmps) (sx P sp (an d) code (retG P c.ps c.rs fn.results.toList fun y=>conjE (eqRs c.rs y.1 (c.out d).1++eqBs c.ps y.2 (c.out d).2)))):SpecOK P sp.gl f c.spec:=by
  intro base svs h d r e hp w0 N0 A env w vs hG m hd
  unfold Ct.spec at e
  obtain ⟨⟨dd,fz,bx,cx⟩,q1,q2,e1,e2,rfl⟩:=Q.run_bind _ _ _ e
  split at e2
  case h_2=>cases e2
  rename_i hnm
  obtain ⟨rfl,hun⟩:=askUn_spec e2
  refine (run_ok (rs:=c.rs) (fun d y=>conjE (eqRs c.rs y.1 (c.out d).1++eqBs c.ps y.2 (c.out d).2)) hf hb hs hmix an e1 hnm hun (fun hw=>allP_iff.1 vc dd hw (conjE_iff.2 hp)) hG m hd).mono ?_
  rintro e' w' ⟨v,y,rfl,hy,A',env',h1,h2,h3⟩
  obtain ⟨hy1,hy2⟩:=conj_append.1 (conjE_iff.1 hy)
  have:y=c.out dd:=Prod.ext (eqRs_eq hy1) (eqBs_eq hy2)
  subst this
  exact ⟨v,rfl,(),A',env',trivial,h1,h2,h3⟩
theorem Cn.ok (c:Cn) {f:FuncId} {fn:Func} {code:Code} (hf:P.funcs[f]? = some fn) (hb:fn.body=some code) (hs:SpecsOK P sp) (hmix:P.follows .mixedOrders=true) (an:PDs c.ps->Anns)
    (vc:allP c.ps fun d=>wfP c.ps d->conjE (c.pre d)->forceSt (startSt c.ps d fn.ntmps) (sx P sp (an d) code (retG P c.ps c.rs fn.results.toList (c.post d)))):SpecOK P sp.gl f c.spec:=by
  intro base svs h d r e hp w0 N0 A env w vs hG m hd
  unfold Cn.spec at e
  obtain ⟨⟨dd,fz,bx,cx⟩,q1,q2,e1,e2,rfl⟩:=Q.run_bind _ _ _ e
  split at e2
  case h_2=>cases e2
  rename_i hnm
  obtain ⟨rfl,hun⟩:=askUn_spec e2
  refine (run_ok (rs:=c.rs) c.post hf hb hs hmix an e1 hnm hun (fun hw=>allP_iff.1 vc dd hw (conjE_iff.2 hp)) hG m hd).mono ?_
  rintro e' w' ⟨v,y,rfl,hy,A',env',h1,h2,h3⟩
  refine ⟨v,rfl,y,A',env',hy,?_,h2,h3⟩
  show Mod w0 N0 A' env' (setAll ((retUF c.ps c.rs base fz bx cx).map fun p=>(p.1,p.2 y)) h) w'
  rw [retUF_eq];exact h1
def Ct.nspec (c:Ct):Spec:=fun base svs=>(matchArgs none c.ps svs).bind fun p=>match namesOk p.2.1 p.2.2.1 p.2.2.2 with
  | true=>askUn base (nOwn c.rs+nOwnB c.ps) (.nd (RDs c.rs×BDs c.ps) (outQn c.rs c.ps) (c.pre p.1) (fun y=>conjE (eqRs c.rs y.1 (c.out p.1).1++eqBs c.ps y.2 (c.out p.1).2)) (fun _=>⟨c.out p.1,conjE_iff.2 (conj_append.2 ⟨eqRs_refl,eqBs_refl⟩)⟩)
      (fun y=>resV (resSV (p.2.2.1.headD 0) c.rs y.1 base)) (retUF c.ps c.rs base p.2.1 p.2.2.1 p.2.2.2))
  | false => .fail
theorem askUn_run {h:Heap} {dl d:Dl}:∀ {k n:Nat} {r:List Nat},(askUn n k dl).run h=some (d,r)→∀ dl',(askUn n k dl').run h=some (dl',r)
  | 0,n,r,e,dl'=>by
    simp only [askUn,Q.run,Option.some.injEq,Prod.mk.injEq] at e ⊢
    exact ⟨trivial,e.2⟩
  | k+1,n,r,e,dl'=>by
    simp only [askUn,Q.run] at e ⊢
    split at e
    · rename_i p q hk
      simp only [Option.some.injEq,Prod.mk.injEq] at e
      obtain ⟨rfl,rfl⟩:=e
      split at hk
      · rename_i hun
        have:=askUn_run hk dl'
        rw [this]
      · cases hk
    · cases e
universe u v
theorem Q.bind_run1 {h:Heap} {α:Type u} {β:Type v} (q:Q α) (f:α->Q β) {a:α} {r1:List Nat} {b:β} {r2:List Nat} (h1:q.run h=some (a,r1)) (h2:(f a).run h=some (b,r2)):(q.bind f).run h=some (b,r1++r2):=by
  induction q generalizing r1 with
  | ret x=>simp only [Q.run,Option.some.injEq,Prod.mk.injEq] at h1;obtain ⟨rfl,rfl⟩:=h1;simpa [Q.bind] using h2
  | ask n k ih =>
    simp only [Q.run] at h1
    split at h1
    · rename_i x y hk
      simp only [Option.some.injEq,Prod.mk.injEq] at h1
      obtain ⟨rfl,rfl⟩:=h1
      simp only [Q.bind,Q.run,ih _ hk,List.cons_append]
    · cases h1
  | fail=>cases h1
theorem Ct.named {G:Globs} {c:Ct} {f:FuncId} (ok:SpecOK P G f c.spec):SpecOK P G f c.nspec:=by
  intro base svs h d r e hp w0 N0 A env w vs hG m hd
  unfold Ct.nspec at e
  obtain ⟨⟨dd,fz,bx,cx⟩,q1,q2,e1,e2,rfl⟩:=Q.run_bind _ _ _ e
  split at e2
  case h_2=>cases e2
  rename_i hnm
  obtain ⟨rfl,hun⟩:=askUn_spec e2
  have e3:=askUn_run e2 (.det (c.pre dd) (resV (resSV (bx.headD 0) c.rs (c.out dd).1 base)) (retU c.ps c.rs (c.out dd) base fz bx cx))
  have e4:(c.spec base svs).run h=some (.det (c.pre dd) (resV (resSV (bx.headD 0) c.rs (c.out dd).1 base)) (retU c.ps c.rs (c.out dd) base fz bx cx),q1++q2):=by
    unfold Ct.spec
    refine Q.bind_run1 _ _ e1 ?_
    simp only at hnm ⊢
    rw [hnm]
    exact e3
  refine (ok base svs h _ _ e4 hp w0 N0 A env w vs hG m hd).mono ?_
  rintro e' w' ⟨v,he,x,A',env',_,h1,h2,h3⟩
  refine ⟨v,he,c.out dd,A',env',conjE_iff.2 (conj_append.2 ⟨eqRs_refl,eqBs_refl⟩),?_,h2,h3⟩
  show Mod w0 N0 A' env' (setAll ((retUF c.ps c.rs base fz bx cx).map fun p=>(p.1,p.2 (c.out dd))) h) w'
  rw [retUF_eq];exact h1
end
end Go.SX

/- SX, part 23: from a law's arguments to data, and a law's contract to its row. -/
namespace Go.SX
open Go.ChangeShapes Go.WideShapes Go.ChangeAt Go.RowKit
set_option linter.unusedVariables false
universe u v
def fieldsFit (P:Program) (f:CT->TypeId->Bool):List Field->CT->Nat->Bool
  | [],_,_=>false
  | [fd],t,o=>f t fd.type&&Nat.beq fd.offset o&&Nat.beq (P.cellsOf fd.type) t.size
  | fd::g::r,.pair a b,o=>f a fd.type&&Nat.beq fd.offset o&&Nat.beq (P.cellsOf fd.type) a.size&&fieldsFit P f (g::r) b (o+a.size)
  | _,_,_=>false
def arrFit (P:Program) (f:CT->TypeId->Bool) (e:TypeId):Nat->CT->Bool
  | 0,_=>false
  | 1,t=>f t e&&Nat.beq (P.cellsOf e) t.size
  | n+2,.pair a b=>f a e&&Nat.beq (P.cellsOf e) a.size&&arrFit P f e (n+1) b
  | _,_=>false
def fitsT (P:Program):Nat->CT->TypeId->Bool
  | 0,_,_=>false
  | n+1,t,τ=>match P.underlying τ,t with
    | some (.int k),.int k'=>kEq k k'
    | some .bool,.bool=>true
    | some .string,.str=>true
    | some (.slice e),.sl u=>fitsT P n u e&&Nat.beq (P.cellsOf e) u.size
    | some (.struct fs),t=>fieldsFit P (fitsT P n) fs.toList t 0
    | some (.array k e),t=>arrFit P (fitsT P n) e k t
    | _,_=>false
section
variable {H:Type} {enc:TypeId×Value->H} {P:Program} {w:World} {base:Nat} {held:Bool}
theorem Rd_part {A:Nat->Prop} {t:CT} {cs:List Value} {o sz:Nat} {d:t.D} (hs:sz=t.size) (h:Rd A w t (fun j=>((cs.drop o).take sz)[j]?) 0 d):Rd A w t (fun j=>cs[j]?) o d:=by
  have:=Rd_shift h o
  rw [Nat.zero_add] at this
  refine Rd_mono (fun _ h=>h) (fun _ _ _=>rfl) t _ _ _ _ (fun j hj => ?_) this
  simp only [List.getElem?_take,Nat.add_sub_cancel_left]
  rw [if_pos (by omega),List.getElem?_drop]
theorem fieldsFit_rd {A:Nat->Prop} {f:CT->TypeId->Bool} {cs:List Value} {n:Nat}
    (hf:∀ t τ cs x,f t τ=true->DataW.trod enc P w base (fun _=>true) held n τ cs=some x→∃ d,Rd A w t (fun j=>cs[j]?) 0 d) :
    ∀ (fs:List Field) (t:CT) (o:Nat),fieldsFit P f fs t o=true->(∀ fd∈fs,∃ x,DataW.trod enc P w base (fun _=>true) held n fd.type ((cs.drop fd.offset).take (P.cellsOf fd.type))=some x)→∃ d,Rd A w t (fun j=>cs[j]?) o d
  | [],t,o,h,_=>by cases h
  | [fd],t,o,h,hx=>by
    simp only [fieldsFit,Bool.and_eq_true] at h
    obtain ⟨⟨h1,h2⟩,h3⟩:=h
    have h2:=Nat.eq_of_beq_eq_true h2
    have h3:=Nat.eq_of_beq_eq_true h3
    obtain ⟨x,hx⟩:=hx fd (by simp)
    obtain ⟨d,hd⟩:=hf t fd.type _ x h1 hx
    rw [h2] at hd
    exact ⟨d,Rd_part h3 hd⟩
  | fd::g::r,.pair a b,o,h,hx=>by
    simp only [fieldsFit,Bool.and_eq_true] at h
    obtain ⟨⟨⟨h1,h2⟩,h3⟩,h4⟩:=h
    have h2:=Nat.eq_of_beq_eq_true h2
    have h3:=Nat.eq_of_beq_eq_true h3
    obtain ⟨x,hx1⟩:=hx fd (by simp)
    obtain ⟨d,hd⟩:=hf a fd.type _ x h1 hx1
    rw [h2] at hd
    obtain ⟨d',hd'⟩:=fieldsFit_rd hf (g::r) b (o+a.size) h4 (fun fd' hm=>hx fd' (List.mem_cons_of_mem _ hm))
    exact ⟨(d,d'),Rd_part h3 hd,hd'⟩
  | _::_::_,.int _,_,h,_=>by cases h
  | _::_::_,.bool,_,h,_=>by cases h
  | _::_::_,.str,_,h,_=>by cases h
  | _::_::_,.sl _,_,h,_=>by cases h
theorem arrFit_rd {A:Nat->Prop} {f:CT->TypeId->Bool} {cs:List Value} {n:Nat} {e:TypeId}
    (hf:∀ t τ cs x,f t τ=true->DataW.trod enc P w base (fun _=>true) held n τ cs=some x→∃ d,Rd A w t (fun j=>cs[j]?) 0 d) :
    ∀ (k:Nat) (t:CT) (i:Nat),arrFit P f e k t=true->(∀ j,i<=j->j<i+k→∃ x,DataW.trod enc P w base (fun _=>true) held n e ((cs.drop (j*P.cellsOf e)).take (P.cellsOf e))=some x)→∃ d,Rd A w t (fun j=>cs[j]?) (i*P.cellsOf e) d
  | 0,t,i,h,_=>by cases h
  | 1,t,i,h,hx=>by
    simp only [arrFit,Bool.and_eq_true] at h
    obtain ⟨h1,h2⟩:=h
    have h2:=Nat.eq_of_beq_eq_true h2
    obtain ⟨x,hx⟩:=hx i (by omega) (by omega)
    obtain ⟨d,hd⟩:=hf t e _ x h1 hx
    exact ⟨d,Rd_part h2 hd⟩
  | k+2,.pair a b,i,h,hx=>by
    simp only [arrFit,Bool.and_eq_true] at h
    obtain ⟨⟨h1,h2⟩,h4⟩:=h
    have h2:=Nat.eq_of_beq_eq_true h2
    obtain ⟨x,hx1⟩:=hx i (by omega) (by omega)
    obtain ⟨d,hd⟩:=hf a e _ x h1 hx1
    obtain ⟨d',hd'⟩:=arrFit_rd hf (k+1) b (i+1) h4 (fun j h1 h2=>hx j (by omega) (by omega))
    refine ⟨(d,d'),Rd_part h2 hd,?_⟩
    rw [Nat.add_mul,Nat.one_mul] at hd'
    rw [← h2];exact hd'
  | _+2,.int _,_,h,_=>by cases h
  | _+2,.bool,_,h,_=>by cases h
  | _+2,.str,_,h,_=>by cases h
  | _+2,.sl _,_,h,_=>by cases h
theorem list_of {α:Type} (n:Nat) (p:Nat->α->Prop) (h:∀ i,i<n→∃ a,p i a):∃ l:List α,l.length=n∧∀ i (hi:i<l.length),p i l[i]:=by
  induction n with
  | zero=>exact ⟨[],rfl,fun i hi=>by simp at hi⟩
  | succ n ih =>
    obtain ⟨l,hl,hp⟩:=ih fun i hi=>h i (by omega)
    obtain ⟨a,ha⟩:=h n (by omega)
    refine ⟨l++[a],by simp [hl],fun i hi => ?_⟩
    by_cases hlt:i<l.length
    · rw [List.getElem_append_left hlt];exact hp i hlt
    · have:i=l.length:=by simp at hi;omega
      subst this
      simp only [List.getElem_concat_length]
      rw [hl];exact ha
theorem addr_add (b off n:Nat):(⟨b,off,none⟩:Addr).add n=⟨b,off+n,none⟩:=by
  unfold Addr.add
  split
  · rename_i h;subst h;rfl
  · rfl
theorem lit_has {k:IntKind} {n:Int} (h:(Lit.int k n).wf=true):k.has n:=by
  simp only [Lit.wf,Bool.and_eq_true,decide_eq_true_eq] at h;exact h
theorem trod_rd:∀ (n:Nat) (t:CT) (τ:TypeId) (fuel:Nat) (cs:List Value) (x:DataW H×List MemPlace),fitsT P n t τ=true->DataW.trod enc P w base (fun _=>true) held fuel τ cs=some x →
    ∃ d,Rd (fun b=>b<w.heap.size) w t (fun j=>cs[j]?) 0 d
  | 0,t,τ,fuel,cs,x,h,_=>by cases h
  | n+1,t,τ,fuel,cs,x,h,hx=>by
    unfold fitsT at h
    split at h
    · rename_i k k' hu
      cases kEq_eq h
      obtain ⟨m,rfl,_,hw⟩:=DataW.trod_int hu hx
      exact ⟨m,by simp,lit_has hw⟩
    · rename_i hu
      obtain ⟨b,rfl,_⟩:=DataW.trod_bool hu hx
      exact ⟨b,by simp [Rd]⟩
    · rename_i hu
      obtain ⟨s,rfl,_,hs⟩:=DataW.trod_string hu hx
      exact ⟨s,by simp,hs⟩
    · rename_i e u hu
      simp only [Bool.and_eq_true] at h
      obtain ⟨h1,h2⟩:=h
      have h2:=Nat.eq_of_beq_eq_true h2
      rcases DataW.trod_slice hu hx with ⟨rfl,_⟩|⟨a,len,cap,elems,rest,m,_,rfl,_,_,hl,hm,hlen,hel,hsp,_⟩
      · exact ⟨[],Rd_sl.2 ⟨_,rfl,by simp,.inl ⟨⟨_,rfl⟩,rfl⟩⟩⟩
      · have hcap:=(hsp rfl)
        by_cases h0:cap=0
        · have:len=0:=by omega
          subst this h0
          exact ⟨[],Rd_sl.2 ⟨_,rfl,by simp,.inl ⟨⟨_,rfl⟩,rfl⟩⟩⟩
        · -- the cells that are there
          have first:∃ v,w.cell? a=some v:=by
            have hb:∃ cs',w.cells? base (a.add 0) (P.cellsOf e)=some cs':=by
              by_cases hl0:0<len
              · have:=hel 0 hl0
                rw [Nat.zero_mul] at this
                have hs:∃ y,elems[0]? = some y:=⟨_,List.getElem?_eq_getElem (by omega)⟩
                obtain ⟨y,hy⟩:=hs
                rw [hy,Option.bind_eq_some_iff] at this
                obtain ⟨cs',hcs,_⟩:=this
                exact ⟨cs',hcs⟩
              · have:=hcap.2 0 (by omega)
                have hz:(len+0)*P.cellsOf e=0:=by
                  have:len=0:=by omega
                  subst this;simp
                rw [hz] at this
                have hs:∃ y,rest[0]? = some y:=⟨_,List.getElem?_eq_getElem (by omega)⟩
                obtain ⟨y,hy⟩:=hs
                rw [hy,Option.bind_eq_some_iff] at this
                obtain ⟨cs',hcs,_⟩:=this
                exact ⟨cs',hcs⟩
            obtain ⟨cs',hcs⟩:=hb
            obtain ⟨_,hl1,hl2⟩:=World.cells?_some hcs
            have hp:=u.size_pos
            have:=hl2 0 (by omega)
            refine ⟨cs'[0]'(by omega),?_⟩
            rw [List.getElem?_eq_getElem (by omega)] at this
            simpa [Addr.add] using this
          obtain ⟨v0,hv0⟩:=first
          have hspot:=World.cell?_spot hv0
          obtain ⟨b,off,spot⟩:=a
          simp only at hspot
          subst hspot
          have hlt:b<w.heap.size:=by
            unfold World.cell? at hv0
            simp only at hv0
            split at hv0
            · rename_i c E sp hb
              exact (Array.getElem?_eq_some_iff.1 hb).1
            · cases hv0
          obtain ⟨xs,hxl,hxp⟩:=list_of len (fun i d=>Rd (fun b=>b<w.heap.size) w u (fun o=>w.cell? ⟨b,o,none⟩) (off+i*u.size) d) fun i hi=>by
            have:=hel i hi
            rw [List.getElem?_eq_getElem (by omega),Option.bind_eq_some_iff] at this
            obtain ⟨cs',hcs,ht⟩:=this
            obtain ⟨_,hl1,hl2⟩:=World.cells?_some hcs
            obtain ⟨d,hd⟩:=trod_rd n u e _ cs' _ h1 ht
            refine ⟨d,?_⟩
            have:=Rd_shift hd (off+i*u.size)
            rw [Nat.zero_add] at this
            refine Rd_mono (fun _ h=>h) (fun _ _ _=>rfl) u _ _ _ _ (fun j hj => ?_) this
            have:=hl2 j (by omega)
            rw [addr_add,addr_add,h2] at this
            rw [Nat.add_sub_cancel_left,← this]
          subst hxl
          exact ⟨xs,Rd_sl.2 ⟨_,rfl,by omega,.inr ⟨b,off,cap,rfl,hl,hm,hlt,fun i hi=>hxp i hi⟩⟩⟩
    · rename_i t' fs hu
      obtain ⟨xs,m,_,_,hl,hlen,hf⟩:=DataW.trod_struct hu hx
      refine fieldsFit_rd (n:=m) (fun t τ cs x h1 h2=>trod_rd n t τ m cs x h1 h2) fs.toList _ 0 h fun fd hm => ?_
      obtain ⟨i,hi,rfl⟩:=List.mem_iff_getElem.1 hm
      have:=hf i fs[i] (Array.getElem?_eq_getElem (by simpa using hi))
      have hi':i<fs.size:=by simpa using hi
      rw [List.getElem?_eq_getElem (by omega)] at this
      exact ⟨_,by simpa using this⟩
    · rename_i t' k e hu
      obtain ⟨xs,m,_,_,hl,hlen,hf⟩:=DataW.trod_array hu hx
      have:=arrFit_rd (n:=m) (cs:=cs) (e:=e) (fun t τ cs x h1 h2=>trod_rd n t τ m cs x h1 h2) k _ 0 h fun j _ hj=>by
        have:=hf j (by omega)
        rw [List.getElem?_eq_getElem (by omega)] at this
        exact ⟨_,this⟩
      simpa using this
    · cases h
abbrev LPs:=List (Bool×CT)
def lawPs:LPs->List PK
  | []=>[]
  | (true,t)::r => .agg t::lawPs r
  | (false,t)::r => .val t::lawPs r
def lawB:(l:LPs)->BDs (lawPs l)
  | []=>()
  | (true,_)::r=>lawB r
  | (false,_)::r=>lawB r
def lawCt (l:LPs):Ct:=⟨lawPs l,[.val .bool],fun _=>[],fun _=>((true,()),lawB l)⟩
def isAggT (P:Program) (τ:TypeId):Bool:=match P.underlying τ with
  | some (.struct _)=>true
  | some (.array _ _)=>true
  | _=>false
def flatOne:CT->Bool
  | .pair _ _=>false
  | _=>true
def lawFits (P:Program):LPs->List TypeId->Bool
  | [],[]=>true
  | (b,t)::r,τ::τs=>(match b,isAggT P τ with|true,true=>true|false,false=>flatOne t|_,_=>false)&&fitsT P 12 t τ&&Nat.beq (P.cellsOf τ) t.size&&lawFits P r τs
  | _,_=>false
theorem okWide_agg {r:Reach} {b0:Nat} {τ:TypeId} {v:Value} (h:isAggT P τ=true) (hv:Value.okWide P w r b0 τ v):∃ vs,v = .agg vs/\vs.size=P.cellsOf τ:=by
  unfold isAggT at h
  unfold Value.okWide at hv
  split at h
  · rename_i fs hu;rw [hu] at hv;obtain ⟨cs,h1,h2,_⟩:=hv;exact ⟨cs,h1,h2⟩
  · rename_i fs hu;rw [hu] at hv;obtain ⟨cs,h1,h2,_⟩:=hv;exact ⟨cs,h1,h2⟩
  · cases h
theorem okWide_bool1 {r:Reach} {b0:Nat} {τ:TypeId} {v:Value} (ht:P.underlying τ=some .bool) (h:Value.okWide P w r b0 τ v):∃ b,v = .bool b:=by
  simp only [Value.okWide,ht,Cell.okWide] at h
  cases v <;> simp_all [Cell.ok]
theorem okWide_one {r:Reach} {b0:Nat} {n:Nat} {t:CT} {τ:TypeId} {v:Value} (hf:flatOne t=true) (hq:isAggT P τ=false) (h:fitsT P n t τ=true) (hv:Value.okWide P w r b0 τ v):v.cells = #[v]:=by
  cases n with
  | zero=>cases h
  | succ n =>
    unfold fitsT at h
    split at h
    · rename_i k k' hu;obtain ⟨m,rfl⟩:=okWide_int hu hv;rfl
    · rename_i hu;obtain ⟨m,rfl⟩:=okWide_bool1 hu hv;rfl
    · rename_i hu;obtain ⟨m,rfl⟩:=okWide_string hu hv;rfl
    · rename_i e u hu;obtain ⟨a,l,c,rfl⟩:=okWide_slice hu hv;rfl
    · rename_i t' fs hu;unfold isAggT at hq;rw [hu] at hq;cases hq
    · rename_i t' k e hu;unfold isAggT at hq;rw [hu] at hq;cases hq
    · cases h
theorem kEq_refl (k:IntKind):kEq k k=true:=by cases k <;> rfl
theorem castL_refl {t:CT} {xs:List t.D}:castL t t xs=some xs:=by unfold castL;rw [dif_pos rfl]
theorem projC_flat {h:Heap}:∀ (t:CT) (d:t.D) (rest:List SV),(projC t (flat t d++rest)).run h=some ((d,rest,[]),[])
  | .int k,d,rest=>by simp only [flat,List.cons_append,List.nil_append,projC,kEq_refl];rfl
  | .bool,d,rest=>rfl
  | .str,d,rest=>rfl
  | .sl t,d,rest=>by simp only [flat,List.cons_append,List.nil_append,projC,castL_refl];rfl
  | .pair a b,d,rest=>by
    have bindrun:∀ {α β:Type} (q:Q α) (f:α->Q β) (x:α) (y:β),q.run h=some (x,[])->(f x).run h=some (y,[])->(q.bind f).run h=some (y,[]):=by
      intro α β q
      induction q with
      | ret a=>intro f x y h1 h2;simp only [Q.run,Option.some.injEq,Prod.mk.injEq] at h1;rw [← h1.1] at h2;exact h2
      | ask n k ih =>
        intro f x y h1 h2
        simp only [Q.run] at h1
        split at h1
        · simp only [Option.some.injEq,Prod.mk.injEq] at h1
          exact absurd h1.2 (by simp)
        · cases h1
      | fail=>intro f x y h1 h2;cases h1
    simp only [flat,List.append_assoc,projC]
    refine bindrun _ _ _ _ (projC_flat a d.1 (flat b d.2++rest)) ?_
    exact bindrun _ _ _ _ (projC_flat b d.2 rest) rfl
theorem Q.bind_run0 {h:Heap} {α:Type u} {β:Type v} (q:Q α) (f:α->Q β) (x:α) (y:β) (h1:q.run h=some (x,[])) (h2:(f x).run h=some (y,[])):(q.bind f).run h=some (y,[]):=by
  cases q with
  | ret a=>simp only [Q.run,Option.some.injEq,Prod.mk.injEq] at h1;rw [← h1.1] at h2;exact h2
  | ask n k =>
    simp only [Q.run] at h1
    split at h1
    · simp only [Option.some.injEq,Prod.mk.injEq] at h1
      exact absurd h1.2 (by simp)
    · cases h1
  | fail=>cases h1
theorem val1_flat {t:CT} (hf:flatOne t=true) (d:t.D):flat t d=[val1 t d]:=by
  cases t <;> first|rfl|cases hf
def lpsOk:LPs->Bool
  | []=>true
  | (b,t)::r=>(b||flatOne t)&&lpsOk r
theorem match_law {h:Heap}:∀ (l:LPs) (d:PDs (lawPs l)),lpsOk l=true->(matchArgs none (lawPs l) (argsOf (lawPs l) d 0 0)).run h=some ((d,[],[],[]),[])
  | [],d,_=>rfl
  | (true,t)::r,d,hok=>by
    simp only [lpsOk,Bool.and_eq_true] at hok
    simp only [lawPs,argsOf,matchArgs]
    refine Q.bind_run0 _ _ _ _ (by have:=projC_flat (h:=h) t d.1 [];rw [List.append_nil] at this;exact this) ?_
    exact Q.bind_run0 _ _ _ _ (match_law r d.2 hok.2) rfl
  | (false,t)::r,d,hok=>by
    simp only [lpsOk,Bool.and_eq_true,Bool.false_or] at hok
    simp only [lawPs,argsOf,matchArgs]
    refine Q.bind_run0 _ _ _ _ (by have:=projC_flat (h:=h) t d.1 [];rw [List.append_nil,val1_flat hok.1] at this;exact this) ?_
    exact Q.bind_run0 _ _ _ _ (match_law r d.2 hok.2) rfl
theorem law_args {r:Reach} {b0:Nat}:∀ (l:LPs) (τs:List TypeId) (vs:List Value) (ds:List (DataW H)) (ps:List MemPlace),lawFits P l τs=true->DataW.TrodAll enc P w base (fun _=>true) held τs vs ds ps →
    (∀ (j:Nat) t v,τs[j]? = some t->vs[j]? = some v->Value.okWide P w r b0 t v)->lpsOk l=true∧∃ d:PDs (lawPs l),DenL (fun b=>b<w.heap.size) (fun _ => .un) w (argsOf (lawPs l) d 0 0) vs
  | [],[],vs,ds,ps,h,ht,hv=>by
    obtain ⟨rfl,_,_⟩:=trodAll_nil ht
    exact ⟨rfl,(),by simp [lawPs,argsOf,DenL]⟩
  | (b,t)::l,τ::τs,vs,ds,ps,h,ht,hv=>by
    obtain ⟨v,vs',d,ds',p,q,rfl,rfl,rfl,h0,hr⟩:=trodAll_cons ht
    simp only [lawFits,Bool.and_eq_true] at h
    obtain ⟨⟨⟨h1,h2⟩,h3⟩,h4⟩:=h
    have h3:=Nat.eq_of_beq_eq_true h3
    obtain ⟨g1,d2,g2⟩:=law_args l τs vs' ds' q h4 hr (fun j t v ht hv'=>hv (j+1) t v (by simpa using ht) (by simpa using hv'))
    have hv0:=hv 0 τ v rfl rfl
    obtain ⟨fuel,hf⟩:=h0
    obtain ⟨d1,hd1⟩:=trod_rd 12 t τ fuel _ _ h2 hf
    cases b with
    | true =>
      have hag:isAggT P τ=true:=by
        cases hq:isAggT P τ with
        | true=>rfl
        | false=>rw [hq] at h1;cases h1
      obtain ⟨us,rfl,hus⟩:=okWide_agg hag hv0
      refine ⟨by simp [lpsOk,g1],(d1,d2),?_⟩
      simp only [lawPs,argsOf,DenL,Den]
      refine ⟨_,vs',rfl,⟨us,rfl,den_flatL (by simpa using hus.trans h3) (by simpa [Value.cells] using hd1)⟩,g2⟩
    | false =>
      have hq:isAggT P τ=false:=by
        cases hq:isAggT P τ with
        | true=>rw [hq] at h1;cases h1
        | false=>rfl
      rw [hq] at h1
      simp only at h1
      refine ⟨by simp [lpsOk,g1,h1],(d1,d2),?_⟩
      simp only [lawPs,argsOf,DenL]
      have hc:=okWide_one h1 hq h2 hv0
      rw [hc] at hd1
      exact ⟨v,vs',rfl,den_flat1 (rest:=[]) (by simpa using hd1),g2⟩
  | [],_::_,_,_,_,h,_,_=>by cases h
  | _::_,[],_,_,_,h,_,_=>by cases h
def GlobsOK (w:World) (G:Globs):Prop:=∀ g x,G g=some x->g<w.heap.size/\Rd (fun b=>b<w.heap.size) w x.1 (fun o=>w.cell? ⟨g,o,none⟩) 0 x.2
theorem law_walkG {G:Globs} (hG:GlobsOK w G) {f:FuncId} {l:LPs} (ok:SpecOK P G f (lawCt l).spec) {r:Reach} {b0:Nat} {τs:List TypeId} {args:Array Value} {ds:List (DataW H)} {ps:List MemPlace} (hl:lawFits P l τs=true)
    (ht:DataW.TrodAll enc P w base (fun _=>true) held τs args.toList ds ps) (hv:∀ (j:Nat) t v,τs.toArray[j]? = some t->args[j]? = some v->Value.okWide P w r b0 t v) :
    Calls P f args w fun e w'=>e = .returned (.bool true)/\Below w.heap.size w w':=by
  obtain ⟨hok,d,hd⟩:=law_args l τs args.toList ds ps hl ht (fun j t v h1 h2=>hv j t v (by simpa using h1) (by simpa using h2))
  have hkeep:keepF (lawPs l) [.val .bool]=false:=by
    have:∀ l:LPs,psPlain (lawPs l)=true:=by
      intro l
      induction l with
      | nil=>rfl
      | cons x l ih=>obtain ⟨b,t⟩:=x;cases b <;> exact ih
    simp only [keepF,this,rsPlain,CT.plain,Bool.and_self,Bool.not_true]
  have hbU:∀ nb,boxU 0 (lawPs l) (lawB l) [] nb=[]:=by
    intro nb
    induction l with
    | nil=>rfl
    | cons x l ih =>
      obtain ⟨b,t⟩:=x
      have:∀ l:LPs,boxU 0 (lawPs l) (lawB l) [] nb=[]:=by
        intro l
        induction l with
        | nil=>rfl
        | cons x l ih=>obtain ⟨b,t⟩:=x;cases b <;> exact ih
      cases b <;> exact this l
  have hnU:∀ (l:LPs) nb,newU (lawPs l) (lawB l) nb=[]:=by
    intro l nb
    induction l with
    | nil=>rfl
    | cons x l ih=>obtain ⟨b,t⟩:=x;cases b <;> exact ih
  have hnB:∀ (l:LPs),nOwnB (lawPs l)=0:=by
    intro l
    induction l with
    | nil=>rfl
    | cons x l ih=>obtain ⟨b,t⟩:=x;cases b <;> exact ih
  have hrun:((lawCt l).spec 0 (argsOf (lawPs l) d 0 0)).run (fun _ => .un)=some (Dl.det [] (.bool true) [],[]):=by
    unfold Ct.spec
    refine Q.bind_run0 _ _ _ _ (match_law l d hok) ?_
    simp only [namesOk,somes,List.append_nil,nodupN,disjN,lawCt,retU,hkeep,hbU,hnU,hnB,deadU,resH,resSV,resV,val1,flat,nOwn,askUn,List.headD_nil]
    rfl
  have m:Mod w ⟨fun _=>False,fun b=>b<w.heap.size,G⟩ (fun b=>b<w.heap.size) (fun _ => .un) (fun _ => .un) w :=
    ⟨rfl,rfl,rfl,Nat.le_refl _,fun _ _ _=>rfl,fun _ h=>h,fun _=>rfl,fun _ _ _ _ h=>(by cases h),fun _ _ _ _ _ _ _ h=>(by cases h),fun b hb => .inl hb,hG⟩
  have:=ok 0 (argsOf (lawPs l) d 0 0) (fun _ => .un) _ _ hrun trivial w _ _ _ w args.toList rfl m hd
  refine Calls.mono this ?_
  rintro e w' ⟨v,rfl,x,A',env',_,hm,_,hden⟩
  simp only [Dl.val,Den] at hden
  exact ⟨by rw [hden],hm.os,hm.tape,hm.output,hm.size,fun k hk=>hm.fr k hk (fun h=>h)⟩
theorem law_walk {f:FuncId} {l:LPs} (ok:SpecOK P (fun _=>none) f (lawCt l).spec) {r:Reach} {b0:Nat} {τs:List TypeId} {args:Array Value} {ds:List (DataW H)} {ps:List MemPlace} (hl:lawFits P l τs=true)
    (ht:DataW.TrodAll enc P w base (fun _=>true) held τs args.toList ds ps) (hv:∀ (j:Nat) t v,τs.toArray[j]? = some t->args[j]? = some v->Value.okWide P w r b0 t v) :
    Calls P f args w fun e w'=>e = .returned (.bool true)/\Below w.heap.size w w':=law_walkG (fun g x h=>by cases h) ok hl ht hv
def tysOk (P:Program):List TypeId->Bool
  | []=>true
  | t::r=>P.readableRec t&&decide (t<P.types.size)&&tysOk P r
theorem trodAll_below (hl:laidOutB P=true):∀ {τs:List TypeId} {vs:List Value} {ds:List (DataW H)} {ps:List MemPlace} {w':World},tysOk P τs=true →
    DataW.TrodAll enc P w 0 (fun _=>true) true τs vs ds ps->Below w.heap.size w w'→DataW.TrodAll enc P w' 0 (fun b=>decide (b<w.heap.size)) true τs vs ds ps
  | [],vs,ds,ps,w',_,h,hb=>by
    obtain ⟨rfl,rfl,rfl⟩:=trodAll_nil h
    exact trodAll_mk0
  | τ::τs,vs,ds,ps,w',hr,h,hb=>by
    obtain ⟨v,vs',d,ds',p,q,rfl,rfl,rfl,h0,hr'⟩:=trodAll_cons h
    simp only [tysOk,Bool.and_eq_true,decide_eq_true_eq] at hr
    have lt:∀ x∈p,x.block<w.heap.size:=by
      obtain ⟨m,hm⟩:=h0
      exact DataW.trod_lt m _ _ _ hm
    exact trodAll_cons_mk (Below.trod hl hr.1.1 hr.1.2 h0 hb lt) (trodAll_below hl hr.2 hr' hb)
end
end Go.SX

/- SX, part 24: what is to be shown of a function, under one name. -/
namespace Go.SX
set_option linter.unusedVariables false
def bodyOf (fn:Func):Code:=match fn.body with
  | some c=>c
  | none => .skip
def Ct.vc (P:Program) (sp:Specs) (c:Ct) (fn:Func) (an:PDs c.ps->Anns):Prop :=
  allP c.ps fun d=>wfP c.ps d->conjE (c.pre d)->forceSt (startSt c.ps d fn.ntmps) (sx P sp (an d) (bodyOf fn) (retG P c.ps c.rs fn.results.toList fun y=>conjE (eqRs c.rs y.1 (c.out d).1++eqBs c.ps y.2 (c.out d).2)))
structure Hide (p:Prop):Prop where
  out:p
theorem hideMp {p q:Prop} (h:p=q) (v:q):Hide p:=⟨Eq.mpr h v⟩
theorem Ct.okH {P:Program} {sp:Specs} (c:Ct) {f:FuncId} {fn:Func} (hf:P.funcs[f]? = some fn) (hb:fn.body=some (bodyOf fn)) (hs:SpecsOK P sp) (hmix:P.follows .mixedOrders=true) (an:PDs c.ps->Anns)
    (vc:Hide (Ct.vc P sp c fn an)):SpecOK P sp.gl f c.spec:=c.ok hf hb hs hmix an vc.out
def Cn.vc (P:Program) (sp:Specs) (c:Cn) (fn:Func) (an:PDs c.ps->Anns):Prop :=
  allP c.ps fun d=>wfP c.ps d->conjE (c.pre d)->forceSt (startSt c.ps d fn.ntmps) (sx P sp (an d) (bodyOf fn) (retG P c.ps c.rs fn.results.toList (c.post d)))
theorem Cn.okH {P:Program} {sp:Specs} (c:Cn) {f:FuncId} {fn:Func} (hf:P.funcs[f]? = some fn) (hb:fn.body=some (bodyOf fn)) (hs:SpecsOK P sp) (hmix:P.follows .mixedOrders=true) (an:PDs c.ps->Anns)
    (vc:Hide (Cn.vc P sp c fn an)):SpecOK P sp.gl f c.spec:=c.ok hf hb hs hmix an vc.out
def noSpecs (G:Globs):Specs:=⟨fun _=>none,G⟩
theorem noSpecs_ok {P:Program} {G:Globs}:SpecsOK P (noSpecs G):=fun f s h=>by cases h
def withSpec (sp:Specs) (f:FuncId) (s:Spec):Specs:=⟨fun g=>match Nat.beq g f with
  | true=>some s
  | false=>sp.fn g,sp.gl⟩
theorem withSpec_ok {P:Program} {sp:Specs} {f:FuncId} {s:Spec} (h:SpecsOK P sp) (hs:SpecOK P sp.gl f s):SpecsOK P (withSpec sp f s):=fun g t e=>by
  unfold withSpec at e
  simp only at e
  split at e
  · rename_i hb;cases e;rw [Nat.eq_of_beq_eq_true hb];exact hs
  · exact h g t e
def withOwn (sp:Specs) (d:Nat):Specs:=withSpec sp (4000000000+d) fun _ _ => .fail
theorem withOwn_ok {P:Program} {sp:Specs} {d:Nat} (h:SpecsOK P sp):SpecsOK P (withOwn sp d):=withSpec_ok h fun _ _ _ _ _ e=>by cases e
def withConc (sp:Specs) (d:Nat):Specs:=withSpec sp (4100000000+d) fun _ _ => .fail
theorem withConc_ok {P:Program} {sp:Specs} {d:Nat} (h:SpecsOK P sp):SpecsOK P (withConc sp d):=withSpec_ok h fun _ _ _ _ _ e=>by cases e
theorem ifP_iff {b:Bool} {y n:Prop}:ifP b y n↔(b=true->y)/\(b=false->n):=by cases b <;> simp [ifP]
end Go.SX

/- SX, plain lemmas for what is to be shown of functions. -/
namespace Go.SX
set_option linter.unusedVariables false
theorem w64 {n:Int} (h : -9223372036854775808<=n) (h':n<=9223372036854775807):IntKind.i64.wrap n=n:=IntWalk.i64_in n ⟨h,h'⟩
theorem wu8 {n:Int} (h:0<=n) (h':n<=255):IntKind.u8.wrap n=n:=IntWalk.u8_in n ⟨h,h'⟩
theorem wu32 {n:Int} (h:0<=n) (h':n<=4294967295):IntKind.u32.wrap n=n:=IntWalk.u32_in n ⟨h,h'⟩
theorem wu64 {n:Int} (h:0<=n) (h':n<=18446744073709551615):IntKind.u64.wrap n=n:=IntWalk.u64_in n ⟨h,h'⟩
theorem ifP_t {y n:Prop}:ifP true y n↔y:=Iff.rfl
theorem ifP_f {y n:Prop}:ifP false y n↔n:=Iff.rfl
theorem getD_mem {α:Type} [Inhabited α] {xs:List α} {i:Int} (h0:0<=i) (h1:i<xs.length):xs.getD i.toNat default∈xs:=by
  have h:i.toNat<xs.length:=by omega
  rw [List.getD_eq_getElem?_getD,List.getElem?_eq_getElem h];exact List.getElem_mem h
theorem tmod_lo {a b:Int} (ha:0<=a):0<=a.tmod b:=Int.tmod_nonneg b ha
theorem tmod_hi {a b:Int} (ha:0<=a) (hb:0<b):a.tmod b<b:=Int.tmod_lt_of_pos a hb
theorem ifP_split {b:Bool} {y n:Prop} (hy:b=true->y) (hn:b=false->n):ifP b y n:=ifP_iff.2 ⟨hy,hn⟩
theorem ri64 (n:Int) : -9223372036854775808<=IntKind.i64.wrap n/\IntKind.i64.wrap n<=9223372036854775807:=IntKind.wrap_has .i64 n
theorem ru32 (n:Int):0<=IntKind.u32.wrap n/\IntKind.u32.wrap n<=4294967295:=IntKind.wrap_has .u32 n
theorem getD_all {α:Type} [Inhabited α] {p:α->Prop} {xs:List α} (h:∀ x∈xs,p x) {i:Int} (h0:0<=i) (h1:i<xs.length):p (xs.getD i.toNat default):=h _ (getD_mem h0 h1)
theorem nd_t {p:Prop} [Decidable p] (h:(!decide p)=true):¬ p:=of_decide_eq_false (by simpa only [Bool.not_eq_true'] using h)
theorem nd_f {p:Prop} [Decidable p] (h:(!decide p)=false):p:=of_decide_eq_true (by simpa only [Bool.not_eq_false'] using h)
theorem ifP_or {a b:Bool} {y n:Prop} (hy:a=true∨b=true->y) (hn:a=false->b=false->n):ifP (bif a then true else b) y n:=by
  cases a with
  | true=>exact hy (.inl rfl)
  | false=>cases b with
    | true=>exact hy (.inr rfl)
    | false=>exact hn rfl rfl
theorem ifP_and {a b:Bool} {y n:Prop} (hy:a=true->b=true->y) (hn:a=false∨b=false->n):ifP (bif a then b else false) y n:=by
  cases a with
  | false=>exact hn (.inl rfl)
  | true=>cases b with
    | true=>exact hy rfl rfl
    | false=>exact hn (.inr rfl)
theorem getD_set {α:Type} [Inhabited α] {l:List α} {i:Nat} {a:α} (h:i<l.length):(l.set i a).getD i default=a:=by
  rw [List.getD_eq_getElem?_getD,List.getElem?_set_self h];rfl
theorem findI_at {α:Type} [Inhabited α] {q:α->Bool} {l:List α} {j:Int} (h0:0<=j) (h1:j<l.length) (h2:∀ x∈l.take j.toNat,q x=false) (h3:q (l.getD j.toNat default)=true) :
    j=if l.findIdx q<l.length then (l.findIdx q:Int) else -1:=by
  have hj:j.toNat<l.length:=by omega
  rw [List.getD_eq_getElem?_getD,List.getElem?_eq_getElem hj,Option.getD_some] at h3
  have e:l.findIdx q=j.toNat:=(List.findIdx_eq hj).2 ⟨h3,fun k hk=>h2 _ (List.mem_take_iff_getElem.2 ⟨k,by omega,rfl⟩)⟩
  rw [e,if_pos hj];omega
theorem findI_none {α:Type} [Inhabited α] {q:α->Bool} {l:List α} {j:Int} (h1:¬ j<l.length) (h2:∀ x∈l.take j.toNat,q x=false) :
    (-1:Int)=if l.findIdx q<l.length then (l.findIdx q:Int) else -1:=by
  rw [List.take_of_length_le (by omega)] at h2
  rw [List.findIdx_eq_length_of_false h2,if_neg (Nat.lt_irrefl _)]
theorem all_next {α:Type} [Inhabited α] {P:α->Prop} {l:List α} {j:Int} (h0:0<=j) (h1:j<l.length) (h2:∀ x∈l.take j.toNat,P x) (h3:P (l.getD j.toNat default)) :
    ∀ x∈l.take (j+1).toNat,P x:=by
  intro x hx
  have hj:j.toNat<l.length:=by omega
  rw [show (j+1).toNat=j.toNat+1 by omega,List.take_add_one,List.getElem?_eq_getElem hj] at hx
  rw [List.getD_eq_getElem?_getD,List.getElem?_eq_getElem hj,Option.getD_some] at h3
  rcases List.mem_append.1 hx with hx|hx
  · exact h2 x hx
  · simp at hx;rw [hx];exact h3
theorem take_next {α:Type} [Inhabited α] {l:List α} {k:Int} (h0:0<=k) (h1:k<l.length):l.take (k+1).toNat=l.take k.toNat++[l.getD k.toNat default]:=by
  have e:(k+1).toNat=k.toNat+1:=by omega
  have hk:k.toNat<l.length:=by omega
  rw [e,List.take_add_one,List.getElem?_eq_getElem hk,List.getD_eq_getElem?_getD,List.getElem?_eq_getElem hk]
  rfl
theorem bor_d {a b:Prop} [Decidable a] [Decidable b]:(bif decide a then true else decide b)=decide (a∨b):=by by_cases h:a <;> simp [h]
theorem band_d {a b:Prop} [Decidable a] [Decidable b]:(bif decide a then decide b else false)=decide (a/\b):=by by_cases h:a <;> simp [h]
theorem band_nn {a b:Prop} [Decidable a] [Decidable b]:(bif !decide a then !decide b else false)=decide (¬ a∧¬ b):=by by_cases h:a <;> simp [h]
theorem band_dn {a b:Prop} [Decidable a] [Decidable b]:(bif decide a then !decide b else false)=decide (a∧¬ b):=by by_cases h:a <;> simp [h]
theorem not_d {a:Prop} [Decidable a]:(!decide a)=decide (¬ a):=by by_cases h:a <;> simp [h]
end Go.SX

/- Base: data types of the program's values. -/
namespace Go.RS
open Go.SX Go.Proofs
set_option maxRecDepth 100000
set_option linter.unusedVariables false
abbrev R64 (x:Int):Prop := -9223372036854775808<=x/\x<=9223372036854775807
abbrev cBlock:CT := .pair (.pair (.int .u32) (.int .i64)) (.int .i64)
abbrev cBlocks:CT := .pair cBlock (.pair cBlock (.pair cBlock (.pair cBlock (.pair cBlock (.pair cBlock (.pair cBlock cBlock))))))
def blocksV:cBlocks.D:=(((0,8),1),((2130706432,8),2),((167772160,8),3),((2886729728,12),3),((3232235520,16),3),((2851995648,16),4),((3758096384,4),5),((4026531840,4),6))
def GL:Globs:=(fun n=>match n with|0=>some ⟨cBlocks,blocksV⟩|_=>none)
theorem hmix:Tryz.prog.follows .mixedOrders=true:=Tryz.checked.mixed
abbrev cI:CT := .int .i64
abbrev cU8:CT := .int .u8
abbrev cU32:CT := .int .u32
abbrev cU64:CT := .int .u64
abbrev cCodes:CT := .pair (.sl cU8) cI
abbrev cBucket:CT := .pair cI cI
abbrev cTokens:CT := .pair cI cI
abbrev cKey:CT := .pair cU32 (.pair cU32 (.pair cI (.pair cI cI)))
def okC (c:List Int×Int):Prop:=0<=c.2/\c.2<=c.1.length
end Go.RS
