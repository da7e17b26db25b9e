/- Short terms for proofs that a tactic finds. -/
import Derived.KernelRfl
import Derived.WalkKit
import Derived.LoopTactic
import Derived.Deep.LoopGhost
import Derived.Deep.MidRow
import Derived.Laws.Entries
import Derived.Laws.StructEq
set_option linter.unusedVariables false
open List (take replicate range drop)
namespace Go.SX
theorem ab{p:Prop}(h:p:=by omega):p:=h
theorem aA{p:Prop}(h:p:=by simp):p:=h
theorem aY0{p:Prop}(h:p:=by kernel_rfl):p:=h
theorem bt{p:Prop}(h:p:=by decide):p:=h
theorem bv:True:=trivial
theorem aI:∀{p:Prop} [Decidable p],decide p=true->p:=@of_decide_eq_true
theorem aL:∀{p:Prop} [Decidable p],decide p=false->¬p:=@of_decide_eq_false
theorem af:∀{c:Prop}{h:Decidable c},¬c->∀{α:Sort _}{t e:α},(if c then t else e)=e:=@if_neg
theorem bJ:∀ {α} {l:List α} {i:Nat} {a:α},l.getD i a=l[i]?.getD a:=@List.getD_eq_getElem?_getD
theorem am:∀{c:Prop}{h:Decidable c},c->∀{α:Sort _}{t e:α},(if c then t else e)=t:=@if_pos
theorem bG:∀{n m:Nat},n.beq m=true->n=m:=@Nat.eq_of_beq_eq_true
theorem bq:∀ {α} (val val_1:α),(some val=some val_1)=(val=val_1):=@Option.some.injEq
theorem cK:∀ {α} {l:List α} {i:Nat} (h:i<l.length),l[i]? = some l[i]:=@List.getElem?_eq_getElem
theorem br:∀ {α} {β} (fst:α) (snd:β) (fst_1:α) (snd_1:β),((fst,snd)=(fst_1,snd_1))=(fst=fst_1/\snd=snd_1):=@Prod.mk.injEq
theorem cA:∀ {α} {as bs:List α},(as++bs).length=as.length+bs.length:=@List.length_append
theorem fe:∀ {α} {i:Nat} {l:List α},l.length<=i->take i l=l:=@List.take_of_length_le
theorem gc:∀ {α} {a:α},[a].length=1:=@List.length_singleton
theorem dN:∀ {α} {a:α} {as:List α},(a::as).length=as.length+1:=@List.length_cons
theorem fj:∀{p:Prop},(¬p->False)->p:=@Classical.byContradiction
theorem dA:∀ {α} {i:Nat} {l:List α},(take i l).length=min i l.length:=@List.length_take
theorem dE:∀{α:Sort _}(b:Bool)(t e:α),(bif b then t else e)=if b=true then t else e:=@Bool.cond_eq_ite
theorem dM:∀(a b:Bool),((a&&b)=true)=(a=true/\b=true):=@Bool.and_eq_true
theorem fM:∀ {α} (y:α) {a:α} {l:List α},a∈l->a∈y::l:=@List.mem_cons_of_mem
theorem dP:∀{p:Prop} [Decidable p],¬p->decide p=false:=@decide_eq_false
theorem fy:∀ {α} {i:Nat} {l:List α},(drop i l).length=l.length-i:=@List.length_drop
theorem fY:∀ {α} {a:α} {l:List α},a∈a::l:=@List.mem_cons_self
theorem ga:∀ {α} {xs:Array α},xs.toList.length=xs.size:=@Array.length_toList
theorem gu:∀ {α} {a:α} {as:List α} (bs:List α),a∈as->a∈as++bs:=@List.mem_append_left
theorem f9:∀ {α} {a b:α},(some a).getD b=a:=@Option.getD_some
theorem cM:∀{p:Prop} [Decidable p],p->decide p=true:=@decide_eq_true
theorem kw:∀ {α} {l₁ l₂:List α} {i:Nat},l₁.length<=i->(l₁++l₂)[i]? = l₂[i-l₁.length]? := @List.getElem?_append_right
theorem jd:∀ {α} {b:α} (as:List α) {bs:List α},b∈bs->b∈as++bs:=@List.mem_append_right
theorem gC:∀ {α} {as:List α} {i:Nat} {a:α},(as.set i a).length=as.length:=@List.length_set
theorem lF:∀ {α} {l₁ l₂:List α} {i:Nat},i<l₁.length->(l₁++l₂)[i]? = l₁[i]? := @List.getElem?_append_left
theorem oV:∀ {α} {l:List α},l.length=0->l=[]:=@List.eq_nil_of_length_eq_zero
theorem lu:∀(n m:Nat),n+m-n=m:=@Nat.add_sub_cancel_left
theorem iL:∀ {α} (as bs cs:List α),as++bs++cs=as++(bs++cs):=@List.append_assoc
theorem fF:∀ {α} {β} {f:α->β} {a:α} {l:List α},List.map f (a::l)=f a::List.map f l:=@List.map_cons
theorem lK:∀ {α} {xs:Array α} {i:Nat},xs.toList[i]? = xs[i]? := @Array.getElem?_toList
theorem kO:∀{n m:Nat},n.ble m=true->n<=m:=@Nat.le_of_ble_eq_true
theorem ir:∀(n:Nat),n<=n:=@Nat.le_refl
theorem mh:∀{p:Prop} [Decidable p],(decide p=true)=p:=@decide_eq_true_eq
theorem gh:∀(n:Nat),0+n=n:=@Nat.zero_add
theorem gN:∀(n m k:Nat),n+m+k=n+(m+k):=@Nat.add_assoc
theorem fS:∀(n m k:Nat),(n+m)*k=n*k+m*k:=@Nat.add_mul
theorem ng:∀ {α} (i:Nat) (l:List α),take i l++drop i l=l:=@List.take_append_drop
theorem mM:∀{n m:Nat}(k:Nat),n<=m->n*k<=m*k:=@Nat.mul_le_mul_right
theorem iD:∀ {α} {β} {f:β->α->β} {b:β} {l l':List α},List.foldl f b (l++l')=List.foldl f (List.foldl f b l) l':=@List.foldl_append
theorem pE:∀{a:Int},0<=a->∃ (n:Nat),a=↑n:=@Int.eq_ofNat_of_zero_le
theorem mF:∀ {α} {a:α} {as bs:List α},a::as++bs=a::(as++bs):=@List.cons_append
theorem qJ:∀ {α} {xs:Array α} {i:Nat} {d:α},xs.getD i d=xs[i]?.getD d:=@Array.getD_eq_getD_getElem?
theorem sD:∀ {α} {p:α->Bool} {l:List α},List.takeWhile p l++List.dropWhile p l=l:=@List.takeWhile_append_dropWhile
theorem ip:∀(n:Nat),n+0=n:=@Nat.add_zero
theorem jx:∀ {α} (as:List α),as++[]=as:=@List.append_nil
theorem yf:∀ {α} {i:Nat} {l:List α} (h:i<l.length),take (i+1) l=take i l++[l[i]]:=@List.take_succ_eq_append_getElem
theorem om:∀{p:Prop} [Decidable p],decide p=true↔p:=@decide_eq_true_iff
theorem lG:∀ {α} {β} {f:α->β} {l₁ l₂:List α},List.map f (l₁++l₂)=List.map f l₁++List.map f l₂:=@List.map_append
theorem fZ:∀(a:Int),a<=a:=@Int.le_refl
theorem oP:∀ {α} {i:Nat} {a:α} {l:List α},a∈take i l->a∈l:=@List.mem_of_mem_take
theorem pb:∀ {α} {l:List α} {i:Nat} {a:α},l[i]? = some a->a∈l:=@List.mem_of_getElem?
theorem qi:∀ {α} {l:List α} {i j:Nat},(take i l)[j]? = if j<i then l[j]? else none:=@List.getElem?_take
theorem sm:∀ {α} {i:Nat} {l:List α} (h:i<l.length),drop i l=l[i]::drop (i+1) l:=@List.drop_eq_getElem_cons
theorem pn:∀{p:Prop}{x:Decidable p},decide p=false↔¬p:=@decide_eq_false_iff_not
theorem nj:∀{n:Nat},range n.succ=range n++[n]:=@List.range_succ
theorem uh:∀ {α} {n:Nat} {a:α},(replicate n a).length=n:=@List.length_replicate
theorem rP:∀(b:Bool),((!b)=true)=(b=false):=@Bool.not_eq_true'
theorem pV:∀ {α} {xs:List α} {i j:Nat},(drop i xs)[j]? = xs[i+j]? := @List.getElem?_drop
theorem kr:∀(n:Nat),1*n=n:=@Nat.one_mul
theorem Gi:∀{a b:Int},0<=a->a.tmod b=a%b:=@Int.tmod_eq_emod_of_nonneg
theorem qx:∀ {α} {p:α->Bool} (l₁ l₂:List α),List.filter p (l₁++l₂)=List.filter p l₁++List.filter p l₂:=@List.filter_append
theorem qL:∀(m:Nat){n:Nat},0<n->m*n/n=m:=@Nat.mul_div_cancel
theorem px:∀(a b:Bool),((a||b)=true)=(a=true∨b=true):=@Bool.or_eq_true
theorem sr:∀ {α} {β} {l:List α} {a:α} {f:α->β},a∈l->f a∈List.map f l:=@List.mem_map_of_mem
theorem qY:∀ {α} {as:List α},as.toArray.size=as.length:=@List.size_toArray
theorem yP:∀ {α} {xs:Array α} {i j:Nat},i≠j->∀{a:α},(xs.setIfInBounds i a)[j]? = xs[j]? := @Array.getElem?_setIfInBounds_ne
theorem vK:∀(b:Bool),((!b)=false)=(b=true):=@Bool.not_eq_false'
theorem zd:∀(x n:Nat),x &&& 2^n-1=x%2^n:=@Nat.and_two_pow_sub_one_eq_mod
theorem si:∀ {α} (as:List α),[]++as=as:=@List.nil_append
theorem jn:∀{α:Sort _}{β:Sort _}{a₁ a₂:α}(f:α->β),a₁=a₂->f a₁=f a₂:=@congrArg
theorem iu:∀(p:Prop),(p/\True)=p:=@and_true
theorem AW:∀ {α} {l:List α} {i:Nat} {a b:α},a∈l.set i b->a∈l∨a=b:=@List.mem_or_eq_of_mem_set
theorem AS:∀(a:Int){b:Int},0<=b->a.fdiv b=a/b:=@Int.fdiv_eq_ediv_of_nonneg
theorem dB:∀ {α} {a:α} {s t:List α},a∈s++t↔a∈s∨a∈t:=@List.mem_append
theorem xg:∀ {α} {a:α} {i:Nat} {l:List α},a∈drop i l->a∈l:=@List.mem_of_mem_drop
theorem iI:∀ {α} {a b:α},a∈[b]↔a=b:=@List.mem_singleton
theorem m5:∀{a:Prop},a↔a:=@Iff.rfl
theorem dK:∀ {α} {b:α} {l:List α} {a:α},a∈b::l↔a=b∨a∈l:=@List.mem_cons
theorem ut:∀{a b:Bool},a=b↔(a=true↔b=true):=@Bool.eq_iff_iff
theorem DI:∀{a b:Int},0<=a->a.tdiv b=a/b:=@Int.tdiv_eq_ediv_of_nonneg
theorem mq:∀ {α} {β} {as:List α} (f:α->β),(List.map f as).length=as.length:=@List.length_map
theorem oR:∀{α:Sort _}(a b:α),(bif false then a else b)=b:=@cond_false
theorem yb:∀ {α} {l:List α} {i:Nat},l.length<=i->l[i]? = none:=@List.getElem?_eq_none
theorem o8:∀{p:Prop} [Decidable p],¬¬p↔p:=@Decidable.not_not
theorem ub:∀(a:Nat),a.beq a=true:=@Nat.beq_refl
theorem rm:∀{n m k:Nat},n<=m->m<=k->n<=k:=@Nat.le_trans
theorem uP:∀(n m:Nat),n+m=m+n:=@Nat.add_comm
theorem BN:(false=true)=False:=@Bool.false_eq_true
theorem VJ:∀(n:Nat),n<=n.succ:=@Nat.le_succ
abbrev ae := List Int
inductive CT where
 | int (k:IntKind)
 | bool
 | str
 | sl (t:CT)
 | pair (a b:CT)
 deriving DecidableEq
@[reducible] def CT.D:CT->Type
 | .int _=>Int
 | .bool=>Bool
 | .str=>ByteArray
 | .sl t=>List t.D
 | .pair a b=>a.D×b.D
def CT.size:CT->Nat
 | .pair a b=>a.size+b.size
 | _=>1
theorem CT.size_pos(t:CT):0<t.size:=by
 induction t with
 | pair a b iha ihb=>simp only[CT.size];omega
 | _=>simp[CT.size]
def CT.dflt:(t:CT)->t.D
 | .int _=>(0:Int)
 | .bool=>false
 | .str=>ByteArray.empty
 | .sl _=>[]
 | .pair a b=>(a.dflt,b.dflt)
def lx(t:CT)(xs:List t.D)(i:Nat):t.D:=xs.getD i t.dflt
def CT.wf:(t:CT)->t.D->Prop
 | .int k,n=>k.has n
 | .bool,_=>True
 | .str,s=>s.size<=maxLen
 | .sl t,xs=>xs.length<=maxLen∧∀ x∈xs,t.wf x
 | .pair a b,d=>a.wf d.1/\b.wf d.2
inductive SV where
 | int (k:IntKind) (n:Int)
 | bool (b:Bool)
 | str (s:ByteArray)
 | dsl (t:CT) (xs:List t.D)
 | dsx (t:CT) (xs:List t.D)
 | nilsl
 | own (n sz:Nat)
 | ptr (n off:Nat)
 | eptr (n sz i off:Nat)
 | dptr (t:CT) (d:t.D) (off:Nat)
 | nilp
 | fn (f:FuncId) (caps:List SV)
 | agg (cs:List SV)
 | tup (cs:List SV)
 | opt (b:Bool) (v:SV)
 | cv (v:Value)
 | gl (g:Nat)
 | csl (n len:Nat)
 | mapp (n:Nat)
 | junk
inductive lD where
 | cells (E:TypeId) (cs:List SV)
 | row (E:TypeId) (t:CT) (xs:List t.D)
 | frz (E:TypeId) (t:CT) (xs:List t.D)
 | mp (kk vk:IntKind) (l:List (Int×Int))
 | opn (E:TypeId) (t:CT) (xs:List t.D) (i:Nat) (cs:List SV)
def lD.mut:lD->Bool
 | .frz .. => false
 | _=>true
inductive Nm where
 | un
 | dead
 | live (b:lD)
inductive Ev where
 | un
 | nil
 | blk (b:Nat) (len:Nat×Nat)
 deriving DecidableEq
abbrev bP:=Nat->Nm
abbrev aZ:=Nat->Ev
def Rd(A:Nat->Prop)(w:World):(t:CT)->(Nat->Option Value)->Nat->t.D->Prop
 | .int k,cv,o,n=>cv o=some (.int k n)/\k.has n
 | .bool,cv,o,b=>cv o=some (.bool b)
 | .str,cv,o,s=>cv o=some (.string s)/\s.size<=maxLen
 | .sl t,cv,o,xs=>∃ v,cv o=some v/\xs.length<=maxLen/\(((∃ a,v = .slice a 0 0)/\xs=[]) ∨
   ∃ b off cap,v = .slice (some ⟨b,off,none⟩) xs.length cap/\xs.length<=cap/\cap<=maxLen/\A b ∧
    ∀ i (h:i<xs.length),Rd A w t (λo=>w.cell? ⟨b,o,none⟩) (off+i*t.size) xs[i])
 | .pair a b,cv,o,d=>Rd A w a cv o d.1/\Rd A w b cv (o+a.size) d.2
def qu(A:Nat->Prop)(w:World)(t:CT)(v:Value)(xs:List t.D):Prop :=
 xs.length<=maxLen/\(((∃ a,v = .slice a 0 0)/\xs=[]) ∨
  ∃ b off cap,v = .slice (some ⟨b,off,none⟩) xs.length cap/\xs.length<=cap/\cap<=maxLen/\A b ∧
   ∀ i (h:i<xs.length),Rd A w t (λo=>w.cell? ⟨b,o,none⟩) (off+i*t.size) xs[i])
theorem sw{A:Nat->Prop}{w:World}{t:CT}{cv:Nat->Option Value}{o:Nat}{xs:List t.D} :
  Rd A w (.sl t) cv o xs↔∃ v,cv o=some v/\qu A w t v xs:=m5
theorem ik{A A':Nat->Prop}{w w':World}(hA:∀ b,A b->A' b)(hw:∀ b o,A b->w'.cell? ⟨b,o,none⟩=w.cell? ⟨b,o,none⟩) :
  ∀(t:CT)(cv cv':Nat->Option Value)(o:Nat)(d:t.D),(∀ j,j<t.size->cv' (o+j)=cv (o+j))->Rd A w t cv o d->Rd A' w' t cv' o d:=by
 intro t
 induction t with
 | int k=>intro cv cv' o d hc h;have:=hc 0 (by simp[CT.size]);simp only[ip] at this;simp only[Rd] at h ⊢;rw[this];exact h
 | bool=>intro cv cv' o d hc h;have:=hc 0 (by simp[CT.size]);simp only[ip] at this;simp only[Rd] at h ⊢;rw[this];exact h
 | str=>intro cv cv' o d hc h;have:=hc 0 (by simp[CT.size]);simp only[ip] at this;simp only[Rd] at h ⊢;rw[this];exact h
 | sl t ih =>
  intro cv cv' o d hc h;have:=hc 0 (by simp[CT.size]);simp only[ip] at this;simp only[Rd] at h ⊢;rw[this];obtain⟨v,hv,hl,h⟩:=h;refine⟨v,hv,hl,?_⟩;rcases h with h|⟨b,off,cap,rfl,h1,h2,h3,h4⟩
  .exact .inl h
  .exact .inr ⟨b,off,cap,rfl,h1,h2,hA b h3,λi hi=>ih _ _ _ _ (λj _=>hw b _ h3) (h4 i hi)⟩
 | pair a b iha ihb =>
  intro cv cv' o d hc h;refine⟨iha _ _ _ _ (λj hj=>hc j (by simp only[CT.size];omega)) h.1,ihb _ _ _ _ (λj hj=>?_) h.2⟩;have:=hc (a.size+j) (by simp only[CT.size];omega);simpa[gN] using this
theorem Fh{A:Nat->Prop}{w:World}:∀(t:CT)(cv:Nat->Option Value)(o:Nat)(d:t.D),Rd A w t cv o d->t.wf d:=by
 intro t
 induction t with
 | int k=>intro cv o d h;exact h.2
 | bool=>intro cv o d h;trivial
 | str=>intro cv o d h;exact h.2
 | sl t ih =>
  intro cv o d h;obtain⟨v,hv,hl,h⟩:=h;refine⟨hl,?_⟩;rcases h with⟨_,rfl⟩|⟨b,off,cap,_,_,_,_,h4⟩
  .intro x hx;simp at hx
  .intro x hx;obtain⟨i,hi,rfl⟩:=List.mem_iff_getElem.1 hx;exact ih _ _ _ (h4 i hi)
 | pair a b iha ihb=>intro cv o d h;exact⟨iha _ _ _ h.1,ihb _ _ _ h.2⟩
mutual
def az(A:Nat->Prop)(env:aZ)(w:World):SV->Value->Prop
 | .int k n,v=>v = .int k n/\k.has n
 | .bool b,v=>v = .bool b
 | .str s,v=>v = .string s/\s.size<=maxLen
 | .dsl t xs,v=>qu A w t v xs
 | .nilsl,v=>v = .slice none 0 0
 | .dsx t xs,v=>qu A w t v xs∧∃ a,v = .slice a xs.length xs.length
 | .own n sz,v=>(env n = .nil∧∃ a,v = .slice a 0 0)∨∃ b len E c,env n = .blk b len/\w.shape? b=some (E,c)/\v = .slice (some ⟨b,len.1,none⟩) len.2 ((c-len.1)/sz)
 | .ptr n off,v=>∃ b len,env n = .blk b len/\v = .pointer (some ⟨b,off,none⟩)
 | .eptr n sz i off,v=>∃ b len,env n = .blk b len/\i<len.2/\v = .pointer (some ⟨b,len.1+(i*sz+off),none⟩)
 | .dptr t d off,v=>∃ b o,v = .pointer (some ⟨b,o+off,none⟩)/\A b/\Rd A w t (λo=>w.cell? ⟨b,o,none⟩) o d
 | .nilp,v=>v = .pointer none
 | .fn f caps,v=>∃ vs,v = .func (.func f) #[] vs/\aR A env w caps vs.toList
 | .agg cs,v=>∃ vs,v = .agg vs/\aR A env w cs vs.toList
 | .tup cs,v=>∃ vs,v = .tuple vs/\aR A env w cs vs.toList
 | .opt b s,v=>match b with|true=>az A env w s v|false=>v=undef
 | .cv x,v=>v=x
 | .gl g,v=>v = .pointer (some ⟨g,0,none⟩)
 | .csl n len,v=>∃ b l,env n = .blk b l/\v = .slice (some ⟨b,0,none⟩) len len
 | .mapp n,v=>∃ b l,env n = .blk b l/\v = .map (some b)
 | .junk,_=>True
def aR(A:Nat->Prop)(env:aZ)(w:World):List SV->List Value->Prop
 | [],vs=>vs=[]
 | s::ss,vs=>∃ v r,vs=v::r/\az A env w s v/\aR A env w ss r
end
structure dw (A:Nat->Prop) (env:aZ) (w:World) (A':Nat->Prop) (env':aZ) (w':World):Prop where
 imm:∀ b,A b->A' b
 envb:∀ n b l,env n = .blk b l->env' n = .blk b l
 envn:∀ n,env n = .nil->env' n = .nil
 keep:∀ b o,A b->w'.cell? ⟨b,o,none⟩=w.cell? ⟨b,o,none⟩
 shape:∀ b s,w.shape? b=some s->w'.shape? b=some s
theorem dw.refl{A:Nat->Prop}{env:aZ}{w:World}:dw A env w A env w:=⟨λ_ h=>h,λ_ _ _ h=>h,λ_ h=>h,λ_ _ _=>rfl,λ_ _ h=>h⟩
theorem dw.trans{A A' A'':Nat->Prop}{env env' env'':aZ}{w w' w'':World}(h:dw A env w A' env' w')(k:dw A' env' w' A'' env'' w''):dw A env w A'' env'' w'' :=
 ⟨λb hb=>k.imm b (h.imm b hb),λn b l e=>k.envb n b l (h.envb n b l e),λn e=>k.envn n (h.envn n e),
  λb o hb=>(k.keep b o (h.imm b hb)).trans (h.keep b o hb),λb s e=>k.shape b s (h.shape b s e)⟩
theorem EC{A A':Nat->Prop}{w w':World}(hA:∀ b,A b->A' b)(hw:∀ b o,A b->w'.cell? ⟨b,o,none⟩=w.cell? ⟨b,o,none⟩)
  {t:CT} {v:Value} {xs:List t.D} (h:qu A w t v xs):qu A' w' t v xs:=by
 have:=ik hA hw (.sl t) (λ_=>some v) (λ_=>some v) 0 xs (λ_ _=>rfl) ⟨v,rfl,h⟩
 obtain⟨v',hv,h'⟩:=this
 cases hv
 exact h'
mutual
theorem yi{A A':Nat->Prop}{env env':aZ}{w w':World}(x:dw A env w A' env' w'):∀(s:SV)(v:Value),az A env w s v->az A' env' w' s v
 | .int k n,v,h=>by simp only[az] at h ⊢;exact h
 | .bool b,v,h=>by simp only[az] at h ⊢;exact h
 | .str s,v,h=>by simp only[az] at h ⊢;exact h
 | .dsl t xs,v,h=>by simp only[az] at h ⊢;exact EC x.imm x.keep h
 | .nilsl,v,h=>by simp only[az] at h ⊢;exact h
 | .dsx t xs,v,h=>by simp only[az] at h ⊢;exact⟨EC x.imm x.keep h.1,h.2⟩
 | .own n sz,v,h=>by
  simp only[az] at h ⊢;rcases h with⟨h1,h2⟩|⟨b,len,E,c,h1,h2,h3⟩
  .exact .inl ⟨x.envn _ h1,h2⟩
  .exact .inr ⟨b,len,E,c,x.envb _ _ _ h1,x.shape _ _ h2,h3⟩
 | .ptr n off,v,h=>by simp only[az] at h ⊢;obtain⟨b,len,h1,h2⟩:=h;exact⟨b,len,x.envb _ _ _ h1,h2⟩
 | .eptr n sz i off,v,h=>by simp only[az] at h ⊢;obtain⟨b,len,h1,h2⟩:=h;exact⟨b,len,x.envb _ _ _ h1,h2⟩
 | .dptr t d off,v,h=>by
  simp only[az] at h ⊢;obtain⟨b,o,h1,h2,h3⟩:=h;exact⟨b,o,h1,x.imm _ h2,ik x.imm x.keep t _ _ _ _ (λj _=>x.keep _ _ h2) h3⟩
 | .nilp,v,h=>by simp only[az] at h ⊢;exact h
 | .fn f caps,v,h=>by simp only[az] at h ⊢;obtain⟨vs,h1,h2⟩:=h;exact⟨vs,h1,tP x caps _ h2⟩
 | .agg cs,v,h=>by simp only[az] at h ⊢;obtain⟨vs,h1,h2⟩:=h;exact⟨vs,h1,tP x cs _ h2⟩
 | .tup cs,v,h=>by simp only[az] at h ⊢;obtain⟨vs,h1,h2⟩:=h;exact⟨vs,h1,tP x cs _ h2⟩
 | .opt b s,v,h=>by
  cases b with
  | true=>simp only[az] at h ⊢;exact yi x s v h
  | false=>simp only[az] at h ⊢;exact h
 | .cv y,v,h=>by simp only[az] at h ⊢;exact h
 | .gl g,v,h=>by simp only[az] at h ⊢;exact h
 | .csl n len,v,h=>by simp only[az] at h ⊢;obtain⟨b,l,h1,h2⟩:=h;exact⟨b,l,x.envb _ _ _ h1,h2⟩
 | .mapp n,v,h=>by simp only[az] at h ⊢;obtain⟨b,l,h1,h2⟩:=h;exact⟨b,l,x.envb _ _ _ h1,h2⟩
 | .junk,v,h=>by simp only[az]
theorem tP{A A':Nat->Prop}{env env':aZ}{w w':World}(x:dw A env w A' env' w'):∀(ss:List SV)(vs:List Value),aR A env w ss vs->aR A' env' w' ss vs
 | [],vs,h=>by simp only[aR] at h ⊢;exact h
 | s::ss,vs,h=>by
  simp only[aR] at h ⊢;obtain⟨v,r,h1,h2,h3⟩:=h;exact⟨v,r,h1,yi x s v h2,tP x ss r h3⟩
end
theorem je{A:Nat->Prop}{env:aZ}{w:World}:∀{ss:List SV}{vs:List Value},aR A env w ss vs->vs.length=ss.length
 | [],vs,h=>by simp only[aR] at h;simp[h]
 | s::ss,vs,h=>by
  simp only[aR] at h;obtain⟨v,r,rfl,_,h3⟩:=h;simp[je h3]
theorem Cj{A:Nat->Prop}{env:aZ}{w:World}:∀{ss:List SV}{vs:List Value}(i:Nat)(s:SV) ,aR A env w ss vs->ss[i]? = some s→∃ v,vs[i]? = some v/\az A env w s v
 | [],vs,i,s,h,hi=>by simp at hi
 | s0::ss,vs,i,s,h,hi=>by
  simp only[aR] at h;obtain⟨v,r,rfl,h2,h3⟩:=h;cases i with
  | zero=>simp at hi;subst hi;exact⟨v,by simp,h2⟩
  | succ i =>
   obtain⟨u,hu,hd⟩:=Cj i s h3 (by simpa using hi);exact⟨u,by simpa using hu,hd⟩
theorem tB{A:Nat->Prop}{env:aZ}{w:World}:∀{ss tt:List SV}{vs us:List Value},aR A env w ss vs->aR A env w tt us->aR A env w (ss++tt) (vs++us)
 | [],tt,vs,us,h,k=>by simp only[aR] at h;subst h;simpa using k
 | s::ss,tt,vs,us,h,k=>by
  simp only[aR] at h;obtain⟨v,r,rfl,h2,h3⟩:=h;simp only[mF,aR];exact⟨v,r++us,rfl,h2,tB h3 k⟩
def SV.one:SV->Bool
 | .agg _ | .tup _ | .opt _ _ | .junk=>false
 | .cv (.agg _) | .cv (.tuple _)=>false
 | _=>true
theorem Kg{A:Nat->Prop}{env:aZ}{w:World}{s:SV}{v:Value}(h:az A env w s v)(ho:s.one=true):v.oneCell'=true:=by
 cases s <;> simp only[SV.one,BN] at ho <;> simp only[az] at h
 case int=>rw[h.1];rfl
 case bool=>rw[h];rfl
 case str=>rw[h.1];rfl
 case dsl=>obtain⟨_,⟨⟨a,rfl⟩,_⟩|⟨b,off,cap,rfl,_⟩⟩:=h <;> rfl
 case dsx=>obtain⟨_,a,rfl⟩:=h;rfl
 case nilsl=>rw[h];rfl
 case own=>rcases h with⟨_,a,rfl⟩|⟨b,len,E,c,_,_,rfl⟩ <;> rfl
 case ptr=>obtain⟨b,len,_,rfl⟩:=h;rfl
 case eptr=>obtain⟨b,len,_,_,rfl⟩:=h;rfl
 case dptr=>obtain⟨b,off,rfl,_⟩:=h;rfl
 case nilp=>rw[h];rfl
 case fn=>obtain⟨vs,rfl,_⟩:=h;rfl
 case gl=>rw[h];rfl
 case csl=>obtain⟨b,l,_,rfl⟩:=h;rfl
 case mapp=>obtain⟨b,l,_,rfl⟩:=h;rfl
 case cv x=>rw[h];cases x <;> first|rfl|simp_all
def sU:List SV->Bool
 | []=>true
 | s::ss=>s.one&&sU ss
theorem AY{A:Nat->Prop}{env:aZ}{w:World}:∀{ss:List SV}{vs:List Value},aR A env w ss vs->sU ss=true→∀ v∈vs,v.oneCell'=true
 | [],vs,h,_=>by simp only[aR] at h;subst h;simp
 | s::ss,vs,h,ho=>by
  simp only[aR] at h;obtain⟨v,r,rfl,h2,h3⟩:=h;simp only[sU,dM] at ho;intro u hu;rcases dK.1 hu with rfl|hu
  .exact Kg h2 ho.1
  .exact AY h3 ho.2 u hu
def SV.cells:SV->List SV
 | .agg cs=>cs
 | s=>[s]
def nX(A:Nat->Prop)(w:World)(k:Nat)(len:Nat×Nat)(E:TypeId)(t:CT)(xs:List t.D):Prop :=
 ∃ vs cap,w.heap[k]? = some (.cells vs E (0,0))/\vs.size=len.1+cap*t.size/\xs.length=len.2/\len.2<=cap/\cap<=maxLen ∧
  ∀ i (h:i<xs.length),Rd A w t (λo=>vs[o]?) (len.1+i*t.size) xs[i]
def jX(A:Nat->Prop)(env:aZ)(w:World)(k:Nat)(len:Nat×Nat):lD->Prop
 | .cells E cs=>∃ vs,w.heap[k]? = some (.cells vs E (0,0))/\aR A env w cs vs.toList
 | .row E t xs=>nX A w k len E t xs
 | .frz E t xs=>A k/\nX A w k len E t xs
 | .mp kk vk l=>∃ es clk,w.heap[k]? = some (.map es clk)/\es.toList.map (λe=>(e.key,e.val))=l.map (λp=>(Value.int kk p.1,Value.int vk p.2))∧∀ p∈l,vk.has p.2
 | .opn E t xs i cs=>∃ vs cap es,w.heap[k]? = some (.cells vs E (0,0))/\vs.size=len.1+cap*t.size/\xs.length=len.2/\len.2<=cap/\cap<=maxLen/\i<len.2 ∧
   es.length=t.size/\(∀ q,q<t.size->vs[len.1+i*t.size+q]? = es[q]?)/\aR A env w cs es ∧
   ∀ j (h:j<xs.length),j≠i->Rd A w t (λo=>vs[o]?) (len.1+j*t.size) xs[j]
def JK(A:Nat->Prop)(env:aZ)(w:World)(n:Nat):Nm->Prop
 | .un=>env n = .un
 | .dead=>True
 | .live b=>(∃ k len,env n = .blk k len/\jX A env w k len b/\(b.mut=true→¬ A k)) ∨
   (env n = .nil∧∃ E t,b = .row E t []∨b = .frz E t [])
theorem jX.lt{A:Nat->Prop}{env:aZ}{w:World}{k:Nat}{len:Nat×Nat}{b:lD}(h:jX A env w k len b):k<w.heap.size:=by
 cases b with
 | cells E cs=>obtain⟨vs,h,_⟩:=h;exact (Array.getElem?_eq_some_iff.1 h).1
 | row E t xs=>obtain⟨vs,cap,h,_⟩:=h;exact (Array.getElem?_eq_some_iff.1 h).1
 | frz E t xs=>obtain⟨_,vs,cap,h,_⟩:=h;exact (Array.getElem?_eq_some_iff.1 h).1
 | mp kk vk l=>obtain⟨es,clk,h,_⟩:=h;exact (Array.getElem?_eq_some_iff.1 h).1
 | opn E t xs i cs=>obtain⟨vs,cap,es,h,_⟩:=h;exact (Array.getElem?_eq_some_iff.1 h).1
theorem Ic{A A':Nat->Prop}{env env':aZ}{w w':World}(x:dw A env w A' env' w'){k:Nat}{len:Nat×Nat}(hk:w'.heap[k]? = w.heap[k]?)
  {E:TypeId} {t:CT} {xs:List t.D} (h:nX A w k len E t xs):nX A' w' k len E t xs:=by
 obtain⟨vs,cap,h,h1,h2,h3,h4,h5⟩:=h
 exact⟨vs,cap,by rw[hk];exact h,h1,h2,h3,h4,λi hi=>ik x.imm x.keep t _ _ _ _ (λ_ _=>rfl) (h5 i hi)⟩
theorem aM0{A A':Nat->Prop}{env env':aZ}{w w':World}(x:dw A env w A' env' w'){k:Nat}{len:Nat×Nat}(hk:w'.heap[k]? = w.heap[k]?)
  {b:lD} (h:jX A env w k len b):jX A' env' w' k len b:=by
 cases b with
 | cells E cs=>obtain⟨vs,h,hd⟩:=h;exact⟨vs,by rw[hk];exact h,tP x _ _ hd⟩
 | row E t xs=>exact Ic x hk h
 | frz E t xs=>exact⟨x.imm _ h.1,Ic x hk h.2⟩
 | mp kk vk l=>obtain⟨es,clk,h,hd⟩:=h;exact⟨es,clk,by rw[hk];exact h,hd⟩
 | opn E t xs i cs =>
  obtain⟨vs,cap,es,h,h1,h2,h3,h4,h5,h6,h7,h8,h9⟩:=h;exact⟨vs,cap,es,by rw[hk];exact h,h1,h2,h3,h4,h5,h6,h7,tP x _ _ h8,λj hj hn=>ik x.imm x.keep t _ _ _ _ (λ_ _=>rfl) (h9 j hj hn)⟩
abbrev tx:=Nat->Option ((t:CT)×t.D)
structure f5 where
 n:Nat->Prop
 a:Nat->Prop
 g:tx
structure Mod (w0:World) (N0:f5) (A:Nat->Prop) (env:aZ) (h:bP) (w:World):Prop where
 os:w.os=w0.os
 tape:w.tape=w0.tape
 output:w.output=w0.output
 size:w0.heap.size<=w.heap.size
 fr:∀ k,k<w0.heap.size→¬ N0.n k->w.heap[k]? = w0.heap[k]?
 Alt:∀ b,A b->b<w.heap.size
 nm:∀ n,JK A env w n (h n)
 own:∀ n b k l,h n = .live b->b.mut=true->env n = .blk k l->N0.n k∨w0.heap.size<=k
 inj:∀ n m b c k l l',h n = .live b->h m = .live c->b.mut=true->c.mut=true->env n = .blk k l->env m = .blk k l'→n=m
 fresh:∀ b,A b->N0.a b∨N0.n b∨w0.heap.size<=b
 gl:∀ g x,N0.g g=some x->A g/\Rd A w x.1 (λo=>w.cell? ⟨g,o,none⟩) 0 x.2
structure cY (w w':World) (W:Nat->Prop):Prop where
 os:w'.os=w.os
 tape:w'.tape=w.tape
 output:w'.output=w.output
 size:w.heap.size<=w'.heap.size
 blk:∀ k,k<w.heap.size→¬ W k->w'.heap[k]? = w.heap[k]?
 shape:∀ k s,w.shape? k=some s->w'.shape? k=some s
theorem cY.refl(w:World)(W:Nat->Prop):cY w w W:=⟨rfl,rfl,rfl,ir _,λ_ _ _=>rfl,λ_ _ h=>h⟩
theorem cY.alloc(w:World)(o:Obj)(W:Nat->Prop):cY w (w.alloc o) W :=
 ⟨rfl,rfl,rfl,by simp,λk hk _=>RowKit.Below.heap_alloc w o k hk,λk s hs=>by
  unfold World.shape? at hs ⊢;by_cases hk:k<w.heap.size
  .rw[RowKit.Below.heap_alloc w o k hk];exact hs
  .rw[Array.getElem?_eq_none (by omega)] at hs;cases hs⟩
theorem cY.drew(w:World)(W:Nat->Prop):cY w w.drew W:=⟨rfl,rfl,rfl,ir _,λ_ _ _=>rfl,λ_ _ h=>h⟩
theorem cY.trans{a b c:World}{W:Nat->Prop}(h:cY a b W)(k:cY b c W):cY a c W :=
 ⟨k.os.trans h.os,k.tape.trans h.tape,k.output.trans h.output,rm h.size k.size,
  λi hi hw=>(k.blk i (Nat.lt_of_lt_of_le hi h.size) hw).trans (h.blk i hi hw),λi s hs=>k.shape i s (h.shape i s hs)⟩
theorem cY.mono{w w':World}{W W':Nat->Prop}(h:cY w w' W)(hW:∀ k,W k->W' k):cY w w' W' :=
 ⟨h.os,h.tape,h.output,h.size,λk hk hw=>h.blk k hk (λx=>hw (hW k x)),h.shape⟩
def En(ns:Nat->Prop)(env:aZ)(h:bP)(w:World)(k:Nat):Prop :=
 w.heap.size<=k∨∃ m b l,ns m/\h m = .live b/\b.mut=true/\env m = .blk k l
structure mK (ns:Nat->Prop) (W:Nat->Prop) (A:Nat->Prop) (env:aZ) (h:bP) (w:World) (A':Nat->Prop) (env':aZ) (h':bP) (w':World):Prop where
 c:cY w w' W
 hW:∀ k,W k→∃ m b l,ns m/\h m = .live b/\b.mut=true/\env m = .blk k l
 hA:∀ b,A b->A' b
 hA':∀ b,A' b->A b∨(En ns env h w b/\b<w'.heap.size)
 he:∀ n,¬ ns n->env' n=env n
 he':∀ n,env n ≠ .un->env' n=env n
 hh:∀ n,¬ ns n->h' n=h n
 hn:∀ n,ns n->JK A' env' w' n (h' n)
 hs:∀ n b k l,ns n->h' n = .live b->b.mut=true->env' n = .blk k l->En ns env h w k
 hi:∀ n m b c k l l',ns n->ns m->h' n = .live b->h' m = .live c->b.mut=true->c.mut=true->env' n = .blk k l->env' m = .blk k l'→n=m
section
variable {w0:World} {N0:f5} {A A':Nat->Prop} {env env':aZ} {h h':bP} {w w':World} {ns W:Nat->Prop}
theorem Mod.live_blk(m:Mod w0 N0 A env h w){n:Nat}{b:lD}{k:Nat}{l:Nat×Nat}(hl:h n = .live b)(he:env n = .blk k l):jX A env w k l b/\(b.mut=true→¬ A k):=by
 have:=m.nm n
 rw[hl] at this
 rcases this with⟨k',l',e,hb,hA⟩|⟨e,_⟩
 .rw[he] at e;cases e;exact⟨hb,hA⟩
 .rw[he] at e;cases e
theorem Mod.ext(m:Mod w0 N0 A env h w)(u:mK ns W A env h w A' env' h' w'):dw A env w A' env' w' :=
 ⟨u.hA,λn b l e=>by rw[u.he' n (by rw[e];simp)];exact e,λn e=>by rw[u.he' n (by rw[e];simp)];exact e,
  λb o hb=>by
   have hW:¬ W b:=λhw=>by
    obtain⟨mm,bb,l,_,hl,hm,he⟩:=u.hW b hw;exact (m.live_blk hl he).2 hm hb
   exact World.cell?_of_block (a:=⟨b,o,none⟩) (u.c.blk b (m.Alt b hb) hW),u.c.shape⟩
theorem Mod.upd(m:Mod w0 N0 A env h w)(u:mK ns W A env h w A' env' h' w'):Mod w0 N0 A' env' h' w':=by
 have x:=m.ext u
 have old:∀ n b k l,¬ ns n->h n = .live b->b.mut=true->env n = .blk k l→¬ En ns env h w k:=by
  intro n b k l hn hl hm he hs;have hlt:=(m.live_blk hl he).1.lt;rcases hs with hs|⟨mm,bb,l',hmm,hl',hm',he'⟩
  .omega
  .exact hn (m.inj n mm b bb k l l' hl hl' hm hm' he he'▸hmm)
 refine⟨u.c.os.trans m.os,u.c.tape.trans m.tape,u.c.output.trans m.output,rm m.size u.c.size,?_,?_,?_,?_,?_,?_,?_⟩
 .intro k hk hN;by_cases hW:W k
  .obtain⟨mm,b,l,_,hl,hm,he⟩:=u.hW k hW;rcases m.own mm b k l hl hm he with h1|h1
   .exact absurd h1 hN
   .omega
  .rw[u.c.blk k (Nat.lt_of_lt_of_le hk m.size) hW];exact m.fr k hk hN
 .intro b hb;rcases u.hA' b hb with h1|⟨_,h1⟩
  .exact Nat.lt_of_lt_of_le (m.Alt b h1) u.c.size
  .exact h1
 .intro n;by_cases hn:ns n
  .exact u.hn n hn
  .rw[u.hh n hn];have:=m.nm n;cases hl:h n with
   | un=>rw[hl] at this;simp only[JK] at this ⊢;rw[u.he n hn];exact this
   | dead=>trivial
   | live b =>
    rw[hl] at this;rcases this with⟨k,l,e,hb,hA⟩|⟨e,hb⟩
    .refine .inl ⟨k,l,by rw[u.he n hn];exact e,?_,?_⟩
     .refine aM0 x ?_ hb;by_cases hW:W k
      .cases hm:b.mut with
       | true =>
        obtain⟨mm,bb,l',hmm,hl',hm',he'⟩:=u.hW k hW;exact absurd (.inr ⟨mm,bb,l',hmm,hl',hm',he'⟩) (old n b k l hn hl hm e)
       | false =>
        obtain⟨mm,bb,l',hmm,hl',hm',he'⟩:=u.hW k hW;cases b with
        | frz E t xs=>exact absurd hb.1 ((m.live_blk hl' he').2 hm')
        | cells E cs=>cases hm
        | row E t xs=>cases hm
        | mp kk vk l=>cases hm
        | opn E t xs i cs=>cases hm
      .exact u.c.blk k hb.lt hW
     .intro hm hA';rcases u.hA' k hA' with h1|⟨h1,_⟩
      .exact hA hm h1
      .exact old n b k l hn hl hm e h1
    .exact .inr ⟨by rw[u.he n hn];exact e,hb⟩
 .intro n b k l hl hm he;by_cases hn:ns n
  .rcases u.hs n b k l hn hl hm he with h1|⟨mm,bb,l',hmm,hl',hm',he'⟩
   .exact .inr (rm m.size h1)
   .exact m.own mm bb k l' hl' hm' he'
  .rw[u.hh n hn] at hl;rw[u.he n hn] at he;exact m.own n b k l hl hm he
 .intro n n' b c k l l' hl hl' hm hm' he he';by_cases hn:ns n <;> by_cases hn':ns n'
  .exact u.hi n n' b c k l l' hn hn' hl hl' hm hm' he he'
  .rw[u.hh n' hn'] at hl';rw[u.he n' hn'] at he';exact absurd (u.hs n b k l hn hl hm he) (old n' c k l' hn' hl' hm' he')
  .rw[u.hh n hn] at hl;rw[u.he n hn] at he;exact absurd (u.hs n' c k l' hn' hl' hm' he') (old n b k l hn hl hm he)
  .rw[u.hh n hn] at hl;rw[u.he n hn] at he;rw[u.hh n' hn'] at hl';rw[u.he n' hn'] at he';exact m.inj n n' b c k l l' hl hl' hm hm' he he'
 .intro b hb;rcases u.hA' b hb with h1|⟨h1|⟨mm,bb,l',hmm,hl',hm',he'⟩,_⟩
  .exact m.fresh b h1
  .exact .inr (.inr (rm m.size h1))
  .exact .inr (m.own mm bb b l' hl' hm' he')
 .intro g y hg;obtain⟨h1,h2⟩:=m.gl g y hg;exact⟨u.hA g h1,ik x.imm x.keep _ _ _ _ _ (λj _=>x.keep g _ h1) h2⟩
theorem mK.none(c:cY w w' λ_=>False):mK (λ_=>False) (λ_=>False) A env h w A env h w' :=
 ⟨c,λ_ h=>h.elim,λ_ h=>h,λ_ h=>.inl h,λ_ _=>rfl,λ_ _=>rfl,λ_ _=>rfl,λ_ h=>h.elim,λ_ _ _ _ h=>h.elim,λ_ _ _ _ _ _ _ h=>h.elim⟩
end
def bP.set(h:bP)(n:Nat)(x:Nm):bP:=λm=>if m=n then x else h m
def aZ.set(e:aZ)(n:Nat)(x:Ev):aZ:=λm=>if m=n then x else e m
@[simp] theorem bP.set_same (h:bP) (n:Nat) (x:Nm):h.set n x n=x:=by simp[bP.set]
@[simp] theorem aZ.set_same (e:aZ) (n:Nat) (x:Ev):e.set n x n=x:=by simp[aZ.set]
theorem bP.set_other(h:bP){n m:Nat}(x:Nm)(hm:m≠n):h.set n x m=h m:=by simp[bP.set,hm]
theorem aZ.set_other(e:aZ){n m:Nat}(x:Ev)(hm:m≠n):e.set n x m=e m:=by simp[aZ.set,hm]
section
variable {w0:World} {N0:f5} {A:Nat->Prop} {env:aZ} {h:bP} {w w':World}
theorem mK.fresh(m:Mod w0 N0 A env h w){n:Nat}(hn:h n = .un){b:lD}{len:Nat×Nat}{o:Obj}(hmut:b.mut=true)(k:Nat)(hk:w.heap.size<=k)(hA:¬ A k)
  (c:cY w w' λ_=>False) (hb:jX A (env.set n (.blk k len)) w' k len b) :
  mK (λm=>m=n) (λ_=>False) A env h w A (env.set n (.blk k len)) (h.set n (.live b)) w':=by
 have hu:env n = .un:=by have:=m.nm n;rw[hn] at this;exact this
 refine⟨c,λ_ h=>h.elim,λ_ h=>h,λ_ h=>.inl h,λm hm=>aZ.set_other _ _ hm,λm hm=>?_,λm hm=>bP.set_other _ _ hm,?_,?_,?_⟩
 .exact aZ.set_other _ _ (λe=>hm (e▸hu))
 .rintro _ rfl;rw[bP.set_same];exact .inl ⟨k,len,aZ.set_same _ _ _,hb,λ_=>hA⟩
 .rintro _ b' k' l rfl _ _ he;rw[aZ.set_same] at he;cases he;exact .inl hk
 .rintro _ _ _ _ _ _ _ rfl rfl _ _ _ _ _ _;rfl
theorem mK.write(m:Mod w0 N0 A env h w){n:Nat}{b b':lD}{k:Nat}{len:Nat×Nat}(hl:h n = .live b)(hm:b.mut=true)(he:env n = .blk k len)
  (c:cY w w' λj=>j=k) (hb:jX A env w' k len b') (hm':b'.mut=true) :
  mK (λm=>m=n) (λj=>j=k) A env h w A env (h.set n (.live b')) w':=by
 refine⟨c,?_,λ_ h=>h,λ_ h=>.inl h,λm _=>rfl,λm hm=>rfl,λm hm=>bP.set_other _ _ hm,?_,?_,?_⟩
 .rintro _ rfl;exact⟨n,b,len,rfl,hl,hm,he⟩
 .rintro _ rfl;rw[bP.set_same];exact .inl ⟨k,len,he,hb,λ_=>(m.live_blk hl he).2 hm⟩
 .rintro _ b'' k' l rfl _ _ he';rw[he] at he';cases he';exact .inr ⟨_,b,len,rfl,hl,hm,he⟩
 .rintro _ _ _ _ _ _ _ rfl rfl _ _ _ _ _ _;rfl
end
end Go.SX
namespace Go.SX
universe u v
inductive Q (α:Type u):Type u where
 | ret (a:α)
 | ask (n:Nat) (k:Nm->Q α)
 | fail
def Q.run{α:Type u}(h:bP):Q α->Option (α×List Nat)
 | .ret a=>some (a,[])
 | .ask n k=>match (k (h n)).run h with
  | some (a,r)=>some (a,n::r)
  | none=>none
 | .fail=>none
def Q.bind{α:Type u}{β:Type v}:Q α->(α->Q β)->Q β
 | .ret a,f=>f a
 | .ask n k,f => .ask n λx=>(k x).bind f
 | .fail,_ => .fail
theorem Q.run_bind{α:Type u}{β:Type v}(h:bP)(q:Q α)(f:α->Q β){b:β}{r:List Nat}(e:(q.bind f).run h=some (b,r)) :
  ∃ a c r2,q.run h=some (a,c)/\(f a).run h=some (b,r2)/\r=c++r2:=by
 induction q generalizing r with
 | ret a=>exact⟨a,[],r,rfl,e,rfl⟩
 | ask n k ih =>
  simp only[Q.bind,Q.run] at e;cases d:((k (h n)).bind f).run h with
  | none=>rw[d] at e;cases e
  | some p =>
   rw[d] at e;obtain⟨rfl,rfl⟩:=e;obtain⟨a,c,r2,h1,h2,h3⟩:=ih (h n) (by rw[d]);exact⟨a,n::c,r2,by simp only[Q.run,h1],h2,by rw[h3];rfl⟩
 | fail=>cases e
theorem Q.run_local{α:Type u}{h d:bP}:∀(q:Q α){a:α}{r:List Nat},q.run h=some (a,r)->(∀ n∈r,d n=h n)->q.run d=some (a,r)
 | .ret a,b,r,e,_=>e
 | .ask n k,b,r,e,hh=>by
  simp only[Q.run] at e ⊢;cases c:(k (h n)).run h with
  | none=>rw[c] at e;cases e
  | some p =>
   rw[c] at e;obtain⟨rfl,rfl⟩:=e;rw[hh n (by simp),Q.run_local (k (h n)) c (λm hm=>hh m (fM _ hm))]
def bV:List Prop->Prop
 | []=>True
 | p::r=>p/\bV r
theorem qm{a b:List Prop}:bV (a++b)↔bV a/\bV b:=by
 induction a with
 | nil=>simp[bV]
 | cons p a ih=>simp[bV,ih,and_assoc]
structure Qn (X:Type) where
 all:(X->Prop)->Prop
 hall:∀ k,all k→∀ x,k x
 ex:(X->Prop)->Prop
 hex:∀ k,ex k→∃ x,k x
def Qn.plain(X:Type):Qn X:=⟨λk=>∀ x,k x,λ_ h=>h,λk=>∃ x,k x,λ_ h=>h⟩
inductive Dl:Type 1 where
 | det (pre:List Prop) (v:SV) (upd:List (Nat×Nm))
 | nd (X:Type) (qn:Qn X) (pre:List Prop) (R:X->Prop) (inh:bV pre→∃ x,R x) (v:X->SV) (upd:List (Nat×(X->Nm)))
def Dl.X:Dl->Type
 | .det .. => Unit
 | .nd X .. => X
def Dl.pre:Dl->List Prop
 | .det p .. => p
 | .nd _ _ p .. => p
def Dl.R:(d:Dl)->d.X->Prop
 | .det ..,_=>True
 | .nd _ _ _ R _ _ _,x=>R x
def Dl.val:(d:Dl)->d.X->SV
 | .det _ v _,_=>v
 | .nd _ _ _ _ _ v _,x=>v x
def cZ:List (Nat×Nm)->bP->bP
 | [],h=>h
 | (n,b)::r,h=>(cZ r h).set n b
def Dl.upd:(d:Dl)->d.X->List (Nat×Nm)
 | .det _ _ u,_=>u
 | .nd _ _ _ _ _ _ u,x=>u.map λp=>(p.1,p.2 x)
def Dl.wr:Dl->List Nat
 | .det _ _ u=>u.map (·.1)
 | .nd _ _ _ _ _ _ u=>u.map (·.1)
def Dl.hp(d:Dl)(x:d.X)(h:bP):bP:=cZ (d.upd x) h
theorem nY{u:List (Nat×Nm)}{h:bP}{n:Nat}(a:n ∉ u.map (·.1)):cZ u h n=h n:=by
 induction u with
 | nil=>rfl
 | cons p u ih =>
  simp only[fF,dK,not_or] at a;rw[cZ,bP.set_other _ _ a.1,ih a.2]
theorem Dl.wr_upd(d:Dl)(x:d.X):(d.upd x).map (·.1)=d.wr:=by
 cases d with
 | det p v u=>rfl
 | nd X qn p R i v u=>simp[Dl.upd,Dl.wr,Function.comp_def]
theorem Dl.ne(d:Dl)(h:bV d.pre):∃ x,d.R x:=by
 cases d with
 | det p v u=>exact⟨(),trivial⟩
 | nd X qn p R i v u=>exact i h
def da(w0:World)(N0:f5)(A:Nat->Prop)(env:aZ)(h:bP)(w:World)(d:Dl)(v:Value)(w':World):Prop :=
 ∃ (x:d.X) (A':Nat->Prop) (env':aZ),d.R x/\Mod w0 N0 A' env' (d.hp x h) w'∧dw A env w A' env' w'∧az A' env' w' (d.val x) v
def bj(P:Program)(o:Oper)(a:Act)(w0:World)(N0:f5)(A:Nat->Prop)(env:aZ)(h:bP)(w:World)(d:Dl):Prop :=
 ∃ v w',((execOp a.eval o).run P w = .ok (.value v) w'∨((execOp a.eval o).run P w = .ok .skip w'∧v=undef))/\da w0 N0 A env h w d v w'
def Ki(k:IntKind)(n:Int):Bool:=decide (k.min<=n)&&decide (n<=k.max)
theorem Q6{k:IntKind}{n:Int}(h:Ki k n=true):k.has n:=by
 simp only[Ki,dM,mh] at h;exact h
def ww:Value->SV
 | .int k n=>match Ki k n with
  | true => .int k n
  | false => .cv (.int k n)
 | .bool b => .bool b
 | .slice none 0 0 => .nilsl
 | .pointer none => .nilp
 | v => .cv v
def aW(ρ:Nat->SV):Operand->SV
 | .tmp t=>ρ t
 | .const v=>ww v
 | .func f => .fn f []
 | .global g => .gl g
section
variable {P:Program} {w0:World} {N0:f5} {A:Nat->Prop} {env:aZ} {h:bP} {w:World} {o:Oper} {a:Act}
theorem Ep(v:Value):az A env w (ww v) v:=by
 unfold ww
 split
 next k n=>
  split
  next hb=>simp only[az];exact⟨trivial,Q6 hb⟩
  .simp only[az]
 all_goals simp only[az]
def FD(A:Nat->Prop)(env:aZ)(w:World)(ρ:Nat->SV)(a:Act):Prop:=∀ i,az A env w (ρ i) (a.tmps.getD i undef)
theorem dg{ρ:Nat->SV}(f:FD A env w ρ a)(x:Operand):az A env w (aW ρ x) (a.eval x):=by
 cases x with
 | tmp t=>exact f t
 | const v=>exact Ep v
 | global g=>simp only[aW,az,Act.eval]
 | func f=>simp only[aW,az,Act.eval];exact⟨#[],rfl,by simp[aR]⟩
theorem bj.pure(m:Mod w0 N0 A env h w){pre:List Prop}{s:SV}{v:Value}(hr:(execOp a.eval o).run P w = .ok (.value v) w)(hd:az A env w s v) :
  bj P o a w0 N0 A env h w (.det pre s []) :=
 ⟨v,w,.inl hr,(),A,env,trivial,m,dw.refl,hd⟩
end
theorem IntKind.wrap_has(k:IntKind)(n:Int):k.has (k.wrap n):=wrap_within k n
theorem QQ(k:IntKind):k.min<=0/\0<=k.max:=by cases k <;> decide
theorem au9{k:IntKind}{x:Int}(h:k.has x)(y:Int):k.has (x.tmod y):=by
 obtain⟨h1,h2⟩:=h
 obtain⟨h3,h4⟩:=QQ k
 have h5:=Int.natAbs_tmod x y
 have h6:=Nat.mod_le x.natAbs y.natAbs
 have h7:0<=x->0<=x.tmod y:=λb=>Int.tmod_nonneg y b
 have h8:x<=0->x.tmod y<=0:=λb=>by
  have:=Int.tmod_nonneg (a := -x) y (by omega);simp_all
 exact⟨by omega,by omega⟩
def eM(k:IntKind)(x y:Int):Int:=k.wrap (x*2^(min y.toNat k.bits))
def dF(k:IntKind)(x y:Int):Int:=x.fdiv (2^(min y.toNat k.bits))
def HO(k:IntKind)(n:Int):Int:=bits .xor k (if k.signed then -1 else k.max) n
theorem Zd{k:IntKind}{x:Int}(h:k.has x)(y:Int):k.has (dF k x y):=by
 obtain⟨h1,h2⟩:=h
 obtain⟨h3,h4⟩:=QQ k
 unfold dF
 have a:(0:Int)<2^(min y.toNat k.bits):=Int.pow_pos (by decide)
 rw[AS _ (Int.le_of_lt a)]
 generalize (2:Int)^(min y.toNat k.bits)=p at *
 rcases Int.le_total 0 x with b|b
 .have h5:=Int.ediv_nonneg b (Int.le_of_lt a);have h6:=Int.ediv_le_self p b;exact⟨by omega,by omega⟩
 .have h5:x<=x/p:=by
   refine (Int.le_ediv_iff_mul_le a).2 ?_;have:=Int.mul_le_mul_of_nonneg_left (show (1:Int)<=p from by omega) (show 0 ≤ -x from by omega);grind
  have h6:x/p<=0:=by
   have:=Int.ediv_le_ediv a b;simpa using this
  exact⟨by omega,by omega⟩
theorem Pq(op:BinOp)(k:IntKind)(x y:Int):k.has (bits op k x y):=IntKind.wrap_has k _
end Go.SX
namespace Go.SX
def lO(k k':IntKind):Bool:=match k,k' with
 | .i8,.i8 | .i16,.i16 | .i32,.i32 | .i64,.i64 | .u8,.u8 | .u16,.u16 | .u32,.u32 | .u64,.u64=>true
 | _,_=>false
theorem lY{k k':IntKind}(h:lO k k'=true):k=k':=by cases k <;> cases k' <;> first|rfl|cases h
def ci(v:SV):Q Dl := .ret (.det [] v [])
def Sc(op:BinOp)(k:IntKind)(a b:Int):Q Dl:=match op with
 | .add=>ci (.int k (k.wrap (a+b)))
 | .sub=>ci (.int k (k.wrap (a-b)))
 | .mul=>ci (.int k (k.wrap (a*b)))
 | .quo => .ret (.det [b≠0] (.int k (k.wrap (a.tdiv b))) [])
 | .rem => .ret (.det [b≠0] (.int k (a.tmod b)) [])
 | .and=>ci (.int k (bits .and k a b))
 | .or=>ci (.int k (bits .or k a b))
 | .xor=>ci (.int k (bits .xor k a b))
 | .andNot=>ci (.int k (bits .andNot k a b))
 | .eql=>ci (.bool (decide (a=b)))
 | .neq=>ci (.bool (!decide (a=b)))
 | .lss=>ci (.bool (decide (a<b)))
 | .leq=>ci (.bool (decide (a<=b)))
 | .gtr=>ci (.bool (decide (b<a)))
 | .geq=>ci (.bool (decide (b<=a)))
 | .shl | .shr => .fail
def MH(op:BinOp)(k:IntKind)(a b:Int):Q Dl:=match op with
 | .shl => .ret (.det [0<=b] (.int k (eM k a b)) [])
 | .shr => .ret (.det [0<=b] (.int k (dF k a b)) [])
 | _ => .fail
def aV2:BinOp->Bool
 | .shl | .shr=>true
 | _=>false
def nA{α:Type}:List α->Nat->Option α
 | [],_=>none
 | x::_,0=>some x
 | _::xs,n+1=>nA xs n
theorem vR{α:Type}:∀(l:List α)(n:Nat),nA l n=l[n]?
 | [],n=>by simp[nA]
 | x::xs,0=>rfl
 | x::xs,n+1=>by simp[nA,vR xs n]
def vI(P:Program)(t:TypeId):Option Bool:=match P.underlying t with
 | some (.struct _)=>some true
 | some (.array _ _)=>some true
 | some _=>some false
 | none=>none
def gI(P:Program)(t:TypeId):Option Nat:=match P.info? t with
 | some i=>some i.size
 | none=>none
def nR(P:Program)(t:TypeId)(cs:List SV)(off:Nat):Option SV:=match vI P t with
 | some true=>match gI P t with
  | some n=>match Nat.ble (off+n) cs.length with
   | true=>some (.agg ((cs.drop off).take n))
   | false=>none
  | none=>none
 | some false=>nA cs off
 | none=>none
def vM(P:Program):Nat->TypeId->SV->SV->Option Bool
 | 0,_,_,_=>none
 | d+1,t,x,y=>match P.underlying t,x,y with
  | some (.int _),.int k a,.int k' b=>match lO k k' with
   | true=>some (decide (a=b))
   | false=>none
  | some .bool,.bool a,.bool b=>some (a == b)
  | some (.struct fs),.agg xs,.agg ys=>match P.stoodInHeld t with
   | false=>eqFs (vM P d) fs.toList xs ys
   | true=>none
  | _,_,_=>none
where
 eqFs (q:TypeId->SV->SV->Option Bool):List Field->List SV->List SV->Option Bool
  | [],_,_=>some true
  | f :: fs, xs, ys => match f.name == "_" with
   | true=>none
   | false=>match nR P f.type xs f.offset,nR P f.type ys f.offset with
    | some x,some y=>match q f.type x y,eqFs q fs xs ys with
     | some b,some r=>some (b&&r)
     | _,_=>none
    | _,_=>none
def Ha(P:Program)(t:TypeId)(xs ys:List SV):Option Bool :=
 match P.eqGuardType P.depth t with
 | false=>vM P 6 t (.agg xs) (.agg ys)
 | true=>none
def xw(op:BinOp)(n:Nat):Q Dl:=match op with
 | .eql => .ret (.nd Bool (Qn.plain Bool) [] (λb=>b=true->n=0) (λ_=>⟨false,λh=>by cases h⟩) (λb=>.bool b) [])
 | .neq => .ret (.nd Bool (Qn.plain Bool) [] (λb=>b=true->n=0) (λ_=>⟨false,λh=>by cases h⟩) (λb=>.bool (!b)) [])
 | _ => .fail
def MR(P:Program)(op:BinOp)(t:TypeId)(x:SV):Q Dl:=match P.underlying t,x with
 | some (.slice _),.dsl _ xs=>xw op xs.length
 | some (.slice _),.dsx _ xs=>xw op xs.length
 | some (.slice _),.nilsl=>xw op 0
 | some (.slice _),.own n _ => .ask n fun
  | .live (.row _ _ xs)=>xw op xs.length
  | .live (.frz _ _ xs)=>xw op xs.length
  | _ => .fail
 | _,_ => .fail
def Jo(P:Program)(op:BinOp)(t:TypeId)(x y:SV):Q Dl:=match x,y with
 | .int k a,.int k' b=>match aV2 op with
  | true=>MH op k a b
  | false=>match lO k k' with
   | true=>Sc op k a b
   | false => .fail
 | .bool a,.bool b=>match P.underlying t,op with
  | some .bool,.eql=>ci (.bool (a == b))
  | some .bool,.neq=>ci (.bool (!(a == b)))
  | _,_ => .fail
 | .agg xs,.agg ys=>match Ha P t xs ys,op with
  | some b,.eql=>ci (.bool b)
  | some b,.neq=>ci (.bool (!b))
  | _,_ => .fail
 | x,.nilsl=>MR P op t x
 | _,_ => .fail
def IU(op:UnOp)(x:SV):Q Dl:=match op,x with
 | .not,.bool b=>ci (.bool (!b))
 | .neg,.int k n=>ci (.int k (k.wrap (0-n)))
 | .xor,.int k n=>ci (.int k (HO k n))
 | _,_ => .fail
def GO(P:Program)(src dst:TypeId)(x:SV):Q Dl:=match x,P.underlying src,P.underlying dst with
 | .int _ n,some _,some (.int k')=>ci (.int k' (k'.wrap n))
 | _,_,_ => .fail
def Et:SV->Bool
 | .cv (.tuple vs)=>vs.isEmpty
 | _=>false
def Fq:SV->Option (Bool×Option Bool)
 | .bool x=>some (x,none)
 | .opt g (.bool x)=>some (x,some g)
 | s=>match Et s with
  | true=>some (false,some false)
  | false=>none
def B0(g:Option Bool)(c:Prop):List Prop:=match g with
 | none=>[]
 | some g=>[c->g=true]
def Iv(c a b:SV):Q Dl:=match c,Fq a,Fq b with
 | .bool cb,some (x,gx),some (y,gy) => .ret (.det (B0 gx (cb=true)++B0 gy (cb=false)) (.bool (bif cb then x else y)) [])
 | _,_,_ => .fail
section
variable {P:Program} {w0:World} {N0:f5} {A:Nat->Prop} {env:aZ} {h:bP} {w:World} {o:Oper} {a:Act} {ρ:Nat->SV} {d:Dl} {r:List Nat}
theorem cz{α:Type 1}{x y:α}{r:List Nat}(e:(Q.ret x).run h=some (y,r)):x=y:=by
 simp only[Q.run,bq,br] at e;exact e.1
theorem Qp{s:SV}{v:Value}{x:Bool}{g:Option Bool}(e:Fq s=some (x,g))(hd:az A env w s v){c:Prop}(hp:bV (B0 g c))(hc:c):v = .bool x:=by
 unfold Fq at e
 split at e
 .cases e;simpa only[az] using hd
 .cases e;simp only[B0,bV,iu] at hp;have:=hp hc;subst this;simpa only[az] using hd
 .split at e
  .cases e;simp only[B0,bV,iu] at hp;exact absurd (hp hc) (by simp)
  .cases e
theorem Yz(m:Mod w0 N0 A env h w)(f:FD A env w ρ a){c x y:Operand}(ho:o.op = .pick c x y)
  (e:(Iv (aW ρ c) (aW ρ x) (aW ρ y)).run h=some (d,r)) (hp:bV d.pre):bj P o a w0 N0 A env h w d:=by
 have dc:=dg f c
 have dx:=dg f x
 have dy:=dg f y
 unfold Iv at e
 split at e
 next cb b1 g1 b2 g2 hc hx hy=>
  cases cz e;simp only[Dl.pre,qm] at hp;rw[hc] at dc;simp only[az] at dc;refine bj.pure m (v := .bool (bif cb then b1 else b2)) ?_ (by simp only[az]);unfold execOp;rw[ho];simp only[dc,asBool,Sem.run_bind,Sem.run_pure,Result.andThen_ok];cases cb with
  | true=>simp only[if_true,cond_true];rw[Qp hx dx hp.1 rfl]
  | false=>simp only[BN,if_false,oR];rw[Qp hy dy hp.2 rfl]
 .cases e
theorem Hw(op:BinOp)(t:TypeId)(x y:Operand)(k:IntKind)(u v:Int)(r:Value)
  (hr:(binOp op t (.int k u) (.int k v)).run P w = .ok r w) :
  ((do eqGuard op t x y (.int k u) (.int k v);binOp op t (.int k u) (.int k v):Sem Value).run P w) = .ok r w:=by
 rw[eqGuard_at_int]
 simpa using hr
theorem Bi{t:TypeId}{b:Bool}(h:vI P t=some b)(w:World):(isAgg t).run P w = .ok b w:=by
 unfold vI at h
 unfold isAgg
 rw[Sem.run_bind]
 cases hu:P.underlying t with
 | none=>rw[hu] at h;cases h
 | some d =>
  rw[run_underlying hu w,Result.andThen_ok];rw[hu] at h;cases d <;> simp only[bq] at h <;> subst h <;> rfl
theorem kU{t:TypeId}{n:Nat}(h:gI P t=some n)(w:World):(sizeOf t).run P w = .ok n w:=by
 unfold gI at h
 cases hi:P.info? t with
 | none=>rw[hi] at h;cases h
 | some i =>
  rw[hi] at h;simp only[bq] at h;simp[sizeOf,typeInfo,hi,h]
theorem Cx{ss:List SV}{vs:List Value}(n:Nat)(h:aR A env w ss vs):aR A env w (ss.drop n) (vs.drop n):=by
 induction n generalizing ss vs with
 | zero=>simpa using h
 | succ n ih =>
  cases ss with
  | nil=>simp only[aR] at h;subst h;simp[aR]
  | cons s ss =>
   simp only[aR] at h;obtain⟨v,r,rfl,_,h3⟩:=h;simpa using ih h3
theorem Ce{ss:List SV}{vs:List Value}(n:Nat)(h:aR A env w ss vs):aR A env w (ss.take n) (vs.take n):=by
 induction n generalizing ss vs with
 | zero=>simp[aR]
 | succ n ih =>
  cases ss with
  | nil=>simp only[aR] at h;subst h;simp[aR]
  | cons s ss =>
   simp only[aR] at h;obtain⟨v,r,rfl,h2,h3⟩:=h;simp only[List.take_succ_cons,aR];exact⟨v,_,rfl,h2,ih h3⟩
theorem CN{t:TypeId}{cs:List SV}{off:Nat}{s:SV}{vs:Array Value}(e:nR P t cs off=some s)(hd:aR A env w cs vs.toList) :
  ∃ v,(part t vs off).run P w = .ok v w/\az A env w s v:=by
 unfold nR at e
 split at e
 next ha=>
  split at e
  .rename_i n hn;split at e
   .rename_i hle;cases e;refine⟨.agg (vs.extract off (off+n)),?_,?_⟩
    .unfold part;simp[Sem.run_bind,Bi ha w,kU hn w]
    .simp only[az];refine⟨_,rfl,?_⟩;have:=Ce n (Cx off hd);simpa[Array.toList_extract,List.extract_eq_take_drop] using this
   .cases e
  .cases e
 next ha=>
  rw[vR] at e;obtain⟨v,hv,hd'⟩:=Cj _ _ hd e;refine⟨v,?_,hd'⟩;have hv':vs[off]? = some v:=by rw[← lK];exact hv
  unfold part;simp[Sem.run_bind,Bi ha w,hv']
 .cases e
theorem NL{q:TypeId->SV->SV->Option Bool}{n:Nat}(hq:∀ t x y b u v,q t x y=some b->az A env w x u->az A env w y v->(Op.equalIn n t u v).run P w = .ok b w) :
  ∀(fs:List Field)(xs ys:List SV)(us vs:Array Value)(b:Bool),vM.eqFs P q fs xs ys=some b->aR A env w xs us.toList->aR A env w ys vs.toList →
   (Op.eqFields n us vs fs).run P w = .ok b w
 | [],xs,ys,us,vs,b,e,_,_=>by simp only[vM.eqFs] at e;cases e;simp[Op.eqFields]
 | f::fs,xs,ys,us,vs,b,e,hx,hy=>by
  simp only[vM.eqFs] at e;split at e
  .cases e
  ·rename_i hname;have hne : f.name ≠ "_" := by simpa using hname
   split at e
   .rename_i x y h1 h2;split at e
    next b1 r hb hr=>cases e;obtain⟨u,p1,d1⟩:=CN h1 hx;obtain⟨v,p2,d2⟩:=CN h2 hy;have ih:=NL hq fs xs ys us vs r hr hx hy;have hk:=hq _ _ _ _ _ _ hb d1 d2;simp only[Op.eqFields,hne,ne_eq,not_false_eq_true,if_true,Sem.run_bind,p1,p2,Result.andThen_ok,hk];cases b1 <;> simp[ih]
    .cases e
   .cases e
theorem NJ:∀(d:Nat)(n:Nat)(t:TypeId)(x y:SV)(b:Bool)(u v:Value),d<=n->vM P d t x y=some b->az A env w x u->az A env w y v->(Op.equalIn n t u v).run P w = .ok b w
 | 0,n,t,x,y,b,u,v,_,e,_,_=>by simp only[vM] at e;cases e
 | d+1,0,t,x,y,b,u,v,hn,_,_,_=>by omega
 | d+1,n+1,t,x,y,b,u,v,hn,e,hx,hy=>by
  simp only[vM] at e;split at e
  .rename_i k0 k1 a1 k2 a2 hu;split at e
   next hk=>cases e;cases lY hk;simp only[az] at hx hy;rw[hx.1,hy.1,run_equalIn_int w n t k1 k0 a1 a2 hu];congr 1
   .cases e
  next a1 a2 hu=>cases e;simp only[az] at hx hy;rw[hx,hy,run_equalIn_bool' w n t a1 a2 hu]
  .rename_i fs xs ys hu;split at e
   .rename_i hs;simp only[az] at hx hy;obtain⟨us,rfl,hx⟩:=hx;obtain⟨vs,rfl,hy⟩:=hy;have hfo:P.underlying t=some (.struct (P.fieldsOf t)):=by simp[Program.fieldsOf,hu]
    have hff:P.fieldsOf t=fs:=by simp[Program.fieldsOf,hu]
    rw[run_equalIn_struct w n t us vs hfo hs,hff];exact NL (λt' x' y' b' u' v' h1 h2 h3=>NJ d n t' x' y' b' u' v' (by omega) h1 h2 h3) _ _ _ _ _ _ e hx hy
   .cases e
  .cases e
theorem Zx(m:Mod w0 N0 A env h w)(f:FD A env w ρ a){op:BinOp}{t yt:TypeId}{x y:Operand}(ho:o.op = .binOp op t x y yt)
  (e:(Jo P op t (aW ρ x) (aW ρ y)).run h=some (d,r)) (hp:bV d.pre):bj P o a w0 N0 A env h w d:=by
 have dx:=dg f x
 have dy:=dg f y
 have go:∀(v:Value),((do eqGuard op t x y (a.eval x) (a.eval y);binOp op t (a.eval x) (a.eval y):Sem Value).run P w) = .ok v w →
   (execOp a.eval o).run P w = .ok (.value v) w:=by
  intro v hv;unfold execOp;rw[ho];simp only[Sem.run_bind,Sem.run_pure] at hv ⊢;rw[hv];rfl
 unfold Jo at e
 split at e
 next k u k' v hx hy=>
  rw[hx] at dx;rw[hy] at dy;simp only[az] at dx dy;rw[dx.1,dy.1] at go;split at e
  .unfold MH at e;split at e
   .cases cz e;simp only[Dl.pre,bV,iu] at hp;refine bj.pure m (go _ ?_) (s := .int k (eM k u v)) (v := .int k (eM k u v)) (by simp only[az];exact⟨trivial,IntKind.wrap_has _ _⟩);rw[eqGuard_at_int,binOp_shl];have hn:¬ v<0:=by omega
    simp[Op.shift,hn,eM]
   .cases cz e;simp only[Dl.pre,bV,iu] at hp;refine bj.pure m (go _ ?_) (s := .int k (dF k u v)) (v := .int k (dF k u v)) (by simp only[az];exact⟨trivial,Zd dx.2 v⟩);rw[eqGuard_at_int,binOp_shr];have hn:¬ v<0:=by omega
    simp[Op.shift,hn,dF]
   .cases e
  .split at e
   .rename_i hk;cases lY hk;unfold Sc ci at e;have eqd:∀ u v:Int,(u == v)=decide (u=v):=λu v=>by rw[ut];simp
    by_cases h1:op = .eql
    .subst h1;simp only at e;cases cz e;refine bj.pure m (go (.bool (decide (u=v))) ?_) (by simp only[az]);exact Hw _ _ _ _ _ _ _ _ (by rw[binOp_eql,eqd];rfl)
    by_cases h2:op = .neq
    .subst h2;simp only at e;cases cz e;refine bj.pure m (go (.bool (!decide (u=v))) ?_) (by simp only[az]);exact Hw _ _ _ _ _ _ _ _ (by rw[binOp_neq,bne,eqd];rfl)
    cases op <;> simp only at e <;> first
     | (exfalso;exact h1 rfl)
     | (exfalso;exact h2 rfl)
     | (cases cz e
        simp only[Dl.pre,bV,iu] at hp;refine bj.pure m (go _ ?_) (by simp only[az];first|exact⟨rfl,IntKind.wrap_has _ _⟩|exact⟨rfl,Pq _ _ _ _⟩|exact⟨rfl,au9 dx.2 _⟩|rfl);refine Hw _ _ _ _ _ _ _ _ ?_
        first
         | (simp[binOp,Op.intArith];done)
         | (simp[binOp,Op.intDiv,hp];done)
         | (simp only[binOp_and,binOp_or,binOp_xor,binOp_andNot,intBits_and,intBits_or,intBits_xor,intBits_andNot,Sem.run_pure];done)
         | (simp[binOp,Op.intCmp];done))
     | cases e
   .cases e
 next u v hx hy=>
  rw[hx] at dx;rw[hy] at dy;simp only[az] at dx dy;rw[dx,dy] at go;split at e
  next hu=>unfold ci at e;cases cz e;refine bj.pure m (go _ ?_) (s := .bool (u == v)) (v := .bool (u == v)) (by simp only[az]);rw[eqGuard_at_bool];simp[run_eql_bool w t u v hu]
  next hu=>unfold ci at e;cases cz e;refine bj.pure m (go _ ?_) (s := .bool (!(u == v))) (v := .bool (!(u == v))) (by simp only[az]);rw[eqGuard_at_bool];simp[run_neq_bool w t u v hu]
  .cases e
 next xs ys hx hy=>
  rw[hx] at dx;rw[hy] at dy;simp only[az] at dx dy;obtain⟨us,eu,du⟩:=dx;obtain⟨vs,ev,dv⟩:=dy;rw[eu,ev] at go;have key:∀ b,Ha P t xs ys=some b->(Op.equalIn 10000 t (.agg us) (.agg vs)).run P w = .ok b w/\(eqGuard op t x y (.agg us) (.agg vs)).run P w = .ok () w:=by
   intro b hb;unfold Ha at hb;split at hb
   next h2=>exact⟨NJ 6 10000 t (.agg xs) (.agg ys) b _ _ (by omega) hb (by simp only[az];exact⟨_,rfl,du⟩) (by simp only[az];exact⟨_,rfl,dv⟩),run_eqGuard_agg w op t x y us vs h2⟩
   .cases hb
  split at e
  next b hb=>unfold ci at e;cases cz e;obtain⟨k1,k2⟩:=key b hb;refine bj.pure m (go _ ?_) (s := .bool b) (v := .bool b) (by simp only[az]);simp only[Sem.run_bind,k2,Result.andThen_ok,run_eql_struct,k1]
  next b hb=>unfold ci at e;cases cz e;obtain⟨k1,k2⟩:=key b hb;refine bj.pure m (go _ ?_) (s := .bool (!b)) (v := .bool (!b)) (by simp only[az]);simp only[Sem.run_bind,k2,Result.andThen_ok,run_neq_struct,k1]
  .cases e
 next hy=>
  rw[hy] at dy;simp only[az] at dy;rw[dy] at go;have key:∀(d:Dl)(r:List Nat)(n:Nat)(E:TypeId),P.underlying t=some (.slice E)->(∃ b c,a.eval x = .slice b n c)->(∀ c,a.eval x = .slice none n c->n=0)->(xw op n).run h=some (d,r)->bj P o a w0 N0 A env h w d:=by
   rintro d r n E hu ⟨b,c,ev⟩ hn en;have hb:b.isNone=true->n=0:=λhb=>by
    cases b with
    | none=>exact hn c ev
    | some _=>cases hb
   have heq:(Op.equalIn 10000 t (.slice b n c) (.slice none 0 0)).run P w = .ok b.isNone w:=by
    unfold Op.equalIn;simp only[Sem.run_bind,run_underlying hu,Result.andThen_ok];cases b <;> simp
   have hg:(eqGuard op t x y (.slice b n c) (.slice none 0 0)).run P w = .ok () w:=by
    unfold eqGuard;split <;> simp
   unfold xw at en;split at en
   .cases cz en;refine⟨.bool b.isNone,w,.inl (go _ ?_),b.isNone,A,env,hb,m,dw.refl,by simp only[Dl.val,az]⟩;rw[ev];simp only[Sem.run_bind,hg,Result.andThen_ok];simp[binOp,Op.equal,Op.maxDepth,heq]
   .cases cz en;refine⟨.bool (!b.isNone),w,.inl (go _ ?_),b.isNone,A,env,hb,m,dw.refl,by simp only[Dl.val,az]⟩;rw[ev];simp only[Sem.run_bind,hg,Result.andThen_ok];simp[binOp,Op.equal,Op.maxDepth,heq]
   .cases en
  have data:∀{u:CT}{xs:List u.D},qu A w u (a.eval x) xs->(∃ b c,a.eval x = .slice b xs.length c)/\(∀ c,a.eval x = .slice none xs.length c->xs.length=0):=by
   rintro u xs ⟨_,⟨⟨q,e1⟩,rfl⟩|⟨b,off,cap,e1,_⟩⟩
   .exact⟨⟨q,0,e1⟩,λ_ _=>rfl⟩
   .exact⟨⟨_,_,e1⟩,λc e2=>by rw[e1] at e2;cases e2⟩
  unfold MR at e;split at e
  next E u xs hu hx=>rw[hx] at dx;simp only[az] at dx;exact key _ _ _ E hu (data dx).1 (data dx).2 e
  next E u xs hu hx=>rw[hx] at dx;simp only[az] at dx;exact key _ _ _ E hu (data dx.1).1 (data dx.1).2 e
  next E hu hx=>rw[hx] at dx;simp only[az] at dx;exact key _ _ 0 E hu ⟨none,0,dx⟩ (λ_ _=>rfl) e
  .rename_i E n sz hu hx;rw[hx] at dx;simp only[az] at dx;simp only[Q.run] at e;split at e
   .rename_i p q hk;simp only[bq,br] at e;obtain⟨rfl,rfl⟩:=e;have own:∀{b:lD}{u:CT}{xs:List u.D}{E':TypeId},h n = .live b->(b = .row E' u xs∨b = .frz E' u xs)->(∃ b c,a.eval x = .slice b xs.length c)/\(∀ c,a.eval x = .slice none xs.length c->xs.length=0):=by
     intro b u xs E' hl hb;rcases dx with⟨hnil,pa,ev⟩|⟨k,len,E2,c,hk2,hsh,ev⟩
     .have hx0:xs=[]:=by
       have:=m.nm n;rw[hl] at this;rcases this with⟨k',l',he',_⟩|⟨_,E3,t3,hb3⟩
       .rw[hnil] at he';cases he'
       .rcases hb with rfl|rfl <;> rcases hb3 with hb3|hb3 <;> cases hb3 <;> rfl
      subst hx0;exact⟨⟨pa,0,ev⟩,λ_ _=>rfl⟩
     .have hlen:xs.length=len.2:=by
       have:=(m.live_blk hl hk2).1;rcases hb with rfl|rfl
       .obtain⟨_,_,_,_,h3,_⟩:=this;exact h3
       .obtain⟨_,_,_,_,_,h3,_⟩:=this;exact h3
      exact⟨⟨_,_,by rw[hlen];exact ev⟩,λc' e2=>by rw[ev] at e2;cases e2⟩
    split at hk
    next hl=>have:=own hl (.inl rfl);exact key _ _ _ E hu this.1 this.2 hk
    next hl=>have:=own hl (.inr rfl);exact key _ _ _ E hu this.1 this.2 hk
    .cases hk
   .cases e
  .cases e
 .cases e
theorem Xe(m:Mod w0 N0 A env h w)(f:FD A env w ρ a){op:UnOp}{t:TypeId}{x:Operand}(ho:o.op = .unOp op t x)
  (e:(IU op (aW ρ x)).run h=some (d,r)) (hp:bV d.pre):bj P o a w0 N0 A env h w d:=by
 have dx:=dg f x
 unfold IU ci at e
 split at e
 next b hx=>rw[hx] at dx;simp only[az] at dx;cases cz e;exact bj.pure m (v := .bool (!b)) (by unfold execOp;rw[ho];simp[dx,Op.unary]) (by simp only[az])
 next k n hx=>rw[hx] at dx;simp only[az] at dx;cases cz e;exact bj.pure m (v := .int k (k.wrap (0-n))) (by unfold execOp;rw[ho];simp[dx.1,Op.unary,Op.intArith]) (by simp only[az];exact⟨trivial,IntKind.wrap_has _ _⟩)
 next k n hx=>rw[hx] at dx;simp only[az] at dx;cases cz e;exact bj.pure m (v := .int k (HO k n)) (by unfold execOp;rw[ho];simp only[dx.1,Op.unary,intBits_xor,HO];rfl) (by simp only[az];exact⟨trivial,Pq _ _ _ _⟩)
 .cases e
theorem aE5(m:Mod w0 N0 A env h w)(f:FD A env w ρ a){s t:TypeId}{x:Operand}(ho:o.op = .convert s t x)
  (e:(GO P s t (aW ρ x)).run h=some (d,r)) (hp:bV d.pre):bj P o a w0 N0 A env h w d:=by
 have dx:=dg f x
 unfold GO ci at e
 split at e
 next k n dd k' hx hs ht=>rw[hx] at dx;simp only[az] at dx;cases cz e;refine bj.pure m (v := .int k' (k'.wrap n)) ?_ (by simp only[az];exact⟨trivial,IntKind.wrap_has _ _⟩);unfold execOp;rw[ho];simp only[dx.1,convert,Sem.run_bind,run_underlying hs,run_underlying ht,Result.andThen_ok,Conv.intToInt,Sem.run_pure]
 .cases e
end
end Go.SX
namespace Go.SX
def dU:(t:CT)->t.D->List SV
 | .int k,n=>[.int k n]
 | .bool,b=>[.bool b]
 | .str,s=>[.str s]
 | .sl t,xs=>[.dsl t xs]
 | .pair a b,d=>dU a d.1++dU b d.2
theorem J7:∀(t:CT)(d:t.D),(dU t d).length=t.size
 | .int k,n=>rfl
 | .bool,b=>rfl
 | .str,s=>rfl
 | .sl t,xs=>rfl
 | .pair a b,d=>by simp[dU,CT.size,J7 a d.1,J7 b d.2]
theorem SH{a b:List SV}:sU (a++b)=(sU a&&sU b):=by
 induction a with
 | nil=>rfl
 | cons x a ih=>simp[sU,ih,Bool.and_assoc]
theorem FQ:∀(t:CT)(d:t.D),sU (dU t d)=true
 | .int k,n=>rfl
 | .bool,b=>rfl
 | .str,s=>rfl
 | .sl t,xs=>rfl
 | .pair a b,d=>by simp[dU,SH,FQ a d.1,FQ b d.2]
theorem u7{A:Nat->Prop}{env:aZ}{w:World}:∀(t:CT)(d:t.D)(cv:Nat->Option Value)(o:Nat),Rd A w t cv o d →
  ∃ vs:List Value,vs.length=t.size/\(∀ j,j<t.size->cv (o+j)=vs[j]?)/\aR A env w (dU t d) vs
 | .int k,n,cv,o,h=>⟨[.int k n],rfl,λj hj=>by
   simp only[CT.size] at hj;have:j=0:=by omega
   subst this;simpa using h.1,by simp only[dU,aR,az];exact⟨_,[],rfl,⟨rfl,h.2⟩,rfl⟩⟩
 | .bool,b,cv,o,h=>⟨[.bool b],rfl,λj hj=>by
   simp only[CT.size] at hj;have:j=0:=by omega
   subst this;simp only[Rd] at h;simpa using h,by simp only[dU,aR,az];exact⟨_,[],rfl,rfl,rfl⟩⟩
 | .str,s,cv,o,h=>⟨[.string s],rfl,λj hj=>by
   simp only[CT.size] at hj;have:j=0:=by omega
   subst this;simpa using h.1,by simp only[dU,aR,az];exact⟨_,[],rfl,⟨rfl,h.2⟩,rfl⟩⟩
 | .sl t,xs,cv,o,h=>by
   obtain⟨v,hv,hs⟩:=sw.1 h;exact⟨[v],rfl,λj hj=>by
    simp only[CT.size] at hj;have:j=0:=by omega
    subst this;simpa using hv,by simp only[dU,aR,az];exact⟨_,[],rfl,hs,rfl⟩⟩
 | .pair a b,d,cv,o,h=>by
   obtain⟨us,l1,c1,d1⟩:=u7 (env:=env) a d.1 cv o h.1;obtain⟨vs,l2,c2,d2⟩:=u7 (env:=env) b d.2 cv (o+a.size) h.2;refine⟨us++vs,by simp[CT.size,l1,l2],λj hj=>?_,tB d1 d2⟩;by_cases hlt:j<a.size
   .rw[c1 j hlt,lF (by omega)]
   .simp only[CT.size] at hj;have:=c2 (j-a.size) (by omega);rw[show o+a.size+(j-a.size)=o+j from by omega] at this;rw[this,kw (by omega),l1]
def hY(t t':CT)(xs:List t.D):Option (List t'.D):=if h:t=t' then some (h▸xs) else none
theorem jN{t t':CT}{xs:List t.D}{ys:List t'.D}(h:hY t t' xs=some ys):∃ e:t=t',ys=e▸xs:=by
 unfold hY at h
 split at h
 next e=>cases h;exact⟨e,rfl⟩
 .cases h
def jz:(t:CT)->List SV->Q (t.D×List SV×List (Nat×Nm))
 | .int k,.int k' n::r=>match lO k k' with
  | true => .ret (n,r,[])
  | false => .fail
 | .bool,.bool b::r => .ret (b,r,[])
 | .str,.str s::r => .ret (s,r,[])
 | .sl t,.dsl t' xs::r=>match hY t' t xs with
  | some ys => .ret (ys,r,[])
  | none => .fail
 | .sl t,.dsx t' xs::r=>match hY t' t xs with
  | some ys => .ret (ys,r,[])
  | none => .fail
 | .sl t,.nilsl::r => .ret ([],r,[])
 | .sl t,.own n sz::r => .ask n fun
  | .live (.row E t' xs)=>match Nat.beq sz t'.size,hY t' t xs with
   | true,some ys => .ret (ys,r,[(n,.live (.frz E t' xs))])
   | _,_ => .fail
  | .live (.frz E t' xs)=>match Nat.beq sz t'.size,hY t' t xs with
   | true,some ys => .ret (ys,r,[])
   | _,_ => .fail
  | _ => .fail
 | .pair a b,cs=>(jz a cs).bind λp=>(jz b p.2.1).bind λq=>.ret ((p.1,q.1),q.2.1,p.2.2++q.2.2)
 | _,_ => .fail
def gM(env:aZ)(fz:List (Nat×Nm))(k:Nat):Prop:=∃ n b l,(n,b)∈fz/\env n = .blk k l
def nQ(h:bP)(fz:List (Nat×Nm)):Prop:=∀ n b,(n,b)∈fz→∃ E t xs,h n = .live (.row E t xs)/\b = .live (.frz E t xs)
section
variable {w0:World} {N0:f5} {A A':Nat->Prop} {env:aZ} {h:bP} {w:World}
theorem D4(hA:∀ b,A b->A' b){k:Nat}{len:Nat×Nat}{E:TypeId}{t:CT}{xs:List t.D}(hr:nX A w k len E t xs)(hk:A' k){c:Nat}{E':TypeId}
  (hs:w.shape? k=some (E',c)):qu A' w t (.slice (some ⟨k,len.1,none⟩) len.2 ((c-len.1)/t.size)) xs:=by
 obtain⟨vs,cap,hh,h1,h2,h3,h4,h5⟩:=hr
 have hc:c=vs.size:=by
  unfold World.shape? at hs;rw[hh] at hs;simp only[bq,br] at hs;exact hs.2.symm
 have hcap:(c-len.1)/t.size=cap:=by rw[hc,h1,lu];exact qL _ t.size_pos
 rw[hcap,← h2]
 refine⟨by omega,.inr ⟨k,len.1,cap,rfl,by omega,h4,hk,λi hi=>?_⟩⟩
 refine ik hA (λ_ _ _=>rfl) t _ _ _ _ (λj _=>?_) (h5 i hi)
 rw[cell_of_row w k _ vs E (0,0) hh]
theorem N4{t:CT}{cv:Nat->Option Value}{o:Nat}{d:t.D}(hr:Rd A w t cv o d)(n:Nat):Rd A w t (λj=>cv (j-n)) (o+n) d:=by
 have key:∀(t:CT)(cv:Nat->Option Value)(o:Nat)(d:t.D),Rd A w t cv o d->Rd A w t (λj=>cv (j-n)) (o+n) d:=by
  intro t
  induction t with
  | pair a b iha ihb =>
   intro cv o d hh;refine⟨iha _ _ _ hh.1,?_⟩;have:=ihb _ _ _ hh.2
   rwa [show o+a.size+n=o+n+a.size from by omega] at this
  | int k=>intro cv o d hh;simpa[Rd] using hh
  | bool=>intro cv o d hh;simpa[Rd] using hh
  | str=>intro cv o d hh;simpa[Rd] using hh
  | sl t ih=>intro cv o d hh;simpa[Rd] using hh
 exact key t cv o d hr
theorem yo{t:CT}{cv:Nat->Option Value}{d:t.D}(hr:Rd A w t cv 0 d)(n:Nat):Rd A w t (λj=>cv (j-n)) (0+n) d:=N4 hr n
theorem sC(m:Mod w0 N0 A env h w):∀(t:CT)(cs:List SV)(vs:List Value)(d:t.D)(rest:List SV)(fz:List (Nat×Nm))(r:List Nat),
  (jz t cs).run h=some ((d,rest,fz),r)->aR A env w cs vs->(∀ b,A b->A' b)->(∀ k,gM env fz k->A' k) →
  nQ h fz/\(∀ n b,(n,b)∈fz->n∈r)/\vs.length=t.size+rest.length/\Rd A' w t (λj=>vs[j]?) 0 d/\aR A env w rest (vs.drop t.size):=by
 intro t
 have hnil:∀{n:Nat}{b:Nm},(n,b)∈([]:List (Nat×Nm))->False:=λhh=>by simp at hh
 induction t with
 | int k =>
  intro cs vs d rest fz r e hd hA hF
  match cs with
  | .int k' n::cs => ?_
  | [] | .bool _::_ | .str _::_ | .dsl _ _::_ | .dsx _ _::_ | .nilsl::_ | .own _ _::_ | .ptr _ _::_ | .eptr _ _ _ _::_ | .dptr _ _ _::_ | .nilp::_ | .fn _ _::_ | .agg _::_ | .tup _::_ | .opt _ _::_ | .cv _::_ | .gl _::_ | .csl _ _::_ | .mapp _::_ | .junk::_=>cases e
  simp only[jz] at e;split at e
  next hk=>cases lY hk;simp only[Q.run,bq,br] at e;obtain⟨⟨rfl,rfl,rfl⟩,rfl⟩:=e;simp only[aR,az] at hd;obtain⟨v,r,rfl,⟨rfl,hh⟩,hr⟩:=hd;have hl:=je hr;exact⟨λ_ _ h=>(hnil h).elim,λ_ _ h=>(hnil h).elim,by simp[CT.size,hl];omega,⟨by simp,hh⟩,by simpa[CT.size] using hr⟩
  .cases e
 | bool =>
  intro cs vs d rest fz r e hd hA hF
  match cs with
  | .bool n::cs => ?_
  | [] | .int _ _::_ | .str _::_ | .dsl _ _::_ | .dsx _ _::_ | .nilsl::_ | .own _ _::_ | .ptr _ _::_ | .eptr _ _ _ _::_ | .dptr _ _ _::_ | .nilp::_ | .fn _ _::_ | .agg _::_ | .tup _::_ | .opt _ _::_ | .cv _::_ | .gl _::_ | .csl _ _::_ | .mapp _::_ | .junk::_=>cases e
  simp only[jz] at e;simp only[Q.run,bq,br] at e;obtain⟨⟨rfl,rfl,rfl⟩,rfl⟩:=e;simp only[aR,az] at hd;obtain⟨v,r,rfl,rfl,hr⟩:=hd;have hl:=je hr;exact⟨λ_ _ h=>(hnil h).elim,λ_ _ h=>(hnil h).elim,by simp[CT.size,hl];omega,by simp[Rd],by simpa[CT.size] using hr⟩
 | str =>
  intro cs vs d rest fz r e hd hA hF
  match cs with
  | .str n::cs => ?_
  | [] | .int _ _::_ | .bool _::_ | .dsl _ _::_ | .dsx _ _::_ | .nilsl::_ | .own _ _::_ | .ptr _ _::_ | .eptr _ _ _ _::_ | .dptr _ _ _::_ | .nilp::_ | .fn _ _::_ | .agg _::_ | .tup _::_ | .opt _ _::_ | .cv _::_ | .gl _::_ | .csl _ _::_ | .mapp _::_ | .junk::_=>cases e
  simp only[jz] at e;simp only[Q.run,bq,br] at e;obtain⟨⟨rfl,rfl,rfl⟩,rfl⟩:=e;simp only[aR,az] at hd;obtain⟨v,r,rfl,⟨rfl,hh⟩,hr⟩:=hd;have hl:=je hr;exact⟨λ_ _ h=>(hnil h).elim,λ_ _ h=>(hnil h).elim,by simp[CT.size,hl];omega,⟨by simp,hh⟩,by simpa[CT.size] using hr⟩
 | sl t ih =>
  intro cs vs d rest fz r e hd hA hF
  match cs with
  | .dsl t' xs::cs =>
   simp only[jz] at e;split at e
   next ys hc=>obtain⟨et,ey⟩:=jN hc;subst et;simp only[Q.run,bq,br] at e;obtain⟨⟨rfl,rfl,rfl⟩,rfl⟩:=e;simp only at ey;subst ey;simp only[aR,az] at hd;obtain⟨v,r,rfl,hs,hr⟩:=hd;have hl:=je hr;exact⟨λ_ _ h=>(hnil h).elim,λ_ _ h=>(hnil h).elim,by simp[CT.size,hl];omega,sw.2 ⟨v,by simp,EC hA (λ_ _ _=>rfl) hs⟩,by simpa[CT.size] using hr⟩
   .cases e
  | .dsx t' xs::cs =>
   simp only[jz] at e;split at e
   next ys hc=>obtain⟨et,ey⟩:=jN hc;subst et;simp only[Q.run,bq,br] at e;obtain⟨⟨rfl,rfl,rfl⟩,rfl⟩:=e;simp only at ey;subst ey;simp only[aR,az] at hd;obtain⟨v,r,rfl,hs,hr⟩:=hd;have hl:=je hr;exact⟨λ_ _ h=>(hnil h).elim,λ_ _ h=>(hnil h).elim,by simp[CT.size,hl];omega,sw.2 ⟨v,by simp,EC hA (λ_ _ _=>rfl) hs.1⟩,by simpa[CT.size] using hr⟩
   .cases e
  | .nilsl::cs =>
   simp only[jz] at e;simp only[Q.run,bq,br] at e;obtain⟨⟨rfl,rfl,rfl⟩,rfl⟩:=e;simp only[aR,az] at hd;obtain⟨v,r,rfl,rfl,hr⟩:=hd;have hl:=je hr;exact⟨λ_ _ h=>(hnil h).elim,λ_ _ h=>(hnil h).elim,by simp[CT.size,hl];omega,sw.2 ⟨_,by simp;rfl,by simp,.inl ⟨⟨_,rfl⟩,rfl⟩⟩,by simpa[CT.size] using hr⟩
  | .own n sz::cs =>
   simp only[jz,Q.run] at e;simp only[aR,az] at hd;obtain⟨v,r',rfl,hv,hr⟩:=hd;have hl:=je hr;have hm:=m.nm n;split at e
   .rename_i p q hk;simp only[bq,br] at e;obtain⟨rfl,rfl⟩:=e;split at hk
    .rename_i E t' xs hl';rw[hl'] at hm;split at hk
     .rename_i ys hsz hc;obtain⟨et,ey⟩:=jN hc;subst et;simp only[Q.run,bq,br] at hk;obtain⟨⟨rfl,rfl,rfl⟩,rfl⟩:=hk;simp only at ey;subst ey;have hsz:sz=t'.size:=bG hsz;subst hsz;refine⟨?_,?_,by simp[CT.size,hl];omega,?_,by simpa[CT.size] using hr⟩
      .intro n' b' hh;simp only[iI,br] at hh;obtain⟨rfl,rfl⟩:=hh;exact⟨E,t',_,hl',rfl⟩
      .intro n' b' hh;simp only[iI,br] at hh;simp[hh.1]
      .rcases hv with⟨he,a,rfl⟩|⟨b,len,E',c,he,hs,rfl⟩
       .rcases hm with⟨k,len,he',_⟩|⟨_,E2,t2,hb⟩
        .rw[he] at he';cases he'
        .have hx:ys=[]:=by
          rcases hb with hb|hb <;> cases hb <;> rfl
         subst hx;exact sw.2 ⟨_,by simp;rfl,by simp,.inl ⟨⟨_,rfl⟩,rfl⟩⟩
       .rcases hm with⟨k,len',he',hb,_⟩|⟨he',_⟩
        .rw[he] at he';cases he';exact sw.2 ⟨_,by simp,D4 hA hb (hF b ⟨n,_,len,by simp;rfl,he⟩) hs⟩
        .rw[he] at he';cases he'
     .cases hk
    .rename_i E t' xs hl';rw[hl'] at hm;split at hk
     .rename_i ys hsz hc;obtain⟨et,ey⟩:=jN hc;subst et;simp only[Q.run,bq,br] at hk;obtain⟨⟨rfl,rfl,rfl⟩,rfl⟩:=hk;simp only at ey;subst ey;have hsz:sz=t'.size:=bG hsz;subst hsz;refine⟨λ_ _ h=>(hnil h).elim,λ_ _ h=>(hnil h).elim,by simp[CT.size,hl];omega,?_,by simpa[CT.size] using hr⟩
      .rcases hv with⟨he,a,rfl⟩|⟨b,len,E',c,he,hs,rfl⟩
       .rcases hm with⟨k,len,he',_⟩|⟨_,E2,t2,hb⟩
        .rw[he] at he';cases he'
        .have hx:ys=[]:=by
          rcases hb with hb|hb <;> cases hb <;> rfl
         subst hx;exact sw.2 ⟨_,by simp;rfl,by simp,.inl ⟨⟨_,rfl⟩,rfl⟩⟩
       .rcases hm with⟨k,len',he',hb,_⟩|⟨he',_⟩
        .rw[he] at he';cases he';exact sw.2 ⟨_,by simp,D4 hA hb.2 (hA _ hb.1) hs⟩
        .rw[he] at he';cases he'
     .cases hk
    .cases hk
   .cases e
  | [] | .int _ _::_ | .bool _::_ | .str _::_ | .ptr _ _::_ | .eptr _ _ _ _::_ | .dptr _ _ _::_ | .nilp::_ | .fn _ _::_ | .agg _::_ | .tup _::_ | .opt _ _::_ | .cv _::_ | .gl _::_ | .csl _ _::_ | .mapp _::_ | .junk::_=>cases e
 | pair a b iha ihb =>
  intro cs vs d rest fz r e hd hA hF;simp only[jz] at e;obtain⟨⟨d1,r1,f1⟩,q1,q2,e1,e2,rfl⟩:=Q.run_bind _ _ _ e;obtain⟨⟨d2,r2,f2⟩,q3,q4,e3,e4,rfl⟩:=Q.run_bind _ _ _ e2;simp only[Q.run,bq,br] at e4;obtain⟨⟨rfl,rfl,rfl⟩,rfl⟩:=e4;have hF1:∀ k,gM env f1 k->A' k:=λk ⟨n,x,l,hx,he⟩=>hF k ⟨n,x,l,gu _ hx,he⟩;have hF2:∀ k,gM env f2 k->A' k:=λk ⟨n,x,l,hx,he⟩=>hF k ⟨n,x,l,jd _ hx,he⟩;obtain⟨o1,n1,l1,rd1,dr1⟩:=iha cs vs d1 r1 f1 q1 e1 hd hA hF1;obtain⟨o2,n2,l2,rd2,dr2⟩:=ihb r1 _ d2 r2 f2 q3 e3 dr1 hA hF2;refine⟨?_,?_,?_,⟨rd1,?_⟩,?_⟩
  .intro n x hx;rcases dB.1 hx with hx|hx
   .exact o1 n x hx
   .exact o2 n x hx
  .intro n x hx;rcases dB.1 hx with hx|hx
   .exact gu _ (n1 n x hx)
   .exact jd _ (gu _ (n2 n x hx))
  .simp only[CT.size];simp at l2;omega
  .refine ik (λ_ h=>h) (λ_ _ _=>rfl) b _ _ _ _ (λj _=>?_) (yo rd2 a.size);simp[uP]
  .simp only[CT.size];rw[← List.drop_drop];exact dr2
end
end Go.SX
namespace Go.SX
def vL:Option SV->Q Dl
 | some v=>ci v
 | none => .fail
def De(P:Program)(s:TypeId)(f:Nat):Option Field:=match P.underlying s with
 | some (.struct fs)=>fs[f]?
 | _=>none
def JM(P:Program)(s:TypeId)(f:Nat)(x:SV):Q Dl:=match x,De P s f with
 | .agg cs,some fd=>vL (nR P fd.type cs fd.offset)
 | _,_ => .fail
def Jq(i:Nat)(x:SV):Q Dl:=match x with
 | .tup cs=>vL (nA cs i)
 | _ => .fail
def IP(x:SV):Q Dl:=match x with
 | .ptr n o=>ci (.ptr n o)
 | .eptr n s i o=>ci (.eptr n s i o)
 | .dptr t d o=>ci (.dptr t d o)
 | .fn f c=>ci (.fn f c)
 | _ => .fail
def GW(P:Program)(s:TypeId)(f:Nat)(x:SV):Q Dl:=match De P s f with
 | some fd=>match gI P fd.type with
  | some (_+1)=>match x with
   | .ptr n o=>ci (.ptr n (o+fd.offset))
   | .eptr n sz i o=>ci (.eptr n sz i (o+fd.offset))
   | .dptr t d o=>ci (.dptr t d (o+fd.offset))
   | _ => .fail
  | _ => .fail
 | none => .fail
def B3(P:Program)(ty:TypeId)(x:SV):Q Dl:=match x with
 | .ptr n off => .ask n fun
  | .live (.cells _ cs)=>vL (nR P ty cs off)
  | _ => .fail
 | .eptr n sz i off => .ask n fun
  | .live (.row _ t xs)=>match Nat.beq sz t.size with
   | true=>vL (nR P ty (dU t (lx t xs i)) off)
   | false => .fail
  | .live (.frz _ t xs)=>match Nat.beq sz t.size with
   | true=>vL (nR P ty (dU t (lx t xs i)) off)
   | false => .fail
  | _ => .fail
 | .dptr t d off=>vL (nR P ty (dU t d) off)
 | _ => .fail
def su(P:Program)(t:TypeId):Option (TypeId×Nat):=match P.underlying t with
 | some (.slice e)=>match gI P e with
  | some n=>some (e,n)
  | none=>none
 | _=>none
def Gp(P:Program)(t:TypeId)(x i:SV):Q Dl:=match i,su P t with
 | .int _ i,some (_,n)=>match x with
  | .dsl u xs=>match Nat.beq n u.size with
   | true => .ret (.det [0<=i,i<xs.length] (.dptr u (lx u xs i.toNat) 0) [])
   | false => .fail
  | .own m sz => .ask m fun
   | .live (.row _ u xs)=>match Nat.beq n u.size,Nat.beq sz u.size with
    | true,true => .ret (.det [0<=i,i<xs.length] (.eptr m sz i.toNat 0) [])
    | _,_ => .fail
   | .live (.frz _ u xs)=>match Nat.beq n u.size,Nat.beq sz u.size with
    | true,true => .ret (.det [0<=i,i<xs.length] (.eptr m sz i.toNat 0) [])
    | _,_ => .fail
   | _ => .fail
  | .csl m k=>match Nat.beq n 1,decide (0<=i)&&decide (i<k) with
   | true,true=>ci (.ptr m i.toNat)
   | _,_ => .fail
  | _ => .fail
 | _,_ => .fail
def oU(P:Program)(t:TypeId)(x:SV):Q Dl:=match P.underlying t with
 | some (.slice _)=>match x with
  | .dsl _ xs=>ci (.int .i64 xs.length)
  | .dsx _ xs=>ci (.int .i64 xs.length)
  | .nilsl=>ci (.int .i64 0)
  | .own n _ => .ask n fun
   | .live (.row _ _ xs)=>ci (.int .i64 xs.length)
   | .live (.frz _ _ xs)=>ci (.int .i64 xs.length)
   | _ => .fail
  | .csl _ k=>match Nat.ble k maxLen with
   | true=>ci (.int .i64 k)
   | false => .fail
  | _ => .fail
 | _ => .fail
def G0(x y:SV):Q Dl:=match x,y with
 | .int k a,.int k' b=>match lO k k' with
  | true=>ci (.int k (min a b))
  | false => .fail
 | _,_ => .fail
def G7(x y:SV):Q Dl:=match x,y with
 | .int k a,.int k' b=>match lO k k' with
  | true=>ci (.int k (max a b))
  | false => .fail
 | _,_ => .fail
section
variable {P:Program} {w0:World} {N0:f5} {A:Nat->Prop} {env:aZ} {h:bP} {w:World} {o:Oper} {a:Act} {ρ:Nat->SV} {d:Dl} {r:List Nat}
theorem Bx{t:TypeId}{cs:List SV}{off:Nat}{s:SV}{b:List Value}{k o:Nat}(e:nR P t cs off=some s)(g:aR A env w cs b)
  (hc:∀ j,j<b.length->w.cell? ⟨k,o+j,none⟩=b[j]?) :
  ∃ v,(loadVar t ⟨k,o+off,none⟩).run P w = .ok v w/\az A env w s v:=by
 unfold nR at e
 split at e
 next h=>
  split at e
  .rename_i n hn;split at e
   .rename_i c;cases e;have c:off+n<=cs.length:=kO c;have hl:=je g;have d:∃ f,P.underlying t=some f/\f.isRow=true:=by
     unfold vI at h;grind
    obtain⟨f,hu,i⟩:=d;have hi:(P.info? t).map (·.size)=some ((b.drop off).take n).length:=by
     unfold gI at hn;grind
    refine⟨.agg ((b.drop off).take n).toArray,run_loadVar_mid w k (o+off) t _ f ?_ hu i hi,?_⟩
    .intro j v hj;grind
    .simp only[az];exact⟨_,rfl,by simpa using Ce n (Cx off g)⟩
   .cases e
  .cases e
 next h=>rw[vR] at e;obtain⟨v,hv,l⟩:=Cj _ _ g e;refine⟨v,?_,l⟩;have m:off<b.length:=(List.getElem?_eq_some_iff.1 hv).1;have a:=hc off m;rw[hv] at a;simp[loadVar,Sem.run_bind,Bi h w,a]
 .cases e
theorem xu{x:Option SV}(e:(vL x).run h=some (d,r)):∃ s,x=some s/\d = .det [] s []:=by
 cases x with
 | none=>cases e
 | some s=>exact⟨s,rfl,(cz e).symm⟩
theorem Qo{s:TypeId}{f:Nat}{a:Field}(e:De P s f=some a):∃ b,P.underlying s=some (.struct b)/\b[f]? = some a:=by
 unfold De at e
 grind
theorem an2(m:Mod w0 N0 A env h w)(f:FD A env w ρ a){s:TypeId}{x:Operand}{i:Nat}(ho:o.op = .field s x i)
  (e:(JM P s i (aW ρ x)).run h=some (d,r)):bj P o a w0 N0 A env h w d:=by
 have c:=dg f x
 unfold JM at e
 split at e
 next cs fd hx hf=>obtain⟨sv,e1,rfl⟩:=xu e;obtain⟨fs,hu,b⟩:=Qo hf;rw[hx] at c;obtain⟨vs,ev,dv⟩:=c;obtain⟨v,hr,hd⟩:=CN e1 dv;refine bj.pure m ?_ hd;unfold execOp;rw[ho];simp[Instr.field,run_underlying hu,b,ev,asAgg,hr]
 .cases e
theorem af7(m:Mod w0 N0 A env h w)(f:FD A env w ρ a){x:Operand}{i:Nat}(ho:o.op = .extract x i)
  (e:(Jq i (aW ρ x)).run h=some (d,r)):bj P o a w0 N0 A env h w d:=by
 have c:=dg f x
 unfold Jq at e
 split at e
 next cs hx=>
  obtain⟨sv,g,rfl⟩:=xu e;rw[hx] at c;obtain⟨vs,ev,dv⟩:=c;rw[vR] at g;obtain⟨v,hv,hd⟩:=Cj _ _ dv g;have b:vs[i]? = some v:=by rw[← lK];exact hv
  refine bj.pure m ?_ hd;unfold execOp;rw[ho];simp[Instr.extract,ev,b]
 .cases e
theorem VR(m:Mod w0 N0 A env h w)(f:FD A env w ρ a){x:Operand}(k:o.op = .nilCheck x)
  (e:(IP (aW ρ x)).run h=some (d,r)):bj P o a w0 N0 A env h w d:=by
 have j:=dg f x
 unfold IP ci at e
 split at e
 next n o' hx=>cases cz e;rw[hx] at j;have g:=j;obtain⟨b,l,p,ev⟩:=j;exact bj.pure m (by unfold execOp;rw[k];simp[ev]) g
 next n s i o' hx=>cases cz e;rw[hx] at j;have g:=j;obtain⟨b,l,p,hl,ev⟩:=j;exact bj.pure m (by unfold execOp;rw[k];simp[ev]) g
 next t d' o' hx=>cases cz e;rw[hx] at j;have g:=j;obtain⟨b,l,ev,p⟩:=j;exact bj.pure m (by unfold execOp;rw[k];simp[ev]) g
 next ff c hx=>cases cz e;rw[hx] at j;have g:=j;obtain⟨vs,ev,p⟩:=j;exact bj.pure m (by unfold execOp;rw[k];simp[ev]) g
 .cases e
theorem Wz(m:Mod w0 N0 A env h w)(f:FD A env w ρ a){s:TypeId}{x:Operand}{i:Nat}(ho:o.op = .fieldAddr s x i)
  (e:(GW P s i (aW ρ x)).run h=some (d,r)):bj P o a w0 N0 A env h w d:=by
 have c:=dg f x
 unfold GW at e
 split at e
 next fd hf=>
  obtain⟨fs,hu,g⟩:=Qo hf;split at e
  .rename_i z j;have k:∀(b off:Nat),a.eval x = .pointer (some ⟨b,off,none⟩)->(execOp a.eval o).run P w = .ok (.value (.pointer (some ⟨b,off+fd.offset,none⟩))) w:=by
    intro b off ev;unfold execOp;rw[ho];simp[Instr.fieldAt,run_underlying hu,g,ev,Instr.sureAddr,fieldPlace,kU j,Addr.add_lit]
   split at e
   next n o' hx=>cases cz e;rw[hx] at c;obtain⟨b,l,p,ev⟩:=c;exact bj.pure m (k b o' ev) (by simp only[az];exact⟨b,l,p,rfl⟩)
   next n s' i' o' hx=>cases cz e;rw[hx] at c;obtain⟨b,l,p,hl,ev⟩:=c;exact bj.pure m (k b _ ev) (by simp only[az];exact⟨b,l,p,hl,by rw[gN,gN]⟩)
   next t d' o' hx=>cases cz e;rw[hx] at c;obtain⟨b,l,ev,hA,hr⟩:=c;exact bj.pure m (k b _ ev) (by simp only[az];exact⟨b,l,by rw[gN],hA,hr⟩)
   .cases e
  .cases e
 .cases e
theorem Jv{t:CT}{xs:List t.D}{i:Nat}(hi:i<xs.length):lx t xs i=xs[i]:=by
 simp[lx,bJ,hi]
theorem zc{k:Nat}{len:Nat×Nat}{E:TypeId}{t:CT}{xs:List t.D}(hr:nX A w k len E t xs){i:Nat}(hi:i<len.2) :
  Rd A w t (λo=>w.cell? ⟨k,o,none⟩) (len.1+i*t.size) (lx t xs i):=by
 obtain⟨vs,cap,hh,h1,h2,h3,h4,h5⟩:=hr
 rw[Jv (by omega:i<xs.length)]
 refine ik (λ_ h=>h) (λ_ _ _=>rfl) t _ _ _ _ (λj _=>?_) (h5 i (by omega))
 rw[cell_of_row w k _ vs E (0,0) hh]
theorem G6{t:CT}{a:t.D}{k b off:Nat}{ty:TypeId}{s:SV}(hr:Rd A w t (λo=>w.cell? ⟨k,o,none⟩) b a)(e:nR P ty (dU t a) off=some s) :
  ∃ v,(loadVar ty ⟨k,b+off,none⟩).run P w = .ok v w/\az A env w s v:=by
 obtain⟨us,hl,hc,hd⟩:=u7 t a _ b hr
 exact Bx e hd (λj hj=>hc j (by omega))
theorem G9(m:Mod w0 N0 A env h w){ty:TypeId}{x:Operand}(φ:Operand->SV)(k:az A env w (φ x) (a.eval x))(ho:o.op = .load ty x)
  (e:(B3 P ty (φ x)).run h=some (d,r)):bj P o a w0 N0 A env h w d:=by
 have y:∀{b off:Nat}{v:Value},a.eval x = .pointer (some ⟨b,off,none⟩)->(loadVar ty ⟨b,off,none⟩).run P w = .ok v w->(execOp a.eval o).run P w = .ok (.value v) w:=by
  intro b off v ev f;unfold execOp;rw[ho];simp only[ev,Instr.loadAt,Instr.sureAddr,Sem.run_bind,Sem.run_pure,Result.andThen_ok,f]
 unfold B3 at e
 split at e
 next n off hx=>
  rw[hx] at k;obtain⟨b,l,z,ev⟩:=k;simp only[Q.run] at e;split at e
  .rename_i p q hk;obtain⟨rfl,rfl⟩:=e;split at hk
   next E cs hl=>obtain⟨s,g,rfl⟩:=xu hk;obtain⟨⟨vs,hh,hd⟩,_⟩:=m.live_blk hl z;obtain⟨v,f,hv⟩:=Bx (o:=0) g hd (λj hj=>by rw[cell_of_row w b _ vs E (0,0) hh];simp);rw[gh] at f;exact bj.pure m (y ev f) hv
   .cases hk
  .cases e
 next n sz i off hx=>
  rw[hx] at k;obtain⟨b,l,z,u,ev⟩:=k;simp only[Q.run] at e;split at e
  .rename_i p q hk;obtain⟨rfl,rfl⟩:=e;split at hk
   .rename_i E t xs hl;split at hk
    next c=>have c:sz=t.size:=bG c;subst c;obtain⟨s,g,rfl⟩:=xu hk;obtain⟨v,f,hv⟩:=G6 (zc (m.live_blk hl z).1 u) g;rw[gN] at f;exact bj.pure m (y ev f) hv
    .cases hk
   .rename_i E t xs hl;split at hk
    next c=>have c:sz=t.size:=bG c;subst c;obtain⟨s,g,rfl⟩:=xu hk;obtain⟨v,f,hv⟩:=G6 (zc (m.live_blk hl z).1.2 u) g;rw[gN] at f;exact bj.pure m (y ev f) hv
    .cases hk
   .cases hk
  .cases e
 next t d' off hx=>rw[hx] at k;obtain⟨b,l,ev,hA,f⟩:=k;obtain⟨s,g,rfl⟩:=xu e;obtain⟨v,f,hv⟩:=G6 f g;exact bj.pure m (y ev f) hv
 .cases e
theorem vD{t e:TypeId}{n:Nat}(hh:su P t=some (e,n)):P.underlying t=some (.slice e)/\gI P e=some n:=by
 unfold su at hh
 grind
theorem aC2(m:Mod w0 N0 A env h w)(f:FD A env w ρ a){t:TypeId}{x i:Operand}(ho:o.op = .indexAddr t x i)
  (e:(Gp P t (aW ρ x) (aW ρ i)).run h=some (d,r)) (y:bV d.pre):bj P o a w0 N0 A env h w d:=by
 have dx:=dg f x
 have di:=dg f i
 unfold Gp at e
 split at e
 next k j E n hi he=>
  obtain⟨hu,hn⟩:=vD he;rw[hi] at di;simp only[az] at di;have go:∀{b off len cap:Nat},a.eval x = .slice (some ⟨b,off,none⟩) len cap->0<=j->j<len →
    (execOp a.eval o).run P w = .ok (.value (.pointer (some ⟨b,off+j.toNat*n,none⟩))) w:=by
   intro b off len cap ev h0 s;unfold execOp;rw[ho];simp[Instr.indexAt,ev,di.1,asIntOf,run_underlying hu,kU hn,h0,s,Addr.add_lit]
  split at e
  .rename_i u xs hx;rw[hx] at dx;split at e
   .rename_i v;have v:n=u.size:=bG v;cases cz e;simp only[Dl.pre,bV,iu] at y;obtain⟨hlen,⟨_,rfl⟩|⟨b,off,cap,ev,s,h2,h3,h4⟩⟩:=dx
    .simp at y;try omega
    .refine bj.pure m (go ev y.1 y.2) ?_;have hlt:j.toNat<xs.length:=by omega
     exact⟨b,off+j.toNat*n,rfl,h3,by rw[Jv hlt,v];exact h4 _ hlt⟩
   .cases e
  .rename_i mm sz hx;rw[hx] at dx;simp only[Q.run] at e;split at e
   .rename_i p q hk;obtain⟨rfl,rfl⟩:=e;have fin:∀{E':TypeId}{u:CT}{xs:List u.D},(h mm = .live (.row E' u xs)∨h mm = .live (.frz E' u xs))->n=u.size->sz=u.size->0<=j->j<xs.length →
      bj P o a w0 N0 A env h w (.det [0<=j,j<xs.length] (.eptr mm sz j.toNat 0) []):=by
     intro E' u xs g hn' hsz' h0 s;rcases dx with⟨hnil,_⟩|⟨b,len,E2,c,hb,_,ev⟩
     .exfalso;have:=m.nm mm;rcases g with g|g <;> rw[g] at this <;> rcases this with⟨k',l',he',_⟩|⟨_,E3,t3,hb⟩
      .simp_all
      .grind
      .simp_all
      .grind
     .have hlen:xs.length=len.2:=by
       rcases g with g|g
       .obtain⟨vs,cap,_,_,h2,_⟩:=(m.live_blk g hb).1;exact h2
       .obtain⟨_,vs,cap,_,_,h2,_⟩:=(m.live_blk g hb).1;exact h2
      refine bj.pure m (go ev h0 (by omega)) ?_;simp only[az];grind
    split at hk
    .rename_i E' u xs g;split at hk
     next s h2=>cases cz hk;simp only[Dl.pre,bV,iu] at y;simp_all
     .cases hk
    .rename_i E' u xs g;split at hk
     next s h2=>cases cz hk;simp only[Dl.pre,bV,iu] at y;simp_all
     .cases hk
    .cases hk
   .cases e
  .rename_i mm kk hx;rw[hx] at dx;obtain⟨b,l,he',ev⟩:=dx;split at e
   next s h2=>have s:=bG s;simp only[dM,mh] at h2;cases cz e;exact bj.pure m (go ev h2.1 h2.2) (by simp only[az];exact⟨b,l,he',by rw[s,Nat.mul_one,gh]⟩)
   .cases e
  .cases e
 .cases e
theorem yc{n:Nat}(h:n<=maxLen):IntKind.i64.has n:=by
 simp only[maxLen] at h
 exact⟨by have:IntKind.i64.min = -9223372036854775808:=by decide
          omega,by rw[IntKind.max_i64];omega⟩
theorem Tt(m:Mod w0 N0 A env h w)(f:FD A env w ρ a){t:TypeId}{x:Operand}(ho:o.op = .call {callee := .builtin .len,args := #[x],argTypes := #[t]})
  (e:(oU P t (aW ρ x)).run h=some (d,r)):bj P o a w0 N0 A env h w d:=by
 have dx:=dg f x
 unfold oU at e
 split at e
 next E hu=>
  have go:∀{p:Option Addr}{len cap:Nat},a.eval x = .slice p len cap->(execOp a.eval o).run P w = .ok (.value (.int .i64 len)) w:=by
   intro p len cap ev;unfold execOp;rw[ho];simp[resolve,invoke,builtin,Builtin.len_,run_underlying hu,ev,goInt]
  split at e
  .rename_i u xs hx;unfold ci at e;cases cz e;rw[hx] at dx;simp only[az] at dx;obtain⟨hlen,⟨⟨p,ev⟩,rfl⟩|⟨b,off,cap,ev,_⟩⟩:=dx
   .exact bj.pure m (go ev) (by simp only[az];exact⟨by simp,yc hlen⟩)
   .exact bj.pure m (go ev) (by simp only[az];exact⟨trivial,yc hlen⟩)
  next u xs hx=>unfold ci at e;cases cz e;rw[hx] at dx;simp only[az] at dx;obtain⟨hh,p,ev⟩:=dx;exact bj.pure m (go ev) (by simp only[az];exact⟨trivial,yc hh.1⟩)
  next hx=>unfold ci at e;cases cz e;rw[hx] at dx;simp only[az] at dx;exact bj.pure m (go dx) (by simp only[az];exact⟨by simp,yc (n:=0) (by simp)⟩)
  .rename_i mm sz hx;rw[hx] at dx;simp only[az] at dx;simp only[Q.run] at e;split at e
   .rename_i p q hk;simp only[bq,br] at e;obtain⟨rfl,rfl⟩:=e;have fin:∀{E':TypeId}{u:CT}{xs:List u.D},(h mm = .live (.row E' u xs)∨h mm = .live (.frz E' u xs)) →
      bj P o a w0 N0 A env h w (.det [] (.int .i64 xs.length) []):=by
     intro E' u xs hl;rcases dx with⟨hnil,p,ev⟩|⟨b,len,E2,c,hb,_,ev⟩
     .have hx:xs.length=0:=by
       have:=m.nm mm;rcases hl with hl|hl <;> rw[hl] at this <;> rcases this with⟨k',l',he',_⟩|⟨_,E3,t3,hb⟩
       .rw[hnil] at he';cases he'
       .rcases hb with hb|hb <;> cases hb;rfl
       .rw[hnil] at he';cases he'
       .rcases hb with hb|hb <;> cases hb;rfl
      exact bj.pure m (go ev) (by simp only[az];rw[hx];exact⟨by simp,yc (n:=0) (by simp)⟩)
     .have hlen:xs.length=len.2/\len.2<=maxLen:=by
       rcases hl with hl|hl
       .obtain⟨vs,cap,_,_,h2,h3,h4,_⟩:=(m.live_blk hl hb).1;exact⟨h2,by omega⟩
       .obtain⟨_,vs,cap,_,_,h2,h3,h4,_⟩:=(m.live_blk hl hb).1;exact⟨h2,by omega⟩
      exact bj.pure m (go ev) (by simp only[az];rw[hlen.1];exact⟨rfl,yc hlen.2⟩)
    split at hk
    next E' u xs hl=>unfold ci at hk;cases cz hk;exact fin (.inl hl)
    next E' u xs hl=>unfold ci at hk;cases cz hk;exact fin (.inr hl)
    .cases hk
   .cases e
  .rename_i mm kk hx;rw[hx] at dx;simp only[az] at dx;obtain⟨b,l,he',ev⟩:=dx;split at e
   next h1=>unfold ci at e;cases cz e;exact bj.pure m (go ev) (by simp only[az];exact⟨trivial,yc (kO h1)⟩)
   .cases e
  .cases e
 .cases e
theorem aw8(m:Mod w0 N0 A env h w)(f:FD A env w ρ a){ts:Array TypeId}{x y:Operand}(ho:o.op = .call {callee := .builtin .min,args := #[x,y],argTypes:=ts})
  (e:(G0 (aW ρ x) (aW ρ y)).run h=some (d,r)):bj P o a w0 N0 A env h w d:=by
 have dx:=dg f x
 have dy:=dg f y
 unfold G0 at e
 split at e
 next k u k' v hx hy=>
  split at e
  .rename_i hk;cases lY hk;unfold ci at e;cases cz e;rw[hx] at dx;rw[hy] at dy;simp only[az] at dx dy;refine bj.pure m (v := .int k (min u v)) ?_ (by simp only[az];refine⟨trivial,?_⟩;rcases Int.le_total u v with hh|hh;rw[Int.min_eq_left hh];exact dx.2;rw[Int.min_eq_right hh];exact dy.2);unfold execOp;rw[ho];have hm:(if v<u then v else u)=min u v:=by split <;> omega
   simp[resolve,invoke,builtin,dx.1,dy.1,run_min_int2,hm]
  .cases e
 .cases e
theorem YW(m:Mod w0 N0 A env h w)(f:FD A env w ρ a){ts:Array TypeId}{x y:Operand}(ho:o.op = .call {callee := .builtin .max,args := #[x,y],argTypes:=ts})
  (e:(G7 (aW ρ x) (aW ρ y)).run h=some (d,r)):bj P o a w0 N0 A env h w d:=by
 have dx:=dg f x
 have dy:=dg f y
 unfold G7 at e
 split at e
 next k u k' v hx hy=>
  split at e
  .rename_i hk;cases lY hk;unfold ci at e;cases cz e;rw[hx] at dx;rw[hy] at dy;simp only[az] at dx dy;refine bj.pure m (v := .int k (max u v)) ?_ (by simp only[az];refine⟨trivial,?_⟩;rcases Int.le_total u v with hh|hh;rw[Int.max_eq_right hh];exact dy.2;rw[Int.max_eq_left hh];exact dx.2);unfold execOp;rw[ho];have hm:(if u<v then v else u)=max u v:=by split <;> omega
   simp[resolve,invoke,builtin,dx.1,dy.1,run_max_int2,hm]
  .cases e
 .cases e
end
end Go.SX
namespace Go.SX
def wt(s:SV):Option (List SV):=match s with
 | .agg cs=>match sU cs with
  | true=>some cs
  | false=>none
 | s=>match s.one with
  | true=>some [s]
  | false=>none
def zeroCells(P:Program)(E:TypeId):Option (List SV):=match P.info? E with
 | some i=>match i.zero with
  | some (.agg cs)=>match sU (cs.toList.map ww) with
   | true=>some (cs.toList.map ww)
   | false=>none
  | some v=>match (ww v).one with
   | true=>some [ww v]
   | false=>none
  | none=>none
 | none=>none
def yW(E:TypeId)(nm:Nat)(cs:Option (List SV)):Q Dl := .ask nm fun
 | .un=>match cs with
  | some cs => .ret (.det [] (.ptr nm 0) [(nm,.live (.cells E cs))])
  | none => .fail
 | _ => .fail
def qz(cs:List SV)(off:Nat)(vs:List SV):List SV:=cs.take off++(vs++cs.drop (off+vs.length))
def vG(n:Nat):List (Nat×Nm)->Bool
 | []=>true
 | (m,_)::r => !Nat.beq n m&&vG n r
def Ax(P:Program)(ty:TypeId)(x y:SV):Q Dl:=match wt y,gI P ty with
 | some vs,some n=>match Nat.beq n vs.length with
  | true=>match x with
   | .ptr m off => .ask m fun
    | .live (.cells E cs)=>match Nat.ble (off+vs.length) cs.length with
     | true => .ret (.det [] (.cv undef) [(m,.live (.cells E (qz cs off vs)))])
     | false => .fail
    | _ => .fail
   | .eptr m sz i off => .ask m fun
    | .live (.row E t xs)=>match Nat.beq sz t.size,Nat.ble (off+vs.length) t.size with
     | true,true=>(jz t (qz (dU t (lx t xs i)) off vs)).bind λp=>match vG m p.2.2 with
      | true => .ret (.det [] (.cv undef) ((m,.live (.row E t (xs.set i p.1)))::p.2.2))
      | false => .fail
     | _,_ => .fail
    | _ => .fail
   | _ => .fail
  | false => .fail
 | _,_ => .fail
section
variable {P:Program} {w0:World} {N0:f5} {A:Nat->Prop} {env:aZ} {h:bP} {w:World} {o:Oper} {a:Act} {ρ:Nat->SV} {d:Dl} {r:List Nat}
theorem Kb{v:Value}(h:v.oneCell'=true):v.cells = #[v]:=by cases v <;> first|rfl|cases h
theorem Cc{s:SV}{cs:List SV}{v:Value}(e:wt s=some cs)(hd:az A env w s v):aR A env w cs v.cells.toList∧∀ u∈v.cells.toList,u.oneCell'=true:=by
 unfold wt at e
 split at e
 next cs'=>
  split at e
  next ho=>cases e;simp only[az] at hd;obtain⟨vs,rfl,hd⟩:=hd;exact⟨hd,AY hd ho⟩
  .cases e
 .split at e
  next ho=>cases e;have h1:=Kg hd ho;rw[Kb h1];exact⟨by simp only[aR];exact⟨v,[],rfl,hd,rfl⟩,by simpa using h1⟩
  .cases e
theorem da.fresh(m:Mod w0 N0 A env h w){nm:Nat}(hn:h nm = .un){b:lD}{len:Nat×Nat}{s:SV}{v:Value}{w':World}(hm:b.mut=true)(k:Nat)(hk:w.heap.size<=k)
  (c:cY w w' λ_=>False) (hb:∀ x:dw A env w A (env.set nm (.blk k len)) w',jX A (env.set nm (.blk k len)) w' k len b)
  (hd:az A (env.set nm (.blk k len)) w' s v):da w0 N0 A env h w (.det [] s [(nm,.live b)]) v w':=by
 have hu:env nm = .un:=by have:=m.nm nm;rw[hn] at this;exact this
 have hA:¬ A k:=λhA=>by have:=m.Alt k hA;omega
 have x:dw A env w A (env.set nm (.blk k len)) w':=by
  refine⟨λ_ h=>h,λn b l e=>?_,λn e=>?_,λb o hb=>?_,c.shape⟩
  .rw[aZ.set_other];exact e;intro e';rw[e'] at e;rw[hu] at e;cases e
  .rw[aZ.set_other];exact e;intro e';rw[e'] at e;rw[hu] at e;cases e
  .exact World.cell?_of_block (a:=⟨b,o,none⟩) (c.blk b (m.Alt b hb) (λx=>x))
 have u:=mK.fresh m hn (o:=default) hm k hk hA c (hb x)
 exact⟨(),A,env.set nm (.blk k len),trivial,m.upd u,x,hd⟩
theorem Lq(m:Mod w0 N0 A env h w){E:TypeId}{nm:Nat}{cs:List SV}(hn:h nm = .un){vs:Array Value}(hd:aR A env w cs vs.toList) :
  da w0 N0 A env h w (.det [] (.ptr nm 0) [(nm,.live (.cells E cs))]) (.pointer (some ⟨w.heap.size,0,none⟩)) (w.alloc (.cells vs E)):=by
 refine da.fresh m hn (len:=(0,0)) rfl w.heap.size (ir _) (cY.alloc w _ _) (λx=>⟨vs,heap_alloc_new w _,tP x _ _ hd⟩) ?_
 simp only[az]
 exact⟨_,(0,0),aZ.set_same _ _ _,rfl⟩
theorem LB{E:TypeId}{nm:Nat}{cs:Option (List SV)}(e:(yW E nm cs).run h=some (d,r)) :
  h nm = .un∧∃ c,cs=some c/\d = .det [] (.ptr nm 0) [(nm,.live (.cells E c))]:=by
 simp only[yW,Q.run] at e
 split at e
 next p q hk=>
  simp only[bq,br] at e;obtain⟨rfl,rfl⟩:=e;split at hk
  .rename_i hun;split at hk
   .exact⟨hun,_,rfl,(cz hk).symm⟩
   .cases hk
  .cases hk
 .cases e
theorem Ti(m:Mod w0 N0 A env h w)(f:FD A env w ρ a){E:TypeId}{x:Operand}{nm:Nat}(ho:o.op = .box E x)
  (e:(yW E nm (wt (aW ρ x))).run h=some (d,r)):bj P o a w0 N0 A env h w d:=by
 obtain⟨hun,c,hc,rfl⟩:=LB e
 obtain⟨h1,h2⟩:=Cc hc (dg f x)
 refine⟨_,_,.inl ?_,Lq m hun h1⟩
 unfold execOp;rw[ho]
 simp[Instr.box,newVar,newRow]
theorem zl{E:TypeId}{cs:List SV}(e:zeroCells P E=some cs):∃ i z,P.info? E=some i/\i.zero=some z/\aR A env w cs z.cells.toList∧∀ u∈z.cells.toList,u.oneCell'=true:=by
 have key:∀ l:List Value,aR A env w (l.map ww) l:=by
  intro l
  induction l with
  | nil=>simp[aR]
  | cons v l ih=>simp only[fF,aR];exact⟨v,l,rfl,Ep v,ih⟩
 unfold zeroCells at e
 split at e
 next i hi=>
  split at e
  .rename_i cs' hz;split at e
   next ho=>cases e;exact⟨i,_,hi,hz,key _,AY (A:=A) (env:=env) (w:=w) (key _) ho⟩
   .cases e
  .rename_i v hna hz;split at e
   .rename_i ho;cases e;have h1:=Kg (A:=A) (env:=env) (w:=w) (Ep v) ho;refine⟨i,v,hi,hz,?_,?_⟩
    .rw[Kb h1];simp only[aR];exact⟨v,[],rfl,Ep v,rfl⟩
    .rw[Kb h1];simpa using h1
   .cases e
  .cases e
 .cases e
theorem Vi(m:Mod w0 N0 A env h w){E:TypeId}{nm:Nat}(ho:o.op = .alloc E)
  (e:(yW E nm (zeroCells P E)).run h=some (d,r)):bj P o a w0 N0 A env h w d:=by
 obtain⟨hun,c,hc,rfl⟩:=LB e
 obtain⟨i,z,hi,hz,h1,h2⟩:=zl (A:=A) (env:=env) (w:=w) hc
 refine⟨_,_,.inl ?_,Lq m hun h1⟩
 unfold execOp;rw[ho]
 simp[Instr.alloc,zeroValue,typeInfo,hi,hz,newVar,newRow]
theorem DJ:∀{fz:List (Nat×Nm)},nQ h fz→∀{n:Nat},(∃ b,(n,b)∈fz)→∃ E t xs,h n = .live (.row E t xs)/\cZ fz h n = .live (.frz E t xs)
 | [],_,n,hn=>by obtain⟨b,hb⟩:=hn;simp at hb
 | (m,b)::fz,ok,n,hn=>by
  by_cases hnm:n=m
  .subst hnm;obtain⟨E,t,xs,h1,h2⟩:=ok n b (by simp);exact⟨E,t,xs,h1,by simp[cZ,h2]⟩
  .have hn':∃ b,(n,b)∈fz:=by
    obtain⟨b',hb'⟩:=hn;rcases dK.1 hb' with hh|hh
    .cases hh;exact absurd rfl hnm
    .exact⟨b',hh⟩
   obtain⟨E,t,xs,h1,h2⟩:=DJ (fz:=fz) (λn b hb=>ok n b (fM _ hb)) hn';exact⟨E,t,xs,h1,by rw[cZ,bP.set_other _ _ hnm];exact h2⟩
def gV(A:Nat->Prop)(env:aZ)(fz:List (Nat×Nm)):Nat->Prop:=λb=>A b∨gM env fz b
theorem Nx(m:Mod w0 N0 A env h w){fz:List (Nat×Nm)}(ok:nQ h fz) :
  mK (λn=>∃ b,(n,b)∈fz) (λ_=>False) A env h w (gV A env fz) env (cZ fz h) w:=by
 have x:dw A env w (gV A env fz) env w:=⟨λb hb=>.inl hb,λ_ _ _ h=>h,λ_ h=>h,λ_ _ _=>rfl,λ_ _ h=>h⟩
 refine⟨cY.refl w _,λ_ h=>h.elim,λb hb=>.inl hb,?_,λ_ _=>rfl,λ_ _=>rfl,?_,?_,?_,?_⟩
 .rintro b (hb|⟨n,nb,l,hn,he⟩)
  .exact .inl hb
  .obtain⟨E,t,xs,h1,_⟩:=ok n nb hn;exact .inr ⟨.inr ⟨n,_,l,⟨nb,hn⟩,h1,rfl,he⟩,(m.live_blk h1 he).1.lt⟩
 .intro n hn;exact nY (λhh=>by
   obtain⟨p,hp,rfl⟩:=List.mem_map.1 hh;exact hn ⟨p.2,hp⟩)
 .rintro n ⟨b,hn⟩;obtain⟨E,t,xs,h1,h2⟩:=DJ ok ⟨b,hn⟩;rw[h2];have:=m.nm n;rw[h1] at this;rcases this with⟨k,l,he,hb,hA⟩|⟨he,E',t',hb⟩
  .refine .inl ⟨k,l,he,⟨.inr ⟨n,b,l,hn,he⟩,Ic x rfl hb⟩,λhm=>by cases hm⟩
  .refine .inr ⟨he,E',t',.inr ?_⟩;rcases hb with hb|hb <;> cases hb;rfl
 .rintro n b k l ⟨b',hn⟩ hl hm he;obtain⟨E,t,xs,h1,h2⟩:=DJ ok ⟨b',hn⟩;rw[h2] at hl;cases hl;cases hm
 .rintro n n' b c k l l' ⟨b',hn⟩ _ hl _ hm;obtain⟨E,t,xs,h1,h2⟩:=DJ ok ⟨b',hn⟩;rw[h2] at hl;cases hl;cases hm
theorem Mod.freeze(m:Mod w0 N0 A env h w){fz:List (Nat×Nm)}(ok:nQ h fz) :
  Mod w0 N0 (gV A env fz) env (cZ fz h) w/\dw A env w (gV A env fz) env w :=
 ⟨m.upd (Nx m ok),m.ext (Nx m ok)⟩
theorem Ez{cs vs:List SV}{us ws:List Value}{off:Nat}(h1:aR A env w cs us)(h2:aR A env w vs ws) :
  aR A env w (qz cs off vs) (us.take off++(ws++us.drop (off+ws.length))):=by
 have hl:=je h2
 rw[hl]
 exact tB (Ce _ h1) (tB h2 (Cx _ h1))
theorem cY.setRow(w:World)(k:Nat)(vs us:Array Value)(E:TypeId)(hk:w.heap[k]? = some (.cells vs E (0,0)))(hs:us.size=vs.size):cY w (w.setRow k us) λj=>j=k:=by
 refine⟨rfl,rfl,rfl,by simp,λj _ hj=>setRow_other w k j us hj,?_⟩
 intro j s hj
 unfold World.shape? at hj ⊢
 by_cases hjk:j=k
 .subst hjk;rw[setRow_heap w j vs us E _ hk];rw[hk] at hj;simp only at hj ⊢;rw[hs];exact hj
 .rw[setRow_other w k j us hjk];exact hj
theorem Hc{ty:TypeId}{k off:Nat}{v:Value}{vs:Array Value}{E:TypeId}(hk:w.heap[k]? = some (.cells vs E (0,0)))(hsz:gI P ty=some v.cells.size)
  (hfit:off+v.cells.size<=vs.size) (h1:∀ u∈v.cells.toList,u.oneCell'=true) :
  (storeVar ty ⟨k,off,none⟩ v).run P w = .ok () (w.setRow k (vs.toList.take off++v.cells.toList++vs.toList.drop (off+v.cells.size)).toArray):=by
 have hst:=run_storeCells_at P k off E v.cells.toList 0 vs w hk (by simpa using hfit) h1
 simp only[ip,ga] at hst
 simp[storeVar,kU hsz,hst]
theorem Aj{n:Nat}:∀{fz:List (Nat×Nm)},vG n fz=true->n ∉ fz.map (·.1)
 | [],_=>by simp
 | (m,b)::fz,h=>by
  simp only[vG,dM,rP] at h;simp only[fF,dK,not_or];exact⟨λe=>by rw[e,ub] at h;exact absurd h.1 (by simp),Aj h.2⟩
theorem DE(m:Mod w0 N0 A env h w)(f:FD A env w ρ a){ty:TypeId}{x y:Operand}(ho:o.op = .store ty x y)
  (e:(Ax P ty (aW ρ x) (aW ρ y)).run h=some (d,r)):bj P o a w0 N0 A env h w d:=by
 have dx:=dg f x
 have dy:=dg f y
 unfold Ax at e
 split at e
 next vs n hc hn=>
  obtain⟨dv,h1⟩:=Cc hc dy;have hlv:=je dv;split at e
  .rename_i hb;have hb:n=vs.length:=bG hb;have hsz:gI P ty=some (a.eval y).cells.size:=by rw[hn,hb,← hlv,ga]
   have go:∀{b off:Nat}{w':World},a.eval x = .pointer (some ⟨b,off,none⟩)->(storeVar ty ⟨b,off,none⟩ (a.eval y)).run P w = .ok () w'→(execOp a.eval o).run P w = .ok .skip w':=by
    intro b off w' ev hr;unfold execOp;rw[ho];simp only[ev,Instr.storeAt,Instr.sureAddr,Sem.run_bind,Sem.run_pure,Result.andThen_ok,hr]
   split at e
   .rename_i mm off hx;rw[hx] at dx;simp only[az] at dx;obtain⟨b,l,he,ev⟩:=dx;simp only[Q.run] at e;split at e
    .rename_i p q hk;simp only[bq,br] at e;obtain⟨rfl,rfl⟩:=e;split at hk
     .rename_i E cs hl;split at hk
      .rename_i hle;have hle:off+vs.length<=cs.length:=kO hle;cases cz hk;obtain⟨⟨us,hh,hd⟩,_⟩:=m.live_blk hl he;have hlu:=je hd;have hfit:off+(a.eval y).cells.size<=us.size:=by rw[← ga,hlv,← ga,hlu];exact hle
       have hrun:=Hc hh hsz hfit h1;refine⟨undef,_,.inr ⟨go ev hrun,rfl⟩,?_⟩;have hdR:=Ez (off:=off) hd dv;have c:=cY.setRow w b us (us.toList.take off++(a.eval y).cells.toList++us.toList.drop (off+(a.eval y).cells.size)).toArray E hh
        (by simp only[qY,cA,dA,fy,ga];omega)
       have x:dw A env w A env (w.setRow b (us.toList.take off++(a.eval y).cells.toList++us.toList.drop (off+(a.eval y).cells.size)).toArray) :=
        ⟨λ_ h=>h,λ_ _ _ h=>h,λ_ h=>h,λb' o' hb'=>World.cell?_of_block (a:=⟨b',o',none⟩) (c.blk b' (m.Alt b' hb') (λe'=>(m.live_blk hl he).2 rfl (e'▸hb'))),c.shape⟩
       have u:=mK.write (b' := .cells E (qz cs off vs)) m hl rfl he c ⟨_,setRow_heap w b us _ E _ hh,by
        have:=tP x _ _ hdR;simpa[iL] using this⟩ rfl
       exact⟨(),A,env,trivial,m.upd u,m.ext u,by simp only[Dl.val,az]⟩
      .cases hk
     .cases hk
    .cases e
   .rename_i mm sz i off hx;rw[hx] at dx;simp only[az] at dx;obtain⟨b,l,he,hil,ev⟩:=dx;rw[← gN] at ev;simp only[Q.run] at e;split at e
    .rename_i p q hk;simp only[bq,br] at e;obtain⟨rfl,rfl⟩:=e;split at hk
     .rename_i E t xs hl;split at hk
      .rename_i hs1 hle;have hs1:sz=t.size:=bG hs1;have hle:off+vs.length<=t.size:=kO hle;subst hs1;obtain⟨⟨d',rest,fz⟩,r1,r2,e1,e2,rfl⟩:=Q.run_bind _ _ _ hk;simp only at e2;split at e2
       .rename_i hni;cases cz e2;have hni:=Aj hni;obtain⟨us,cap,hh,hus,hxl,hlc,hcm,hrd⟩:=(m.live_blk hl he).1;have hix:i<xs.length:=by omega
        obtain⟨es,hel,hec,hed⟩:=u7 (env:=env) t (lx t xs i) _ _ (zc (m.live_blk hl he).1 hil);have hdR:=Ez (off:=off) hed dv;have hle':(dU t (lx t xs i)).length=t.size:=J7 _ _;obtain⟨ok,_,hlen,hrd',_⟩:=sC m t _ _ d' rest fz r1 e1 hdR (A':=gV A env fz) (λb hb=>.inl hb) (λk hk'=>.inr hk');obtain⟨m2,x2⟩:=m.freeze ok;have hl2:cZ fz h mm = .live (.row E t xs):=by rw[nY hni];exact hl
        have hpos:l.1+i*t.size+t.size<=us.size:=by
         rw[hus];have:(i+1)*t.size<=cap*t.size:=mM _ (by omega);rw[fS,kr] at this;omega
        have hsv:(a.eval y).cells.size=vs.length:=by rw[← ga,hlv]
        have hfit:l.1+i*t.size+off+(a.eval y).cells.size<=us.size:=by omega
        have hrun:=Hc hh hsz hfit h1;refine⟨undef,_,.inr ⟨go ev hrun,rfl⟩,?_⟩;have c:=cY.setRow w b us (us.toList.take (l.1+i*t.size+off)++(a.eval y).cells.toList++us.toList.drop (l.1+i*t.size+off+(a.eval y).cells.size)).toArray E hh
         (by simp only[qY,cA,dA,fy,ga];omega)
        have x3:dw (gV A env fz) env w (gV A env fz) env (w.setRow b (us.toList.take (l.1+i*t.size+off)++(a.eval y).cells.toList++us.toList.drop (l.1+i*t.size+off+(a.eval y).cells.size)).toArray) :=
         ⟨λ_ h=>h,λ_ _ _ h=>h,λ_ h=>h,λb' o' hb'=>World.cell?_of_block (a:=⟨b',o',none⟩) (c.blk b' (m2.Alt b' hb') (λe'=>(m2.live_blk hl2 he).2 rfl (e'▸hb'))),c.shape⟩
        have hrow:nX (gV A env fz) (w.setRow b (us.toList.take (l.1+i*t.size+off)++(a.eval y).cells.toList++us.toList.drop (l.1+i*t.size+off+(a.eval y).cells.size)).toArray) b l E t (xs.set i d'):=by
         refine⟨_,cap,setRow_heap w b us _ E _ hh,?_,by simpa using hxl,hlc,hcm,?_⟩
         .simp only[qY,cA,dA,fy,ga];omega
         .intro j hj;have hj':j<xs.length:=by simpa using hj
          rw[List.getElem_set];have cellAt:∀ p,(us.toList.take (l.1+i*t.size+off)++(a.eval y).cells.toList++us.toList.drop (l.1+i*t.size+off+(a.eval y).cells.size)).toArray[p]? =
            if p<l.1+i*t.size+off then us[p]? else if p<l.1+i*t.size+off+vs.length then (a.eval y).cells[p-(l.1+i*t.size+off)]? else us[p]? := by
           intro p;rw[List.getElem?_toArray,iL,List.getElem?_append];simp only[dA,ga];rw[show min (l.1+i*t.size+off) us.size=l.1+i*t.size+off from by omega];split
           next hp=>rw[qi,am hp,lK]
           .rename_i hp;rw[List.getElem?_append];simp only[ga,hsv];by_cases h2:p<l.1+i*t.size+off+vs.length
            .rw[am (by omega),am h2,lK]
            .rw[af (by omega),af h2,pV,lK];congr 1;omega
          split
          .rename_i hij;subst hij;have hsh:=yo hrd' (l.1+i*t.size);rw[gh] at hsh;refine ik (λ_ h=>h) x3.keep t _ _ _ _ (λq hq=>?_) hsh;rw[cellAt];have hq2:l.1+i*t.size+q-(l.1+i*t.size)=q:=by omega
           simp only[hq2];have hel':es.length=t.size:=hel;have hecq:=hec q hq;rw[cell_of_row w b _ us E (0,0) hh] at hecq;rw[List.getElem?_append];simp only[dA,hel'];rw[show min off t.size=off from by omega];by_cases c1:q<off
           .rw[am (by omega),am c1,qi,am c1,hecq]
           .rw[af (by omega),af c1,List.getElem?_append];simp only[ga,hsv];by_cases c2:q<off+vs.length
            .rw[am (by omega),am (by omega),lK];congr 1;omega
            .rw[af (by omega),af (by omega),pV,hecq];congr 1;omega
          .rename_i hij;refine ik (λb hb=>.inl hb) (λb' o' hb'=>x3.keep b' o' (.inl hb')) t _ _ _ _ (λq hq=>?_) (hrd j hj');rw[cellAt];have hjt:j*t.size+t.size<=i*t.size∨i*t.size+t.size<=j*t.size:=by
            rcases Nat.lt_or_gt_of_ne hij with hlt|hlt
            .right;have:(i+1)*t.size<=j*t.size:=mM _ (by omega);rw[fS,kr] at this;exact this
            .left;have:(j+1)*t.size<=i*t.size:=mM _ (by omega);rw[fS,kr] at this;exact this
           rcases hjt with hjt|hjt
           .rw[am (by omega)]
           .rw[af (by omega),af (by omega)]
        have u:=mK.write (b' := .row E t (xs.set i d')) m2 hl2 rfl he c hrow rfl;exact⟨(),_,env,trivial,m2.upd u,x2.trans (m2.ext u),by simp only[Dl.val,az]⟩
       .cases e2
      .cases hk
     .cases hk
    .cases e
   .cases e
  .cases e
 .cases e
end
end Go.SX
namespace Go.SX
def BU(P:Program)(t:TypeId)(i:Nat):Option (Nat×Nat):=match P.underlying t with
 | some (.struct fs)=>match fs[i]? with
  | some f=>match gI P f.type with
   | some n=>some (f.offset,n)
   | none=>none
  | none=>none
 | some (.array _ e)=>match gI P e with
  | some n=>some (i*n,n)
  | none=>none
 | _=>none
def G1(P:Program):List Field->Bool
 | []=>true
 | f::fs=>(gI P f.type).isSome&&G1 P fs
def ua(P:Program)(place:Nat->Option (Nat×Nat)):List SV->List (Nat×SV)->Option (List SV)
 | cs,[]=>some cs
 | cs,(i,v)::r=>match place i,wt v with
  | some (off,n),some vs=>match Nat.beq vs.length n,Nat.ble (off+n) cs.length with
   | true,true=>ua P place (qz cs off vs) r
   | _,_=>none
  | _,_=>none
def KM(P:Program)(t:TypeId):Bool:=match P.underlying t with
 | some (.struct fs)=>G1 P fs.toList
 | some (.array _ e)=>(gI P e).isSome
 | _=>false
def I8(P:Program)(t:TypeId)(ps:List (Nat×SV)):Q Dl:=match KM P t,zeroCells P t with
 | true,some z=>match ua P (BU P t) z ps with
  | some cs=>ci (.agg cs)
  | none => .fail
 | _,_ => .fail
def Sf(c:CT):Nat->Option CT
 | 0=>none
 | 1=>some c
 | n+1=>match Sf c n with
  | some u=>some (.pair c u)
  | none=>none
def w9(P:Program):Nat->TypeId->Option CT
 | 0,_=>none
 | n+1,t=>match P.underlying t with
  | some (.int k)=>some (.int k)
  | some .bool=>some .bool
  | some .string=>some .str
  | some (.slice e)=>match w9 P n e with
   | some c=>some (.sl c)
   | none=>none
  | some (.array k e)=>match w9 P n e with
   | some c=>Sf c k
   | none=>none
  | some (.struct fs)=>ctAll (w9 P n) fs.toList
  | _=>none
where
 ctAll (f:TypeId->Option CT):List Field->Option CT
  | []=>none
  | [x]=>f x.type
  | x::xs=>match f x.type,ctAll f xs with
   | some a,some b=>some (.pair a b)
   | _,_=>none
def Cm(t:CT):Nat->List SV->Q (List t.D×List (Nat×Nm))
 | 0,_ => .ret ([],[])
 | n+1,cs=>(jz t cs).bind λp=>(Cm t n p.2.1).bind λq=>.ret (p.1::q.1,p.2.2++q.2)
def j5{α:Type}(l:List α):Nat->List α
 | 0=>[]
 | n+1=>l++j5 l n
def G2(P:Program)(t:TypeId)(len nm:Nat)(ps:List (Nat×SV)):Q Dl:=match su P t with
 | some (e,sz)=>match w9 P 8 e,zeroCells P e with
  | some u,some z=>match Nat.beq u.size sz,Nat.beq z.length sz,Nat.ble (len*sz) 16777216,ua P (λi=>some (i*sz,sz)) (j5 z len) ps with
   | true,true,true,some cs=>(Cm u len cs).bind λp=>.ask nm fun
    | .un=>match vG nm p.2 with
     | true => .ret (.det [] (.own nm sz) ((nm,.live (.row e u p.1))::p.2))
     | false => .fail
    | _ => .fail
   | _,_,_,_ => .fail
  | none,some z=>match Nat.beq z.length sz,Nat.beq sz 1,Nat.ble 1 len&&Nat.ble len 16777216,ua P (λi=>some (i*sz,sz)) (j5 z len) ps with
   | true,true,true,some cs => .ask nm fun
    | .un => .ret (.det [] (.csl nm len) [(nm,.live (.cells e cs))])
    | _ => .fail
   | _,_,_,_ => .fail
  | _,_ => .fail
 | none => .fail
def In(P:Program)(t:TypeId)(nm:Nat)(l c:SV):Q Dl:=match su P t,l,c with
 | some (e,sz),.int _ l,.int _ c=>match w9 P 8 e,zeroCells P e,P.info? e with
  | some u,some z,some i=>match Nat.beq u.size sz,Nat.beq z.length sz,Nat.ble 1 i.bytes,jz u z with
   | true,true,true,.ret (d,_,[]) => .ask nm fun
    | .un => .ret (.det [0<=l,l<=c,(i.bytes:Int)*c<=281474976710656] (.own nm sz) [(nm,.live (.row e u (replicate l.toNat d)))])
    | _ => .fail
   | _,_,_,_ => .fail
  | _,_,_ => .fail
 | _,_,_ => .fail
def vn(t:CT)(x:SV):Q (List t.D):=match x with
 | .dsl u ys=>match hY u t ys with
  | some ys => .ret ys
  | none => .fail
 | .dsx u ys=>match hY u t ys with
  | some ys => .ret ys
  | none => .fail
 | .nilsl => .ret []
 | .own n sz => .ask n fun
  | .live (.row _ u ys)=>match Nat.beq sz u.size,hY u t ys with
   | true,some ys => .ret ys
   | _,_ => .fail
  | .live (.frz _ u ys)=>match Nat.beq sz u.size,hY u t ys with
   | true,some ys => .ret ys
   | _,_ => .fail
  | _ => .fail
 | _ => .fail
def Be(P:Program)(t:TypeId)(nm:Nat)(s x:SV):Q Dl:=match su P t with
 | some (e,sz)=>match P.info? e with
  | some i=>match Nat.ble 1 i.bytes,i.zero with
   | true,some z=>match Nat.beq z.cells.size sz with
    | true=>match s with
     | .own n sz' => .ask n fun
      | .live (.row E u xs)=>match Nat.beq E e,Nat.beq sz u.size,Nat.beq sz' u.size with
       | true,true,true=>(vn u x).bind λys=>.ask nm fun
        | .un => .ret (.det [(xs.length+ys.length)*i.bytes<=140737488355328] (.own nm sz) [(nm,.live (.row e u (xs++ys))),(n,.dead)])
        | _ => .fail
       | _,_,_ => .fail
      | _ => .fail
     | .nilsl=>match w9 P 8 e with
      | some u=>match Nat.beq sz u.size with
       | true=>(vn u x).bind λys=>.ask nm fun
        | .un => .ret (.det [ys.length*i.bytes<=140737488355328] (.own nm sz) [(nm,.live (.row e u ys))])
        | _ => .fail
       | false => .fail
      | none => .fail
     | .dsx u xs=>match Nat.beq sz u.size with
      | true=>(vn u x).bind λys=>.ask nm fun
       | .un => .ret (.det [(xs.length+ys.length)*i.bytes<=140737488355328,xs=[]] (.own nm sz) [(nm,.live (.row e u ys))])
       | _ => .fail
      | false => .fail
     | _ => .fail
    | false => .fail
   | _,_ => .fail
  | none => .fail
 | none => .fail
def cL{α:Type}(xs:List α)(l h:Nat):List α:=(xs.take h).drop l
def oZ(x:Option SV)(dflt:Int):Option Int:=match x with
 | none=>some dflt
 | some (.int _ n)=>some n
 | _=>none
def J6(P:Program)(t:TypeId)(x:SV)(lo hi mx:Option SV):Q Dl:=match su P t with
 | some (_,sz)=>match x with
  | .dsl u xs=>match Nat.beq sz u.size,oZ lo 0,oZ hi xs.length with
   | true,some l,some h=>match mx with
    | none => .ret (.det [0<=l,l<=h,h<=xs.length] (.dsl u (cL xs l.toNat h.toNat)) [])
    | some (.int _ mm)=>match hi with
     | some _ => .ret (.det [0<=l,l<=h,h=mm,h<=xs.length] (.dsx u (cL xs l.toNat h.toNat)) [])
     | none => .fail
    | _ => .fail
   | _,_,_ => .fail
  | .own n sz'=>match mx with
   | none => .ask n fun
    | .live (.row E u xs)=>match Nat.beq sz u.size,Nat.beq sz' u.size,oZ lo 0,oZ hi xs.length with
     | true,true,some l,some h => .ret (.det [0<=l,l<=h,h<=xs.length] (.dsl u (cL xs l.toNat h.toNat)) [(n,.live (.frz E u xs))])
     | _,_,_,_ => .fail
    | .live (.frz E u xs)=>match Nat.beq sz u.size,Nat.beq sz' u.size,oZ lo 0,oZ hi xs.length with
     | true,true,some l,some h => .ret (.det [0<=l,l<=h,h<=xs.length] (.dsl u (cL xs l.toNat h.toNat)) [])
     | _,_,_,_ => .fail
    | _ => .fail
   | _ => .fail
  | .nilsl=>match oZ lo 0,oZ hi 0,mx with
   | some l,some h,none => .ret (.det [l=0,h=0] .nilsl [])
   | _,_,_ => .fail
  | _ => .fail
 | none => .fail
def lP(l:ae)(i:Nat):Int:=l.getD i 0
def sW(k:IntKind)(sz:Nat):List SV->Nat->Option ae
 | [],_=>some []
 | .int k' n::cs,0=>match lO k k',sW k sz cs (sz-1) with
  | true,some l=>some (n::l)
  | _,_=>none
 | _::_,0=>none
 | _::cs,s+1=>sW k sz cs s
def IV(P:Program)(t:TypeId)(x i:SV):Q Dl:=match x,i,P.underlying t with
 | .agg cs,.int _ i,some (.array len e)=>match P.underlying e,gI P e with
  | some (.int k),some 1=>match sW k 1 cs 0,Nat.beq cs.length len with
   | some l,true => .ret (.det [0<=i,i<len] (.int k (lP l i.toNat)) [])
   | _,_ => .fail
  | some (.array 2 e2),some 2=>match P.underlying e2,gI P e2 with
   | some (.int k),some 1=>match sW k 2 cs 0,sW k 2 cs 1,Nat.beq cs.length (len*2) with
    | some l1,some l2,true => .ret (.det [0<=i,i<len] (.agg [.int k (lP l1 i.toNat),.int k (lP l2 i.toNat)]) [])
    | _,_,_ => .fail
   | _,_ => .fail
  | _,_ => .fail
 | _,_,_ => .fail
section
variable {P:Program} {w0:World} {N0:f5} {A:Nat->Prop} {env:aZ} {h:bP} {w:World} {o:Oper} {a:Act} {ρ:Nat->SV} {d:Dl} {r:List Nat}
theorem QH{α β:Type}(f:α->Sem β)(g:α->β):∀(l:List α),(∀ x∈l,(f x).run P w = .ok (g x) w)->(l.mapM f).run P w = .ok (l.map g) w
 | [],_=>by simp
 | x::l,hx=>by
  have ih:=QH f g l (λy hy=>hx y (fM _ hy));rw[List.mapM_cons];simp only[Sem.run_bind,hx x (by simp),Result.andThen_ok,ih,Sem.run_pure,fF]
theorem UG{α β:Type}(f:α->Sem β)(g:α->β)(l:Array α)(hx:∀ x∈l.toList,(f x).run P w = .ok (g x) w):(l.mapM f).run P w = .ok (l.map g) w:=by
 rw[Array.mapM_eq_mapM_toList]
 have:=QH (P:=P) (w:=w) f g l.toList hx
 simp only[Sem.run_map,this,Result.andThen_ok]
 congr 1
 exact Array.ext' (by simp)
theorem af3(vs:List Value)(off:Nat)(cs:List Value)(hfit:off+vs.length<=cs.length) :
  (vs.toArray.zipIdx.foldl (λcs (x:Value×Nat)=>cs.setIfInBounds (off+x.2) x.1) cs.toArray).toList=cs.take off++(vs++cs.drop (off+vs.length)):=by
 have key:∀(vs:List Value)(k:Nat)(pre mid suf:List Value),pre.length=off+k->mid.length=vs.length →
   ((vs.zipIdx k).foldl (λ(cs:Array Value) (x:Value×Nat)=>cs.setIfInBounds (off+x.2) x.1) (pre++(mid++suf)).toArray).toList=pre++(vs++suf):=by
  intro vs
  induction vs with
  | nil=>intro k pre mid suf _ hm;simp only[List.length_nil,List.length_eq_zero_iff] at hm;subst hm;simp
  | cons v vs ih =>
   intro k pre mid suf hp hm;cases mid with
   | nil=>simp at hm
   | cons u mid =>
    simp only[List.zipIdx_cons,List.foldl_cons];have:(pre++(u::mid++suf)).toArray.setIfInBounds (off+k) v=((pre++[v])++(mid++suf)).toArray:=by
     apply Array.ext';simp only[Array.toList_setIfInBounds];rw[List.set_append_right _ _ (by omega),hp];simp
    rw[this,ih (k+1) (pre++[v]) mid suf (by simp[hp];omega) (by simpa using hm)];simp
 have:=key vs 0 (cs.take off) ((cs.drop off).take vs.length) (cs.drop (off+vs.length)) (by simp;omega) (by simp;omega)
 have e:cs.take off++((cs.drop off).take vs.length++cs.drop (off+vs.length))=cs:=by
  rw[← List.drop_drop,ng,ng]
 rw[e] at this
 rw[← this,← Array.foldl_toList,Array.toList_zipIdx]
theorem A8{place place':Nat->Option (Nat×Nat)}(hpl:∀ i p,place i=some p->place' i=some p):∀(ps:List (Nat×SV))(qs:List (Nat×Value))(cs rs:List SV)(us:Array Value),
  ua P place cs ps=some rs->aR A env w cs us.toList->qs.map (·.1)=ps.map (·.1)->aR A env w (ps.map (·.2)) (qs.map (·.2)) →
  ∃ vs,Instr.fill place' us qs=some vs/\aR A env w rs vs.toList
 | [],qs,cs,rs,us,e,hd,hi,hq=>by
  have:qs=[]:=by simpa using hi
  subst this;simp only[ua] at e;cases e;exact⟨us,rfl,hd⟩
 | (i,v)::ps,qs,cs,rs,us,e,hd,hi,hq=>by
  match qs,hi with
  | (i',u)::qs,hi2 =>
   clear hi;simp only[fF,List.cons.injEq] at hi2;obtain⟨rfl,hi⟩:=hi2;simp only[fF,aR] at hq;obtain⟨u',r',hq1,hq2,hq3⟩:=hq;simp only[List.cons.injEq] at hq1;obtain⟨rfl,rfl⟩:=hq1;simp only[ua] at e;split at e
   .rename_i off n vs hp hc;split at e
    .rename_i hb1 hb2;have hb1:vs.length=n:=bG hb1;have hb2:off+n<=cs.length:=kO hb2;obtain⟨dv,_⟩:=Cc hc hq2;have hlv:=je dv;have hlu:=je hd;have hlv':u.cells.size=n:=by rw[← ga,hlv,hb1]
     have hlu':us.size=cs.length:=by rw[← ga,hlu]
     have hR:=Ez (off:=off) hd dv;have hfold:=af3 u.cells.toList off us.toList (by simp;omega);obtain⟨ws,hw1,hw2⟩:=A8 hpl ps qs (qz cs off vs) rs (u.cells.zipIdx.foldl (λcs (x:Value×Nat)=>cs.setIfInBounds (off+x.2) x.1) us) e
      (by simp only[Array.toArray_toList] at hfold;rw[hfold];exact hR) hi hq3
     refine⟨ws,?_,hw2⟩;simp only[Instr.fill,hpl i' _ hp];have c1:¬ (u.cells.size≠n∨us.size<off+u.cells.size):=by omega
     simp only[hlv',ne_eq,not_true_eq_false,decide_false,Bool.false_or,gt_iff_lt];rw[af (by simp;omega)];exact hw1
    .cases e
   .cases e
theorem Vo(m:Mod w0 N0 A env h w)(f:FD A env w ρ a){t:TypeId}{parts:Array (Nat×Operand)}(ho:o.op = .build t parts)
  (e:(I8 P t (parts.toList.map λp=>(p.1,aW ρ p.2))).run h=some (d,r)):bj P o a w0 N0 A env h w d:=by
 unfold I8 at e
 split at e
 next z hb hz=>
  split at e
  .rename_i cs hf;unfold ci at e;cases cz e;obtain⟨i,zv,hi,hzv,dz,_⟩:=zl (A:=A) (env:=env) (w:=w) hz;have dps:aR A env w ((parts.toList.map λp=>(p.1,aW ρ p.2)).map (·.2)) ((parts.toList.map λp=>(p.1,a.eval p.2)).map (·.2)):=by
    generalize parts.toList=l
    induction l with
    | nil=>simp[aR]
    | cons p l ih=>simp only[fF,aR];exact⟨_,_,rfl,dg f p.2,ih⟩
   have exe:∀{vs:Array Value},(Instr.build t (parts.map λ(x:Nat×Operand)=>(x.1,a.eval x.2))).run P w = .ok (.agg vs) w->(execOp a.eval o).run P w = .ok (.value (.agg vs)) w:=by
    intro vs hv;unfold execOp;rw[ho];simp only[Sem.run_bind,hv,Result.andThen_ok,Sem.run_pure]
   have hzr:(zeroValue t).run P w = .ok zv w:=by simp[zeroValue,typeInfo,hi,hzv]
   unfold KM at hb;split at hb
   .rename_i fs hu;have hall:∀ x∈fs.toList,(gI P x.type).isSome=true:=by
     generalize fs.toList=l at hb
     induction l with
     | nil=>simp
     | cons x l ih =>
      simp only[G1,dM] at hb;intro y hy;rcases dK.1 hy with rfl|hy
      .exact hb.1
      .exact ih hb.2 y hy
    have hmap:=UG (P:=P) (w:=w) (λ(f:Field)=>(do pure (f.offset,← sizeOf f.type):Sem (Nat×Nat))) (λf=>(f.offset,(gI P f.type).getD 0)) fs (λx hx=>by
     obtain⟨n,hn⟩:=Option.isSome_iff_exists.1 (hall x hx);simp[kU hn,hn])
    obtain⟨vs,hv,dv⟩:=A8 (A:=A) (env:=env) (w:=w) (place:=BU P t) (place':=λi=>(fs.map λf=>(f.offset,(gI P f.type).getD 0))[i]?) (λi p hp=>by
     unfold BU at hp;rw[hu] at hp;simp only at hp;split at hp
     .rename_i f hf;split at hp
      next n hn=>cases hp;simp[hf,hn]
      .cases hp
     .cases hp) (parts.toList.map λp=>(p.1,aW ρ p.2)) (parts.toList.map λp=>(p.1,a.eval p.2)) z cs zv.cells hf dz (by simp[Function.comp_def]) dps
    refine bj.pure m (v := .agg vs) (exe ?_) (by simp only[az];exact⟨vs,rfl,dv⟩);unfold Instr.build;simp only[Sem.run_bind,hzr,Result.andThen_ok,run_underlying hu,hmap,Array.toList_map,hv,Sem.run_pure]
   .rename_i len e' hu;obtain⟨n,hn⟩:=Option.isSome_iff_exists.1 hb;obtain⟨vs,hv,dv⟩:=A8 (A:=A) (env:=env) (w:=w) (place:=BU P t) (place':=λi=>some (i*n,n)) (λi p hp=>by
     unfold BU at hp;rw[hu] at hp;simp only[hn] at hp;exact hp) (parts.toList.map λp=>(p.1,aW ρ p.2)) (parts.toList.map λp=>(p.1,a.eval p.2)) z cs zv.cells hf dz (by simp[Function.comp_def]) dps
    refine bj.pure m (v := .agg vs) (exe ?_) (by simp only[az];exact⟨vs,rfl,dv⟩);unfold Instr.build;simp only[Sem.run_bind,hzr,Result.andThen_ok,run_underlying hu,kU hn,Array.toList_map,hv,Sem.run_pure]
   .cases hb
  .cases e
 .cases e
end
end Go.SX
namespace Go.SX
section
variable {P:Program} {w0:World} {N0:f5} {A:Nat->Prop} {env:aZ} {h:bP} {w:World} {o:Oper} {a:Act} {ρ:Nat->SV} {d:Dl} {r:List Nat}
theorem H1(u v:List (Nat×Nm))(h:bP):cZ (u++v) h=cZ u (cZ v h):=by
 induction u with
 | nil=>rfl
 | cons p u ih=>simp[cZ,ih]
theorem da.of_frz(m:Mod w0 N0 A env h w){fz:List (Nat×Nm)}(ok:nQ h fz){pre:List Prop}{s:SV}{upd:List (Nat×Nm)}{v:Value}{w':World}
  (g:da w0 N0 (gV A env fz) env (cZ fz h) w (.det pre s upd) v w'):da w0 N0 A env h w (.det pre s (upd++fz)) v w':=by
 obtain⟨x,A',env',_,m',e',d'⟩:=g
 exact⟨(),A',env',trivial,by simpa only[Dl.hp,Dl.upd,H1] using m',(m.freeze ok).2.trans e',d'⟩
theorem Oh(m:Mod w0 N0 A env h w){A':Nat->Prop}(hA:∀ b,A b->A' b)(t:CT):∀(n:Nat)(cs:List SV)(vs:List Value)(xs:List t.D)(fz:List (Nat×Nm))(r:List Nat),
  (Cm t n cs).run h=some ((xs,fz),r)->aR A env w cs vs->(∀ k,gM env fz k->A' k) →
  nQ h fz/\xs.length=n/\n*t.size<=vs.length∧∀ i (hi:i<xs.length),Rd A' w t (λj=>vs[j]?) (i*t.size) xs[i]
 | 0,cs,vs,xs,fz,r,e,hd,hF=>by
  simp only[Cm,Q.run,bq,br] at e;obtain⟨⟨rfl,rfl⟩,rfl⟩:=e;exact⟨λn b hb=>by simp at hb,rfl,by simp,λi hi=>by simp at hi⟩
 | n+1,cs,vs,xs,fz,r,e,hd,hF=>by
  simp only[Cm] at e;obtain⟨⟨d1,r1,f1⟩,q1,q2,e1,e2,rfl⟩:=Q.run_bind _ _ _ e;obtain⟨⟨ds,f2⟩,q3,q4,e3,e4,rfl⟩:=Q.run_bind _ _ _ e2;simp only[Q.run,bq,br] at e4;obtain⟨⟨rfl,rfl⟩,rfl⟩:=e4;have hF1:∀ k,gM env f1 k->A' k:=λk ⟨n,x,l,hx,he⟩=>hF k ⟨n,x,l,gu _ hx,he⟩;have hF2:∀ k,gM env f2 k->A' k:=λk ⟨n,x,l,hx,he⟩=>hF k ⟨n,x,l,jd _ hx,he⟩;obtain⟨o1,n1,l1,rd1,dr1⟩:=sC m t cs vs d1 r1 f1 q1 e1 hd hA hF1;obtain⟨o2,n2,l2,rd2⟩:=Oh m hA t n r1 _ ds f2 q3 e3 dr1 hF2;simp only[fy] at l2;have hr1:=je dr1;simp only[fy] at hr1;refine⟨?_,by simp[n2],by rw[fS,kr];omega,?_⟩
  .intro n x hx;rcases dB.1 hx with hx|hx
   .exact o1 n x hx
   .exact o2 n x hx
  .intro i hi;cases i with
   | zero=>simpa using rd1
   | succ i =>
    have:=rd2 i (by simpa using hi);have sh:=N4 this t.size;rw[show i*t.size+t.size=(i+1)*t.size from by rw[fS,kr]] at sh;simp only[List.getElem_cons_succ];refine ik (λ_ h=>h) (λ_ _ _=>rfl) t _ _ _ _ (λj _=>?_) sh;rw[pV];congr 1;have:(i+1)*t.size=i*t.size+t.size:=by rw[fS,kr]
    omega
theorem FB{α:Type}(l:List α)(n:Nat):(j5 l n).length=n*l.length:=by
 induction n with
 | zero=>simp[j5]
 | succ n ih=>simp[j5,ih,fS];omega
theorem BC{α:Type}(l:List α):∀(n i:Nat),i<n*l.length->(j5 l n)[i]? = l[i%l.length]?
 | 0,i,h=>by simp at h
 | n+1,i,h=>by
  simp only[j5];by_cases hi:i<l.length
  .rw[lF hi,Nat.mod_eq_of_lt hi]
  .rw[kw (by omega),BC l n (i-l.length) (by rw[fS,kr] at h;omega)];congr 1;rw[← Nat.mod_eq_sub_mod (by omega)]
theorem HB(z:Array Value)(n:Nat)(hz:0<z.size):(madeCells z (n*z.size)).toList=j5 z.toList n:=by
 apply List.ext_getElem?
 intro i
 by_cases hi:i<n*z.size
 .rw[BC _ _ _ (by simpa using hi)];simp only[madeCells,Array.toList_map,Array.toList_range,List.getElem?_map,ga,lK];rw[List.getElem?_range hi];have:i%z.size<z.size:=Nat.mod_lt _ hz;simp[getElem!_pos,this]
 .rw[yb (by simp[madeCells];omega),yb (by rw[FB];simpa using hi)]
theorem Ix{z:List SV}{vs:List Value}(hd:aR A env w z vs):∀ n,aR A env w (j5 z n) (j5 vs n)
 | 0=>by simp[j5,aR]
 | n+1=>tB hd (Ix hd n)
theorem Nb{place:Nat->Option (Nat×Nat)}:∀(ps:List (Nat×SV))(cs rs:List SV),ua P place cs ps=some rs->rs.length=cs.length
 | [],cs,rs,e=>by simp only[ua] at e;cases e;rfl
 | (i,v)::ps,cs,rs,e=>by
  simp only[ua] at e;split at e
  .rename_i off n vs _ _;split at e
   next hb1 hb2=>have hb1:vs.length=n:=bG hb1;have hb2:off+n<=cs.length:=kO hb2;rw[Nb ps _ rs e];simp[qz];omega
   .cases e
  .cases e
theorem OB(m:Mod w0 N0 A env h w){nm:Nat}(hn:h nm = .un){E:TypeId}{t:CT}{xs:List t.D}{w1 w':World}{vs:Array Value}{cap:Nat}{pre:List Prop}
  (c1:cY w w1 λ_=>False) (hw':w'=w1.alloc (.cells vs E)) (hs:vs.size=cap*t.size) (hl:xs.length<=cap) (hc:cap<=maxLen)
  (hr:∀ i (hi:i<xs.length),Rd A w t (λo=>vs[o]?) (i*t.size) xs[i]) :
  da w0 N0 A env h w (.det pre (.own nm t.size) [(nm,.live (.row E t xs))]) (.slice (some ⟨w1.heap.size,0,none⟩) xs.length cap) w':=by
 subst hw'
 have c:cY w (w1.alloc (.cells vs E)) λ_=>False:=c1.trans (cY.alloc w1 _ _)
 obtain⟨x,A',env',h1,h2,h3,h4⟩:=da.fresh (s := .own nm t.size) (v := .slice (some ⟨w1.heap.size,0,none⟩) xs.length cap) m hn (b := .row E t xs) (len:=(0,xs.length)) rfl w1.heap.size c1.size c
  (λx=>⟨vs,cap,heap_alloc_new w1 _,by simpa using hs,rfl,hl,hc,λi hi=>ik x.imm x.keep t _ _ _ _ (λ_ _=>rfl) (by simpa using hr i hi)⟩) (by
   simp only[az];refine .inr ⟨w1.heap.size,(0,xs.length),E,vs.size,aZ.set_same _ _ _,?_,?_⟩
   .unfold World.shape?;rw[heap_alloc_new]
   .show _=Value.slice _ _ ((vs.size-0)/t.size);rw[Nat.sub_zero,hs,qL _ t.size_pos])
 exact⟨(),A',env',trivial,h2,h3,h4⟩
theorem XV(m:Mod w0 N0 A env h w)(f:FD A env w ρ a){t:TypeId}{len nm:Nat}{parts:Array (Nat×Operand)}(ho:o.op = .buildSlice t len parts)
  (e:(G2 P t len nm (parts.toList.map λp=>(p.1,aW ρ p.2))).run h=some (d,r)):bj P o a w0 N0 A env h w d:=by
 unfold G2 at e
 split at e
 next E sz he=>
  obtain⟨hu,hsz⟩:=vD he;split at e
  .rename_i u z hct hz;split at e
   .rename_i cs hb1 hb2 hb3 hf;have hb1:u.size=sz:=bG hb1;have hb2:z.length=sz:=bG hb2;have hb3:len*sz<=16777216:=kO hb3;obtain⟨⟨xs,fz⟩,q1,q2,e1,e2,rfl⟩:=Q.run_bind _ _ _ e;simp only[Q.run] at e2;split at e2
    .rename_i p q hk;simp only[bq,br] at e2;obtain⟨rfl,rfl⟩:=e2;split at hk
     .rename_i hun;split at hk
      .rename_i hni;have hni:=Aj hni;cases cz hk;subst hb1;obtain⟨i,zv,hi,hzv,dz,_⟩:=zl (A:=A) (env:=env) (w:=w) hz;have hzl:zv.cells.size=u.size:=by rw[← ga,je dz,hb2]
       have dps:aR A env w ((parts.toList.map λp=>(p.1,aW ρ p.2)).map (·.2)) ((parts.toList.map λp=>(p.1,a.eval p.2)).map (·.2)):=by
        generalize parts.toList=l
        induction l with
        | nil=>simp[aR]
        | cons p l ih=>simp only[fF,aR];exact⟨_,_,rfl,dg f p.2,ih⟩
       have hmade:(madeCells zv.cells (len*u.size)).toList=j5 zv.cells.toList len:=by rw[← hzl];exact HB _ _ (by rw[hzl];exact u.size_pos)
       obtain⟨vs,hv,dv⟩:=A8 (A:=A) (env:=env) (w:=w) (place:=λi=>some (i*u.size,u.size)) (place':=λi=>some (i*u.size,u.size)) (λi p hp=>hp)
        (parts.toList.map λp=>(p.1,aW ρ p.2)) (parts.toList.map λp=>(p.1,a.eval p.2)) (j5 z len) cs (madeCells zv.cells (len*u.size)) hf (by rw[hmade];exact Ix dz len) (by simp[Function.comp_def]) dps
       obtain⟨ok,hxl,hle,hrd⟩:=Oh m (A':=gV A env fz) (λb hb=>.inl hb) u len cs vs.toList xs fz q1 e1 dv (λk hk=>.inr hk);obtain⟨m2,x2⟩:=m.freeze ok;have hcl:vs.size=len*u.size:=by
        rw[← ga,je dv,Nb _ _ _ hf,FB,hb2]
       have hrun:(execOp a.eval o).run P w = .ok (.value (.slice (some ⟨w.heap.size,0,none⟩) len len)) (w.alloc (.cells vs E)):=by
        unfold execOp;rw[ho];have h24:¬ (len*u.size>2^24):=by omega
        have hz':(zeroValue E).run P w = .ok zv w:=by simp[zeroValue,typeInfo,hi,hzv]
        by_cases h0:len*u.size=0
        .have hm0:madeCells zv.cells (len*u.size) = #[]:=by simp[h0,madeCells]
         rw[hm0] at hv;have hr0:Array.range (len*u.size) = #[]:=by rw[h0];rfl
         simp only[Instr.buildSlice,Sem.run_bind,run_underlying hu,Result.andThen_ok,kU hsz,af h24,am h0,Sem.run_pure,hr0,List.map_toArray,List.map_nil,Array.toList_map,hv,newRow,run_newObj];rfl
        .have hm0:((Array.range (len*u.size)).map (zv.cells[· % zv.cells.size]!))=madeCells zv.cells (len*u.size):=rfl;simp only[Instr.buildSlice,Sem.run_bind,run_underlying hu,Result.andThen_ok,kU hsz,af h24,af h0,hz',Sem.run_pure,hm0,Array.toList_map,hv,newRow,run_newObj];rfl
       have hxl':xs.length=len:=hxl;have hlm:len<=maxLen:=by
        have:len*1<=len*u.size:=Nat.mul_le_mul_left _ u.size_pos;simp only[maxLen];omega
       have g:=OB m2 (nm:=nm) (by rw[nY hni];exact hun) (E:=E) (t:=u) (xs:=xs) (vs:=vs) (cap:=len) (pre:=[]) (cY.refl w _) rfl hcl (by omega) hlm (λi hi=>by simpa using hrd i hi);refine⟨_,_,.inl hrun,?_⟩;rw[hxl'] at g;exact da.of_frz m ok g
      .cases hk
     .cases hk
    .cases e2
   .cases e
  .rename_i z hct hz;split at e
   .rename_i cs hb1 hb2 hb3 hf;have hb1:z.length=sz:=bG hb1;have hb2:sz=1:=bG hb2;simp only[dM] at hb3;have hb4:1<=len:=kO hb3.1;have hb5:len<=16777216:=kO hb3.2;subst hb2;simp only[Q.run] at e;split at e
    .rename_i p q hk;simp only[bq,br] at e;obtain⟨rfl,rfl⟩:=e;split at hk
     .rename_i hun;cases cz hk;obtain⟨i,zv,hi,hzv,dz,_⟩:=zl (A:=A) (env:=env) (w:=w) hz;have hzl:zv.cells.size=1:=by rw[← ga,je dz,hb1]
      have dps:aR A env w ((parts.toList.map λp=>(p.1,aW ρ p.2)).map (·.2)) ((parts.toList.map λp=>(p.1,a.eval p.2)).map (·.2)):=by
       generalize parts.toList=l
       induction l with
       | nil=>simp[aR]
       | cons p l ih=>simp only[fF,aR];exact⟨_,_,rfl,dg f p.2,ih⟩
      have hmade:(madeCells zv.cells (len*1)).toList=j5 zv.cells.toList len:=by
       have:=HB zv.cells len (by omega);rw[hzl] at this;exact this
      obtain⟨vs,hv,dv⟩:=A8 (A:=A) (env:=env) (w:=w) (place:=λi=>some (i*1,1)) (place':=λi=>some (i*1,1)) (λi p hp=>hp)
       (parts.toList.map λp=>(p.1,aW ρ p.2)) (parts.toList.map λp=>(p.1,a.eval p.2)) (j5 z len) cs (madeCells zv.cells (len*1)) hf (by rw[hmade];exact Ix dz len) (by simp[Function.comp_def]) dps
      have h24:¬ (len*1>2^24):=by omega
      have h0:¬ (len*1=0):=by omega
      have hz':(zeroValue E).run P w = .ok zv w:=by simp[zeroValue,typeInfo,hi,hzv]
      have hm0:((Array.range (len*1)).map (zv.cells[· % zv.cells.size]!))=madeCells zv.cells (len*1):=rfl;have hrun:(execOp a.eval o).run P w = .ok (.value (.slice (some ⟨w.heap.size,0,none⟩) len len)) (w.alloc (.cells vs E)):=by
       unfold execOp;rw[ho];simp only[Instr.buildSlice,Sem.run_bind,run_underlying hu,Result.andThen_ok,kU hsz,af h24,af h0,hz',Sem.run_pure,hm0,Array.toList_map,hv,newRow,run_newObj];rfl
      refine⟨_,_,.inl hrun,da.fresh m hun (len:=(0,0)) rfl w.heap.size (ir _) (cY.alloc w _ _) (λx=>⟨vs,heap_alloc_new w _,tP x _ _ dv⟩) ?_⟩;simp only[az];exact⟨_,(0,0),aZ.set_same _ _ _,rfl⟩
     .cases hk
    .cases e
   .cases e
  .cases e
 .cases e
theorem ap0(m:Mod w0 N0 A env h w)(f:FD A env w ρ a){t:TypeId}{nm:Nat}{x y:Operand}(ho:o.op = .makeSlice t x y)
  (e:(In P t nm (aW ρ x) (aW ρ y)).run h=some (d,r)) (hp:bV d.pre):bj P o a w0 N0 A env h w d:=by
 have dx:=dg f x
 have dy:=dg f y
 unfold In at e
 split at e
 next E sz kl l kc c he hx hy=>
  obtain⟨hu,hsz⟩:=vD he;rw[hx] at dx;rw[hy] at dy;simp only[az] at dx dy;split at e
  .rename_i u z i hct hz hi;split at e
   .rename_i dd rest hb1 hb2 hb3 hpz;have hb1:u.size=sz:=bG hb1;have hb2:z.length=sz:=bG hb2;have hb3:1<=i.bytes:=kO hb3;subst hb1;simp only[Q.run] at e;split at e
    .rename_i p q hk;simp only[bq,br] at e;obtain⟨rfl,rfl⟩:=e;split at hk
     .rename_i hun;cases cz hk;simp only[Dl.pre,bV,iu] at hp;obtain⟨h0,hlc,hby⟩:=hp;obtain⟨i',zv,hi',hzv,dz,_⟩:=zl (A:=A) (env:=env) (w:=w) hz;rw[hi] at hi';cases hi';have hzl:zv.cells.size=u.size:=by rw[← ga,je dz,hb2]
      have hisz:i.size=u.size:=by
       unfold gI at hsz;rw[hi] at hsz;simpa using hsz
      have hc63:c<=9223372036854775807:=by
       have:(1:Int)*c<=(i.bytes:Int)*c:=Int.mul_le_mul_of_nonneg_right (by omega) (by omega);omega
      have hrun:=run_make (P:=P) w t E i zv hu hi hzv kl kc l c h0 hlc hby hc63;rw[hisz] at hrun;have hproj:=sC m u z zv.cells.toList dd rest [] [] (by rw[hpz];rfl) dz (A':=A) (λ_ hb=>hb) (λk ⟨n,b,l,hh,_⟩=>by simp at hh);have hmade:(madeCells zv.cells (c.toNat*u.size)).toList=j5 zv.cells.toList c.toNat:=by rw[← hzl];exact HB _ _ (by rw[hzl];exact u.size_pos)
      have g:=OB m (nm:=nm) hun (E:=E) (t:=u) (xs:=replicate l.toNat dd) (vs:=madeCells zv.cells (c.toNat*u.size)) (cap:=c.toNat) (pre:=[0<=l,l<=c,(i.bytes:Int)*c<=281474976710656]) (cY.refl w _) rfl
       (size_madeCells _ _) (by simp;omega) (by simp only[maxLen];omega) (λj hj=>by
        simp only[uh] at hj;rw[List.getElem_replicate];have sh:=yo hproj.2.2.2.1 (j*u.size);rw[gh] at sh;refine ik (λ_ h=>h) (λ_ _ _=>rfl) u _ _ _ _ (λq hq=>?_) sh;have hlt:j*u.size+q<c.toNat*u.size:=by
         have:(j+1)*u.size<=c.toNat*u.size:=mM _ (by omega);rw[fS,kr] at this;omega
        rw[← lK,hmade,BC _ _ _ (by simpa[hzl] using hlt)];congr 1;simp only[ga,hzl];rw[uP,Nat.add_mul_mod_self_right,Nat.mod_eq_of_lt hq];omega)
      refine⟨_,_,.inl ?_,g⟩;unfold execOp;rw[ho];simp only[dx.1,dy.1,Sem.run_bind,hrun,Result.andThen_ok,Sem.run_pure,uh]
     .cases hk
    .cases e
   .cases e
  .cases e
 .cases e
end
end Go.SX
