/- Short terms for proofs that a tactic finds. -/
import Derived.KernelRfl
import Derived.WalkKit
import Derived.LoopTactic
import Derived.Deep.LoopGhost
import Derived.RangeFuncRecord
import Derived.Deep.MidRow
import Derived.Laws.Entries
import Derived.Laws.StructEq
set_option linter.all false
open List (take replicate range drop)
open Array renaming getElem?_eq_some_iff->cb4,range->cs4,toArray_toList->cs1,toList_map->cf1
open Bool renaming and_eq_true_iff->cd0,false->bZ6,true->bZ3
open ByteArray renaming empty->cF2
open Decidable renaming decide->bZ2
open Function renaming comp_def->cg9
open Go renaming BinOp->cr8,Field->cA7,IntKind->cb7,Operand->cb3,Program->ca7,TypeId->bZ8,Value->ca2,World->ca8,binOp->cv3,eqGuard->cw3,eqGuard_at_bool->cC4,eqGuard_at_int->cr9,execOp->cb0,loadVar->cv5,madeCells->cf6,maxLen->cb2,run_newObj->cA1,storeCells->cA0,storeVar->cD6
open Go.Addr renaming add_lit->cd4
open Go.Instr renaming build->cs3,buildSlice->cn5,fill->cB6,sureAddr->ce0
open Go.IntKind renaming i64->bZ4
open Go.Op renaming eqFields->cv4,equalIn->cn0,intArith->cD4,maxDepth->cD5,unary->cA8
open Go.Program renaming fieldsOf->cu1
open Go.Result renaming andThen_ok->ca3
open Go.RowKit.Below renaming heap_alloc->cl5
open Go.Sem renaming run_bind->ca6,run_pure->cb1
open Go.Value renaming int->ch1
open Go.World renaming cell?_of_block->cr6,putObj_heap_other->cd5,putObj_heap_same->ck4,shape?->cc7
open Int renaming le_of_lt->cB5,le_total->cr7,tmod_nonneg->cl6,toNat->it
open List renaming drop_drop->cj8,filter->cf5,foldl->cb9,getD->Om,getElem?_append->ce1,length->be,map->cg4
open Nat renaming beq->ca0,ble->cd9,lt_of_lt_of_le->cm5,mod_eq_of_lt->cy3
open Option renaming isSome_iff_exists->cp0,none->bZ9,some->bZ1
namespace Go.SX
theorem ab{p:Prop}(h:p:=by omega):p:=h
theorem az{p:Prop}(h:p:=by simp):p:=h
theorem oS{p:Prop}(h:p:=by kernel_rfl):p:=h
theorem aB{p:Prop}(h:p:=by decide):p:=h
theorem aP:True:=trivial
theorem aX:∀{p:Prop} [Decidable p],decide p=bZ3->p:=@of_decide_eq_true
theorem bg:∀{p:Prop} [Decidable p],decide p=bZ6->¬p:=@of_decide_eq_false
theorem ah:∀{c:Prop}{h:Decidable c},¬c->∀{α:Sort _}{t e:α},(if c then t else e)=e:=@if_neg
theorem cq:∀ {α} {l:List α} {i:Nat} {a:α},Om l i a=l[i]?.getD a:=@List.getD_eq_getElem?_getD
theorem aj:∀{c:Prop}{h:Decidable c},c->∀{α:Sort _}{t e:α},(if c then t else e)=t:=@if_pos
theorem bK:∀{n m:Nat},n.beq m=bZ3->n=m:=@Nat.eq_of_beq_eq_true
theorem cE:∀ {α} (val val_1:α),(bZ1 val=bZ1 val_1)=(val=val_1):=@Option.some.injEq
theorem cG:∀ {α} {l:List α} {i:Nat} (h:i<be l),l[i]? = bZ1 l[i]:=@List.getElem?_eq_getElem
theorem cy:∀ {α} {β} (fst:α) (snd:β) (fst_1:α) (snd_1:β),((fst,snd)=(fst_1,snd_1))=(fst=fst_1/\snd=snd_1):=@Prod.mk.injEq
theorem bM:∀ {α} {as bs:List α},be (as++bs)=be as+be bs:=@List.length_append
theorem gN:∀ {α} {i:Nat} {l:List α},be l<=i->take i l=l:=@List.take_of_length_le
theorem eI:∀ {α} {a:α},[a].length=1:=@List.length_singleton
theorem cX:∀ {α} {a:α} {as:List α},be (a::as)=be as+1:=@List.length_cons
theorem jn:∀{p:Prop},(¬p->False)->p:=@Classical.byContradiction
theorem eM:∀ {α} {i:Nat} {l:List α},be (take i l)=min i (be l):=@List.length_take
theorem ic:∀{α:Sort _}(b:Bool)(t e:α),(bif b then t else e)=if b=bZ3 then t else e:=@Bool.cond_eq_ite
theorem fx:∀(a b:Bool),((a&&b)=bZ3)=(a=bZ3/\b=bZ3):=@Bool.and_eq_true
theorem fu:∀ {α} (y:α) {a:α} {l:List α},a∈l->a∈y::l:=@List.mem_cons_of_mem
theorem eT:∀{p:Prop} [Decidable p],¬p->decide p=false:=@decide_eq_false
theorem gw:∀ {α} {i:Nat} {l:List α},be (drop i l)=be l-i:=@List.length_drop
theorem eV:∀ {α} {a:α} {l:List α},a∈a::l:=@List.mem_cons_self
theorem fC:∀ {α} {xs:Array α},be xs.toList=xs.size:=@Array.length_toList
theorem ip:∀ {α} {a:α} {as:List α} (bs:List α),a∈as->a∈as++bs:=@List.mem_append_left
theorem iA:∀ {α} {a b:α},(bZ1 a).getD b=a:=@Option.getD_some
theorem ft:∀{p:Prop} [Decidable p],p->decide p=true:=@decide_eq_true
theorem nX:∀ {α} {l₁ l₂:List α} {i:Nat},be l₁<=i->(l₁++l₂)[i]? = l₂[i-be l₁]? := @List.getElem?_append_right
theorem jv:∀ {α} {b:α} (as:List α) {bs:List α},b∈bs->b∈as++bs:=@List.mem_append_right
theorem gd:∀ {α} {as:List α} {i:Nat} {a:α},be (as.set i a)=be as:=@List.length_set
theorem mC:∀ {α} {l₁ l₂:List α} {i:Nat},i<be l₁->(l₁++l₂)[i]? = l₁[i]? := @List.getElem?_append_left
theorem yu:∀ {α} {l:List α},be l=0->l=[]:=@List.eq_nil_of_length_eq_zero
theorem nI:∀(n m:Nat),n+m-n=m:=@Nat.add_sub_cancel_left
theorem fV:∀ {α} (as bs cs:List α),as++bs++cs=as++(bs++cs):=@List.append_assoc
theorem fF:∀ {α} {β} {f:α->β} {a:α} {l:List α},cg4 f (a::l)=f a::cg4 f l:=@List.map_cons
theorem mO:∀ {α} {xs:Array α} {i:Nat},xs.toList[i]? = xs[i]? := @Array.getElem?_toList
theorem md:∀{n m:Nat},n.ble m=bZ3->n<=m:=@Nat.le_of_ble_eq_true
theorem dq:∀(n:Nat),n<=n:=@Nat.le_refl
theorem rF:∀{p:Prop} [Decidable p],(decide p=bZ3)=p:=@decide_eq_true_eq
theorem gJ:∀(n:Nat),0+n=n:=@Nat.zero_add
theorem gG:∀(n m k:Nat),n+m+k=n+(m+k):=@Nat.add_assoc
theorem fY:∀(n m k:Nat),(n+m)*k=n*k+m*k:=@Nat.add_mul
theorem kP:∀ {α} (i:Nat) (l:List α),take i l++drop i l=l:=@List.take_append_drop
theorem lw:∀{n m:Nat}(k:Nat),n<=m->n*k<=m*k:=@Nat.mul_le_mul_right
theorem lT:∀ {α} {β} {f:β->α->β} {b:β} {l l':List α},cb9 f b (l++l')=cb9 f (cb9 f b l) l':=@List.foldl_append
theorem rx:∀{a:Int},0<=a->∃ (n:Nat),a=↑n:=@Int.eq_ofNat_of_zero_le
theorem kO:∀ {α} {a:α} {as bs:List α},a::as++bs=a::(as++bs):=@List.cons_append
theorem sQ:∀ {α} {xs:Array α} {i:Nat} {d:α},xs.getD i d=xs[i]?.getD d:=@Array.getD_eq_getD_getElem?
theorem yz:∀ {α} {p:α->Bool} {l:List α},List.takeWhile p l++List.dropWhile p l=l:=@List.takeWhile_append_dropWhile
theorem kf:∀(n:Nat),n+0=n:=@Nat.add_zero
theorem iX:∀ {α} (as:List α),as++[]=as:=@List.append_nil
theorem zu:∀ {α} {i:Nat} {l:List α} (h:i<be l),take (i+1) l=take i l++[l[i]]:=@List.take_succ_eq_append_getElem
theorem sC:∀{p:Prop} [Decidable p],decide p=bZ3↔p:=@decide_eq_true_iff
theorem kJ:∀ {α} {β} {f:α->β} {l₁ l₂:List α},cg4 f (l₁++l₂)=cg4 f l₁++cg4 f l₂:=@List.map_append
theorem io:∀(a:Int),a<=a:=@Int.le_refl
theorem rX:∀ {α} {i:Nat} {a:α} {l:List α},a∈take i l->a∈l:=@List.mem_of_mem_take
theorem rS:∀ {α} {l:List α} {i:Nat} {a:α},l[i]? = bZ1 a->a∈l:=@List.mem_of_getElem?
theorem wE:∀ {α} {l:List α} {i j:Nat},(take i l)[j]? = if j<i then l[j]? else none:=@List.getElem?_take
theorem s9:∀ {α} {i:Nat} {l:List α} (h:i<be l),drop i l=l[i]::drop (i+1) l:=@List.drop_eq_getElem_cons
theorem sr:∀{p:Prop}{x:Decidable p},decide p=bZ6↔¬p:=@decide_eq_false_iff_not
theorem mZ:∀{n:Nat},range n.succ=range n++[n]:=@List.range_succ
theorem vU:∀ {α} {n:Nat} {a:α},be (replicate n a)=n:=@List.length_replicate
theorem qE:∀(b:Bool),((!b)=bZ3)=(b=bZ6):=@Bool.not_eq_true'
theorem wp:∀ {α} {xs:List α} {i j:Nat},(drop i xs)[j]? = xs[i+j]? := @List.getElem?_drop
theorem mv:∀(n:Nat),1*n=n:=@Nat.one_mul
theorem Ce:∀{a b:Int},0<=a->a.tmod b=a%b:=@Int.tmod_eq_emod_of_nonneg
theorem Ao:∀ {α} {p:α->Bool} (l₁ l₂:List α),cf5 p (l₁++l₂)=cf5 p l₁++cf5 p l₂:=@List.filter_append
theorem tx:∀(m:Nat){n:Nat},0<n->m*n/n=m:=@Nat.mul_div_cancel
theorem sS:∀(a b:Bool),((a||b)=bZ3)=(a=bZ3∨b=bZ3):=@Bool.or_eq_true
theorem zb:∀ {α} {β} {l:List α} {a:α} {f:α->β},a∈l->f a∈cg4 f l:=@List.mem_map_of_mem
theorem qU:∀ {α} {as:List α},as.toArray.size=be as:=@List.size_toArray
theorem FM:∀ {α} {xs:Array α} {i j:Nat},i≠j->∀{a:α},(xs.setIfInBounds i a)[j]? = xs[j]? := @Array.getElem?_setIfInBounds_ne
theorem Ak:∀(b:Bool),((!b)=bZ6)=(b=bZ3):=@Bool.not_eq_false'
theorem Hb:∀(x n:Nat),x &&& 2^n-1=x%2^n:=@Nat.and_two_pow_sub_one_eq_mod
theorem yv:∀ {α} (as:List α),[]++as=as:=@List.nil_append
theorem dP:∀{α:Sort _}{β:Sort _}{a₁ a₂:α}(f:α->β),a₁=a₂->f a₁=f a₂:=@congrArg
theorem g7:∀(p:Prop),(p/\True)=p:=@and_true
theorem Ae:∀ {α} {l:List α} {i:Nat} {a b:α},a∈l.set i b->a∈l∨a=b:=@List.mem_or_eq_of_mem_set
theorem Er:∀(a:Int){b:Int},0<=b->a.fdiv b=a/b:=@Int.fdiv_eq_ediv_of_nonneg
theorem dI:∀ {α} {a:α} {s t:List α},a∈s++t↔a∈s∨a∈t:=@List.mem_append
theorem Al:∀ {α} {a:α} {i:Nat} {l:List α},a∈drop i l->a∈l:=@List.mem_of_mem_drop
theorem kY:∀ {α} {a b:α},a∈[b]↔a=b:=@List.mem_singleton
theorem rg:∀{a:Prop},a↔a:=@Iff.rfl
theorem dO:∀ {α} {b:α} {l:List α} {a:α},a∈b::l↔a=b∨a∈l:=@List.mem_cons
theorem yq:∀{a b:Bool},a=b↔(a=bZ3↔b=bZ3):=@Bool.eq_iff_iff
theorem z9:∀{a b:Int},0<=a->a.tdiv b=a/b:=@Int.tdiv_eq_ediv_of_nonneg
theorem kW:∀ {α} {β} {as:List α} (f:α->β),be (cg4 f as)=be as:=@List.length_map
theorem sy:∀{α:Sort _}(a b:α),(bif bZ6 then a else b)=b:=@cond_false
theorem AH:∀ {α} {l:List α} {i:Nat},be l<=i->l[i]? = none:=@List.getElem?_eq_none
theorem uj:∀{p:Prop} [Decidable p],¬¬p↔p:=@Decidable.not_not
theorem zc:∀(a:Nat),a.beq a=true:=@Nat.beq_refl
theorem tz:∀{n m k:Nat},n<=m->m<=k->n<=k:=@Nat.le_trans
theorem yO:∀(n m:Nat),n+m=m+n:=@Nat.add_comm
theorem F1:(bZ6=bZ3)=False:=@Bool.false_eq_true
theorem VG:∀(n:Nat),n<=n.succ:=@Nat.le_succ
abbrev ad := List Int
inductive CT where
 | int (k:cb7)
 | bool
 | str
 | sl (t:CT)
 | pair (a b:CT)
 deriving DecidableEq
@[reducible] def CT.D:CT->Type
 | .int _=>Int
 | .bool=>Bool
 | .str=>ByteArray
 | .sl t=>List t.D
 | .pair a b=>a.D×b.D
def CT.size:CT->Nat
 | .pair a b=>a.size+b.size
 | _=>1
theorem CT.size_pos(t:CT):0<t.size:=by
 induction t with
 | pair a b iha ihb=>simp only[CT.size];omega
 | _=>simp[CT.size]
def CT.dflt:(t:CT)->t.D
 | .int _=>(0:Int)
 | .bool=>bZ6
 | .str=>cF2
 | .sl _=>[]
 | .pair a b=>(a.dflt,b.dflt)
def nB(t:CT)(xs:List t.D)(i:Nat):t.D:=Om xs i t.dflt
def CT.wf:(t:CT)->t.D->Prop
 | .int k,n=>k.has n
 | .bool,_=>True
 | .str,s=>s.size<=cb2
 | .sl t,xs=>be xs<=cb2∧∀ x∈xs,t.wf x
 | .pair a b,d=>a.wf d.1/\b.wf d.2
inductive SV where
 | int (k:cb7) (n:Int)
 | bool (b:Bool)
 | str (s:ByteArray)
 | dsl (t:CT) (xs:List t.D)
 | dsx (t:CT) (xs:List t.D)
 | nilsl
 | own (n sz:Nat)
 | ptr (n off:Nat)
 | eptr (n sz i off:Nat)
 | dptr (t:CT) (d:t.D) (off:Nat)
 | nilp
 | fn (f:FuncId) (caps:List SV)
 | agg (cs:List SV)
 | tup (cs:List SV)
 | opt (b:Bool) (v:SV)
 | cv (v:ca2)
 | gl (g:Nat)
 | csl (n len:Nat)
 | mapp (n:Nat)
 | arr (k:cb7) (n:Nat) (xs:ad)
 | yld (r:Loop) (ts:List Nat) (cs:List SV)
 | junk
inductive kG where
 | cells (E:bZ8) (cs:List SV)
 | row (E:bZ8) (t:CT) (xs:List t.D)
 | frz (E:bZ8) (t:CT) (xs:List t.D)
 | mp (kk vk:cb7) (l:List (Int×Int))
 | opn (E:bZ8) (t:CT) (xs:List t.D) (i:Nat) (cs:List SV)
 | ary (E:bZ8) (k:cb7) (n:Nat) (xs:ad)
def kG.mut:kG->Bool
 | .frz .. => bZ6
 | _=>bZ3
inductive Nm where
 | un
 | dead
 | live (b:kG)
inductive Ev where
 | un
 | nil
 | blk (b:Nat) (len:Nat×Nat)
 deriving DecidableEq
abbrev bZ:=Nat->Nm
abbrev bi:=Nat->Ev
def Rd(A:Nat->Prop)(w:ca8):(t:CT)->(Nat->Option ca2)->Nat->t.D->Prop
 | .int k,cv,o,n=>cv o=bZ1 (.int k n)/\k.has n
 | .bool,cv,o,b=>cv o=bZ1 (.bool b)
 | .str,cv,o,s=>cv o=bZ1 (.string s)/\s.size<=cb2
 | .sl t,cv,o,xs=>∃ v,cv o=bZ1 v/\be xs<=cb2/\(((∃ a,v = .slice a 0 0)/\xs=[]) ∨
   ∃ b off cap,v = .slice (bZ1 ⟨b,off,bZ9⟩) (be xs) cap/\be xs<=cap/\cap<=cb2/\A b ∧
    ∀ i (h:i<be xs),Rd A w t (λo=>w.cell? ⟨b,o,bZ9⟩) (off+i*t.size) xs[i])
 | .pair a b,cv,o,d=>Rd A w a cv o d.1/\Rd A w b cv (o+a.size) d.2
def uF(A:Nat->Prop)(w:ca8)(t:CT)(v:ca2)(xs:List t.D):Prop :=
 be xs<=cb2/\(((∃ a,v = .slice a 0 0)/\xs=[]) ∨
  ∃ b off cap,v = .slice (bZ1 ⟨b,off,bZ9⟩) (be xs) cap/\be xs<=cap/\cap<=cb2/\A b ∧
   ∀ i (h:i<be xs),Rd A w t (λo=>w.cell? ⟨b,o,bZ9⟩) (off+i*t.size) xs[i])
theorem wn{A:Nat->Prop}{w:ca8}{t:CT}{cv:Nat->Option ca2}{o:Nat}{xs:List t.D} :
  Rd A w (.sl t) cv o xs↔∃ v,cv o=bZ1 v/\uF A w t v xs:=rg
theorem iQ{A A':Nat->Prop}{w w':ca8}(hA:∀ b,A b->A' b)(hw:∀ b o,A b->w'.cell? ⟨b,o,bZ9⟩=w.cell? ⟨b,o,bZ9⟩) :
  ∀(t:CT)(cv cv':Nat->Option ca2)(o:Nat)(d:t.D),(∀ j,j<t.size->cv' (o+j)=cv (o+j))->Rd A w t cv o d->Rd A' w' t cv' o d:=by
 intro t
 induction t with
 | int k=>intro cv cv' o d hc h;have:=hc 0 (by simp[CT.size]);simp only[kf] at this;simp only[Rd] at h ⊢;rw[this];exact h
 | bool=>intro cv cv' o d hc h;have:=hc 0 (by simp[CT.size]);simp only[kf] at this;simp only[Rd] at h ⊢;rw[this];exact h
 | str=>intro cv cv' o d hc h;have:=hc 0 (by simp[CT.size]);simp only[kf] at this;simp only[Rd] at h ⊢;rw[this];exact h
 | sl t ih =>
  intro cv cv' o d hc h;have:=hc 0 (by simp[CT.size]);simp only[kf] at this;simp only[Rd] at h ⊢;rw[this];have ⟨v,hv,hl,h⟩:=h;refine⟨v,hv,hl,?_⟩;obtain h|⟨b,off,cap,rfl,h1,h2,h3,h4⟩:=h
  .exact .inl h
  .exact .inr ⟨b,off,cap,rfl,h1,h2,hA b h3,λi hi=>ih _ _ _ _ (λj _=>hw b _ h3) (h4 i hi)⟩
 | pair a b iha ihb =>
  intro cv cv' o d hc h;refine⟨iha _ _ _ _ (λj hj=>hc j (by simp only[CT.size];omega)) h.1,ihb _ _ _ _ (λj hj=>?_) h.2⟩;have:=hc (a.size+j) (by simp only[CT.size];omega);simpa[gG] using this
theorem JQ{A:Nat->Prop}{w:ca8}:∀(t:CT)(cv:Nat->Option ca2)(o:Nat)(d:t.D),Rd A w t cv o d->t.wf d:=by
 intro t
 induction t with
 | int k=>intro cv o d h;exact h.2
 | bool=>intro cv o d h;trivial
 | str=>intro cv o d h;exact h.2
 | sl t ih =>
  intro cv o d h;have ⟨v,hv,hl,h⟩:=h;refine⟨hl,?_⟩;obtain⟨_,rfl⟩|⟨b,off,cap,_,_,_,_,h4⟩:=h
  .intro x hx;simp at hx
  .intro x hx;obtain⟨i,hi,rfl⟩:=List.mem_iff_getElem.1 hx;exact ih _ _ _ (h4 i hi)
 | pair a b iha ihb=>intro cv o d h;exact⟨iha _ _ _ h.1,ihb _ _ _ h.2⟩
mutual
def aA(A:Nat->Prop)(env:bi)(w:ca8):SV->ca2->Prop
 | .int k n,v=>v = .int k n/\k.has n
 | .bool b,v=>v = .bool b
 | .str s,v=>v = .string s/\s.size<=cb2
 | .dsl t xs,v=>uF A w t v xs
 | .nilsl,v=>v = .slice bZ9 0 0
 | .dsx t xs,v=>uF A w t v xs∧∃ a,v = .slice a xs.length xs.length
 | .own n sz,v=>(env n = .nil∧∃ a,v = .slice a 0 0)∨∃ b len E c,env n = .blk b len/\w.shape? b=bZ1 (E,c)/\v = .slice (bZ1 ⟨b,len.1,bZ9⟩) len.2 ((c-len.1)/sz)
 | .ptr n off,v=>∃ b len,env n = .blk b len/\v = .pointer (bZ1 ⟨b,off,bZ9⟩)
 | .eptr n sz i off,v=>∃ b len,env n = .blk b len/\i<len.2/\v = .pointer (bZ1 ⟨b,len.1+(i*sz+off),bZ9⟩)
 | .dptr t d off,v=>∃ b o,v = .pointer (bZ1 ⟨b,o+off,bZ9⟩)/\A b/\Rd A w t (λo=>w.cell? ⟨b,o,bZ9⟩) o d
 | .nilp,v=>v = .pointer bZ9
 | .fn f caps,v=>∃ vs,v = .func (.func f) #[] vs/\aM A env w caps vs.toList
 | .agg cs,v=>∃ vs,v = .agg vs/\aM A env w cs vs.toList
 | .tup cs,v=>∃ vs,v = .tuple vs/\aM A env w cs vs.toList
 | .opt b s,v=>match b with|true=>aA A env w s v|false=>v=undef
 | .cv x,v=>v=x
 | .gl g,v=>v = .pointer (bZ1 ⟨g,0,bZ9⟩)
 | .csl n len,v=>∃ b l,env n = .blk b l/\v = .slice (bZ1 ⟨b,0,bZ9⟩) len len
 | .mapp n,v=>∃ b l,env n = .blk b l/\v = .map (bZ1 b)
 | .arr k n xs,v=>v = .agg (xs.map (ch1 k)).toArray/\xs.length=n∧∀ x∈xs,k.has x
 | .yld r ts cs,v=>∃ l,v = .func (.yield l) #[] #[]/\w.heap[l]? = bZ1 (.loop r)/\aM A env w cs (ts.map λt=>r.tmps.getD t undef)
 | .junk,_=>True
def aM(A:Nat->Prop)(env:bi)(w:ca8):List SV->List ca2->Prop
 | [],vs=>vs=[]
 | s::ss,vs=>∃ v r,vs=v::r/\aA A env w s v/\aM A env w ss r
end
mutual
def SV.noY:SV->Bool
 | .yld .. => bZ6
 | .fn _ cs=>vn cs
 | .agg cs=>vn cs
 | .tup cs=>vn cs
 | .opt _ s=>s.noY
 | _=>bZ3
def vn:List SV->Bool
 | []=>bZ3
 | s::ss=>s.noY&&vn ss
end
structure Ex1 (y:Prop) (A:Nat->Prop) (env:bi) (w:ca8) (A':Nat->Prop) (env':bi) (w':ca8):Prop where
 imm:∀ b,A b->A' b
 envb:∀ n b l,env n = .blk b l->env' n = .blk b l
 envn:∀ n,env n = .nil->env' n = .nil
 keep:∀ b o,A b->w'.cell? ⟨b,o,bZ9⟩=w.cell? ⟨b,o,bZ9⟩
 shape:∀ b s,w.shape? b=bZ1 s->w'.shape? b=bZ1 s
 lop:y→∀(k:Nat)(r:Loop),w.heap[k]? = bZ1 (.loop r)->w'.heap[k]? = bZ1 (.loop r)
structure dM (A:Nat->Prop) (env:bi) (w:ca8) (A':Nat->Prop) (env':bi) (w':ca8):Prop extends Ex1 True A env w A' env' w' where
 dfo:∀ k:Nat,w.heap[k]? = bZ1 (.deferred (bZ1 []))->w'.heap[k]? = bZ1 (.deferred (bZ1 []))
theorem dM.refl{A:Nat->Prop}{env:bi}{w:ca8}:dM A env w A env w:=⟨⟨λ_ h=>h,λ_ _ _ h=>h,λ_ h=>h,λ_ _ _=>rfl,λ_ _ h=>h,λ_ _ _ h=>h⟩,λ_ h=>h⟩
theorem dM.trans{A A' A'':Nat->Prop}{env env' env'':bi}{w w' w'':ca8}(h:dM A env w A' env' w')(k:dM A' env' w' A'' env'' w''):dM A env w A'' env'' w'' :=
 ⟨⟨λb hb=>k.imm b (h.imm b hb),λn b l e=>k.envb n b l (h.envb n b l e),λn e=>k.envn n (h.envn n e),
  λb o hb=>(k.keep b o (h.imm b hb)).trans (h.keep b o hb),λb s e=>k.shape b s (h.shape b s e),λ_ j r e=>k.lop trivial j r (h.lop trivial j r e)⟩,λj e=>k.dfo j (h.dfo j e)⟩
theorem HC{A A':Nat->Prop}{w w':ca8}(hA:∀ b,A b->A' b)(hw:∀ b o,A b->w'.cell? ⟨b,o,bZ9⟩=w.cell? ⟨b,o,bZ9⟩)
  {t:CT} {v:ca2} {xs:List t.D} (h:uF A w t v xs):uF A' w' t v xs:=by
 have:=iQ hA hw (.sl t) (λ_=>bZ1 v) (λ_=>bZ1 v) 0 xs (λ_ _=>rfl) ⟨v,rfl,h⟩
 have ⟨v',hv,h'⟩:=this
 cases hv
 exact h'
mutual
theorem DE{A A':Nat->Prop}{env env':bi}{w w':ca8}{y:Prop}(x:Ex1 y A env w A' env' w'):∀(s:SV)(v:ca2),y∨s.noY=bZ3->aA A env w s v->aA A' env' w' s v
 | .int k n,v,q,h=>by simp only[aA] at h ⊢;exact h
 | .bool b,v,q,h=>by simp only[aA] at h ⊢;exact h
 | .str s,v,q,h=>by simp only[aA] at h ⊢;exact h
 | .dsl t xs,v,q,h=>by simp only[aA] at h ⊢;exact HC x.imm x.keep h
 | .nilsl,v,q,h=>by simp only[aA] at h ⊢;exact h
 | .dsx t xs,v,q,h=>by simp only[aA] at h ⊢;exact⟨HC x.imm x.keep h.1,h.2⟩
 | .own n sz,v,q,h=>by
  simp only[aA] at h ⊢;rcases h with⟨h1,h2⟩|⟨b,len,E,c,h1,h2,h3⟩
  .exact .inl ⟨x.envn _ h1,h2⟩
  .exact .inr ⟨b,len,E,c,x.envb _ _ _ h1,x.shape _ _ h2,h3⟩
 | .ptr n off,v,q,h=>by simp only[aA] at h ⊢;obtain⟨b,len,h1,h2⟩:=h;exact⟨b,len,x.envb _ _ _ h1,h2⟩
 | .eptr n sz i off,v,q,h=>by simp only[aA] at h ⊢;obtain⟨b,len,h1,h2⟩:=h;exact⟨b,len,x.envb _ _ _ h1,h2⟩
 | .dptr t d off,v,q,h=>by
  simp only[aA] at h ⊢;obtain⟨b,o,h1,h2,h3⟩:=h;exact⟨b,o,h1,x.imm _ h2,iQ x.imm x.keep t _ _ _ _ (λj _=>x.keep _ _ h2) h3⟩
 | .nilp,v,q,h=>by simp only[aA] at h ⊢;exact h
 | .fn f caps,v,q,h=>by simp only[aA] at h ⊢;obtain⟨vs,h1,h2⟩:=h;exact⟨vs,h1,yb x caps _ q h2⟩
 | .agg cs,v,q,h=>by simp only[aA] at h ⊢;obtain⟨vs,h1,h2⟩:=h;exact⟨vs,h1,yb x cs _ q h2⟩
 | .tup cs,v,q,h=>by simp only[aA] at h ⊢;obtain⟨vs,h1,h2⟩:=h;exact⟨vs,h1,yb x cs _ q h2⟩
 | .opt b s,v,q,h=>by
  cases b with
  | true=>simp only[aA] at h ⊢;exact DE x s v q h
  | false=>simp only[aA] at h ⊢;exact h
 | .cv y,v,q,h=>by simp only[aA] at h ⊢;exact h
 | .gl g,v,q,h=>by simp only[aA] at h ⊢;exact h
 | .csl n len,v,q,h=>by simp only[aA] at h ⊢;obtain⟨b,l,h1,h2⟩:=h;exact⟨b,l,x.envb _ _ _ h1,h2⟩
 | .mapp n,v,q,h=>by simp only[aA] at h ⊢;obtain⟨b,l,h1,h2⟩:=h;exact⟨b,l,x.envb _ _ _ h1,h2⟩
 | .arr k n xs,v,q,h=>by simp only[aA] at h ⊢;exact h
 | .yld r ts cs,v,q,h=>by simp only[aA] at h ⊢;obtain⟨l,h1,h2,h3⟩:=h;rcases q with q|q;exact⟨l,h1,x.lop q _ _ h2,yb x cs _ (.inl q) h3⟩;cases q
 | .junk,v,q,h=>by simp only[aA]
theorem yb{A A':Nat->Prop}{env env':bi}{w w':ca8}{y:Prop}(x:Ex1 y A env w A' env' w'):∀(ss:List SV)(vs:List ca2),y∨vn ss=bZ3->aM A env w ss vs->aM A' env' w' ss vs
 | [],vs,q,h=>by simp only[aM] at h ⊢;exact h
 | s::ss,vs,q,h=>by
  simp only[aM] at h ⊢;obtain⟨v,r,h1,h2,h3⟩:=h;have q1:y∨s.noY=true:=q.imp id λq=>(cd0.1 q).1;have q2:y∨vn ss=true:=q.imp id λq=>(cd0.1 q).2;exact⟨v,r,h1,DE x s v q1 h2,yb x ss r q2 h3⟩
end
theorem Dy{A A':Nat->Prop}{env env':bi}{w w':ca8}(x:dM A env w A' env' w'):∀(s:SV)(v:ca2),aA A env w s v->aA A' env' w' s v:=λs v h=>DE x.toEx1 s v (.inl trivial) h
theorem BL{A A':Nat->Prop}{env env':bi}{w w':ca8}(x:dM A env w A' env' w'):∀(ss:List SV)(vs:List ca2),aM A env w ss vs->aM A' env' w' ss vs:=λs v h=>yb x.toEx1 s v (.inl trivial) h
theorem jb{A:Nat->Prop}{env:bi}{w:ca8}:∀{ss:List SV}{vs:List ca2},aM A env w ss vs->be vs=be ss
 | [],vs,h=>by simp only[aM] at h;simp[h]
 | s::ss,vs,h=>by
  simp only[aM] at h;obtain⟨v,r,rfl,_,h3⟩:=h;simp[jb h3]
theorem GJ{A:Nat->Prop}{env:bi}{w:ca8}:∀{ss:List SV}{vs:List ca2}(i:Nat)(s:SV) ,aM A env w ss vs->ss[i]? = bZ1 s→∃ v,vs[i]? = bZ1 v/\aA A env w s v
 | [],vs,i,s,h,hi=>by simp at hi
 | s0::ss,vs,i,s,h,hi=>by
  simp only[aM] at h;obtain⟨v,r,rfl,h2,h3⟩:=h;cases i with
  | zero=>simp at hi;subst hi;exact⟨v,by simp,h2⟩
  | succ i =>
   obtain⟨u,hu,hd⟩:=GJ i s h3 (by simpa using hi);exact⟨u,by simpa using hu,hd⟩
theorem tF{A:Nat->Prop}{env:bi}{w:ca8}:∀{ss tt:List SV}{vs us:List ca2},aM A env w ss vs->aM A env w tt us->aM A env w (ss++tt) (vs++us)
 | [],tt,vs,us,h,k=>by simp only[aM] at h;subst h;simpa using k
 | s::ss,tt,vs,us,h,k=>by
  simp only[aM] at h;obtain⟨v,r,rfl,h2,h3⟩:=h;simp only[kO,aM];exact⟨v,r++us,rfl,h2,tF h3 k⟩
def SV.one:SV->Bool
 | .agg _ | .tup _ | .opt _ _ | .arr .. | .yld .. | .junk=>bZ6
 | .cv (.agg _) | .cv (.tuple _)=>bZ6
 | _=>bZ3
theorem Nh{A:Nat->Prop}{env:bi}{w:ca8}{s:SV}{v:ca2}(h:aA A env w s v)(ho:s.one=bZ3):v.oneCell'=true:=by
 cases s <;> simp only[SV.one,F1] at ho <;> simp only[aA] at h
 case int=>rw[h.1];rfl
 case bool=>rw[h];rfl
 case str=>rw[h.1];rfl
 case dsl=>obtain⟨_,⟨⟨a,rfl⟩,_⟩|⟨b,off,cap,rfl,_⟩⟩:=h <;> rfl
 case dsx=>obtain⟨_,a,rfl⟩:=h;rfl
 case nilsl=>rw[h];rfl
 case own=>rcases h with⟨_,a,rfl⟩|⟨b,len,E,c,_,_,rfl⟩ <;> rfl
 case ptr=>obtain⟨b,len,_,rfl⟩:=h;rfl
 case eptr=>obtain⟨b,len,_,_,rfl⟩:=h;rfl
 case dptr=>obtain⟨b,off,rfl,_⟩:=h;rfl
 case nilp=>rw[h];rfl
 case fn=>obtain⟨vs,rfl,_⟩:=h;rfl
 case gl=>rw[h];rfl
 case csl=>obtain⟨b,l,_,rfl⟩:=h;rfl
 case mapp=>obtain⟨b,l,_,rfl⟩:=h;rfl
 case cv x=>rw[h];cases x <;> first|rfl|simp_all
def xA:List SV->Bool
 | []=>bZ3
 | s::ss=>s.one&&xA ss
theorem EN{A:Nat->Prop}{env:bi}{w:ca8}:∀{ss:List SV}{vs:List ca2},aM A env w ss vs->xA ss=bZ3→∀ v∈vs,v.oneCell'=bZ3
 | [],vs,h,_=>by simp only[aM] at h;subst h;simp
 | s::ss,vs,h,ho=>by
  simp only[aM] at h;obtain⟨v,r,rfl,h2,h3⟩:=h;simp only[xA,fx] at ho;intro u hu;rcases dO.1 hu with rfl|hu
  .exact Nh h2 ho.1
  .exact EN h3 ho.2 u hu
def SV.cells:SV->List SV
 | .agg cs=>cs
 | s=>[s]
def Hc(q:Prop)(w:ca8)(k:Nat)(vs:Array ca2)(E:bZ8):Prop:=∃ fz,w.heap[k]? = bZ1 (.cells vs E fz)/\(fz=(0,0)∨q/\vs.size<=fz.1)
section
variable {q:Prop} {w w':ca8} {k:Nat} {vs:Array ca2} {E:bZ8}
theorem Hc.of(h:w.heap[k]? = bZ1 (.cells vs E (0,0))):Hc q w k vs E:=⟨_,h,.inl rfl⟩
theorem Hc.plain(h:Hc q w k vs E)(n:¬ q):w.heap[k]? = bZ1 (.cells vs E (0,0)):=by
 obtain⟨f,h,rfl|⟨h',_⟩⟩:=h
 .exact h
 .exact (n h').elim
theorem Hc.cell(h:Hc q w k vs E)(j:Nat):w.cell? ⟨k,j,bZ9⟩=vs[j]? := let ⟨_,h,_⟩:=h;cell_of_row w k j vs E _ h
theorem Hc.lt(h:Hc q w k vs E):k<w.heap.size:=let ⟨_,h,_⟩:=h;(cb4.1 h).1
theorem Hc.mono(hk:w'.heap[k]? = w.heap[k]?)(h:Hc q w k vs E):Hc q w' k vs E:=let ⟨f,h,q⟩:=h;⟨f,hk.trans h,q⟩
theorem Hc.norec(h:Hc q w k vs E):(∀ r,w.heap[k]? ≠ bZ1 (.loop r))∧∀ l,w.heap[k]? ≠ bZ1 (.deferred l):=by
 have ⟨f,h,_⟩:=h;rw[h];simp
theorem Hc.shape(h:Hc q w k vs E):w.shape? k=bZ1 (E,vs.size):=by
 obtain⟨f,h,_⟩:=h;unfold cc7;rw[h]
end
def rJ(A:Nat->Prop)(w:ca8)(k:Nat)(len:Nat×Nat)(E:bZ8)(t:CT)(xs:List t.D):Prop :=
 ∃ vs cap,Hc (t = .int .u8) w k vs E/\vs.size=len.1+cap*t.size/\be xs=len.2/\len.2<=cap/\cap<=cb2 ∧
  ∀ i (h:i<be xs),Rd A w t (λo=>vs[o]?) (len.1+i*t.size) xs[i]
def kv(A:Nat->Prop)(env:bi)(w:ca8)(k:Nat)(len:Nat×Nat):kG->Prop
 | .cells E cs=>∃ vs,w.heap[k]? = bZ1 (.cells vs E (0,0))/\aM A env w cs vs.toList
 | .row E t xs=>rJ A w k len E t xs
 | .frz E t xs=>A k/\rJ A w k len E t xs
 | .mp kk vk l=>∃ es clk,w.heap[k]? = bZ1 (.map es clk)/\es.toList.map (λe=>(e.key,e.val))=l.map (λp=>(ch1 kk p.1,ch1 vk p.2))∧∀ p∈l,vk.has p.2
 | .ary E kk n xs=>len=(0,n)/\be xs=n∧∃ vs,w.heap[k]? = bZ1 (.cells vs E (0,0))/\aM A env w (xs.map (.int kk)) vs.toList
 | .opn E t xs i cs=>∃ vs cap es,Hc (t = .int .u8) w k vs E/\vs.size=len.1+cap*t.size/\be xs=len.2/\len.2<=cap/\cap<=cb2/\i<len.2 ∧
   be es=t.size/\(∀ q,q<t.size->vs[len.1+i*t.size+q]? = es[q]?)/\aM A env w cs es ∧
   ∀ j (h:j<be xs),j≠i->Rd A w t (λo=>vs[o]?) (len.1+j*t.size) xs[j]
def Q3(A:Nat->Prop)(env:bi)(w:ca8)(n:Nat):Nm->Prop
 | .un=>env n = .un
 | .dead=>True
 | .live b=>(∃ k len,env n = .blk k len/\kv A env w k len b/\(b.mut=bZ3→¬ A k)) ∨
   (env n = .nil∧∃ E t,b = .row E t []∨b = .frz E t [])
theorem kv.lt{A:Nat->Prop}{env:bi}{w:ca8}{k:Nat}{len:Nat×Nat}{b:kG}(h:kv A env w k len b):k<w.heap.size:=by
 cases b with
 | cells E cs=>have ⟨vs,h,_⟩:=h;exact (cb4.1 h).1
 | row E t xs=>have ⟨vs,cap,h,_⟩:=h;exact h.lt
 | frz E t xs=>have ⟨_,vs,cap,h,_⟩:=h;exact h.lt
 | mp kk vk l=>have ⟨es,clk,h,_⟩:=h;exact (cb4.1 h).1
 | opn E t xs i cs=>have ⟨vs,cap,es,h,_⟩:=h;exact h.lt
 | ary E kk n xs=>have ⟨_,_,vs,h,_⟩:=h;exact (cb4.1 h).1
theorem kv.norec{A:Nat->Prop}{env:bi}{w:ca8}{k:Nat}{len:Nat×Nat}{b:kG}(h:kv A env w k len b):(∀ r,w.heap[k]? ≠ bZ1 (.loop r))∧∀ l,w.heap[k]? ≠ bZ1 (.deferred l):=by
 cases b with
 | cells E cs=>have ⟨vs,h,_⟩:=h;rw[h];simp
 | row E t xs=>have ⟨vs,cap,h,_⟩:=h;exact h.norec
 | frz E t xs=>have ⟨_,vs,cap,h,_⟩:=h;exact h.norec
 | mp kk vk l=>have ⟨es,clk,h,_⟩:=h;rw[h];simp
 | opn E t xs i cs=>have ⟨vs,cap,es,h,_⟩:=h;exact h.norec
 | ary E kk n xs=>have ⟨_,_,vs,h,_⟩:=h;rw[h];simp
theorem LL{A A':Nat->Prop}{env env':bi}{w w':ca8}{y:Prop}(x:Ex1 y A env w A' env' w'){k:Nat}{len:Nat×Nat}(hk:w'.heap[k]? = w.heap[k]?)
  {E:bZ8} {t:CT} {xs:List t.D} (h:rJ A w k len E t xs):rJ A' w' k len E t xs:=by
 have ⟨vs,cap,h,h1,h2,h3,h4,h5⟩:=h
 exact⟨vs,cap,Hc.mono hk h,h1,h2,h3,h4,λi hi=>iQ x.imm x.keep t _ _ _ _ (λ_ _=>rfl) (h5 i hi)⟩
theorem Wm{k:cb7}:∀{xs:ad},vn (xs.map (.int k))=bZ3
 | []=>rfl
 | _::xs=>Wm (xs:=xs)
def kG.noY:kG->Bool
 | .cells _ cs=>vn cs
 | .opn _ _ _ _ cs=>vn cs
 | _=>bZ3
theorem Xt{A A':Nat->Prop}{env env':bi}{w w':ca8}{y:Prop}(x:Ex1 y A env w A' env' w'){k:Nat}{len:Nat×Nat}(hk:w'.heap[k]? = w.heap[k]?)
  {b:kG} (q:y∨b.noY=bZ3) (h:kv A env w k len b):kv A' env' w' k len b:=by
 cases b with
 | cells E cs=>have ⟨vs,h,hd⟩:=h;exact⟨vs,by rw[hk];exact h,yb x _ _ q hd⟩
 | row E t xs=>exact LL x hk h
 | frz E t xs=>exact⟨x.imm _ h.1,LL x hk h.2⟩
 | mp kk vk l=>have ⟨es,clk,h,hd⟩:=h;exact⟨es,clk,by rw[hk];exact h,hd⟩
 | ary E kk n xs=>have ⟨hl,hn,vs,h,hd⟩:=h;exact⟨hl,hn,vs,by rw[hk];exact h,yb x _ _ (.inr Wm) hd⟩
 | opn E t xs i cs =>
  have ⟨vs,cap,es,h,h1,h2,h3,h4,h5,h6,h7,h8,h9⟩:=h;exact⟨vs,cap,es,Hc.mono hk h,h1,h2,h3,h4,h5,h6,h7,yb x _ _ q h8,λj hj hn=>iQ x.imm x.keep t _ _ _ _ (λ_ _=>rfl) (h9 j hj hn)⟩
abbrev sH:=Nat->Option ((t:CT)×t.D)
structure fI where
 n:Nat->Prop
 a:Nat->Prop
 g:sH
structure Mod (w0:ca8) (N0:fI) (A:Nat->Prop) (env:bi) (h:bZ) (w:ca8):Prop where
 os:w.os=w0.os
 tape:w.tape=w0.tape
 output:w.output=w0.output
 dr:w0.drawn<=w.drawn
 size:w0.heap.size<=w.heap.size
 fr:∀ k,k<w0.heap.size→¬ N0.n k->w.heap[k]? = w0.heap[k]?
 Alt:∀ b,A b->b<w.heap.size
 nm:∀ n,Q3 A env w n (h n)
 own:∀ n b k l,h n = .live b->b.mut=bZ3->env n = .blk k l->N0.n k∨w0.heap.size<=k
 inj:∀ n m b c k l l',h n = .live b->h m = .live c->b.mut=bZ3->c.mut=bZ3->env n = .blk k l->env m = .blk k l'→n=m
 fresh:∀ b,A b->N0.a b∨N0.n b∨w0.heap.size<=b
 gl:∀ g x,N0.g g=bZ1 x->A g/\Rd A w x.1 (λo=>w.cell? ⟨g,o,bZ9⟩) 0 x.2
structure cZ (w w':ca8) (W:Nat->Prop):Prop where
 os:w'.os=w.os
 tape:w'.tape=w.tape
 output:w'.output=w.output
 dr:w.drawn<=w'.drawn
 size:w.heap.size<=w'.heap.size
 blk:∀ k,k<w.heap.size→¬ W k->w'.heap[k]? = w.heap[k]?
 shape:∀ k s,w.shape? k=bZ1 s->w'.shape? k=bZ1 s
theorem cZ.refl(w:ca8)(W:Nat->Prop):cZ w w W:=⟨rfl,rfl,rfl,dq _,dq _,λ_ _ _=>rfl,λ_ _ h=>h⟩
theorem cZ.alloc(w:ca8)(o:Obj)(W:Nat->Prop):cZ w (w.alloc o) W :=
 ⟨rfl,rfl,rfl,dq _,az,λk hk _=>cl5 w o k hk,λk s hs=>by
  unfold cc7 at hs ⊢;by_cases hk:k<w.heap.size
  .rw[cl5 w o k hk];exact hs
  .rw[Array.getElem?_eq_none ab] at hs;cases hs⟩
theorem cZ.drew(w:ca8)(W:Nat->Prop):cZ w w.drew W:=⟨rfl,rfl,rfl,VG _,dq _,λ_ _ _=>rfl,λ_ _ h=>h⟩
theorem cZ.trans{a b c:ca8}{W:Nat->Prop}(h:cZ a b W)(k:cZ b c W):cZ a c W :=
 ⟨k.os.trans h.os,k.tape.trans h.tape,k.output.trans h.output,tz h.dr k.dr,tz h.size k.size,
  λi hi hw=>(k.blk i (cm5 hi h.size) hw).trans (h.blk i hi hw),λi s hs=>k.shape i s (h.shape i s hs)⟩
theorem cZ.mono{w w':ca8}{W W':Nat->Prop}(h:cZ w w' W)(hW:∀ k,W k->W' k):cZ w w' W' :=
 ⟨h.os,h.tape,h.output,h.dr,h.size,λk hk hw=>h.blk k hk (λx=>hw (hW k x)),h.shape⟩
def J7(ns:Nat->Prop)(env:bi)(h:bZ)(w:ca8)(k:Nat):Prop :=
 w.heap.size<=k∨∃ m b l,ns m/\h m = .live b/\b.mut=bZ3/\env m = .blk k l
structure lP (ns:Nat->Prop) (W:Nat->Prop) (A:Nat->Prop) (env:bi) (h:bZ) (w:ca8) (A':Nat->Prop) (env':bi) (h':bZ) (w':ca8):Prop where
 c:cZ w w' W
 hW:∀ k,W k→∃ m b l,ns m/\h m = .live b/\b.mut=bZ3/\env m = .blk k l
 hA:∀ b,A b->A' b
 hA':∀ b,A' b->A b∨(J7 ns env h w b/\b<w'.heap.size)
 he:∀ n,¬ ns n->env' n=env n
 he':∀ n,env n ≠ .un->env' n=env n
 hh:∀ n,¬ ns n->h' n=h n
 hn:∀ n,ns n->Q3 A' env' w' n (h' n)
 hs:∀ n b k l,ns n->h' n = .live b->b.mut=bZ3->env' n = .blk k l->J7 ns env h w k
 hi:∀ n m b c k l l',ns n->ns m->h' n = .live b->h' m = .live c->b.mut=bZ3->c.mut=bZ3->env' n = .blk k l->env' m = .blk k l'→n=m
section
variable {w0:ca8} {N0:fI} {A A':Nat->Prop} {env env':bi} {h h':bZ} {w w':ca8} {ns W:Nat->Prop}
theorem Mod.live_blk(m:Mod w0 N0 A env h w){n:Nat}{b:kG}{k:Nat}{l:Nat×Nat}(hl:h n = .live b)(he:env n = .blk k l):kv A env w k l b/\(b.mut=bZ3→¬ A k):=by
 have:=m.nm n
 rw[hl] at this
 obtain⟨k',l',e,hb,hA⟩|⟨e,_⟩:=this
 .rw[he] at e;cases e;exact⟨hb,hA⟩
 .rw[he] at e;cases e
theorem Mod.xt(m:Mod w0 N0 A env h w)(c:cZ w w' W)(hW:∀ k,W k→∃ n b l,h n = .live b/\b.mut=bZ3/\env n = .blk k l)(he:∀ n,env n ≠ .un->env' n=env n):dM A env w A env' w':=by
 refine⟨⟨λ_ h=>h,λn b l e=>by rw[he n (by rw[e];simp)];exact e,λn e=>by rw[he n (by rw[e];simp)];exact e,λb o hb=>?_,c.shape,λ_ k r e=>?_⟩,λk e=>?_⟩
 .refine cr6 (a:=⟨b,o,bZ9⟩) (c.blk b (m.Alt b hb) λhw=>?_);have ⟨n,bb,l,hl,hm,hk⟩:=hW b hw;exact (m.live_blk hl hk).2 hm hb
 .rw[c.blk k (cb4.1 e).1 λhw=>?_]
  .exact e
  .have ⟨n,bb,l,hl,hm,hk⟩:=hW k hw;exact (m.live_blk hl hk).1.norec.1 _ e
 .rw[c.blk k (cb4.1 e).1 λhw=>?_]
  .exact e
  .have ⟨n,bb,l,hl,hm,hk⟩:=hW k hw;exact (m.live_blk hl hk).1.norec.2 _ e
theorem Mod.ext(m:Mod w0 N0 A env h w)(u:lP ns W A env h w A' env' h' w'):dM A env w A' env' w' :=
 have x:=m.xt u.c (λk hk=>let ⟨n,b,l,_,h1,h2,h3⟩:=u.hW k hk;⟨n,b,l,h1,h2,h3⟩) u.he'
 ⟨⟨u.hA,x.envb,x.envn,x.keep,x.shape,x.lop⟩,x.dfo⟩
theorem Mod.upd(m:Mod w0 N0 A env h w)(u:lP ns W A env h w A' env' h' w'):Mod w0 N0 A' env' h' w':=by
 have x:=m.ext u
 have old:∀ n b k l,¬ ns n->h n = .live b->b.mut=bZ3->env n = .blk k l→¬ J7 ns env h w k:=by
  intro n b k l hn hl hm he hs;have hlt:=(m.live_blk hl he).1.lt;obtain hs|⟨mm,bb,l',hmm,hl',hm',he'⟩:=hs
  .omega
  .exact hn (m.inj n mm b bb k l l' hl hl' hm hm' he he'▸hmm)
 refine⟨u.c.os.trans m.os,u.c.tape.trans m.tape,u.c.output.trans m.output,tz m.dr u.c.dr,tz m.size u.c.size,?_,?_,?_,?_,?_,?_,?_⟩
 .intro k hk hN;by_cases hW:W k
  .have ⟨mm,b,l,_,hl,hm,he⟩:=u.hW k hW;obtain h1|h1:=m.own mm b k l hl hm he
   .exact absurd h1 hN
   .omega
  .rw[u.c.blk k (cm5 hk m.size) hW];exact m.fr k hk hN
 .intro b hb;obtain h1|⟨_,h1⟩:=u.hA' b hb
  .exact cm5 (m.Alt b h1) u.c.size
  .exact h1
 .intro n;by_cases hn:ns n
  .exact u.hn n hn
  .rw[u.hh n hn];have:=m.nm n;cases hl:h n with
   | un=>rw[hl] at this;simp only[Q3] at this ⊢;rw[u.he n hn];exact this
   | dead=>trivial
   | live b =>
    rw[hl] at this;obtain⟨k,l,e,hb,hA⟩|⟨e,hb⟩:=this
    .refine .inl ⟨k,l,by rw[u.he n hn];exact e,?_,?_⟩
     .refine Xt x.toEx1 ?_ (.inl trivial) hb;by_cases hW:W k
      .cases hm:b.mut with
       | true =>
        have ⟨mm,bb,l',hmm,hl',hm',he'⟩:=u.hW k hW;exact absurd (.inr ⟨mm,bb,l',hmm,hl',hm',he'⟩) (old n b k l hn hl hm e)
       | false =>
        have ⟨mm,bb,l',hmm,hl',hm',he'⟩:=u.hW k hW;cases b with
        | frz E t xs=>exact absurd hb.1 ((m.live_blk hl' he').2 hm')
        | cells E cs=>cases hm
        | row E t xs=>cases hm
        | mp kk vk l=>cases hm
        | opn E t xs i cs=>cases hm
        | ary E kk n xs=>cases hm
      .exact u.c.blk k hb.lt hW
     .intro hm hA';obtain h1|⟨h1,_⟩:=u.hA' k hA'
      .exact hA hm h1
      .exact old n b k l hn hl hm e h1
    .exact .inr ⟨by rw[u.he n hn];exact e,hb⟩
 .intro n b k l hl hm he;by_cases hn:ns n
  .obtain h1|⟨mm,bb,l',hmm,hl',hm',he'⟩:=u.hs n b k l hn hl hm he
   .exact .inr (tz m.size h1)
   .exact m.own mm bb k l' hl' hm' he'
  .rw[u.hh n hn] at hl;rw[u.he n hn] at he;exact m.own n b k l hl hm he
 .intro n n' b c k l l' hl hl' hm hm' he he';by_cases hn:ns n <;> by_cases hn':ns n'
  .exact u.hi n n' b c k l l' hn hn' hl hl' hm hm' he he'
  .rw[u.hh n' hn'] at hl';rw[u.he n' hn'] at he';exact absurd (u.hs n b k l hn hl hm he) (old n' c k l' hn' hl' hm' he')
  .rw[u.hh n hn] at hl;rw[u.he n hn] at he;exact absurd (u.hs n' c k l' hn' hl' hm' he') (old n b k l hn hl hm he)
  .rw[u.hh n hn] at hl;rw[u.he n hn] at he;rw[u.hh n' hn'] at hl';rw[u.he n' hn'] at he';exact m.inj n n' b c k l l' hl hl' hm hm' he he'
 .intro b hb;obtain h1|⟨h1|⟨mm,bb,l',hmm,hl',hm',he'⟩,_⟩:=u.hA' b hb
  .exact m.fresh b h1
  .exact .inr (.inr (tz m.size h1))
  .exact .inr (m.own mm bb b l' hl' hm' he')
 .intro g y hg;have ⟨h1,h2⟩:=m.gl g y hg;exact⟨u.hA g h1,iQ x.imm x.keep _ _ _ _ _ (λj _=>x.keep g _ h1) h2⟩
theorem lP.none(c:cZ w w' λ_=>False):lP (λ_=>False) (λ_=>False) A env h w A env h w' :=
 ⟨c,λ_ h=>h.elim,λ_ h=>h,λ_ h=>.inl h,λ_ _=>rfl,λ_ _=>rfl,λ_ _=>rfl,λ_ h=>h.elim,λ_ _ _ _ h=>h.elim,λ_ _ _ _ _ _ _ h=>h.elim⟩
end
def wx:Obj->Bool
 | .loop _=>bZ3
 | .deferred _=>bZ3
 | _=>bZ6
section
variable {w0:ca8} {N0:fI} {A:Nat->Prop} {env:bi} {h:bZ} {w:ca8} {k:Nat} {o o':Obj}
theorem bL5(hk:w.heap[k]? = bZ1 o)(ho:wx o=bZ3)(ho':wx o'=bZ3)(a:Addr):(w.putObj k o').cell? a=w.cell? a:=by
 by_cases e:a.block=k
 .unfold World.cell?;rw[e,ck4 (cb4.1 hk).1,hk];cases o <;> cases o' <;> simp_all[wx]
 .exact cr6 (cd5 e)
theorem Du(hk:w.heap[k]? = bZ1 o)(ho:wx o=bZ3)(ho':wx o'=bZ3):Ex1 (∀ r,o ≠ .loop r) A env w A env (w.putObj k o'):=by
 refine⟨λ_ h=>h,λ_ _ _ h=>h,λ_ h=>h,λb p _=>bL5 hk ho ho' _,λb s e=>?_,λhl j r e=>?_⟩
 .by_cases q:b=k
  .subst q;unfold cc7 at e;rw[hk] at e;cases o <;> simp_all[wx]
  .unfold cc7 at e ⊢;rw[cd5 q];exact e
 .rw[cd5 (by rintro rfl;rw[hk] at e;cases e;exact hl _ rfl)];exact e
theorem Mod.putB(m:Mod w0 N0 A env h w)(hk:w.heap[k]? = bZ1 o)(ho:wx o=bZ3)(ho':wx o'=bZ3)(hy:(∀ r,o ≠ .loop r)∨∀ n b,h n = .live b->b.noY=bZ3){wb:ca8}(e1:wb.os=w0.os)(e2:wb.tape=w0.tape)(e3:wb.output=w0.output)(e7:wb.drawn=w0.drawn)
  (e4:wb.heap.size=w0.heap.size) (e5:∀ j,j≠k->wb.heap[j]? = w0.heap[j]?) (e6:k<w0.heap.size->wb.heap[k]? = bZ1 o'):Mod wb N0 A env h (w.putObj k o'):=by
 have x:=Du (A:=A) (env:=env) hk ho ho'
 have oth:∀ {j},j≠k->(w.putObj k o').heap[j]? = w.heap[j]? := cd5
 refine⟨m.os.trans e1.symm,m.tape.trans e2.symm,m.output.trans e3.symm,by rw[e7];exact m.dr,by simpa[e4] using m.size,λj hj hn=>?_,λb hb=>by simpa using m.Alt b hb,λn=>?_,by rw[e4];exact m.own,m.inj,by rw[e4];exact m.fresh,λg y hg=>?_⟩
 .rw[e4] at hj;by_cases q:j=k
  .subst q;rw[e6 hj];exact ck4 (cb4.1 hk).1
  .rw[oth q,e5 j q];exact m.fr j hj hn
 .have:=m.nm n;cases e:h n with
  | un=>rw[e] at this;exact this
  | dead=>trivial
  | live b =>
   rw[e] at this;obtain⟨j,l,e1,hb,hA⟩|h1:=this
   .exact .inl ⟨j,l,e1,Xt x (oth λq=>by
     subst q;have:=hb.norec;rw[hk] at this;cases o <;> simp_all[wx]) (hy.imp id λhy=>hy n b e) hb,hA⟩
   .exact .inr h1
 .have ⟨h1,h2⟩:=m.gl g y hg;exact⟨h1,iQ (λ_ h=>h) x.keep _ _ _ _ _ (λj _=>x.keep g _ h1) h2⟩
theorem Mod.put(m:Mod w0 N0 A env h w)(hk:w.heap[k]? = bZ1 o)(ho:wx o=bZ3)(ho':wx o'=bZ3)(h0:w0.heap.size<=k)(hy:(∀ r,o ≠ .loop r)∨∀ n b,h n = .live b->b.noY=bZ3):Mod w0 N0 A env h (w.putObj k o') :=
 m.putB hk ho ho' hy rfl rfl rfl rfl rfl (λ_ _=>rfl) λh=>ab
end
def bZ.set(h:bZ)(n:Nat)(x:Nm):bZ:=λm=>if m=n then x else h m
def bi.set(e:bi)(n:Nat)(x:Ev):bi:=λm=>if m=n then x else e m
@[simp] theorem bZ.set_same (h:bZ) (n:Nat) (x:Nm):h.set n x n=x:=by simp[bZ.set]
@[simp] theorem bi.set_same (e:bi) (n:Nat) (x:Ev):e.set n x n=x:=by simp[bi.set]
theorem bZ.set_other(h:bZ){n m:Nat}(x:Nm)(hm:m≠n):h.set n x m=h m:=by simp[bZ.set,hm]
theorem bi.set_other(e:bi){n m:Nat}(x:Ev)(hm:m≠n):e.set n x m=e m:=by simp[bi.set,hm]
section
variable {w0:ca8} {N0:fI} {A:Nat->Prop} {env:bi} {h:bZ} {w w':ca8}
theorem lP.fresh(m:Mod w0 N0 A env h w){n:Nat}(hn:h n = .un){b:kG}{len:Nat×Nat}{o:Obj}(hmut:b.mut=bZ3)(k:Nat)(hk:w.heap.size<=k)(hA:¬ A k)
  (c:cZ w w' λ_=>False) (hb:kv A (env.set n (.blk k len)) w' k len b) :
  lP (λm=>m=n) (λ_=>False) A env h w A (env.set n (.blk k len)) (h.set n (.live b)) w':=by
 have hu:env n = .un:=by have:=m.nm n;rw[hn] at this;exact this
 refine⟨c,λ_ h=>h.elim,λ_ h=>h,λ_ h=>.inl h,λm hm=>bi.set_other _ _ hm,λm hm=>?_,λm hm=>bZ.set_other _ _ hm,?_,?_,?_⟩
 .exact bi.set_other _ _ (λe=>hm (e▸hu))
 .rintro _ rfl;rw[bZ.set_same];exact .inl ⟨k,len,bi.set_same _ _ _,hb,λ_=>hA⟩
 .rintro _ b' k' l rfl _ _ he;rw[bi.set_same] at he;cases he;exact .inl hk
 .rintro _ _ _ _ _ _ _ rfl rfl _ _ _ _ _ _;rfl
theorem lP.write(m:Mod w0 N0 A env h w){n:Nat}{b b':kG}{k:Nat}{len:Nat×Nat}(hl:h n = .live b)(hm:b.mut=bZ3)(he:env n = .blk k len)
  (c:cZ w w' λj=>j=k) (hb:kv A env w' k len b') (hm':b'.mut=bZ3) :
  lP (λm=>m=n) (λj=>j=k) A env h w A env (h.set n (.live b')) w':=by
 refine⟨c,?_,λ_ h=>h,λ_ h=>.inl h,λm _=>rfl,λm hm=>rfl,λm hm=>bZ.set_other _ _ hm,?_,?_,?_⟩
 .rintro _ rfl;exact⟨n,b,len,rfl,hl,hm,he⟩
 .rintro _ rfl;rw[bZ.set_same];exact .inl ⟨k,len,he,hb,λ_=>(m.live_blk hl he).2 hm⟩
 .rintro _ b'' k' l rfl _ _ he';rw[he] at he';cases he';exact .inr ⟨_,b,len,rfl,hl,hm,he⟩
 .rintro _ _ _ _ _ _ _ rfl rfl _ _ _ _ _ _;rfl
end
end Go.SX
namespace Go.SX
universe u v
inductive Q (α:Type u):Type u where
 | ret (a:α)
 | ask (n:Nat) (k:Nm->Q α)
 | fail
def Q.run{α:Type u}(h:bZ):Q α->Option (α×List Nat)
 | .ret a=>bZ1 (a,[])
 | .ask n k=>match (k (h n)).run h with
  | some (a,r)=>bZ1 (a,n::r)
  | none=>bZ9
 | .fail=>bZ9
def Q.bind{α:Type u}{β:Type v}:Q α->(α->Q β)->Q β
 | .ret a,f=>f a
 | .ask n k,f => .ask n λx=>(k x).bind f
 | .fail,_ => .fail
theorem Q.run_bind{α:Type u}{β:Type v}(h:bZ)(q:Q α)(f:α->Q β){b:β}{r:List Nat}(e:(q.bind f).run h=bZ1 (b,r)) :
  ∃ a c r2,q.run h=bZ1 (a,c)/\(f a).run h=bZ1 (b,r2)/\r=c++r2:=by
 induction q generalizing r with
 | ret a=>exact⟨a,[],r,rfl,e,rfl⟩
 | ask n k ih =>
  simp only[Q.bind,Q.run] at e;cases d:((k (h n)).bind f).run h with
  | none=>rw[d] at e;cases e
  | some p =>
   rw[d] at e;obtain⟨rfl,rfl⟩:=e;obtain⟨a,c,r2,h1,h2,h3⟩:=ih (h n) (by rw[d]);exact⟨a,n::c,r2,by simp only[Q.run,h1],h2,by rw[h3];rfl⟩
 | fail=>cases e
theorem Q.run_local{α:Type u}{h d:bZ}:∀(q:Q α){a:α}{r:List Nat},q.run h=bZ1 (a,r)->(∀ n∈r,d n=h n)->q.run d=bZ1 (a,r)
 | .ret a,b,r,e,_=>e
 | .ask n k,b,r,e,hh=>by
  simp only[Q.run] at e ⊢;cases c:(k (h n)).run h with
  | none=>rw[c] at e;cases e
  | some p =>
   rw[c] at e;obtain⟨rfl,rfl⟩:=e;rw[hh n az,Q.run_local (k (h n)) c (λm hm=>hh m (fu _ hm))]
def bQ:List Prop->Prop
 | []=>True
 | p::r=>p/\bQ r
theorem sJ{a b:List Prop}:bQ (a++b)↔bQ a/\bQ b:=by
 induction a with
 | nil=>simp[bQ]
 | cons p a ih=>simp[bQ,ih,and_assoc]
structure Qn (X:Type) where
 all:(X->Prop)->Prop
 hall:∀ k,all k→∀ x,k x
 ex:(X->Prop)->Prop
 hex:∀ k,ex k→∃ x,k x
def Qn.plain(X:Type):Qn X:=⟨λk=>∀ x,k x,λ_ h=>h,λk=>∃ x,k x,λ_ h=>h⟩
inductive Dl:Type 1 where
 | det (pre:List Prop) (v:SV) (upd:List (Nat×Nm))
 | nd (X:Type) (qn:Qn X) (pre:List Prop) (R:X->Prop) (inh:bQ pre→∃ x,R x) (v:X->SV) (upd:List (Nat×(X->Nm)))
def Dl.X:Dl->Type
 | .det .. => Unit
 | .nd X .. => X
def Dl.pre:Dl->List Prop
 | .det p .. => p
 | .nd _ _ p .. => p
def Dl.R:(d:Dl)->d.X->Prop
 | .det ..,_=>True
 | .nd _ _ _ R _ _ _,x=>R x
def Dl.val:(d:Dl)->d.X->SV
 | .det _ v _,_=>v
 | .nd _ _ _ _ _ v _,x=>v x
def dJ:List (Nat×Nm)->bZ->bZ
 | [],h=>h
 | (n,b)::r,h=>(dJ r h).set n b
def Dl.upd:(d:Dl)->d.X->List (Nat×Nm)
 | .det _ _ u,_=>u
 | .nd _ _ _ _ _ _ u,x=>u.map λp=>(p.1,p.2 x)
def Dl.wr:Dl->List Nat
 | .det _ _ u=>u.map (·.1)
 | .nd _ _ _ _ _ _ u=>u.map (·.1)
def Dl.hp(d:Dl)(x:d.X)(h:bZ):bZ:=dJ (d.upd x) h
theorem qo{u:List (Nat×Nm)}{h:bZ}{n:Nat}(a:n ∉ u.map (·.1)):dJ u h n=h n:=by
 induction u with
 | nil=>rfl
 | cons p u ih =>
  simp only[fF,dO,not_or] at a;rw[dJ,bZ.set_other _ _ a.1,ih a.2]
theorem Dl.wr_upd(d:Dl)(x:d.X):(d.upd x).map (·.1)=d.wr:=by
 cases d with
 | det p v u=>rfl
 | nd X qn p R i v u=>simp[Dl.upd,Dl.wr,cg9]
theorem Dl.ne(d:Dl)(h:bQ d.pre):∃ x,d.R x:=by
 cases d with
 | det p v u=>exact⟨(),aP⟩
 | nd X qn p R i v u=>exact i h
def fb(w0:ca8)(N0:fI)(A:Nat->Prop)(env:bi)(h:bZ)(w:ca8)(d:Dl)(v:ca2)(w':ca8):Prop :=
 ∃ (x:d.X) (A':Nat->Prop) (env':bi),d.R x/\Mod w0 N0 A' env' (d.hp x h) w'∧dM A env w A' env' w'∧aA A' env' w' (d.val x) v
def bH(P:ca7)(o:Oper)(a:Act)(w0:ca8)(N0:fI)(A:Nat->Prop)(env:bi)(h:bZ)(w:ca8)(d:Dl):Prop :=
 ∃ v w',((cb0 a.eval o).run P w = .ok (.value v) w'∨((cb0 a.eval o).run P w = .ok .skip w'∧v=undef))/\fb w0 N0 A env h w d v w'
def M3(k:cb7)(n:Int):Bool:=bZ2 (k.min<=n)&&bZ2 (n<=k.max)
theorem Sj{k:cb7}{n:Int}(h:M3 k n=bZ3):k.has n:=by
 simp only[M3,fx,rF] at h;exact h
def AY:ca2->SV
 | .int k n=>match M3 k n with
  | true => .int k n
  | false => .cv (.int k n)
 | .bool b => .bool b
 | .slice bZ9 0 0 => .nilsl
 | .pointer bZ9 => .nilp
 | v => .cv v
def bc(ρ:Nat->SV):cb3->SV
 | .tmp t=>ρ t
 | .const v=>AY v
 | .func f => .fn f []
 | .global g => .gl g
section
variable {P:ca7} {w0:ca8} {N0:fI} {A:Nat->Prop} {env:bi} {h:bZ} {w:ca8} {o:Oper} {a:Act}
theorem JY(v:ca2):aA A env w (AY v) v:=by
 unfold AY
 split
 next k n=>
  split
  next hb=>simp only[aA];exact⟨aP,Sj hb⟩
  .simp only[aA]
 all_goals simp only[aA]
def FD(A:Nat->Prop)(env:bi)(w:ca8)(ρ:Nat->SV)(a:Act):Prop:=∀ i,aA A env w (ρ i) (a.tmps.getD i undef)
theorem dC{ρ:Nat->SV}(f:FD A env w ρ a)(x:cb3):aA A env w (bc ρ x) (a.eval x):=by
 cases x with
 | tmp t=>exact f t
 | const v=>exact JY v
 | global g=>simp only[bc,aA,Act.eval]
 | func f=>simp only[bc,aA,Act.eval];exact⟨#[],rfl,by simp[aM]⟩
theorem bH.pure(m:Mod w0 N0 A env h w){pre:List Prop}{s:SV}{v:ca2}(hr:(cb0 a.eval o).run P w = .ok (.value v) w)(hd:aA A env w s v) :
  bH P o a w0 N0 A env h w (.det pre s []) :=
 ⟨v,w,.inl hr,(),A,env,aP,m,dM.refl,hd⟩
end
theorem IntKind.wrap_has(k:cb7)(n:Int):k.has (k.wrap n):=wrap_within k n
theorem We(k:cb7):k.min<=0/\0<=k.max:=by cases k <;> decide
theorem aW9{k:cb7}{x:Int}(h:k.has x)(y:Int):k.has (x.tmod y):=by
 have ⟨h1,h2⟩:=h
 have ⟨h3,h4⟩:=We k
 have h5:=Int.natAbs_tmod x y
 have h6:=Nat.mod_le x.natAbs y.natAbs
 have h7:0<=x->0<=x.tmod y:=λb=>cl6 y b
 have h8:x<=0->x.tmod y<=0:=λb=>by
  have:=cl6 (a := -x) y ab;simp_all
 exact⟨ab,ab⟩
def fX(k:cb7)(x y:Int):Int:=k.wrap (x*2^(min (it y) k.bits))
def eZ(k:cb7)(x y:Int):Int:=x.fdiv (2^(min (it y) k.bits))
def F2(k:cb7)(n:Int):Int:=bits .xor k (if k.signed then -1 else k.max) n
theorem aZ3{k:cb7}{x:Int}(h:k.has x)(y:Int):k.has (eZ k x y):=by
 have ⟨h1,h2⟩:=h
 have ⟨h3,h4⟩:=We k
 unfold eZ
 have a:(0:Int)<2^(min (it y) k.bits):=Int.pow_pos aB
 rw[Er _ (cB5 a)]
 generalize (2:Int)^(min (it y) k.bits)=p at *
 obtain b|b:=cr7 0 x
 .have h5:=Int.ediv_nonneg b (cB5 a);have h6:=Int.ediv_le_self p b;exact⟨ab,ab⟩
 .have h5:x<=x/p:=by
   refine (Int.le_ediv_iff_mul_le a).2 ?_;have:=Int.mul_le_mul_of_nonneg_left (show (1:Int)<=p from by omega) (show 0 ≤ -x from by omega);grind
  have h6:x/p<=0:=by
   have:=Int.ediv_le_ediv a b;simpa using this
  exact⟨ab,ab⟩
theorem MB(op:cr8)(k:cb7)(x y:Int):k.has (bits op k x y):=IntKind.wrap_has k _
end Go.SX
namespace Go.SX
def jW(k k':cb7):Bool:=match k,k' with
 | .i8,.i8 | .i16,.i16 | .i32,.i32 | .i64,.i64 | .u8,.u8 | .u16,.u16 | .u32,.u32 | .u64,.u64=>bZ3
 | _,_=>bZ6
theorem j6{k k':cb7}(h:jW k k'=bZ3):k=k':=by cases k <;> cases k' <;> first|rfl|cases h
def cY(v:SV):Q Dl := .ret (.det [] v [])
def S0(op:cr8)(k:cb7)(a b:Int):Q Dl:=match op with
 | .add=>cY (.int k (k.wrap (a+b)))
 | .sub=>cY (.int k (k.wrap (a-b)))
 | .mul=>cY (.int k (k.wrap (a*b)))
 | .quo => .ret (.det [b≠0] (.int k (k.wrap (a.tdiv b))) [])
 | .rem => .ret (.det [b≠0] (.int k (a.tmod b)) [])
 | .and=>cY (.int k (bits .and k a b))
 | .or=>cY (.int k (bits .or k a b))
 | .xor=>cY (.int k (bits .xor k a b))
 | .andNot=>cY (.int k (bits .andNot k a b))
 | .eql=>cY (.bool (bZ2 (a=b)))
 | .neq=>cY (.bool (!bZ2 (a=b)))
 | .lss=>cY (.bool (bZ2 (a<b)))
 | .leq=>cY (.bool (bZ2 (a<=b)))
 | .gtr=>cY (.bool (bZ2 (b<a)))
 | .geq=>cY (.bool (bZ2 (b<=a)))
 | .shl | .shr => .fail
def Un(op:cr8)(k:cb7)(a b:Int):Q Dl:=match op with
 | .shl => .ret (.det [0<=b] (.int k (fX k a b)) [])
 | .shr => .ret (.det [0<=b] (.int k (eZ k a b)) [])
 | _ => .fail
def aT1:cr8->Bool
 | .shl | .shr=>bZ3
 | _=>bZ6
def pj{α:Type}:List α->Nat->Option α
 | [],_=>bZ9
 | x::_,0=>bZ1 x
 | _::xs,n+1=>pj xs n
theorem xu{α:Type}:∀(l:List α)(n:Nat),pj l n=l[n]?
 | [],n=>by simp[pj]
 | x::xs,0=>rfl
 | x::xs,n+1=>by simp[pj,xu xs n]
def sG(P:ca7)(t:bZ8):Option Bool:=match P.underlying t with
 | some (.struct _)=>bZ1 bZ3
 | some (.array _ _)=>bZ1 bZ3
 | some _=>bZ1 bZ6
 | none=>bZ9
def f9(P:ca7)(t:bZ8):Option Nat:=match P.info? t with
 | some i=>bZ1 i.size
 | none=>bZ9
def mU(P:ca7)(t:bZ8)(cs:List SV)(off:Nat):Option SV:=match sG P t with
 | some bZ3=>match f9 P t with
  | some n=>match cd9 (off+n) (be cs) with
   | true=>bZ1 (.agg ((cs.drop off).take n))
   | false=>bZ9
  | none=>bZ9
 | some bZ6=>pj cs off
 | none=>bZ9
def zf(P:ca7):Nat->bZ8->SV->SV->Option Bool
 | 0,_,_,_=>bZ9
 | d+1,t,x,y=>match P.underlying t,x,y with
  | some (.int _),.int k a,.int k' b=>match jW k k' with
   | true=>bZ1 (bZ2 (a=b))
   | false=>bZ9
  | some .bool,.bool a,.bool b=>bZ1 (a == b)
  | some (.struct fs),.agg xs,.agg ys=>match P.stoodInHeld t with
   | false=>eqFs (zf P d) fs.toList xs ys
   | true=>bZ9
  | _,_,_=>bZ9
 where
 eqFs (q:bZ8->SV->SV->Option Bool):List cA7->List SV->List SV->Option Bool
  | [],_,_=>bZ1 bZ3
  | f :: fs, xs, ys => match f.name == "_" with
   | true=>bZ9
   | false=>match mU P f.type xs f.offset,mU P f.type ys f.offset with
    | some x,bZ1 y=>match q f.type x y,eqFs q fs xs ys with
     | some b,bZ1 r=>bZ1 (b&&r)
     | _,_=>bZ9
    | _,_=>bZ9
def DU(P:ca7)(t:bZ8)(xs ys:List SV):Option Bool :=
 match P.eqGuardType P.depth t with
 | false=>zf P 6 t (.agg xs) (.agg ys)
 | true=>bZ9
def BP(op:cr8)(n:Nat):Q Dl:=match op with
 | .eql => .ret (.nd Bool (Qn.plain Bool) [] (λb=>b=bZ3->n=0) (λ_=>⟨bZ6,λh=>by cases h⟩) (λb=>.bool b) [])
 | .neq => .ret (.nd Bool (Qn.plain Bool) [] (λb=>b=bZ3->n=0) (λ_=>⟨bZ6,λh=>by cases h⟩) (λb=>.bool (!b)) [])
 | _ => .fail
def VT(P:ca7)(op:cr8)(t:bZ8)(x:SV):Q Dl:=match P.underlying t,x with
 | some (.slice _),.dsl _ xs=>BP op (be xs)
 | some (.slice _),.dsx _ xs=>BP op (be xs)
 | some (.slice _),.nilsl=>BP op 0
 | some (.slice _),.own n _ => .ask n fun
  | .live (.row _ _ xs)=>BP op (be xs)
  | .live (.frz _ _ xs)=>BP op (be xs)
  | _ => .fail
 | _,_ => .fail
def Nz(P:ca7)(op:cr8)(t:bZ8)(x y:SV):Q Dl:=match x,y with
 | .int k a,.int k' b=>match aT1 op with
  | true=>Un op k a b
  | false=>match jW k k' with
   | true=>S0 op k a b
   | false => .fail
 | .bool a,.bool b=>match P.underlying t,op with
  | some .bool,.eql=>cY (.bool (a == b))
  | some .bool,.neq=>cY (.bool (!(a == b)))
  | _,_ => .fail
 | .agg xs,.agg ys=>match DU P t xs ys,op with
  | some b,.eql=>cY (.bool b)
  | some b,.neq=>cY (.bool (!b))
  | _,_ => .fail
 | x,.nilsl=>VT P op t x
 | _,_ => .fail
def PU(op:UnOp)(x:SV):Q Dl:=match op,x with
 | .not,.bool b=>cY (.bool (!b))
 | .neg,.int k n=>cY (.int k (k.wrap (0-n)))
 | .xor,.int k n=>cY (.int k (F2 k n))
 | _,_ => .fail
def PM(P:ca7)(src dst:bZ8)(x:SV):Q Dl:=match x,P.underlying src,P.underlying dst with
 | .int _ n,bZ1 _,bZ1 (.int k')=>cY (.int k' (k'.wrap n))
 | _,_,_ => .fail
def KC:SV->Bool
 | .cv (.tuple vs)=>vs.isEmpty
 | _=>bZ6
def Lo:SV->Option (Bool×Option Bool)
 | .bool x=>bZ1 (x,bZ9)
 | .opt g (.bool x)=>bZ1 (x,bZ1 g)
 | s=>match KC s with
  | true=>bZ1 (bZ6,bZ1 bZ6)
  | false=>bZ9
def EY(g:Option Bool)(c:Prop):List Prop:=match g with
 | none=>[]
 | some g=>[c->g=bZ3]
def Pd(c a b:SV):Q Dl:=match c,Lo a,Lo b with
 | .bool cb,bZ1 (x,gx),bZ1 (y,gy) => .ret (.det (EY gx (cb=bZ3)++EY gy (cb=bZ6)) (.bool (bif cb then x else y)) [])
 | _,_,_ => .fail
section
variable {P:ca7} {w0:ca8} {N0:fI} {A:Nat->Prop} {env:bi} {h:bZ} {w:ca8} {o:Oper} {a:Act} {ρ:Nat->SV} {d:Dl} {r:List Nat}
theorem cA{α:Type 1}{x y:α}{r:List Nat}(e:(Q.ret x).run h=bZ1 (y,r)):x=y:=by
 simp only[Q.run,cE,cy] at e;exact e.1
theorem TV{s:SV}{v:ca2}{x:Bool}{g:Option Bool}(e:Lo s=bZ1 (x,g))(b:aA A env w s v){c:Prop}(a:bQ (EY g c))(hc:c):v = .bool x:=by
 unfold Lo at e
 split at e
 .cases e;simpa only[aA] using b
 .cases e;simp only[EY,bQ,g7] at a;have:=a hc;subst this;simpa only[aA] using b
 .split at e
  .cases e;simp only[EY,bQ,g7] at a;simp_all
  .cases e
theorem bc9(m:Mod w0 N0 A env h w)(f:FD A env w ρ a){c x y:cb3}(ho:o.op = .pick c x y)
  (e:(Pd (bc ρ c) (bc ρ x) (bc ρ y)).run h=bZ1 (d,r)) (b:bQ d.pre):bH P o a w0 N0 A env h w d:=by
 have g:=dC f c
 have dx:=dC f x
 have dy:=dC f y
 unfold Pd at e
 split at e
 next i b1 g1 b2 g2 hc hx hy=>
  cases cA e;simp only[Dl.pre,sJ] at b;rw[hc] at g;simp only[aA] at g;refine bH.pure m (v := .bool (bif i then b1 else b2)) ?_ (by simp only[aA]);unfold cb0;rw[ho];simp only[g,asBool,ca6,cb1,ca3];cases i with
  | true=>simp;rw[TV hx dx b.1 rfl]
  | false=>simp;rw[TV hy dy b.2 rfl]
 .cases e
theorem Nk(a:cr8)(t:bZ8)(x y:cb3)(k:cb7)(u v:Int)(r:ca2)
  (hr:(cv3 a t (.int k u) (.int k v)).run P w = .ok r w) :
  ((do cw3 a t x y (.int k u) (.int k v);cv3 a t (.int k u) (.int k v):Sem ca2).run P w) = .ok r w:=by
 rw[cr9]
 simpa using hr
theorem Es{t:bZ8}{b:Bool}(h:sG P t=bZ1 b)(w:ca8):(isAgg t).run P w = .ok b w:=by
 unfold sG at h
 unfold isAgg
 rw[ca6]
 cases a:P.underlying t with
 | none=>rw[a] at h;cases h
 | some d =>
  rw[run_underlying a w,ca3];rw[a] at h;cases d <;> simp at h <;> subst h <;> rfl
theorem kT{t:bZ8}{n:Nat}(h:f9 P t=bZ1 n)(w:ca8):(sizeOf t).run P w = .ok n w:=by
 unfold f9 at h
 cases a:P.info? t with
 | none=>rw[a] at h;cases h
 | some i =>
  rw[a] at h;simp at h;simp[sizeOf,typeInfo,a,h]
theorem B8{a:List SV}{vs:List ca2}(n:Nat)(h:aM A env w a vs):aM A env w (a.drop n) (vs.drop n):=by
 induction n generalizing a vs with
 | zero=>simpa using h
 | succ n ih =>
  cases a with
  | nil=>simp only[aM] at h;subst h;simp[aM]
  | cons s a =>
   simp only[aM] at h;grind
theorem A7{a:List SV}{vs:List ca2}(n:Nat)(h:aM A env w a vs):aM A env w (a.take n) (vs.take n):=by
 induction n generalizing a vs with
 | zero=>simp[aM]
 | succ n ih =>
  cases a with
  | nil=>simp only[aM] at h;subst h;simp[aM]
  | cons s a =>
   simp only[aM] at h;simp only[List.take_succ_cons,aM];grind
theorem J3{t:bZ8}{cs:List SV}{off:Nat}{s:SV}{vs:Array ca2}(e:mU P t cs off=bZ1 s)(d:aM A env w cs vs.toList) :
  ∃ v,(part t vs off).run P w = .ok v w/\aA A env w s v:=by
 unfold mU at e
 split at e
 next a=>
  split at e
  .rename_i n hn;split at e
   .rename_i hle;cases e;refine⟨.agg (vs.extract off (off+n)),?_,?_⟩
    .unfold part;simp[ca6,Es a w,kT hn w]
    .simp only[aA];have:=A7 n (B8 off d);simp_all
   .cases e
  .cases e
 next a=>
  rw[xu] at e;have ⟨v,hv,b⟩:=GJ _ _ d e;refine⟨v,?_,b⟩;have c:vs[off]? = bZ1 v:=by rw[← mO];exact hv
  unfold part;simp[ca6,Es a w,c]
 .cases e
theorem Za{q:bZ8->SV->SV->Option Bool}{n:Nat}(hq:∀ t x y b u v,q t x y=bZ1 b->aA A env w x u->aA A env w y v->(cn0 n t u v).run P w = .ok b w) :
  ∀(fs:List cA7)(xs ys:List SV)(us vs:Array ca2)(b:Bool),zf.eqFs P q fs xs ys=bZ1 b->aM A env w xs us.toList->aM A env w ys vs.toList →
   (cv4 n us vs fs).run P w = .ok b w
 | [],xs,ys,us,vs,b,e,_,_=>by simp only[zf.eqFs] at e;cases e;simp[cv4]
 | f::fs,xs,ys,us,vs,b,e,hx,hy=>by
  simp only[zf.eqFs] at e;split at e
  .cases e
  ·rename_i hname;have hne : f.name ≠ "_" := by simpa using hname
   split at e
   .rename_i x y h1 h2;split at e
    next b1 r hb hr=>cases e;obtain⟨u,p1,d1⟩:=J3 h1 hx;obtain⟨v,p2,d2⟩:=J3 h2 hy;have ih:=Za hq fs xs ys us vs r hr hx hy;have hk:=hq _ _ _ _ _ _ hb d1 d2;simp only[cv4,hne,ne_eq,not_false_eq_true,if_true,ca6,p1,p2,ca3,hk];cases b1 <;> simp[ih]
    .cases e
   .cases e
theorem Mf:∀(d:Nat)(n:Nat)(t:bZ8)(x y:SV)(b:Bool)(u v:ca2),d<=n->zf P d t x y=bZ1 b->aA A env w x u->aA A env w y v->(cn0 n t u v).run P w = .ok b w
 | 0,n,t,x,y,b,u,v,_,e,_,_=>by simp only[zf] at e;cases e
 | d+1,0,t,x,y,b,u,v,hn,_,_,_=>by omega
 | d+1,n+1,t,x,y,b,u,v,hn,e,hx,hy=>by
  simp only[zf] at e;split at e
  .rename_i k0 k1 a1 k2 a2 hu;split at e
   next hk=>cases e;cases j6 hk;simp only[aA] at hx hy;rw[hx.1,hy.1,run_equalIn_int w n t k1 k0 a1 a2 hu];congr 1
   .cases e
  next a1 a2 hu=>cases e;simp only[aA] at hx hy;rw[hx,hy,run_equalIn_bool' w n t a1 a2 hu]
  .rename_i fs xs ys hu;split at e
   .rename_i hs;simp only[aA] at hx hy;obtain⟨us,rfl,hx⟩:=hx;obtain⟨vs,rfl,hy⟩:=hy;have hfo:P.underlying t=bZ1 (.struct (P.fieldsOf t)):=by simp[cu1,hu]
    have hff:P.fieldsOf t=fs:=by simp[cu1,hu]
    rw[run_equalIn_struct w n t us vs hfo hs,hff];exact Za (λt' x' y' b' u' v' h1 h2 h3=>Mf d n t' x' y' b' u' v' (by omega) h1 h2 h3) _ _ _ _ _ _ e hx hy
   .cases e
  .cases e
theorem bM0(m:Mod w0 N0 A env h w)(f:FD A env w ρ a){op:cr8}{t yt:bZ8}{x y:cb3}(ho:o.op = .binOp op t x y yt)
  (e:(Nz P op t (bc ρ x) (bc ρ y)).run h=bZ1 (d,r)) (hp:bQ d.pre):bH P o a w0 N0 A env h w d:=by
 have dx:=dC f x
 have dy:=dC f y
 have go:∀(v:ca2),((do cw3 op t x y (a.eval x) (a.eval y);cv3 op t (a.eval x) (a.eval y):Sem ca2).run P w) = .ok v w →
   (cb0 a.eval o).run P w = .ok (.value v) w:=by
  intro v hv;unfold cb0;rw[ho];simp only[ca6,cb1] at hv ⊢;rw[hv];rfl
 unfold Nz at e
 split at e
 next k u k' v hx hy=>
  rw[hx] at dx;rw[hy] at dy;simp only[aA] at dx dy;rw[dx.1,dy.1] at go;split at e
  .unfold Un at e;split at e
   .cases cA e;simp only[Dl.pre,bQ,g7] at hp;refine bH.pure m (go _ ?_) (s := .int k (fX k u v)) (v := .int k (fX k u v)) (by simp only[aA];exact⟨trivial,IntKind.wrap_has _ _⟩);rw[cr9,binOp_shl];have hn:¬ v<0:=by omega
    simp[Op.shift,hn,fX]
   .cases cA e;simp only[Dl.pre,bQ,g7] at hp;refine bH.pure m (go _ ?_) (s := .int k (eZ k u v)) (v := .int k (eZ k u v)) (by simp only[aA];exact⟨trivial,aZ3 dx.2 v⟩);rw[cr9,binOp_shr];have hn:¬ v<0:=by omega
    simp[Op.shift,hn,eZ]
   .cases e
  .split at e
   .rename_i hk;cases j6 hk;unfold S0 cY at e;have eqd:∀ u v:Int,(u == v)=bZ2 (u=v):=λu v=>by rw[yq];simp
    by_cases h1:op = .eql
    .subst h1;simp only at e;cases cA e;refine bH.pure m (go (.bool (bZ2 (u=v))) ?_) (by simp only[aA]);exact Nk _ _ _ _ _ _ _ _ (by rw[binOp_eql,eqd];rfl)
    by_cases h2:op = .neq
    .subst h2;simp only at e;cases cA e;refine bH.pure m (go (.bool (!bZ2 (u=v))) ?_) (by simp only[aA]);exact Nk _ _ _ _ _ _ _ _ (by rw[binOp_neq,bne,eqd];rfl)
    cases op <;> simp only at e <;> first
     | (exfalso;exact h1 rfl)
     | (exfalso;exact h2 rfl)
     | (cases cA e
        simp only[Dl.pre,bQ,g7] at hp;refine bH.pure m (go _ ?_) (by simp only[aA];first|exact⟨rfl,IntKind.wrap_has _ _⟩|exact⟨rfl,MB _ _ _ _⟩|exact⟨rfl,aW9 dx.2 _⟩|rfl);refine Nk _ _ _ _ _ _ _ _ ?_
        first
         | (simp[cv3,cD4];done)
         | (simp[cv3,Op.intDiv,hp];done)
         | (simp only[binOp_and,binOp_or,binOp_xor,binOp_andNot,intBits_and,intBits_or,intBits_xor,intBits_andNot,cb1];done)
         | (simp[cv3,Op.intCmp];done))
     | cases e
   .cases e
 next u v hx hy=>
  rw[hx] at dx;rw[hy] at dy;simp only[aA] at dx dy;rw[dx,dy] at go;split at e
  next hu=>unfold cY at e;cases cA e;refine bH.pure m (go _ ?_) (s := .bool (u == v)) (v := .bool (u == v)) (by simp only[aA]);rw[cC4];simp[run_eql_bool w t u v hu]
  next hu=>unfold cY at e;cases cA e;refine bH.pure m (go _ ?_) (s := .bool (!(u == v))) (v := .bool (!(u == v))) (by simp only[aA]);rw[cC4];simp[run_neq_bool w t u v hu]
  .cases e
 next xs ys hx hy=>
  rw[hx] at dx;rw[hy] at dy;simp only[aA] at dx dy;obtain⟨us,eu,du⟩:=dx;obtain⟨vs,ev,dv⟩:=dy;rw[eu,ev] at go;have key:∀ b,DU P t xs ys=bZ1 b->(cn0 10000 t (.agg us) (.agg vs)).run P w = .ok b w/\(cw3 op t x y (.agg us) (.agg vs)).run P w = .ok () w:=by
   intro b hb;unfold DU at hb;split at hb
   next h2=>exact⟨Mf 6 10000 t (.agg xs) (.agg ys) b _ _ (by omega) hb (by simp only[aA];exact⟨_,rfl,du⟩) (by simp only[aA];exact⟨_,rfl,dv⟩),run_eqGuard_agg w op t x y us vs h2⟩
   .cases hb
  split at e
  next b hb=>unfold cY at e;cases cA e;obtain⟨k1,k2⟩:=key b hb;refine bH.pure m (go _ ?_) (s := .bool b) (v := .bool b) (by simp only[aA]);simp only[ca6,k2,ca3,run_eql_struct,k1]
  next b hb=>unfold cY at e;cases cA e;obtain⟨k1,k2⟩:=key b hb;refine bH.pure m (go _ ?_) (s := .bool (!b)) (v := .bool (!b)) (by simp only[aA]);simp only[ca6,k2,ca3,run_neq_struct,k1]
  .cases e
 next hy=>
  rw[hy] at dy;simp only[aA] at dy;rw[dy] at go;have key:∀(d:Dl)(r:List Nat)(n:Nat)(E:bZ8),P.underlying t=bZ1 (.slice E)->(∃ b c,a.eval x = .slice b n c)->(∀ c,a.eval x = .slice bZ9 n c->n=0)->(BP op n).run h=bZ1 (d,r)->bH P o a w0 N0 A env h w d:=by
   rintro d r n E hu ⟨b,c,ev⟩ hn en;have hb:b.isNone=bZ3->n=0:=λhb=>by
    cases b with
    | none=>exact hn c ev
    | some _=>cases hb
   have heq:(cn0 10000 t (.slice b n c) (.slice bZ9 0 0)).run P w = .ok b.isNone w:=by
    unfold cn0;simp only[ca6,run_underlying hu,ca3];cases b <;> simp
   have hg:(cw3 op t x y (.slice b n c) (.slice bZ9 0 0)).run P w = .ok () w:=by
    unfold cw3;split <;> simp
   unfold BP at en;split at en
   .cases cA en;refine⟨.bool b.isNone,w,.inl (go _ ?_),b.isNone,A,env,hb,m,dM.refl,by simp only[Dl.val,aA]⟩;rw[ev];simp only[ca6,hg,ca3];simp[cv3,Op.equal,cD5,heq]
   .cases cA en;refine⟨.bool (!b.isNone),w,.inl (go _ ?_),b.isNone,A,env,hb,m,dM.refl,by simp only[Dl.val,aA]⟩;rw[ev];simp only[ca6,hg,ca3];simp[cv3,Op.equal,cD5,heq]
   .cases en
  have data:∀{u:CT}{xs:List u.D},uF A w u (a.eval x) xs->(∃ b c,a.eval x = .slice b (be xs) c)/\(∀ c,a.eval x = .slice bZ9 (be xs) c->be xs=0):=by
   rintro u xs ⟨_,⟨⟨q,e1⟩,rfl⟩|⟨b,off,cap,e1,_⟩⟩
   .exact⟨⟨q,0,e1⟩,λ_ _=>rfl⟩
   .exact⟨⟨_,_,e1⟩,λc e2=>by rw[e1] at e2;cases e2⟩
  unfold VT at e;split at e
  next E u xs hu hx=>rw[hx] at dx;simp only[aA] at dx;exact key _ _ _ E hu (data dx).1 (data dx).2 e
  next E u xs hu hx=>rw[hx] at dx;simp only[aA] at dx;exact key _ _ _ E hu (data dx.1).1 (data dx.1).2 e
  next E hu hx=>rw[hx] at dx;simp only[aA] at dx;exact key _ _ 0 E hu ⟨bZ9,0,dx⟩ (λ_ _=>rfl) e
  .rename_i E n sz hu hx;rw[hx] at dx;simp only[aA] at dx;simp only[Q.run] at e;split at e
   .rename_i p q hk;simp only[cE,cy] at e;obtain⟨rfl,rfl⟩:=e;have own:∀{b:kG}{u:CT}{xs:List u.D}{E':bZ8},h n = .live b->(b = .row E' u xs∨b = .frz E' u xs)->(∃ b c,a.eval x = .slice b (be xs) c)/\(∀ c,a.eval x = .slice bZ9 (be xs) c->be xs=0):=by
     intro b u xs E' hl hb;rcases dx with⟨hnil,pa,ev⟩|⟨k,len,E2,c,hk2,hsh,ev⟩
     .have hx0:xs=[]:=by
       have:=m.nm n;rw[hl] at this;rcases this with⟨k',l',he',_⟩|⟨_,E3,t3,hb3⟩
       .rw[hnil] at he';cases he'
       .rcases hb with rfl|rfl <;> rcases hb3 with hb3|hb3 <;> cases hb3 <;> rfl
      subst hx0;exact⟨⟨pa,0,ev⟩,λ_ _=>rfl⟩
     .have hlen:be xs=len.2:=by
       have:=(m.live_blk hl hk2).1;rcases hb with rfl|rfl
       .obtain⟨_,_,_,_,h3,_⟩:=this;exact h3
       .obtain⟨_,_,_,_,_,h3,_⟩:=this;exact h3
      exact⟨⟨_,_,by rw[hlen];exact ev⟩,λc' e2=>by rw[ev] at e2;cases e2⟩
    split at hk
    next hl=>have:=own hl (.inl rfl);exact key _ _ _ E hu this.1 this.2 hk
    next hl=>have:=own hl (.inr rfl);exact key _ _ _ E hu this.1 this.2 hk
    .cases hk
   .cases e
  .cases e
 .cases e
theorem bX0(m:Mod w0 N0 A env h w)(f:FD A env w ρ a){i:UnOp}{t:bZ8}{x:cb3}(g:o.op = .unOp i t x)
  (e:(PU i (bc ρ x)).run h=bZ1 (d,r)) (hp:bQ d.pre):bH P o a w0 N0 A env h w d:=by
 have c:=dC f x
 unfold PU cY at e
 split at e
 next b hx=>rw[hx] at c;simp only[aA] at c;cases cA e;exact bH.pure m (v := .bool (!b)) (by unfold cb0;rw[g];simp[c,cA8]) (by simp only[aA])
 next k n hx=>rw[hx] at c;cases cA e;exact bH.pure m (v := .int k (k.wrap (0-n))) (by unfold cb0;rw[g];simp[c.1,cA8,cD4]) (by simp only[aA];exact⟨aP,IntKind.wrap_has _ _⟩)
 next k n hx=>rw[hx] at c;cases cA e;exact bH.pure m (v := .int k (F2 k n)) (by unfold cb0;rw[g];simp only[c.1,cA8,intBits_xor,F2];rfl) (by simp only[aA];exact⟨aP,MB _ _ _ _⟩)
 .cases e
theorem bt5(m:Mod w0 N0 A env h w)(f:FD A env w ρ a){s t:bZ8}{x:cb3}(ho:o.op = .convert s t x)
  (e:(PM P s t (bc ρ x)).run h=bZ1 (d,r)) (hp:bQ d.pre):bH P o a w0 N0 A env h w d:=by
 have b:=dC f x
 unfold PM cY at e
 split at e
 next k n dd c hx hs ht=>rw[hx] at b;cases cA e;refine bH.pure m (v := .int c (c.wrap n)) ?_ (by simp only[aA];exact⟨aP,IntKind.wrap_has _ _⟩);unfold cb0;rw[ho];simp only[b.1,convert,ca6,run_underlying hs,run_underlying ht,ca3,Conv.intToInt,cb1]
 .cases e
end
end Go.SX
namespace Go.SX
def cF:(t:CT)->t.D->List SV
 | .int k,n=>[.int k n]
 | .bool,b=>[.bool b]
 | .str,s=>[.str s]
 | .sl t,xs=>[.dsl t xs]
 | .pair a b,d=>cF a d.1++cF b d.2
theorem yY:∀(t:CT)(d:t.D),be (cF t d)=t.size
 | .int k,n=>rfl
 | .bool,b=>rfl
 | .str,s=>rfl
 | .sl t,xs=>rfl
 | .pair a b,d=>by simp[cF,CT.size,yY a d.1,yY b d.2]
theorem aL7{a b:List SV}:xA (a++b)=(xA a&&xA b):=by
 induction a with
 | nil=>rfl
 | cons x a ih=>simp[xA,ih,Bool.and_assoc]
theorem Lj:∀(t:CT)(d:t.D),xA (cF t d)=bZ3
 | .int k,n=>rfl
 | .bool,b=>rfl
 | .str,s=>rfl
 | .sl t,xs=>rfl
 | .pair a b,d=>by simp[cF,aL7,Lj a d.1,Lj b d.2]
theorem yX{A:Nat->Prop}{env:bi}{w:ca8}:∀(t:CT)(d:t.D)(cv:Nat->Option ca2)(o:Nat),Rd A w t cv o d →
  ∃ vs:List ca2,be vs=t.size/\(∀ j,j<t.size->cv (o+j)=vs[j]?)/\aM A env w (cF t d) vs
 | .int k,n,cv,o,h=>⟨[.int k n],rfl,λj hj=>by
   simp only[CT.size] at hj;have:j=0:=ab;subst this;simpa using h.1,by simp only[cF,aM,aA];exact⟨_,[],rfl,⟨rfl,h.2⟩,rfl⟩⟩
 | .bool,b,cv,o,h=>⟨[.bool b],rfl,λj hj=>by
   simp only[CT.size] at hj;have:j=0:=ab;subst this;simp only[Rd] at h;simpa using h,by simp only[cF,aM,aA];exact⟨_,[],rfl,rfl,rfl⟩⟩
 | .str,s,cv,o,h=>⟨[.string s],rfl,λj hj=>by
   simp only[CT.size] at hj;have:j=0:=ab;subst this;simpa using h.1,by simp only[cF,aM,aA];exact⟨_,[],rfl,⟨rfl,h.2⟩,rfl⟩⟩
 | .sl t,xs,cv,o,h=>by
   have ⟨v,hv,hs⟩:=wn.1 h;exact⟨[v],rfl,λj hj=>by
    simp only[CT.size] at hj;have:j=0:=ab;subst this;simpa using hv,by simp only[cF,aM,aA];exact⟨_,[],rfl,hs,rfl⟩⟩
 | .pair a b,d,cv,o,h=>by
   have ⟨us,l1,c1,d1⟩:=yX (env:=env) a d.1 cv o h.1;have ⟨vs,l2,c2,d2⟩:=yX (env:=env) b d.2 cv (o+a.size) h.2;refine⟨us++vs,by simp[CT.size,l1,l2],λj hj=>?_,tF d1 d2⟩;by_cases hlt:j<a.size
   .rw[c1 j hlt,mC ab]
   .simp only[CT.size] at hj;have:=c2 (j-a.size) ab;rw[show o+a.size+(j-a.size)=o+j from by omega] at this;rw[this,nX ab,l1]
def iq(t t':CT)(xs:List t.D):Option (List t'.D):=if h:t=t' then bZ1 (h▸xs) else bZ9
theorem kC{t t':CT}{xs:List t.D}{ys:List t'.D}(h:iq t t' xs=bZ1 ys):∃ e:t=t',ys=e▸xs:=by
 unfold iq at h
 split at h
 next e=>cases h;exact⟨e,rfl⟩
 .cases h
def kS:(t:CT)->List SV->Q (t.D×List SV×List (Nat×Nm))
 | .int k,.int k' n::r=>match jW k k' with
  | true => .ret (n,r,[])
  | false => .fail
 | .bool,.bool b::r => .ret (b,r,[])
 | .str,.str s::r => .ret (s,r,[])
 | .sl t,.dsl t' xs::r=>match iq t' t xs with
  | some ys => .ret (ys,r,[])
  | none => .fail
 | .sl t,.dsx t' xs::r=>match iq t' t xs with
  | some ys => .ret (ys,r,[])
  | none => .fail
 | .sl t,.nilsl::r => .ret ([],r,[])
 | .sl t,.own n sz::r => .ask n fun
  | .live (.row E t' xs)=>match ca0 sz t'.size,iq t' t xs with
   | true,bZ1 ys => .ret (ys,r,[(n,.live (.frz E t' xs))])
   | _,_ => .fail
  | .live (.frz E t' xs)=>match ca0 sz t'.size,iq t' t xs with
   | true,bZ1 ys => .ret (ys,r,[])
   | _,_ => .fail
  | _ => .fail
 | .pair a b,cs=>(kS a cs).bind λp=>(kS b p.2.1).bind λq=>.ret ((p.1,q.1),q.2.1,p.2.2++q.2.2)
 | _,_ => .fail
def iG(env:bi)(fz:List (Nat×Nm))(k:Nat):Prop:=∃ n b l,(n,b)∈fz/\env n = .blk k l
def pJ(h:bZ)(fz:List (Nat×Nm)):Prop:=∀ n b,(n,b)∈fz→∃ E t xs,h n = .live (.row E t xs)/\b = .live (.frz E t xs)
section
variable {w0:ca8} {N0:fI} {A A':Nat->Prop} {env:bi} {h:bZ} {w:ca8}
theorem HB(hA:∀ b,A b->A' b){k:Nat}{len:Nat×Nat}{E:bZ8}{t:CT}{xs:List t.D}(hr:rJ A w k len E t xs)(hk:A' k){c:Nat}{E':bZ8}
  (hs:w.shape? k=bZ1 (E',c)):uF A' w t (.slice (bZ1 ⟨k,len.1,bZ9⟩) len.2 ((c-len.1)/t.size)) xs:=by
 have ⟨vs,cap,hh,h1,h2,h3,h4,h5⟩:=hr
 have hc:c=vs.size:=by
  rw[hh.shape] at hs;simp only[cE,cy] at hs;exact hs.2.symm
 have hcap:(c-len.1)/t.size=cap:=by rw[hc,h1,nI];exact tx _ t.size_pos
 rw[hcap,← h2]
 refine⟨ab,.inr ⟨k,len.1,cap,rfl,ab,h4,hk,λi hi=>?_⟩⟩
 refine iQ hA (λ_ _ _=>rfl) t _ _ _ _ (λj _=>?_) (h5 i hi)
 rw[hh.cell]
theorem Vn{t:CT}{cv:Nat->Option ca2}{o:Nat}{d:t.D}(hr:Rd A w t cv o d)(n:Nat):Rd A w t (λj=>cv (j-n)) (o+n) d:=by
 have key:∀(t:CT)(cv:Nat->Option ca2)(o:Nat)(d:t.D),Rd A w t cv o d->Rd A w t (λj=>cv (j-n)) (o+n) d:=by
  intro t
  induction t with
  | pair a b iha ihb =>
   intro cv o d hh;refine⟨iha _ _ _ hh.1,?_⟩;have:=ihb _ _ _ hh.2
   rwa [show o+a.size+n=o+n+a.size from by omega] at this
  | int k=>intro cv o d hh;simpa[Rd] using hh
  | bool=>intro cv o d hh;simpa[Rd] using hh
  | str=>intro cv o d hh;simpa[Rd] using hh
  | sl t ih=>intro cv o d hh;simpa[Rd] using hh
 exact key t cv o d hr
theorem B7{t:CT}{cv:Nat->Option ca2}{d:t.D}(hr:Rd A w t cv 0 d)(n:Nat):Rd A w t (λj=>cv (j-n)) (0+n) d:=Vn hr n
theorem wA(m:Mod w0 N0 A env h w):∀(t:CT)(cs:List SV)(vs:List ca2)(d:t.D)(rest:List SV)(fz:List (Nat×Nm))(r:List Nat),
  (kS t cs).run h=bZ1 ((d,rest,fz),r)->aM A env w cs vs->(∀ b,A b->A' b)->(∀ k,iG env fz k->A' k) →
  pJ h fz/\(∀ n b,(n,b)∈fz->n∈r)/\be vs=t.size+be rest/\Rd A' w t (λj=>vs[j]?) 0 d/\aM A env w rest (vs.drop t.size):=by
 intro t
 have hnil:∀{n:Nat}{b:Nm},(n,b)∈([]:List (Nat×Nm))->False:=λhh=>by simp at hh
 induction t with
 | int k =>
  intro cs vs d rest fz r e hd hA hF
  match cs with
  | .int k' n::cs => ?_
  | [] | .bool _::_ | .str _::_ | .dsl _ _::_ | .dsx _ _::_ | .nilsl::_ | .own _ _::_ | .ptr _ _::_ | .eptr _ _ _ _::_ | .dptr _ _ _::_ | .nilp::_ | .fn _ _::_ | .agg _::_ | .tup _::_ | .opt _ _::_ | .cv _::_ | .gl _::_ | .csl _ _::_ | .mapp _::_ | .arr _ _ _::_ | .junk::_=>cases e
  simp only[kS] at e;split at e
  next hk=>cases j6 hk;simp only[Q.run,cE,cy] at e;obtain⟨⟨rfl,rfl,rfl⟩,rfl⟩:=e;simp only[aM,aA] at hd;obtain⟨v,r,rfl,⟨rfl,hh⟩,hr⟩:=hd;have hl:=jb hr;exact⟨λ_ _ h=>(hnil h).elim,λ_ _ h=>(hnil h).elim,by simp[CT.size,hl];omega,⟨az,hh⟩,by simpa[CT.size] using hr⟩
  .cases e
 | bool =>
  intro cs vs d rest fz r e hd hA hF
  match cs with
  | .bool n::cs => ?_
  | [] | .int _ _::_ | .str _::_ | .dsl _ _::_ | .dsx _ _::_ | .nilsl::_ | .own _ _::_ | .ptr _ _::_ | .eptr _ _ _ _::_ | .dptr _ _ _::_ | .nilp::_ | .fn _ _::_ | .agg _::_ | .tup _::_ | .opt _ _::_ | .cv _::_ | .gl _::_ | .csl _ _::_ | .mapp _::_ | .arr _ _ _::_ | .junk::_=>cases e
  simp only[kS] at e;simp only[Q.run,cE,cy] at e;obtain⟨⟨rfl,rfl,rfl⟩,rfl⟩:=e;simp only[aM,aA] at hd;obtain⟨v,r,rfl,rfl,hr⟩:=hd;have hl:=jb hr;exact⟨λ_ _ h=>(hnil h).elim,λ_ _ h=>(hnil h).elim,by simp[CT.size,hl];omega,by simp[Rd],by simpa[CT.size] using hr⟩
 | str =>
  intro cs vs d rest fz r e hd hA hF
  match cs with
  | .str n::cs => ?_
  | [] | .int _ _::_ | .bool _::_ | .dsl _ _::_ | .dsx _ _::_ | .nilsl::_ | .own _ _::_ | .ptr _ _::_ | .eptr _ _ _ _::_ | .dptr _ _ _::_ | .nilp::_ | .fn _ _::_ | .agg _::_ | .tup _::_ | .opt _ _::_ | .cv _::_ | .gl _::_ | .csl _ _::_ | .mapp _::_ | .arr _ _ _::_ | .junk::_=>cases e
  simp only[kS] at e;simp only[Q.run,cE,cy] at e;obtain⟨⟨rfl,rfl,rfl⟩,rfl⟩:=e;simp only[aM,aA] at hd;obtain⟨v,r,rfl,⟨rfl,hh⟩,hr⟩:=hd;have hl:=jb hr;exact⟨λ_ _ h=>(hnil h).elim,λ_ _ h=>(hnil h).elim,by simp[CT.size,hl];omega,⟨az,hh⟩,by simpa[CT.size] using hr⟩
 | sl t ih =>
  intro cs vs d rest fz r e hd hA hF
  match cs with
  | .dsl t' xs::cs =>
   simp only[kS] at e;split at e
   next ys hc=>have ⟨et,ey⟩:=kC hc;subst et;simp only[Q.run,cE,cy] at e;obtain⟨⟨rfl,rfl,rfl⟩,rfl⟩:=e;simp only at ey;subst ey;simp only[aM,aA] at hd;obtain⟨v,r,rfl,hs,hr⟩:=hd;have hl:=jb hr;exact⟨λ_ _ h=>(hnil h).elim,λ_ _ h=>(hnil h).elim,by simp[CT.size,hl];omega,wn.2 ⟨v,az,HC hA (λ_ _ _=>rfl) hs⟩,by simpa[CT.size] using hr⟩
   .cases e
  | .dsx t' xs::cs =>
   simp only[kS] at e;split at e
   next ys hc=>have ⟨et,ey⟩:=kC hc;subst et;simp only[Q.run,cE,cy] at e;obtain⟨⟨rfl,rfl,rfl⟩,rfl⟩:=e;simp only at ey;subst ey;simp only[aM,aA] at hd;obtain⟨v,r,rfl,hs,hr⟩:=hd;have hl:=jb hr;exact⟨λ_ _ h=>(hnil h).elim,λ_ _ h=>(hnil h).elim,by simp[CT.size,hl];omega,wn.2 ⟨v,az,HC hA (λ_ _ _=>rfl) hs.1⟩,by simpa[CT.size] using hr⟩
   .cases e
  | .nilsl::cs =>
   simp only[kS] at e;simp only[Q.run,cE,cy] at e;obtain⟨⟨rfl,rfl,rfl⟩,rfl⟩:=e;simp only[aM,aA] at hd;obtain⟨v,r,rfl,rfl,hr⟩:=hd;have hl:=jb hr;exact⟨λ_ _ h=>(hnil h).elim,λ_ _ h=>(hnil h).elim,by simp[CT.size,hl];omega,wn.2 ⟨_,by simp;rfl,by simp,.inl ⟨⟨_,rfl⟩,rfl⟩⟩,by simpa[CT.size] using hr⟩
  | .own n sz::cs =>
   simp only[kS,Q.run] at e;simp only[aM,aA] at hd;obtain⟨v,r',rfl,hv,hr⟩:=hd;have hl:=jb hr;have hm:=m.nm n;split at e
   .rename_i p q hk;simp only[cE,cy] at e;obtain⟨rfl,rfl⟩:=e;split at hk
    .rename_i E t' xs hl';rw[hl'] at hm;split at hk
     .rename_i ys hsz hc;have ⟨et,ey⟩:=kC hc;subst et;simp only[Q.run,cE,cy] at hk;obtain⟨⟨rfl,rfl,rfl⟩,rfl⟩:=hk;simp only at ey;subst ey;have hsz:=bK hsz;subst hsz;refine⟨?_,?_,by simp[CT.size,hl];omega,?_,by simpa[CT.size] using hr⟩
      .intro n' b' hh;simp only[kY,cy] at hh;obtain⟨rfl,rfl⟩:=hh;exact⟨E,t',_,hl',rfl⟩
      .intro n' b' hh;simp only[kY,cy] at hh;simp[hh.1]
      .obtain⟨he,a,rfl⟩|⟨b,len,E',c,he,hs,rfl⟩:=hv
       .obtain⟨k,len,he',_⟩|⟨_,E2,t2,hb⟩:=hm
        .rw[he] at he';cases he'
        .have hx:ys=[]:=by
          obtain hb|hb:=hb <;> cases hb <;> rfl
         subst hx;exact wn.2 ⟨_,by simp;rfl,by simp,.inl ⟨⟨_,rfl⟩,rfl⟩⟩
       .obtain⟨k,len',he',hb,_⟩|⟨he',_⟩:=hm
        .rw[he] at he';cases he';exact wn.2 ⟨_,by simp,HB hA hb (hF b ⟨n,_,len,by simp;rfl,he⟩) hs⟩
        .rw[he] at he';cases he'
     .cases hk
    .rename_i E t' xs hl';rw[hl'] at hm;split at hk
     .rename_i ys hsz hc;have ⟨et,ey⟩:=kC hc;subst et;simp only[Q.run,cE,cy] at hk;obtain⟨⟨rfl,rfl,rfl⟩,rfl⟩:=hk;simp only at ey;subst ey;have hsz:=bK hsz;subst hsz;refine⟨λ_ _ h=>(hnil h).elim,λ_ _ h=>(hnil h).elim,by simp[CT.size,hl];omega,?_,by simpa[CT.size] using hr⟩
      .obtain⟨he,a,rfl⟩|⟨b,len,E',c,he,hs,rfl⟩:=hv
       .obtain⟨k,len,he',_⟩|⟨_,E2,t2,hb⟩:=hm
        .rw[he] at he';cases he'
        .have hx:ys=[]:=by
          obtain hb|hb:=hb <;> cases hb <;> rfl
         subst hx;exact wn.2 ⟨_,by simp;rfl,by simp,.inl ⟨⟨_,rfl⟩,rfl⟩⟩
       .obtain⟨k,len',he',hb,_⟩|⟨he',_⟩:=hm
        .rw[he] at he';cases he';exact wn.2 ⟨_,az,HB hA hb.2 (hA _ hb.1) hs⟩
        .rw[he] at he';cases he'
     .cases hk
    .cases hk
   .cases e
  | [] | .int _ _::_ | .bool _::_ | .str _::_ | .ptr _ _::_ | .eptr _ _ _ _::_ | .dptr _ _ _::_ | .nilp::_ | .fn _ _::_ | .agg _::_ | .tup _::_ | .opt _ _::_ | .cv _::_ | .gl _::_ | .csl _ _::_ | .mapp _::_ | .arr _ _ _::_ | .junk::_=>cases e
 | pair a b iha ihb =>
  intro cs vs d rest fz r e hd hA hF;simp only[kS] at e;obtain⟨⟨d1,r1,f1⟩,q1,q2,e1,e2,rfl⟩:=Q.run_bind _ _ _ e;obtain⟨⟨d2,r2,f2⟩,q3,q4,e3,e4,rfl⟩:=Q.run_bind _ _ _ e2;simp only[Q.run,cE,cy] at e4;obtain⟨⟨rfl,rfl,rfl⟩,rfl⟩:=e4;have hF1:∀ k,iG env f1 k->A' k:=λk ⟨n,x,l,hx,he⟩=>hF k ⟨n,x,l,ip _ hx,he⟩;have hF2:∀ k,iG env f2 k->A' k:=λk ⟨n,x,l,hx,he⟩=>hF k ⟨n,x,l,jv _ hx,he⟩;have ⟨o1,n1,l1,rd1,dr1⟩:=iha cs vs d1 r1 f1 q1 e1 hd hA hF1;have ⟨o2,n2,l2,rd2,dr2⟩:=ihb r1 _ d2 r2 f2 q3 e3 dr1 hA hF2;refine⟨?_,?_,?_,⟨rd1,?_⟩,?_⟩
  .intro n x hx;obtain hx|hx:=dI.1 hx
   .exact o1 n x hx
   .exact o2 n x hx
  .intro n x hx;obtain hx|hx:=dI.1 hx
   .exact ip _ (n1 n x hx)
   .exact jv _ (ip _ (n2 n x hx))
  .simp only[CT.size];simp at l2;omega
  .refine iQ (λ_ h=>h) (λ_ _ _=>rfl) b _ _ _ _ (λj _=>?_) (B7 rd2 a.size);simp[yO]
  .simp only[CT.size];rw[← cj8];exact dr2
end
end Go.SX
namespace Go.SX
def Ay:Option SV->Q Dl
 | some v=>cY v
 | none => .fail
def Ih(P:ca7)(s:bZ8)(f:Nat):Option cA7:=match P.underlying s with
 | some (.struct fs)=>fs[f]?
 | _=>bZ9
def Qj(P:ca7)(s:bZ8)(f:Nat)(x:SV):Q Dl:=match x,Ih P s f with
 | .agg cs,bZ1 fd=>Ay (mU P fd.type cs fd.offset)
 | _,_ => .fail
def PJ(i:Nat)(x:SV):Q Dl:=match x with
 | .tup cs=>Ay (pj cs i)
 | _ => .fail
def Ov(x:SV):Q Dl:=match x with
 | .ptr n o=>cY (.ptr n o)
 | .eptr n s i o=>cY (.eptr n s i o)
 | .dptr t d o=>cY (.dptr t d o)
 | .fn f c=>cY (.fn f c)
 | _ => .fail
def OX(P:ca7)(s:bZ8)(f:Nat)(x:SV):Q Dl:=match Ih P s f with
 | some fd=>match f9 P fd.type with
  | some (_+1)=>match x with
   | .ptr n o=>cY (.ptr n (o+fd.offset))
   | .eptr n sz i o=>cY (.eptr n sz i (o+fd.offset))
   | .dptr t d o=>cY (.dptr t d (o+fd.offset))
   | _ => .fail
  | _ => .fail
 | none => .fail
def xY(P:ca7)(ty:bZ8)(x:SV):Q Dl:=match x with
 | .ptr n off => .ask n fun
  | .live (.cells _ cs)=>Ay (mU P ty cs off)
  | _ => .fail
 | .eptr n sz i off => .ask n fun
  | .live (.row _ t xs)=>match ca0 sz t.size with
   | true=>Ay (mU P ty (cF t (nB t xs i)) off)
   | false => .fail
  | .live (.frz _ t xs)=>match ca0 sz t.size with
   | true=>Ay (mU P ty (cF t (nB t xs i)) off)
   | false => .fail
  | _ => .fail
 | .dptr t d off=>Ay (mU P ty (cF t d) off)
 | _ => .fail
def wg(P:ca7)(t:bZ8):Option (bZ8×Nat):=match P.underlying t with
 | some (.slice e)=>match f9 P e with
  | some n=>bZ1 (e,n)
  | none=>bZ9
 | _=>bZ9
def Pv(P:ca7)(t:bZ8)(x i:SV):Q Dl:=match i,wg P t with
 | .int _ i,bZ1 (_,n)=>match x with
  | .dsl u xs=>match ca0 n u.size with
   | true => .ret (.det [0<=i,i<be xs] (.dptr u (nB u xs (it i)) 0) [])
   | false => .fail
  | .own m sz => .ask m fun
   | .live (.row _ u xs)=>match ca0 n u.size,ca0 sz u.size with
    | true,bZ3 => .ret (.det [0<=i,i<be xs] (.eptr m sz (it i) 0) [])
    | _,_ => .fail
   | .live (.frz _ u xs)=>match ca0 n u.size,ca0 sz u.size with
    | true,bZ3 => .ret (.det [0<=i,i<be xs] (.eptr m sz (it i) 0) [])
    | _,_ => .fail
   | _ => .fail
  | .csl m k=>match ca0 n 1,bZ2 (0<=i)&&bZ2 (i<k) with
   | true,bZ3=>cY (.ptr m (it i))
   | _,_ => .fail
  | _ => .fail
 | _,_ => .fail
def rM(P:ca7)(t:bZ8)(x:SV):Q Dl:=match P.underlying t with
 | some (.slice _)=>match x with
  | .dsl _ xs=>cY (.int .i64 (be xs))
  | .dsx _ xs=>cY (.int .i64 (be xs))
  | .nilsl=>cY (.int .i64 0)
  | .own n _ => .ask n fun
   | .live (.row _ _ xs)=>cY (.int .i64 (be xs))
   | .live (.frz _ _ xs)=>cY (.int .i64 (be xs))
   | _ => .fail
  | .csl _ k=>match cd9 k cb2 with
   | true=>cY (.int .i64 k)
   | false => .fail
  | _ => .fail
 | _ => .fail
def QI(x y:SV):Q Dl:=match x,y with
 | .int k a,.int k' b=>match jW k k' with
  | true=>cY (.int k (min a b))
  | false => .fail
 | _,_ => .fail
def OW(x y:SV):Q Dl:=match x,y with
 | .int k a,.int k' b=>match jW k k' with
  | true=>cY (.int k (max a b))
  | false => .fail
 | _,_ => .fail
section
variable {P:ca7} {w0:ca8} {N0:fI} {A:Nat->Prop} {env:bi} {h:bZ} {w:ca8} {o:Oper} {a:Act} {ρ:Nat->SV} {d:Dl} {r:List Nat}
theorem Be{t:bZ8}{cs:List SV}{off:Nat}{s:SV}{b:List ca2}{k o:Nat}(e:mU P t cs off=bZ1 s)(g:aM A env w cs b)
  (hc:∀ j,j<be b->w.cell? ⟨k,o+j,bZ9⟩=b[j]?) :
  ∃ v,(cv5 t ⟨k,o+off,bZ9⟩).run P w = .ok v w/\aA A env w s v:=by
 unfold mU at e
 split at e
 next h=>
  split at e
  .rename_i n hn;split at e
   .rename_i c;cases e;have c:=md c;have hl:=jb g;have d:∃ f,P.underlying t=bZ1 f/\f.isRow=true:=by
     unfold sG at h;grind
    have ⟨f,hu,i⟩:=d;have hi:(P.info? t).map (·.size)=bZ1 (be ((b.drop off).take n)):=by
     unfold f9 at hn;grind
    refine⟨.agg ((b.drop off).take n).toArray,run_loadVar_mid w k (o+off) t _ f ?_ hu i hi,?_⟩
    .intro j v hj;grind
    .simp only[aA];exact⟨_,rfl,by simpa using A7 n (B8 off g)⟩
   .cases e
  .cases e
 next h=>rw[xu] at e;have ⟨v,hv,l⟩:=GJ _ _ g e;refine⟨v,?_,l⟩;have m:=(List.getElem?_eq_some_iff.1 hv).1;have a:=hc off m;rw[hv] at a;simp[cv5,ca6,Es h w,a]
 .cases e
theorem Br{x:Option SV}(e:(Ay x).run h=bZ1 (d,r)):∃ s,x=bZ1 s/\d = .det [] s []:=by
 cases x with
 | none=>cases e
 | some s=>exact⟨s,rfl,(cA e).symm⟩
theorem Tg{s:bZ8}{f:Nat}{a:cA7}(e:Ih P s f=bZ1 a):∃ b,P.underlying s=bZ1 (.struct b)/\b[f]? = bZ1 a:=by
 unfold Ih at e
 grind
theorem Zw(m:Mod w0 N0 A env h w)(f:FD A env w ρ a){s:bZ8}{x:cb3}{i:Nat}(ho:o.op = .field s x i)
  (e:(Qj P s i (bc ρ x)).run h=bZ1 (d,r)):bH P o a w0 N0 A env h w d:=by
 have c:=dC f x
 unfold Qj at e
 split at e
 next cs fd hx hf=>obtain⟨sv,e1,rfl⟩:=Br e;have ⟨fs,hu,b⟩:=Tg hf;rw[hx] at c;have ⟨vs,ev,dv⟩:=c;have ⟨v,hr,hd⟩:=J3 e1 dv;refine bH.pure m ?_ hd;unfold cb0;rw[ho];simp[Instr.field,run_underlying hu,b,ev,asAgg,hr]
 .cases e
theorem ar2(m:Mod w0 N0 A env h w)(f:FD A env w ρ a){x:cb3}{i:Nat}(ho:o.op = .extract x i)
  (e:(PJ i (bc ρ x)).run h=bZ1 (d,r)):bH P o a w0 N0 A env h w d:=by
 have c:=dC f x
 unfold PJ at e
 split at e
 next cs hx=>
  obtain⟨sv,g,rfl⟩:=Br e;rw[hx] at c;have ⟨vs,ev,dv⟩:=c;rw[xu] at g;have ⟨v,hv,hd⟩:=GJ _ _ dv g;have b:vs[i]? = bZ1 v:=by rw[← mO];exact hv
  refine bH.pure m ?_ hd;unfold cb0;rw[ho];simp[Instr.extract,ev,b]
 .cases e
theorem ac7(m:Mod w0 N0 A env h w)(f:FD A env w ρ a){x:cb3}(k:o.op = .nilCheck x)
  (e:(Ov (bc ρ x)).run h=bZ1 (d,r)):bH P o a w0 N0 A env h w d:=by
 have j:=dC f x
 unfold Ov cY at e
 split at e
 next n o' hx=>cases cA e;rw[hx] at j;have g:=j;have ⟨b,l,p,ev⟩:=j;exact bH.pure m (by unfold cb0;rw[k];simp[ev]) g
 next n s i o' hx=>cases cA e;rw[hx] at j;have g:=j;have ⟨b,l,p,hl,ev⟩:=j;exact bH.pure m (by unfold cb0;rw[k];simp[ev]) g
 next t d' o' hx=>cases cA e;rw[hx] at j;have g:=j;have ⟨b,l,ev,p⟩:=j;exact bH.pure m (by unfold cb0;rw[k];simp[ev]) g
 next ff c hx=>cases cA e;rw[hx] at j;have g:=j;have ⟨vs,ev,p⟩:=j;exact bH.pure m (by unfold cb0;rw[k];simp[ev]) g
 .cases e
theorem aH5(m:Mod w0 N0 A env h w)(f:FD A env w ρ a){s:bZ8}{x:cb3}{i:Nat}(ho:o.op = .fieldAddr s x i)
  (e:(OX P s i (bc ρ x)).run h=bZ1 (d,r)):bH P o a w0 N0 A env h w d:=by
 have c:=dC f x
 unfold OX at e
 split at e
 next fd hf=>
  have ⟨fs,hu,g⟩:=Tg hf;split at e
  .rename_i z j;have k:∀(b off:Nat),a.eval x = .pointer (bZ1 ⟨b,off,bZ9⟩)->(cb0 a.eval o).run P w = .ok (.value (.pointer (bZ1 ⟨b,off+fd.offset,bZ9⟩))) w:=by
    intro b off ev;unfold cb0;rw[ho];simp[Instr.fieldAt,run_underlying hu,g,ev,ce0,fieldPlace,kT j,cd4]
   split at e
   next n o' hx=>cases cA e;rw[hx] at c;have ⟨b,l,p,ev⟩:=c;exact bH.pure m (k b o' ev) (by simp only[aA];exact⟨b,l,p,rfl⟩)
   next n s' i' o' hx=>cases cA e;rw[hx] at c;have ⟨b,l,p,hl,ev⟩:=c;exact bH.pure m (k b _ ev) (by simp only[aA];exact⟨b,l,p,hl,by rw[gG,gG]⟩)
   next t d' o' hx=>cases cA e;rw[hx] at c;have ⟨b,l,ev,hA,hr⟩:=c;exact bH.pure m (k b _ ev) (by simp only[aA];exact⟨b,l,by rw[gG],hA,hr⟩)
   .cases e
  .cases e
 .cases e
theorem NZ{t:CT}{xs:List t.D}{i:Nat}(hi:i<be xs):nB t xs i=xs[i]:=by
 simp[nB,cq,hi]
theorem D2{k:Nat}{len:Nat×Nat}{E:bZ8}{t:CT}{xs:List t.D}(hr:rJ A w k len E t xs){i:Nat}(hi:i<len.2) :
  Rd A w t (λo=>w.cell? ⟨k,o,bZ9⟩) (len.1+i*t.size) (nB t xs i):=by
 have ⟨vs,cap,hh,h1,h2,h3,h4,h5⟩:=hr
 rw[NZ (by omega:i<be xs)]
 refine iQ (λ_ h=>h) (λ_ _ _=>rfl) t _ _ _ _ (λj _=>?_) (h5 i ab)
 rw[hh.cell]
theorem O5{t:CT}{a:t.D}{k b off:Nat}{ty:bZ8}{s:SV}(hr:Rd A w t (λo=>w.cell? ⟨k,o,bZ9⟩) b a)(e:mU P ty (cF t a) off=bZ1 s) :
  ∃ v,(cv5 ty ⟨k,b+off,bZ9⟩).run P w = .ok v w/\aA A env w s v:=by
 obtain⟨us,hl,hc,hd⟩:=yX t a _ b hr
 exact Be e hd (λj hj=>hc j ab)
theorem Ej(m:Mod w0 N0 A env h w){ty:bZ8}{x:cb3}(φ:cb3->SV)(k:aA A env w (φ x) (a.eval x))(ho:o.op = .load ty x)
  (e:(xY P ty (φ x)).run h=bZ1 (d,r)):bH P o a w0 N0 A env h w d:=by
 have y:∀{b off:Nat}{v:ca2},a.eval x = .pointer (bZ1 ⟨b,off,bZ9⟩)->(cv5 ty ⟨b,off,bZ9⟩).run P w = .ok v w->(cb0 a.eval o).run P w = .ok (.value v) w:=by
  intro b off v ev f;unfold cb0;rw[ho];simp only[ev,Instr.loadAt,ce0,ca6,cb1,ca3,f]
 unfold xY at e
 split at e
 next n off hx=>
  rw[hx] at k;have ⟨b,l,z,ev⟩:=k;simp only[Q.run] at e;split at e
  .rename_i p q hk;obtain⟨rfl,rfl⟩:=e;split at hk
   next E cs hl=>obtain⟨s,g,rfl⟩:=Br hk;have ⟨⟨vs,hh,hd⟩,_⟩:=m.live_blk hl z;obtain⟨v,f,hv⟩:=Be (o:=0) g hd (λj hj=>by rw[cell_of_row w b _ vs E (0,0) hh];simp);rw[gJ] at f;exact bH.pure m (y ev f) hv
   .cases hk
  .cases e
 next n sz i off hx=>
  rw[hx] at k;have ⟨b,l,z,u,ev⟩:=k;simp only[Q.run] at e;split at e
  .rename_i p q hk;obtain⟨rfl,rfl⟩:=e;split at hk
   .rename_i E t xs hl;split at hk
    next c=>have c:=bK c;subst c;obtain⟨s,g,rfl⟩:=Br hk;obtain⟨v,f,hv⟩:=O5 (D2 (m.live_blk hl z).1 u) g;rw[gG] at f;exact bH.pure m (y ev f) hv
    .cases hk
   .rename_i E t xs hl;split at hk
    next c=>have c:=bK c;subst c;obtain⟨s,g,rfl⟩:=Br hk;obtain⟨v,f,hv⟩:=O5 (D2 (m.live_blk hl z).1.2 u) g;rw[gG] at f;exact bH.pure m (y ev f) hv
    .cases hk
   .cases hk
  .cases e
 next t d' off hx=>rw[hx] at k;have ⟨b,l,ev,hA,f⟩:=k;obtain⟨s,g,rfl⟩:=Br e;obtain⟨v,f,hv⟩:=O5 f g;exact bH.pure m (y ev f) hv
 .cases e
theorem Ag{t e:bZ8}{n:Nat}(hh:wg P t=bZ1 (e,n)):P.underlying t=bZ1 (.slice e)/\f9 P e=bZ1 n:=by
 unfold wg at hh
 grind
theorem bN1(m:Mod w0 N0 A env h w)(f:FD A env w ρ a){t:bZ8}{x i:cb3}(ho:o.op = .indexAddr t x i)
  (e:(Pv P t (bc ρ x) (bc ρ i)).run h=bZ1 (d,r)) (y:bQ d.pre):bH P o a w0 N0 A env h w d:=by
 have dx:=dC f x
 have di:=dC f i
 unfold Pv at e
 split at e
 next k j E n hi he=>
  have ⟨hu,hn⟩:=Ag he;rw[hi] at di;simp only[aA] at di;have go:∀{b off len cap:Nat},a.eval x = .slice (bZ1 ⟨b,off,bZ9⟩) len cap->0<=j->j<len →
    (cb0 a.eval o).run P w = .ok (.value (.pointer (bZ1 ⟨b,off+it j*n,bZ9⟩))) w:=by
   intro b off len cap ev h0 s;unfold cb0;rw[ho];simp[Instr.indexAt,ev,di.1,asIntOf,run_underlying hu,kT hn,h0,s,cd4]
  split at e
  .rename_i u xs hx;rw[hx] at dx;split at e
   .rename_i v;have v:=bK v;cases cA e;simp only[Dl.pre,bQ,g7] at y;obtain⟨hlen,⟨_,rfl⟩|⟨b,off,cap,ev,s,h2,h3,h4⟩⟩:=dx
    .simp at y;try omega
    .refine bH.pure m (go ev y.1 y.2) ?_;have hlt:it j<be xs:=ab;exact⟨b,off+it j*n,rfl,h3,by rw[NZ hlt,v];exact h4 _ hlt⟩
   .cases e
  .rename_i mm sz hx;rw[hx] at dx;simp only[Q.run] at e;split at e
   .rename_i p q hk;obtain⟨rfl,rfl⟩:=e;have fin:∀{E':bZ8}{u:CT}{xs:List u.D},(h mm = .live (.row E' u xs)∨h mm = .live (.frz E' u xs))->n=u.size->sz=u.size->0<=j->j<be xs →
      bH P o a w0 N0 A env h w (.det [0<=j,j<be xs] (.eptr mm sz (it j) 0) []):=by
     intro E' u xs g hn' hsz' h0 s;obtain⟨hnil,_⟩|⟨b,len,E2,c,hb,_,ev⟩:=dx
     .exfalso;have:=m.nm mm;obtain g|g:=g <;> rw[g] at this <;> obtain⟨k',l',he',_⟩|⟨_,E3,t3,hb⟩:=this
      .simp_all
      .grind
      .simp_all
      .grind
     .have hlen:be xs=len.2:=by
       obtain g|g:=g
       .have ⟨vs,cap,_,_,h2,_⟩:=(m.live_blk g hb).1;exact h2
       .have ⟨_,vs,cap,_,_,h2,_⟩:=(m.live_blk g hb).1;exact h2
      refine bH.pure m (go ev h0 ab) ?_;simp only[aA];grind
    split at hk
    .rename_i E' u xs g;split at hk
     next s h2=>cases cA hk;simp only[Dl.pre,bQ,g7] at y;simp_all
     .cases hk
    .rename_i E' u xs g;split at hk
     next s h2=>cases cA hk;simp only[Dl.pre,bQ,g7] at y;simp_all
     .cases hk
    .cases hk
   .cases e
  .rename_i mm kk hx;rw[hx] at dx;have ⟨b,l,he',ev⟩:=dx;split at e
   next s h2=>have s:=bK s;simp only[fx,rF] at h2;cases cA e;exact bH.pure m (go ev h2.1 h2.2) (by simp only[aA];exact⟨b,l,he',by rw[s,Nat.mul_one,gJ]⟩)
   .cases e
  .cases e
 .cases e
theorem BI{n:Nat}(h:n<=cb2):bZ4.has n:=by
 simp only[cb2] at h
 exact⟨by have:bZ4.min = -9223372036854775808:=aB
          omega,by rw[IntKind.max_i64];omega⟩
theorem bl6(m:Mod w0 N0 A env h w)(f:FD A env w ρ a){t:bZ8}{x:cb3}(ho:o.op = .call {callee := .builtin .len,args := #[x],argTypes := #[t]})
  (e:(rM P t (bc ρ x)).run h=bZ1 (d,r)):bH P o a w0 N0 A env h w d:=by
 have dx:=dC f x
 unfold rM at e
 split at e
 next E hu=>
  have go:∀{p:Option Addr}{len cap:Nat},a.eval x = .slice p len cap->(cb0 a.eval o).run P w = .ok (.value (.int .i64 len)) w:=by
   intro p len cap ev;unfold cb0;rw[ho];simp[resolve,invoke,builtin,Builtin.len_,run_underlying hu,ev,goInt]
  split at e
  .rename_i u xs hx;unfold cY at e;cases cA e;rw[hx] at dx;simp only[aA] at dx;obtain⟨hlen,⟨⟨p,ev⟩,rfl⟩|⟨b,off,cap,ev,_⟩⟩:=dx
   .exact bH.pure m (go ev) (by simp only[aA];exact⟨az,BI hlen⟩)
   .exact bH.pure m (go ev) (by simp only[aA];exact⟨aP,BI hlen⟩)
  next u xs hx=>unfold cY at e;cases cA e;rw[hx] at dx;simp only[aA] at dx;have ⟨hh,p,ev⟩:=dx;exact bH.pure m (go ev) (by simp only[aA];exact⟨aP,BI hh.1⟩)
  next hx=>unfold cY at e;cases cA e;rw[hx] at dx;simp only[aA] at dx;exact bH.pure m (go dx) (by simp only[aA];exact⟨az,BI (n:=0) az⟩)
  .rename_i mm sz hx;rw[hx] at dx;simp only[aA] at dx;simp only[Q.run] at e;split at e
   .rename_i p q hk;simp only[cE,cy] at e;obtain⟨rfl,rfl⟩:=e;have fin:∀{E':bZ8}{u:CT}{xs:List u.D},(h mm = .live (.row E' u xs)∨h mm = .live (.frz E' u xs)) →
      bH P o a w0 N0 A env h w (.det [] (.int .i64 (be xs)) []):=by
     intro E' u xs hl;obtain⟨hnil,p,ev⟩|⟨b,len,E2,c,hb,_,ev⟩:=dx
     .have hx:be xs=0:=by
       have:=m.nm mm;obtain hl|hl:=hl <;> rw[hl] at this <;> obtain⟨k',l',he',_⟩|⟨_,E3,t3,hb⟩:=this
       .rw[hnil] at he';cases he'
       .obtain hb|hb:=hb <;> cases hb;rfl
       .rw[hnil] at he';cases he'
       .obtain hb|hb:=hb <;> cases hb;rfl
      exact bH.pure m (go ev) (by simp only[aA];rw[hx];exact⟨az,BI (n:=0) az⟩)
     .have hlen:be xs=len.2/\len.2<=cb2:=by
       obtain hl|hl:=hl
       .have ⟨vs,cap,_,_,h2,h3,h4,_⟩:=(m.live_blk hl hb).1;exact⟨h2,ab⟩
       .have ⟨_,vs,cap,_,_,h2,h3,h4,_⟩:=(m.live_blk hl hb).1;exact⟨h2,ab⟩
      exact bH.pure m (go ev) (by simp only[aA];rw[hlen.1];exact⟨rfl,BI hlen.2⟩)
    split at hk
    next E' u xs hl=>unfold cY at hk;cases cA hk;exact fin (.inl hl)
    next E' u xs hl=>unfold cY at hk;cases cA hk;exact fin (.inr hl)
    .cases hk
   .cases e
  .rename_i mm kk hx;rw[hx] at dx;simp only[aA] at dx;have ⟨b,l,he',ev⟩:=dx;split at e
   next h1=>unfold cY at e;cases cA e;exact bH.pure m (go ev) (by simp only[aA];exact⟨aP,BI (md h1)⟩)
   .cases e
  .cases e
 .cases e
theorem ao6(m:Mod w0 N0 A env h w)(f:FD A env w ρ a){ts:Array bZ8}{x y:cb3}(ho:o.op = .call {callee := .builtin .min,args := #[x,y],argTypes:=ts})
  (e:(QI (bc ρ x) (bc ρ y)).run h=bZ1 (d,r)):bH P o a w0 N0 A env h w d:=by
 have dx:=dC f x
 have dy:=dC f y
 unfold QI at e
 split at e
 next k u k' v hx hy=>
  split at e
  .rename_i hk;cases j6 hk;unfold cY at e;cases cA e;rw[hx] at dx;rw[hy] at dy;simp only[aA] at dx dy;refine bH.pure m (v := .int k (min u v)) ?_ (by simp only[aA];refine⟨aP,?_⟩;obtain hh|hh:=cr7 u v;rw[Int.min_eq_left hh];exact dx.2;rw[Int.min_eq_right hh];exact dy.2);unfold cb0;rw[ho];have hm:(if v<u then v else u)=min u v:=by split <;> omega
   simp[resolve,invoke,builtin,dx.1,dy.1,run_min_int2,hm]
  .cases e
 .cases e
theorem ZJ(m:Mod w0 N0 A env h w)(f:FD A env w ρ a){ts:Array bZ8}{x y:cb3}(ho:o.op = .call {callee := .builtin .max,args := #[x,y],argTypes:=ts})
  (e:(OW (bc ρ x) (bc ρ y)).run h=bZ1 (d,r)):bH P o a w0 N0 A env h w d:=by
 have dx:=dC f x
 have dy:=dC f y
 unfold OW at e
 split at e
 next k u k' v hx hy=>
  split at e
  .rename_i hk;cases j6 hk;unfold cY at e;cases cA e;rw[hx] at dx;rw[hy] at dy;simp only[aA] at dx dy;refine bH.pure m (v := .int k (max u v)) ?_ (by simp only[aA];refine⟨aP,?_⟩;obtain hh|hh:=cr7 u v;rw[Int.max_eq_right hh];exact dy.2;rw[Int.max_eq_left hh];exact dx.2);unfold cb0;rw[ho];have hm:(if u<v then v else u)=max u v:=by split <;> omega
   simp[resolve,invoke,builtin,dx.1,dy.1,run_max_int2,hm]
  .cases e
 .cases e
end
end Go.SX
namespace Go.SX
def Ap(s:SV):Option (List SV):=match s with
 | .agg cs=>match xA cs with
  | true=>bZ1 cs
  | false=>bZ9
 | s=>match s.one with
  | true=>bZ1 [s]
  | false=>bZ9
def zeroCells(P:ca7)(E:bZ8):Option (List SV):=match P.info? E with
 | some i=>match i.zero with
  | some (.agg cs)=>match xA (cs.toList.map AY) with
   | true=>bZ1 (cs.toList.map AY)
   | false=>bZ9
  | some v=>match (AY v).one with
   | true=>bZ1 [AY v]
   | false=>bZ9
  | none=>bZ9
 | none=>bZ9
def DX(E:bZ8)(nm:Nat)(cs:Option (List SV)):Q Dl := .ask nm fun
 | .un=>match cs with
  | some cs => .ret (.det [] (.ptr nm 0) [(nm,.live (.cells E cs))])
  | none => .fail
 | _ => .fail
def qQ(cs:List SV)(off:Nat)(vs:List SV):List SV:=cs.take off++(vs++cs.drop (off+be vs))
def AF(n:Nat):List (Nat×Nm)->Bool
 | []=>bZ3
 | (m,_)::r => !ca0 n m&&AF n r
def BR(P:ca7)(ty:bZ8)(x y:SV):Q Dl:=match Ap y,f9 P ty with
 | some vs,bZ1 n=>match ca0 n (be vs) with
  | true=>match x with
   | .ptr m off => .ask m fun
    | .live (.cells E cs)=>match cd9 (off+be vs) (be cs) with
     | true => .ret (.det [] (.cv undef) [(m,.live (.cells E (qQ cs off vs)))])
     | false => .fail
    | _ => .fail
   | .eptr m sz i off => .ask m fun
    | .live (.row E t xs)=>match ca0 sz t.size,cd9 (off+be vs) t.size with
     | true,bZ3=>(kS t (qQ (cF t (nB t xs i)) off vs)).bind λp=>match AF m p.2.2 with
      | true => .ret (.det [] (.cv undef) ((m,.live (.row E t (xs.set i p.1)))::p.2.2))
      | false => .fail
     | _,_ => .fail
    | _ => .fail
   | _ => .fail
  | false => .fail
 | _,_ => .fail
section
variable {P:ca7} {w0:ca8} {N0:fI} {A:Nat->Prop} {env:bi} {h:bZ} {w:ca8} {o:Oper} {a:Act} {ρ:Nat->SV} {d:Dl} {r:List Nat}
theorem O6{v:ca2}(h:v.oneCell'=bZ3):v.cells = #[v]:=by cases v <;> first|rfl|cases h
theorem Gc{s:SV}{cs:List SV}{v:ca2}(e:Ap s=bZ1 cs)(hd:aA A env w s v):aM A env w cs v.cells.toList∧∀ u∈v.cells.toList,u.oneCell'=true:=by
 unfold Ap at e
 split at e
 next cs'=>
  split at e
  next ho=>cases e;simp only[aA] at hd;obtain⟨vs,rfl,hd⟩:=hd;exact⟨hd,EN hd ho⟩
  .cases e
 .split at e
  next ho=>cases e;have h1:=Nh hd ho;rw[O6 h1];exact⟨by simp only[aM];exact⟨v,[],rfl,hd,rfl⟩,by simpa using h1⟩
  .cases e
theorem fb.fresh(m:Mod w0 N0 A env h w){nm:Nat}(hn:h nm = .un){b:kG}{len:Nat×Nat}{s:SV}{v:ca2}{w':ca8}(hm:b.mut=bZ3)(k:Nat)(hk:w.heap.size<=k)
  (c:cZ w w' λ_=>False) (hb:∀ x:dM A env w A (env.set nm (.blk k len)) w',kv A (env.set nm (.blk k len)) w' k len b)
  (hd:aA A (env.set nm (.blk k len)) w' s v):fb w0 N0 A env h w (.det [] s [(nm,.live b)]) v w':=by
 have hu:env nm = .un:=by have:=m.nm nm;rw[hn] at this;exact this
 have hA:¬ A k:=λhA=>by have:=m.Alt k hA;omega
 have x:dM A env w A (env.set nm (.blk k len)) w':=m.xt c (λ_ h=>h.elim) λn hn=>bi.set_other _ _ λe=>hn (e▸hu)
 have u:=lP.fresh m hn (o:=default) hm k hk hA c (hb x)
 exact⟨(),A,env.set nm (.blk k len),aP,m.upd u,x,hd⟩
theorem VB(m:Mod w0 N0 A env h w){E:bZ8}{nm:Nat}{cs:List SV}(hn:h nm = .un){vs:Array ca2}(hd:aM A env w cs vs.toList) :
  fb w0 N0 A env h w (.det [] (.ptr nm 0) [(nm,.live (.cells E cs))]) (.pointer (bZ1 ⟨w.heap.size,0,bZ9⟩)) (w.alloc (.cells vs E)):=by
 refine fb.fresh m hn (len:=(0,0)) rfl w.heap.size (dq _) (cZ.alloc w _ _) (λx=>⟨vs,heap_alloc_new w _,BL x _ _ hd⟩) ?_
 simp only[aA]
 exact⟨_,(0,0),bi.set_same _ _ _,rfl⟩
theorem VD{E:bZ8}{nm:Nat}{cs:Option (List SV)}(e:(DX E nm cs).run h=bZ1 (d,r)) :
  h nm = .un∧∃ c,cs=bZ1 c/\d = .det [] (.ptr nm 0) [(nm,.live (.cells E c))]:=by
 simp only[DX,Q.run] at e
 split at e
 next p q hk=>
  simp only[cE,cy] at e;obtain⟨rfl,rfl⟩:=e;split at hk
  .rename_i hun;split at hk
   .exact⟨hun,_,rfl,(cA hk).symm⟩
   .cases hk
  .cases hk
 .cases e
theorem bN4(m:Mod w0 N0 A env h w)(f:FD A env w ρ a){E:bZ8}{x:cb3}{nm:Nat}(ho:o.op = .box E x)
  (e:(DX E nm (Ap (bc ρ x))).run h=bZ1 (d,r)):bH P o a w0 N0 A env h w d:=by
 obtain⟨hun,c,hc,rfl⟩:=VD e
 have ⟨h1,h2⟩:=Gc hc (dC f x)
 refine⟨_,_,.inl ?_,VB m hun h1⟩
 unfold cb0;rw[ho]
 simp[Instr.box,newVar,newRow]
theorem Bj{E:bZ8}{cs:List SV}(e:zeroCells P E=bZ1 cs):∃ i z,P.info? E=bZ1 i/\i.zero=bZ1 z/\aM A env w cs z.cells.toList∧∀ u∈z.cells.toList,u.oneCell'=true:=by
 have key:∀ l,aM A env w (l.map AY) l:=by
  intro l
  induction l with
  | nil=>simp[aM]
  | cons v l ih=>simp only[fF,aM];exact⟨v,l,rfl,JY v,ih⟩
 unfold zeroCells at e
 split at e
 next i hi=>
  split at e
  .rename_i cs' hz;split at e
   next ho=>cases e;exact⟨i,_,hi,hz,key _,EN (A:=A) (env:=env) (w:=w) (key _) ho⟩
   .cases e
  .rename_i v hna hz;split at e
   .rename_i ho;cases e;have h1:=Nh (A:=A) (env:=env) (w:=w) (JY v) ho;refine⟨i,v,hi,hz,?_,?_⟩
    .rw[O6 h1];simp only[aM];exact⟨v,[],rfl,JY v,rfl⟩
    .rw[O6 h1];simpa using h1
   .cases e
  .cases e
 .cases e
theorem bF6(m:Mod w0 N0 A env h w){E:bZ8}{nm:Nat}(ho:o.op = .alloc E)
  (e:(DX E nm (zeroCells P E)).run h=bZ1 (d,r)):bH P o a w0 N0 A env h w d:=by
 obtain⟨hun,c,hc,rfl⟩:=VD e
 have ⟨i,z,hi,hz,h1,h2⟩:=Bj (A:=A) (env:=env) (w:=w) hc
 refine⟨_,_,.inl ?_,VB m hun h1⟩
 unfold cb0;rw[ho]
 simp[Instr.alloc,zeroValue,typeInfo,hi,hz,newVar,newRow]
theorem Kl:∀{fz:List (Nat×Nm)},pJ h fz→∀{n:Nat},(∃ b,(n,b)∈fz)→∃ E t xs,h n = .live (.row E t xs)/\dJ fz h n = .live (.frz E t xs)
 | [],_,n,hn=>by obtain⟨b,hb⟩:=hn;simp at hb
 | (m,b)::fz,ok,n,hn=>by
  by_cases hnm:n=m
  .subst hnm;have ⟨E,t,xs,h1,h2⟩:=ok n b az;exact⟨E,t,xs,h1,by simp[dJ,h2]⟩
  .have hn':∃ b,(n,b)∈fz:=by
    have ⟨b',hb'⟩:=hn;obtain hh|hh:=dO.1 hb'
    .cases hh;exact absurd rfl hnm
    .exact⟨b',hh⟩
   have ⟨E,t,xs,h1,h2⟩:=Kl (fz:=fz) (λn b hb=>ok n b (fu _ hb)) hn';exact⟨E,t,xs,h1,by rw[dJ,bZ.set_other _ _ hnm];exact h2⟩
def jc(A:Nat->Prop)(env:bi)(fz:List (Nat×Nm)):Nat->Prop:=λb=>A b∨iG env fz b
theorem SC(m:Mod w0 N0 A env h w){fz:List (Nat×Nm)}(ok:pJ h fz) :
  lP (λn=>∃ b,(n,b)∈fz) (λ_=>False) A env h w (jc A env fz) env (dJ fz h) w:=by
 have x:dM A env w (jc A env fz) env w:=⟨⟨λb hb=>.inl hb,λ_ _ _ h=>h,λ_ h=>h,λ_ _ _=>rfl,λ_ _ h=>h,λ_ _ _ h=>h⟩,λ_ h=>h⟩
 refine⟨cZ.refl w _,λ_ h=>h.elim,λb hb=>.inl hb,?_,λ_ _=>rfl,λ_ _=>rfl,?_,?_,?_,?_⟩
 .rintro b (hb|⟨n,nb,l,hn,he⟩)
  .exact .inl hb
  .have ⟨E,t,xs,h1,_⟩:=ok n nb hn;exact .inr ⟨.inr ⟨n,_,l,⟨nb,hn⟩,h1,rfl,he⟩,(m.live_blk h1 he).1.lt⟩
 .intro n hn;exact qo (λhh=>by
   obtain⟨p,hp,rfl⟩:=List.mem_map.1 hh;exact hn ⟨p.2,hp⟩)
 .rintro n ⟨b,hn⟩;have ⟨E,t,xs,h1,h2⟩:=Kl ok ⟨b,hn⟩;rw[h2];have:=m.nm n;rw[h1] at this;obtain⟨k,l,he,hb,hA⟩|⟨he,E',t',hb⟩:=this
  .refine .inl ⟨k,l,he,⟨.inr ⟨n,b,l,hn,he⟩,LL x.toEx1 rfl hb⟩,λhm=>by cases hm⟩
  .refine .inr ⟨he,E',t',.inr ?_⟩;obtain hb|hb:=hb <;> cases hb;rfl
 .rintro n b k l ⟨b',hn⟩ hl hm he;have ⟨E,t,xs,h1,h2⟩:=Kl ok ⟨b',hn⟩;rw[h2] at hl;cases hl;cases hm
 .rintro n n' b c k l l' ⟨b',hn⟩ _ hl _ hm;have ⟨E,t,xs,h1,h2⟩:=Kl ok ⟨b',hn⟩;rw[h2] at hl;cases hl;cases hm
theorem Mod.freeze(m:Mod w0 N0 A env h w){fz:List (Nat×Nm)}(ok:pJ h fz) :
  Mod w0 N0 (jc A env fz) env (dJ fz h) w/\dM A env w (jc A env fz) env w :=
 ⟨m.upd (SC m ok),m.ext (SC m ok)⟩
theorem Fv{cs vs:List SV}{us ws:List ca2}{off:Nat}(h1:aM A env w cs us)(h2:aM A env w vs ws) :
  aM A env w (qQ cs off vs) (us.take off++(ws++us.drop (off+be ws))):=by
 have hl:=jb h2
 rw[hl]
 exact tF (A7 _ h1) (tF h2 (B8 _ h1))
theorem Hc.setRow{q:Prop}{w:ca8}{k:Nat}{vs us:Array ca2}{E:bZ8}(h:Hc q w k vs E)(hs:us.size=vs.size):Hc q (w.setRow k us) k us E :=
 let ⟨f,h,q⟩:=h;⟨f,setRow_heap w k vs us E f h,q.imp id λq=>⟨q.1,hs▸q.2⟩⟩
theorem QR{P:ca7}{q:Prop}(g o:Nat)(t:bZ8):∀(vs:List ca2)(i:Nat)(cur:Array ca2)(w:ca8),Hc q w g cur t->o+i+be vs<=cur.size->(∀ v∈vs,v.oneCell'=bZ3) →
  (cA0 ⟨g,o,bZ9⟩ vs i).run P w = .ok () (w.setRow g (cur.toList.take (o+i)++vs++cur.toList.drop (o+i+be vs)).toArray)
 | [],i,cur,w,hg,_,_=>by
  obtain⟨f,h,_⟩:=hg;simp only[cA0,iX,List.length_nil,kf,kP,cs1];rw[setRow_self w g cur t f h];rfl
 | v::rest,i,cur,w,hg,hl,h1=>by
  have hi:o+i<cur.size:=by simp at hl;omega
  have hadd:(⟨g,o,bZ9⟩:Addr).add i=⟨g,o+i,bZ9⟩:=by unfold Addr.add;split <;> simp_all
  have hcell:w.cell? ⟨g,o+i,bZ9⟩=bZ1 cur[o+i]:=by rw[hg.cell];simp[hi]
  have ih:=QR (P:=P) g o t rest (i+1) (cur.setIfInBounds (o+i) v) (w.setRow g (cur.setIfInBounds (o+i) v)) (hg.setRow az) (by simp at hl ⊢;omega) (λx hx=>h1 x (by simp[hx]));have ⟨⟨f,f'⟩,hg,hq⟩:=hg;have hfro:w.frozen? ⟨g,o+i,bZ9⟩=false:=by
   simp only[World.frozen?,hg,Bool.and_eq_false_iff,sr];obtain hq|⟨_,hq⟩:=hq
   .cases hq;exact .inr ab
   .simp only at hq;exact .inl ab
  have hst:(store ((⟨g,o,bZ9⟩:Addr).add i) v).run P w = .ok () (w.setRow g (cur.setIfInBounds (o+i) v)):=by
   rw[hadd,run_store P w _ v _ (h1 v az),hcell];simp[hfro,setCell_eq_setRow w g (o+i) cur t (f,f') v hg]
  simp only[cA0,ca6,hst,ca3,ih,setRow_setRow];congr 3;have e:=list_seg_step cur.toList (o+i) v rest (by simp at hl ⊢;omega);simpa[Array.toList_setIfInBounds,gG] using e
theorem cZ.setRow{q:Prop}(w:ca8)(k:Nat)(vs us:Array ca2)(E:bZ8)(hk:Hc q w k vs E)(hs:us.size=vs.size):cZ w (w.setRow k us) λj=>j=k:=by
 refine⟨rfl,rfl,rfl,dq _,az,λj _ hj=>setRow_other w k j us hj,?_⟩
 intro j s hj
 by_cases hjk:j=k
 .subst hjk;rw[(hk.setRow hs).shape,hs,← hk.shape];exact hj
 .unfold cc7 at hj ⊢;rw[setRow_other w k j us hjk];exact hj
theorem Hs{q:Prop}{ty:bZ8}{k off:Nat}{v:ca2}{vs:Array ca2}{E:bZ8}(hk:Hc q w k vs E)(hsz:f9 P ty=bZ1 v.cells.size)
  (hfit:off+v.cells.size<=vs.size) (h1:∀ u∈v.cells.toList,u.oneCell'=bZ3) :
  (cD6 ty ⟨k,off,bZ9⟩ v).run P w = .ok () (w.setRow k (vs.toList.take off++v.cells.toList++vs.toList.drop (off+v.cells.size)).toArray):=by
 have hst:=QR (P:=P) k off E v.cells.toList 0 vs w hk (by simpa using hfit) h1
 simp only[kf,fC] at hst
 simp[cD6,kT hsz,hst]
theorem DO{n:Nat}:∀{fz:List (Nat×Nm)},AF n fz=bZ3->n ∉ fz.map (·.1)
 | [],_=>az
 | (m,b)::fz,h=>by
  simp only[AF,fx,qE] at h;simp only[fF,dO,not_or];exact⟨λe=>by rw[e,zc] at h;exact absurd h.1 az,DO h.2⟩
theorem He(m:Mod w0 N0 A env h w)(f:FD A env w ρ a){ty:bZ8}{x y:cb3}(ho:o.op = .store ty x y)
  (e:(BR P ty (bc ρ x) (bc ρ y)).run h=bZ1 (d,r)):bH P o a w0 N0 A env h w d:=by
 have dx:=dC f x
 have dy:=dC f y
 unfold BR at e
 split at e
 next vs n hc hn=>
  have ⟨dv,h1⟩:=Gc hc dy;have hlv:=jb dv;split at e
  .rename_i hb;have hb:=bK hb;have hsz:f9 P ty=bZ1 (a.eval y).cells.size:=by rw[hn,hb,← hlv,fC]
   have go:∀{b off:Nat}{w':ca8},a.eval x = .pointer (bZ1 ⟨b,off,bZ9⟩)->(cD6 ty ⟨b,off,bZ9⟩ (a.eval y)).run P w = .ok () w'→(cb0 a.eval o).run P w = .ok .skip w':=by
    intro b off w' ev hr;unfold cb0;rw[ho];simp only[ev,Instr.storeAt,ce0,ca6,cb1,ca3,hr]
   split at e
   .rename_i mm off hx;rw[hx] at dx;simp only[aA] at dx;have ⟨b,l,he,ev⟩:=dx;simp only[Q.run] at e;split at e
    .rename_i p q hk;simp only[cE,cy] at e;obtain⟨rfl,rfl⟩:=e;split at hk
     .rename_i E cs hl;split at hk
      .rename_i hle;have hle:=md hle;cases cA hk;have ⟨⟨us,hh,hd⟩,_⟩:=m.live_blk hl he;have hlu:=jb hd;have hfit:off+(a.eval y).cells.size<=us.size:=by rw[← fC,hlv,← fC,hlu];exact hle
       have hrun:=Hs (.of (q:=True) hh) hsz hfit h1;refine⟨undef,_,.inr ⟨go ev hrun,rfl⟩,?_⟩;have hdR:=Fv (off:=off) hd dv;have c:=cZ.setRow w b us (us.toList.take off++(a.eval y).cells.toList++us.toList.drop (off+(a.eval y).cells.size)).toArray E (.of (q:=True) hh)
        (by simp only[qU,bM,eM,gw,fC];omega)
       have x:dM A env w A env (w.setRow b (us.toList.take off++(a.eval y).cells.toList++us.toList.drop (off+(a.eval y).cells.size)).toArray) :=
        m.xt c (λk hk=>⟨_,_,_,hl,rfl,hk▸he⟩) λ_ _=>rfl
       have u:=lP.write (b' := .cells E (qQ cs off vs)) m hl rfl he c ⟨_,setRow_heap w b us _ E _ hh,by
        have:=BL x _ _ hdR;simpa[fV] using this⟩ rfl
       exact⟨(),A,env,aP,m.upd u,m.ext u,by simp only[Dl.val,aA]⟩
      .cases hk
     .cases hk
    .cases e
   .rename_i mm sz i off hx;rw[hx] at dx;simp only[aA] at dx;have ⟨b,l,he,hil,ev⟩:=dx;rw[← gG] at ev;simp only[Q.run] at e;split at e
    .rename_i p q hk;simp only[cE,cy] at e;obtain⟨rfl,rfl⟩:=e;split at hk
     .rename_i E t xs hl;split at hk
      .rename_i hs1 hle;have hs1:=bK hs1;have hle:=md hle;subst hs1;obtain⟨⟨d',rest,fz⟩,r1,r2,e1,e2,rfl⟩:=Q.run_bind _ _ _ hk;simp only at e2;split at e2
       .rename_i hni;cases cA e2;have hni:=DO hni;have ⟨us,cap,hh,hus,hxl,hlc,hcm,hrd⟩:=(m.live_blk hl he).1;have hix:i<be xs:=ab;have ⟨es,hel,hec,hed⟩:=yX (env:=env) t (nB t xs i) _ _ (D2 (m.live_blk hl he).1 hil);have hdR:=Fv (off:=off) hed dv;have hle':be (cF t (nB t xs i))=t.size:=yY _ _;have ⟨ok,_,hlen,hrd',_⟩:=wA m t _ _ d' rest fz r1 e1 hdR (A':=jc A env fz) (λb hb=>.inl hb) (λk hk'=>.inr hk');have ⟨m2,x2⟩:=m.freeze ok;have hl2:dJ fz h mm = .live (.row E t xs):=by rw[qo hni];exact hl
        have hpos:l.1+i*t.size+t.size<=us.size:=by
         rw[hus];have:(i+1)*t.size<=cap*t.size:=lw _ ab;rw[fY,mv] at this;omega
        have hsv:(a.eval y).cells.size=be vs:=by rw[← fC,hlv]
        have hfit:l.1+i*t.size+off+(a.eval y).cells.size<=us.size:=ab;have hrun:=Hs hh hsz hfit h1;refine⟨undef,_,.inr ⟨go ev hrun,rfl⟩,?_⟩;have c:=cZ.setRow w b us (us.toList.take (l.1+i*t.size+off)++(a.eval y).cells.toList++us.toList.drop (l.1+i*t.size+off+(a.eval y).cells.size)).toArray E hh
         (by simp only[qU,bM,eM,gw,fC];omega)
        have x3:dM (jc A env fz) env w (jc A env fz) env (w.setRow b (us.toList.take (l.1+i*t.size+off)++(a.eval y).cells.toList++us.toList.drop (l.1+i*t.size+off+(a.eval y).cells.size)).toArray) :=
         m2.xt c (λk hk=>⟨_,_,_,hl2,rfl,hk▸he⟩) λ_ _=>rfl
        have hrow:rJ (jc A env fz) (w.setRow b (us.toList.take (l.1+i*t.size+off)++(a.eval y).cells.toList++us.toList.drop (l.1+i*t.size+off+(a.eval y).cells.size)).toArray) b l E t (xs.set i d'):=by
         refine⟨_,cap,hh.setRow (by simp only[qU,bM,eM,gw,fC];omega),?_,by simpa using hxl,hlc,hcm,?_⟩
         .simp only[qU,bM,eM,gw,fC];omega
         .intro j hj;have hj':j<be xs:=by simpa using hj
          rw[List.getElem_set];have cellAt:∀ p,(us.toList.take (l.1+i*t.size+off)++(a.eval y).cells.toList++us.toList.drop (l.1+i*t.size+off+(a.eval y).cells.size)).toArray[p]? =
            if p<l.1+i*t.size+off then us[p]? else if p<l.1+i*t.size+off+be vs then (a.eval y).cells[p-(l.1+i*t.size+off)]? else us[p]? := by
           intro p;rw[List.getElem?_toArray,fV,ce1];simp only[eM,fC];rw[show min (l.1+i*t.size+off) us.size=l.1+i*t.size+off from by omega];split
           next hp=>rw[wE,aj hp,mO]
           .rename_i hp;rw[ce1];simp only[fC,hsv];by_cases h2:p<l.1+i*t.size+off+be vs
            .rw[aj ab,aj h2,mO]
            .rw[ah ab,ah h2,wp,mO];congr 1;omega
          split
          .rename_i hij;subst hij;have hsh:=B7 hrd' (l.1+i*t.size);rw[gJ] at hsh;refine iQ (λ_ h=>h) x3.keep t _ _ _ _ (λq hq=>?_) hsh;rw[cellAt];have hq2:l.1+i*t.size+q-(l.1+i*t.size)=q:=ab;simp only[hq2];have hel':=hel;have hecq:=hec q hq;rw[hh.cell] at hecq;rw[ce1];simp only[eM,hel'];rw[show min off t.size=off from by omega];by_cases c1:q<off
           .rw[aj ab,aj c1,wE,aj c1,hecq]
           .rw[ah ab,ah c1,ce1];simp only[fC,hsv];by_cases c2:q<off+be vs
            .rw[aj ab,aj ab,mO];congr 1;omega
            .rw[ah ab,ah ab,wp,hecq];congr 1;omega
          .rename_i hij;refine iQ (λb hb=>.inl hb) (λb' o' hb'=>x3.keep b' o' (.inl hb')) t _ _ _ _ (λq hq=>?_) (hrd j hj');rw[cellAt];have hjt:j*t.size+t.size<=i*t.size∨i*t.size+t.size<=j*t.size:=by
            obtain hlt|hlt:=Nat.lt_or_gt_of_ne hij
            .right;have:(i+1)*t.size<=j*t.size:=lw _ ab;rw[fY,mv] at this;exact this
            .left;have:(j+1)*t.size<=i*t.size:=lw _ ab;rw[fY,mv] at this;exact this
           obtain hjt|hjt:=hjt
           .rw[aj ab]
           .rw[ah ab,ah ab]
        have u:=lP.write (b' := .row E t (xs.set i d')) m2 hl2 rfl he c hrow rfl;exact⟨(),_,env,aP,m2.upd u,x2.trans (m2.ext u),by simp only[Dl.val,aA]⟩
       .cases e2
      .cases hk
     .cases hk
    .cases e
   .cases e
  .cases e
 .cases e
end
end Go.SX
namespace Go.SX
def Qg(P:ca7)(t:bZ8)(i:Nat):Option (Nat×Nat):=match P.underlying t with
 | some (.struct fs)=>match fs[i]? with
  | some f=>match f9 P f.type with
   | some n=>bZ1 (f.offset,n)
   | none=>bZ9
  | none=>bZ9
 | some (.array _ e)=>match f9 P e with
  | some n=>bZ1 (i*n,n)
  | none=>bZ9
 | _=>bZ9
def Ol(P:ca7):List cA7->Bool
 | []=>bZ3
 | f::fs=>(f9 P f.type).isSome&&Ol P fs
def yf(P:ca7)(place:Nat->Option (Nat×Nat)):List SV->List (Nat×SV)->Option (List SV)
 | cs,[]=>bZ1 cs
 | cs,(i,v)::r=>match place i,Ap v with
  | some (off,n),bZ1 vs=>match ca0 (be vs) n,cd9 (off+n) (be cs) with
   | true,bZ3=>yf P place (qQ cs off vs) r
   | _,_=>bZ9
  | _,_=>bZ9
def Y0(P:ca7)(t:bZ8):Bool:=match P.underlying t with
 | some (.struct fs)=>Ol P fs.toList
 | some (.array _ e)=>(f9 P e).isSome
 | _=>bZ6
def Qt(P:ca7)(t:bZ8)(ps:List (Nat×SV)):Q Dl:=match Y0 P t,zeroCells P t with
 | true,bZ1 z=>match yf P (Qg P t) z ps with
  | some cs=>cY (.agg cs)
  | none => .fail
 | _,_ => .fail
def Vk(c:CT):Nat->Option CT
 | 0=>bZ9
 | 1=>bZ1 c
 | n+1=>match Vk c n with
  | some u=>bZ1 (.pair c u)
  | none=>bZ9
def Ck(P:ca7):Nat->bZ8->Option CT
 | 0,_=>bZ9
 | n+1,t=>match P.underlying t with
  | some (.int k)=>bZ1 (.int k)
  | some .bool=>bZ1 .bool
  | some .string=>bZ1 .str
  | some (.slice e)=>match Ck P n e with
   | some c=>bZ1 (.sl c)
   | none=>bZ9
  | some (.array k e)=>match Ck P n e with
   | some c=>Vk c k
   | none=>bZ9
  | some (.struct fs)=>ctAll (Ck P n) fs.toList
  | _=>bZ9
 where
 ctAll (f:bZ8->Option CT):List cA7->Option CT
  | []=>bZ9
  | [x]=>f x.type
  | x::xs=>match f x.type,ctAll f xs with
   | some a,bZ1 b=>bZ1 (.pair a b)
   | _,_=>bZ9
def NE(t:CT):Nat->List SV->Q (List t.D×List (Nat×Nm))
 | 0,_ => .ret ([],[])
 | n+1,cs=>(kS t cs).bind λp=>(NE t n p.2.1).bind λq=>.ret (p.1::q.1,p.2.2++q.2)
def mi{α:Type}(l:List α):Nat->List α
 | 0=>[]
 | n+1=>l++mi l n
def Ml(P:ca7)(t:bZ8)(len nm:Nat)(ps:List (Nat×SV)):Q Dl:=match wg P t with
 | some (e,sz)=>match Ck P 8 e,zeroCells P e with
  | some u,bZ1 z=>match ca0 u.size sz,ca0 (be z) sz,cd9 (len*sz) 16777216,yf P (λi=>bZ1 (i*sz,sz)) (mi z len) ps with
   | true,bZ3,bZ3,bZ1 cs=>(NE u len cs).bind λp=>.ask nm fun
    | .un=>match AF nm p.2 with
     | true => .ret (.det [] (.own nm sz) ((nm,.live (.row e u p.1))::p.2))
     | false => .fail
    | _ => .fail
   | _,_,_,_ => .fail
  | none,bZ1 z=>match ca0 (be z) sz,ca0 sz 1,cd9 1 len&&cd9 len 16777216,yf P (λi=>bZ1 (i*sz,sz)) (mi z len) ps with
   | true,bZ3,bZ3,bZ1 cs => .ask nm fun
    | .un => .ret (.det [] (.csl nm len) [(nm,.live (.cells e cs))])
    | _ => .fail
   | _,_,_,_ => .fail
  | _,_ => .fail
 | none => .fail
def P3(P:ca7)(t:bZ8)(nm:Nat)(l c:SV):Q Dl:=match wg P t,l,c with
 | some (e,sz),.int _ l,.int _ c=>match Ck P 8 e,zeroCells P e,P.info? e with
  | some u,bZ1 z,bZ1 i=>match ca0 u.size sz,ca0 (be z) sz,cd9 1 i.bytes,kS u z with
   | true,bZ3,bZ3,.ret (d,_,[]) => .ask nm fun
    | .un => .ret (.det [0<=l,l<=c,(i.bytes:Int)*c<=281474976710656] (.own nm sz) [(nm,.live (.row e u (replicate (it l) d)))])
    | _ => .fail
   | _,_,_,_ => .fail
  | _,_,_ => .fail
 | _,_,_ => .fail
def yk(t:CT)(x:SV):Q (List t.D):=match x with
 | .dsl u ys=>match iq u t ys with
  | some ys => .ret ys
  | none => .fail
 | .dsx u ys=>match iq u t ys with
  | some ys => .ret ys
  | none => .fail
 | .nilsl => .ret []
 | .own n sz => .ask n fun
  | .live (.row _ u ys)=>match ca0 sz u.size,iq u t ys with
   | true,bZ1 ys => .ret ys
   | _,_ => .fail
  | .live (.frz _ u ys)=>match ca0 sz u.size,iq u t ys with
   | true,bZ1 ys => .ret ys
   | _,_ => .fail
  | _ => .fail
 | _ => .fail
def ES(P:ca7)(t:bZ8)(nm:Nat)(s x:SV):Q Dl:=match wg P t with
 | some (e,sz)=>match P.info? e with
  | some i=>match cd9 1 i.bytes,i.zero with
   | true,bZ1 z=>match ca0 z.cells.size sz with
    | true=>match s with
     | .own n sz' => .ask n fun
      | .live (.row E u xs)=>match ca0 E e,ca0 sz u.size,ca0 sz' u.size with
       | true,bZ3,bZ3=>(yk u x).bind λys=>.ask nm fun
        | .un => .ret (.det [(be xs+be ys)*i.bytes<=140737488355328] (.own nm sz) [(nm,.live (.row e u (xs++ys))),(n,.dead)])
        | _ => .fail
       | _,_,_ => .fail
      | _ => .fail
     | .nilsl=>match Ck P 8 e with
      | some u=>match ca0 sz u.size with
       | true=>(yk u x).bind λys=>.ask nm fun
        | .un => .ret (.det [be ys*i.bytes<=140737488355328] (.own nm sz) [(nm,.live (.row e u ys))])
        | _ => .fail
       | false => .fail
      | none => .fail
     | .dsx u xs=>match ca0 sz u.size with
      | true=>(yk u x).bind λys=>.ask nm fun
       | .un => .ret (.det [(be xs+be ys)*i.bytes<=140737488355328,xs=[]] (.own nm sz) [(nm,.live (.row e u ys))])
       | _ => .fail
      | false => .fail
     | _ => .fail
    | false => .fail
   | _,_ => .fail
  | none => .fail
 | none => .fail
def bY{α:Type}(xs:List α)(l h:Nat):List α:=(xs.take h).drop l
def rU(x:Option SV)(dflt:Int):Option Int:=match x with
 | none=>bZ1 dflt
 | some (.int _ n)=>bZ1 n
 | _=>bZ9
def Of(P:ca7)(t:bZ8)(x:SV)(lo hi mx:Option SV):Q Dl:=match wg P t with
 | some (_,sz)=>match x with
  | .dsl u xs=>match ca0 sz u.size,rU lo 0,rU hi (be xs) with
   | true,bZ1 l,bZ1 h=>match mx with
    | none => .ret (.det [0<=l,l<=h,h<=be xs] (.dsl u (bY xs (it l) (it h))) [])
    | some (.int _ mm)=>match hi with
     | some _ => .ret (.det [0<=l,l<=h,h=mm,h<=be xs] (.dsx u (bY xs (it l) (it h))) [])
     | none => .fail
    | _ => .fail
   | _,_,_ => .fail
  | .own n sz'=>match mx with
   | none => .ask n fun
    | .live (.row E u xs)=>match ca0 sz u.size,ca0 sz' u.size,rU lo 0,rU hi (be xs) with
     | true,bZ3,bZ1 l,bZ1 h => .ret (.det [0<=l,l<=h,h<=be xs] (.dsl u (bY xs (it l) (it h))) [(n,.live (.frz E u xs))])
     | _,_,_,_ => .fail
    | .live (.frz E u xs)=>match ca0 sz u.size,ca0 sz' u.size,rU lo 0,rU hi (be xs) with
     | true,bZ3,bZ1 l,bZ1 h => .ret (.det [0<=l,l<=h,h<=be xs] (.dsl u (bY xs (it l) (it h))) [])
     | _,_,_,_ => .fail
    | _ => .fail
   | _ => .fail
  | .nilsl=>match rU lo 0,rU hi 0,mx with
   | some l,bZ1 h,bZ9 => .ret (.det [l=0,h=0] .nilsl [])
   | _,_,_ => .fail
  | _ => .fail
 | none => .fail
def pickI(l:ad)(i:Nat):Int:=Om l i 0
def wZ(k:cb7)(sz:Nat):List SV->Nat->Option ad
 | [],_=>bZ1 []
 | .int k' n::cs,0=>match jW k k',wZ k sz cs (sz-1) with
  | true,bZ1 l=>bZ1 (n::l)
  | _,_=>bZ9
 | _::_,0=>bZ9
 | _::cs,s+1=>wZ k sz cs s
def O8(P:ca7)(t:bZ8)(x i:SV):Q Dl:=match x,i,P.underlying t with
 | .agg cs,.int _ i,bZ1 (.array len e)=>match P.underlying e,f9 P e with
  | some (.int k),bZ1 1=>match wZ k 1 cs 0,ca0 (be cs) len with
   | some l,bZ3 => .ret (.det [0<=i,i<len] (.int k (pickI l (it i))) [])
   | _,_ => .fail
  | some (.array 2 e2),bZ1 2=>match P.underlying e2,f9 P e2 with
   | some (.int k),bZ1 1=>match wZ k 2 cs 0,wZ k 2 cs 1,ca0 (be cs) (len*2) with
    | some l1,bZ1 l2,bZ3 => .ret (.det [0<=i,i<len] (.agg [.int k (pickI l1 (it i)),.int k (pickI l2 (it i))]) [])
    | _,_,_ => .fail
   | _,_ => .fail
  | _,_ => .fail
 | _,_,_ => .fail
section
variable {P:ca7} {w0:ca8} {N0:fI} {A:Nat->Prop} {env:bi} {h:bZ} {w:ca8} {o:Oper} {a:Act} {ρ:Nat->SV} {d:Dl} {r:List Nat}
theorem YX{α β:Type}(f:α->Sem β)(g:α->β):∀(l:List α),(∀ x∈l,(f x).run P w = .ok (g x) w)->(l.mapM f).run P w = .ok (l.map g) w
 | [],_=>az
 | x::l,hx=>by
  have ih:=YX f g l (λy hy=>hx y (fu _ hy));simp_all
theorem aa0{α β:Type}(f:α->Sem β)(g:α->β)(l:Array α)(hx:∀ x∈l.toList,(f x).run P w = .ok (g x) w):(l.mapM f).run P w = .ok (l.map g) w:=by
 rw[Array.mapM_eq_mapM_toList]
 have:=YX f g l.toList hx
 simp only[Sem.run_map,this,ca3]
 congr 1
 exact Array.ext' az
theorem al5(vs:List ca2)(off:Nat)(cs:List ca2)(hfit:off+be vs<=be cs) :
  (vs.toArray.zipIdx.foldl (λcs (x:ca2×Nat)=>cs.setIfInBounds (off+x.2) x.1) cs.toArray).toList=cs.take off++(vs++cs.drop (off+be vs)):=by
 have c:∀(vs:List ca2)(k:Nat)(pre a b:List ca2),be pre=off+k->be a=be vs →
   ((vs.zipIdx k).foldl (λcs (x:ca2×Nat)=>cs.setIfInBounds (off+x.2) x.1) (pre++(a++b)).toArray).toList=pre++(vs++b):=by
  intro vs
  induction vs with
  | nil=>intro k pre a b _ hm;simp at hm;subst hm;simp
  | cons v vs ih =>
   intro k pre a b hp hm;cases a with
   | nil=>simp at hm
   | cons u a =>
    simp;have:(pre++(u::a++b)).toArray.setIfInBounds (off+k) v=((pre++[v])++(a++b)).toArray:=by
     simp_all
    grind
 have:=c vs 0 (cs.take off) ((cs.drop off).take (be vs)) (cs.drop (off+be vs)) (by simp;omega) (by simp;omega)
 have e:cs.take off++((cs.drop off).take (be vs)++cs.drop (off+be vs))=cs:=by
  rw[← cj8,kP,kP]
 simp_all
theorem GX{place place':Nat->Option (Nat×Nat)}(g:∀ i p,place i=bZ1 p->place' i=bZ1 p):∀(ps:List (Nat×SV))(b:List (Nat×ca2))(cs rs:List SV)(c:Array ca2),
  yf P place cs ps=bZ1 rs->aM A env w cs c.toList->b.map (·.1)=ps.map (·.1)->aM A env w (ps.map (·.2)) (b.map (·.2)) →
  ∃ vs,cB6 place' c b=bZ1 vs/\aM A env w rs vs.toList
 | [],b,cs,rs,c,e,k,f,s=>by
  have:b=[]:=by simpa using f
  subst this;cases e;exact⟨c,rfl,k⟩
 | (i,v)::ps,b,cs,rs,c,e,k,f,s=>by
  match b,f with
  | (i',u)::b,h =>
   clear f;simp at h;obtain⟨rfl,f⟩:=h;have ⟨u',r',l,m,o⟩:=s;obtain⟨rfl,rfl⟩:=l;simp only[yf] at e;split at e
   .rename_i off n vs hp hc;split at e
    .rename_i d j;have d:=bK d;have j:=md j;have ⟨t,_⟩:=Gc hc m;have q:=jb t;have r:=jb k;have hlv':u.cells.size=n:=by rw[← fC,q,d]
     have hlu':c.size=be cs:=by rw[← fC,r]
     have hR:=Fv (off:=off) k t;have a:=al5 u.cells.toList off c.toList (by simp;omega);have ⟨ws,hw1,hw2⟩:=GX g ps b (qQ cs off vs) rs (u.cells.zipIdx.foldl (λcs (x:ca2×Nat)=>cs.setIfInBounds (off+x.2) x.1) c) e
      (by simp only[cs1] at a;rw[a];exact hR) f o
     simp only[cB6,g i' _ hp];simp_all
    .cases e
   .cases e
theorem aG7(m:Mod w0 N0 A env h w)(f:FD A env w ρ a){t:bZ8}{b:Array (Nat×cb3)}(ho:o.op = .build t b)
  (e:(Qt P t (b.toList.map λp=>(p.1,bc ρ p.2))).run h=bZ1 (d,r)):bH P o a w0 N0 A env h w d:=by
 unfold Qt at e
 split at e
 next z hb hz=>
  split at e
  .rename_i cs hf;cases cA e;obtain⟨i,B,hi,C,F,_⟩:=Bj hz;have g:aM A env w ((b.toList.map λp=>(p.1,bc ρ p.2)).map (·.2)) ((b.toList.map λp=>(p.1,a.eval p.2)).map (·.2)):=by
    generalize b.toList=l
    induction l with
    | nil=>simp[aM]
    | cons p l G=>simp only[fF,aM];exact⟨_,_,rfl,dC f p.2,G⟩
   have j:∀{vs:Array ca2},(cs3 t (b.map λx=>(x.1,a.eval x.2))).run P w = .ok (.agg vs) w->(cb0 a.eval o).run P w = .ok (.value (.agg vs)) w:=by
    unfold cb0;simp_all
   have k:(zeroValue t).run P w = .ok B w:=by simp[zeroValue,typeInfo,hi,C]
   unfold Y0 at hb;split at hb
   .rename_i y q;have s:∀ x∈y.toList,(f9 P x.type).isSome=true:=by
     generalize y.toList=l at hb
     induction l with
     | nil=>simp
     | cons x l G =>
      simp only[Ol,fx] at hb;simp_all
    have u:=aa0 (P:=P) (w:=w) (λf=>(do pure (f.offset,← sizeOf f.type):Sem (Nat×Nat))) (λf=>(f.offset,(f9 P f.type).getD 0)) y (λx hx=>by
     have ⟨n,v⟩:=cp0.1 (s x hx);simp[kT v,v])
    have ⟨vs,D,E⟩:=GX (place':=λi=>(y.map λf=>(f.offset,(f9 P f.type).getD 0))[i]?) (λi p c=>by
     unfold Qg at c;rw[q] at c;simp only at c;split at c
     .grind
     .cases c) (b.toList.map λp=>(p.1,bc ρ p.2)) (b.toList.map λp=>(p.1,a.eval p.2)) z cs B.cells hf F (by simp[cg9]) g
    refine bH.pure m (j ?_) (by simp only[aA];exact⟨vs,rfl,E⟩);unfold cs3;simp only[ca6,k,ca3,run_underlying q,u,cf1,D,cb1]
   .rename_i len e' q;have ⟨n,v⟩:=cp0.1 hb;have ⟨vs,D,E⟩:=GX (place':=λi=>bZ1 (i*n,n)) (λi p c=>by
     unfold Qg at c;rw[q] at c;simp only[v] at c;exact c) (b.toList.map λp=>(p.1,bc ρ p.2)) (b.toList.map λp=>(p.1,a.eval p.2)) z cs B.cells hf F (by simp[cg9]) g
    refine bH.pure m (j ?_) (by simp only[aA];exact⟨vs,rfl,E⟩);unfold cs3;simp only[ca6,k,ca3,run_underlying q,kT v,cf1,D,cb1]
   .cases hb
  .cases e
 .cases e
end
end Go.SX
namespace Go.SX
section
variable {P:ca7} {w0:ca8} {N0:fI} {A:Nat->Prop} {env:bi} {h:bZ} {w:ca8} {o:Oper} {a:Act} {ρ:Nat->SV} {d:Dl} {r:List Nat}
theorem P7(u v:List (Nat×Nm))(h:bZ):dJ (u++v) h=dJ u (dJ v h):=by
 induction u with
 | nil=>rfl
 | cons p u ih=>simp[dJ,ih]
theorem fb.of_frz(m:Mod w0 N0 A env h w){fz:List (Nat×Nm)}(ok:pJ h fz){pre:List Prop}{s:SV}{a:List (Nat×Nm)}{v:ca2}{b:ca8}
  (g:fb w0 N0 (jc A env fz) env (dJ fz h) w (.det pre s a) v b):fb w0 N0 A env h w (.det pre s (a++fz)) v b:=by
 have ⟨x,A',env',_,m',e',d'⟩:=g
 exact⟨(),A',env',aP,by simpa only[Dl.hp,Dl.upd,P7] using m',(m.freeze ok).2.trans e',d'⟩
theorem Xp(m:Mod w0 N0 A env h w){A':Nat->Prop}(s:∀ b,A b->A' b)(t:CT):∀(n:Nat)(cs:List SV)(vs:List ca2)(xs:List t.D)(fz:List (Nat×Nm))(r:List Nat),
  (NE t n cs).run h=bZ1 ((xs,fz),r)->aM A env w cs vs->(∀ k,iG env fz k->A' k) →
  pJ h fz/\be xs=n/\n*t.size<=be vs∧∀ i (c:i<be xs),Rd A' w t (λj=>vs[j]?) (i*t.size) xs[i]
 | 0,cs,vs,xs,fz,r,e,u,d=>by
  obtain⟨⟨rfl,rfl⟩,rfl⟩:=e;exact⟨λn b hb=>by simp at hb,rfl,az,λi c=>by simp at c⟩
 | n+1,cs,vs,xs,fz,r,e,u,d=>by
  obtain⟨⟨d1,v,y⟩,q1,q2,e1,e2,rfl⟩:=Q.run_bind _ _ _ e;obtain⟨⟨ds,z⟩,q3,q4,e3,e4,rfl⟩:=Q.run_bind _ _ _ e2;obtain⟨⟨rfl,rfl⟩,rfl⟩:=e4;have f:∀ k,iG env y k->A' k:=λk ⟨n,x,l,a,g⟩=>d k ⟨n,x,l,ip _ a,g⟩;have o:∀ k,iG env z k->A' k:=λk ⟨n,x,l,a,g⟩=>d k ⟨n,x,l,jv _ a,g⟩;have ⟨o1,n1,l1,p,dr1⟩:=wA m t cs vs d1 v y q1 e1 u s f;have ⟨o2,n2,l2,q⟩:=Xp m s t n v _ ds z q3 e3 dr1 o;have hr1:=jb dr1;refine⟨?_,by simp[n2],by rw[fY,mv];omega,?_⟩
  .intro n x a;obtain a|a:=dI.1 a
   .exact o1 n x a
   .exact o2 n x a
  .intro i c;cases i with
   | zero=>simpa using p
   | succ i =>
    have:=q i (by simpa using c);have B:=Vn this t.size;rw[show i*t.size+t.size=(i+1)*t.size from by rw[fY,mv]] at B;refine iQ (λ_ h=>h) (λ_ _ _=>rfl) t _ _ _ _ (λj _=>?_) B;grind
theorem GD{α:Type}(l:List α)(n:Nat):be (mi l n)=n*be l:=by
 induction n with
 | zero=>simp[mi]
 | succ n ih=>simp[mi,ih,fY];omega
theorem CN{α:Type}(l:List α):∀(n i:Nat),i<n*be l->(mi l n)[i]? = l[i%be l]?
 | 0,i,h=>by simp at h
 | n+1,i,h=>by
  simp only[mi];by_cases a:i<be l
  .rw[mC a,cy3 a]
  .rw[nX ab,CN l n (i-be l) (by rw[fY,mv] at h;omega)];rw[← Nat.mod_eq_sub_mod ab]
theorem L6(z:Array ca2)(n:Nat)(hz:0<z.size):(cf6 z (n*z.size)).toList=mi z.toList n:=by
 apply List.ext_getElem?
 intro i
 by_cases a:i<n*z.size
 .rw[CN _ _ _ (by simpa using a)];simp only[cf6,cf1,Array.toList_range,List.getElem?_map,fC,mO];rw[List.getElem?_range a];have:i%z.size<z.size:=Nat.mod_lt _ hz;simp[getElem!_pos,this]
 .rw[AH (by simp[cf6];omega),AH (by rw[GD];simpa using a)]
theorem Q1{z:List SV}{vs:List ca2}(a:aM A env w z vs):∀ n,aM A env w (mi z n) (mi vs n)
 | 0=>by simp[mi,aM]
 | n+1=>tF a (Q1 a n)
theorem Vf{place:Nat->Option (Nat×Nat)}:∀(ps:List (Nat×SV))(cs rs:List SV),yf P place cs ps=bZ1 rs->be rs=be cs
 | [],cs,rs,e=>by simp only[yf] at e;cases e;rfl
 | (i,v)::ps,cs,rs,e=>by
  simp only[yf] at e;split at e
  .rename_i off n vs _ _;split at e
   next a b=>have a:be vs=n:=bK a;have b:=md b;rw[Vf ps _ rs e];simp[qQ];omega
   .cases e
  .cases e
theorem W5(m:Mod w0 N0 A env h w){nm:Nat}(hn:h nm = .un){E:bZ8}{t:CT}{xs:List t.D}{a w':ca8}{vs:Array ca2}{cap:Nat}{pre:List Prop}
  (e:cZ w a λ_=>False) (d:w'=a.alloc (.cells vs E)) (f:vs.size=cap*t.size) (hl:be xs<=cap) (hc:cap<=cb2)
  (hr:∀ i (g:i<be xs),Rd A w t (λo=>vs[o]?) (i*t.size) xs[i]) :
  fb w0 N0 A env h w (.det pre (.own nm t.size) [(nm,.live (.row E t xs))]) (.slice (bZ1 ⟨a.heap.size,0,bZ9⟩) (be xs) cap) w':=by
 subst d
 have c:cZ w (a.alloc (.cells vs E)) λ_=>False:=e.trans (cZ.alloc a _ _)
 obtain⟨x,A',env',h1,h2,h3,h4⟩:=fb.fresh (s := .own nm t.size) m hn (b := .row E t xs) (len:=(0,be xs)) rfl a.heap.size e.size c
  (λx=>⟨vs,cap,.of (heap_alloc_new a _),by simpa using f,rfl,hl,hc,λi g=>iQ x.imm x.keep t _ _ _ _ (λ_ _=>rfl) (by simpa using hr i g)⟩) (by
   refine .inr ⟨a.heap.size,(0,be xs),E,vs.size,bi.set_same _ _ _,?_,?_⟩
   .unfold cc7;rw[heap_alloc_new]
   .show _=Value.slice _ _ ((vs.size-0)/t.size);rw[Nat.sub_zero,f,tx _ t.size_pos])
 exact⟨(),A',env',aP,h2,h3,h4⟩
theorem ax8(m:Mod w0 N0 A env h w)(f:FD A env w ρ a){t:bZ8}{len nm:Nat}{c:Array (Nat×cb3)}(ho:o.op = .buildSlice t len c)
  (e:(Ml P t len nm (c.toList.map λp=>(p.1,bc ρ p.2))).run h=bZ1 (d,r)):bH P o a w0 N0 A env h w d:=by
 unfold Ml at e
 split at e
 next E sz he=>
  have ⟨hu,hsz⟩:=Ag he;split at e
  .rename_i u z hct hz;split at e
   .rename_i cs s n y hf;have s:=bK s;have n:=bK n;have y:=md y;obtain⟨⟨xs,fz⟩,q1,q2,e1,e2,rfl⟩:=Q.run_bind _ _ _ e;simp only[Q.run] at e2;split at e2
    .rename_i p q B;obtain⟨rfl,rfl⟩:=e2;split at B
     .rename_i hun;split at B
      .rename_i hni;have hni:=DO hni;cases cA B;subst s;obtain⟨i,j,hi,hzv,dz,_⟩:=Bj hz;have F:j.cells.size=u.size:=by rw[← fC,jb dz,n]
       have dps:aM A env w ((c.toList.map λp=>(p.1,bc ρ p.2)).map (·.2)) ((c.toList.map λp=>(p.1,a.eval p.2)).map (·.2)):=by
        generalize c.toList=l
        induction l with
        | nil=>simp[aM]
        | cons p l ih=>simp only[fF,aM];exact⟨_,_,rfl,dC f p.2,ih⟩
       have v:(cf6 j.cells (len*u.size)).toList=mi j.cells.toList len:=by rw[← F];exact L6 _ _ (by rw[F];exact u.size_pos)
       have ⟨vs,hv,dv⟩:=GX (place':=λi=>bZ1 (i*u.size,u.size)) (λi p hp=>hp)
        (c.toList.map λp=>(p.1,bc ρ p.2)) (c.toList.map λp=>(p.1,a.eval p.2)) (mi z len) cs (cf6 j.cells (len*u.size)) hf (by rw[v];exact Q1 dz len) (by simp[cg9]) dps
       have ⟨ok,hxl,hle,hrd⟩:=Xp m (A':=jc A env fz) (λb hb=>.inl hb) u len cs vs.toList xs fz q1 e1 dv (λk B=>.inr B);have ⟨m2,x2⟩:=m.freeze ok;have hcl:vs.size=len*u.size:=by
        rw[← fC,jb dv,Vf _ _ _ hf,GD,n]
       have C:(cb0 a.eval o).run P w = .ok (.value (.slice (bZ1 ⟨w.heap.size,0,bZ9⟩) len len)) (w.alloc (.cells vs E)):=by
        unfold cb0;rw[ho];have G:¬ (len*u.size>2^24):=ab;have hz':(zeroValue E).run P w = .ok j w:=by simp[zeroValue,typeInfo,hi,hzv]
        by_cases h0:len*u.size=0
        .have D:cf6 j.cells (len*u.size) = #[]:=by simp[h0,cf6]
         rw[D] at hv;have hr0:cs4 (len*u.size) = #[]:=by rw[h0];rfl
         simp only[cn5,ca6,run_underlying hu,ca3,kT hsz,ah G,aj h0,cb1,hr0,List.map_toArray,List.map_nil,cf1,hv,newRow,cA1];rfl
        .have D:((cs4 (len*u.size)).map (j.cells[· % j.cells.size]!))=cf6 j.cells (len*u.size):=rfl;simp only[cn5,ca6,run_underlying hu,ca3,kT hsz,ah G,ah h0,hz',cb1,D,cf1,hv,newRow,cA1];rfl
       have hxl':=hxl;have hlm:len<=cb2:=by
        have:len*1<=len*u.size:=Nat.mul_le_mul_left _ u.size_pos;simp only[cb2];omega
       have g:=W5 m2 (by rw[qo hni];exact hun) (E:=E) (xs:=xs) (pre:=[]) (cZ.refl w _) rfl hcl ab hlm (λi hi=>by simpa using hrd i hi);refine⟨_,_,.inl C,?_⟩;rw[hxl'] at g;exact fb.of_frz m ok g
      .cases B
     .cases B
    .cases e2
   .cases e
  .rename_i z hct hz;split at e
   .rename_i cs s n y hf;have s:=bK s;have n:=bK n;simp only[fx] at y;have hb4:=md y.1;have hb5:=md y.2;subst n;simp only[Q.run] at e;split at e
    .rename_i p q B;obtain⟨rfl,rfl⟩:=e;split at B
     .rename_i hun;cases cA B;obtain⟨i,j,hi,hzv,dz,_⟩:=Bj hz;have F:j.cells.size=1:=by rw[← fC,jb dz,s]
      have dps:aM A env w ((c.toList.map λp=>(p.1,bc ρ p.2)).map (·.2)) ((c.toList.map λp=>(p.1,a.eval p.2)).map (·.2)):=by
       generalize c.toList=l
       induction l with
       | nil=>simp[aM]
       | cons p l ih=>simp only[fF,aM];exact⟨_,_,rfl,dC f p.2,ih⟩
      have v:(cf6 j.cells (len*1)).toList=mi j.cells.toList len:=by
       have:=L6 j.cells len ab;rw[F] at this;exact this
      have ⟨vs,hv,dv⟩:=GX (place':=λi=>bZ1 (i*1,1)) (λi p hp=>hp)
       (c.toList.map λp=>(p.1,bc ρ p.2)) (c.toList.map λp=>(p.1,a.eval p.2)) (mi z len) cs (cf6 j.cells (len*1)) hf (by rw[v];exact Q1 dz len) (by simp[cg9]) dps
      have G:¬ (len*1>2^24):=ab;have h0:¬ (len*1=0):=ab;have hz':(zeroValue E).run P w = .ok j w:=by simp[zeroValue,typeInfo,hi,hzv]
      have D:((cs4 (len*1)).map (j.cells[· % j.cells.size]!))=cf6 j.cells (len*1):=rfl;have C:(cb0 a.eval o).run P w = .ok (.value (.slice (bZ1 ⟨w.heap.size,0,bZ9⟩) len len)) (w.alloc (.cells vs E)):=by
       unfold cb0;rw[ho];simp only[cn5,ca6,run_underlying hu,ca3,kT hsz,ah G,ah h0,hz',cb1,D,cf1,hv,newRow,cA1];rfl
      refine⟨_,_,.inl C,fb.fresh m hun (len:=(0,0)) rfl w.heap.size (dq _) (cZ.alloc w _ _) (λx=>⟨vs,heap_alloc_new w _,BL x _ _ dv⟩) ?_⟩;simp only[aA];simp_all
     .cases B
    .cases e
   .cases e
  .cases e
 .cases e
theorem ax0(m:Mod w0 N0 A env h w)(f:FD A env w ρ a){t:bZ8}{nm:Nat}{x y:cb3}(ho:o.op = .makeSlice t x y)
  (e:(P3 P t nm (bc ρ x) (bc ρ y)).run h=bZ1 (d,r)) (R:bQ d.pre):bH P o a w0 N0 A env h w d:=by
 have S:=dC f x
 have T:=dC f y
 unfold P3 at e
 split at e
 next E U kl l kc c he hx hy=>
  have ⟨hu,v⟩:=Ag he;rw[hx] at S;rw[hy] at T;simp only[aA] at S T;split at e
  .rename_i u z i hct hz hi;split at e
   .rename_i V rest B C H hpz;have B:=bK B;have C:=bK C;have H:=md H;subst B;simp only[Q.run] at e;split at e
    .rename_i p q hk;obtain⟨rfl,rfl⟩:=e;split at hk
     .rename_i K;cases cA hk;simp only[Dl.pre,bQ,g7] at R;have ⟨h0,L,M⟩:=R;obtain⟨i',G,I,N,dz,_⟩:=Bj hz;rw[hi] at I;cases I;have s:G.cells.size=u.size:=by rw[← fC,jb dz,C]
      have hisz:i.size=u.size:=by
       unfold f9 at v;rw[hi] at v;simpa using v
      have J:c<=9223372036854775807:=by
       have:(1:Int)*c<=(i.bytes:Int)*c:=Int.mul_le_mul_of_nonneg_right ab ab;omega
      have hrun:=run_make w t E i G hu hi N kl kc l c h0 L M J;have D:=wA m u z G.cells.toList V rest [] [] (by rw[hpz];rfl) dz (A':=A) (λ_ hb=>hb) (λk ⟨n,b,l,hh,_⟩=>by simp at hh);have F:(cf6 G.cells (it c*u.size)).toList=mi G.cells.toList (it c):=by rw[← s];exact L6 _ _ (by rw[s];exact u.size_pos)
      have g:=W5 m K (E:=E) (xs:=replicate (it l) V) (vs:=cf6 G.cells (it c*u.size)) (pre:=[0<=l,l<=c,(i.bytes:Int)*c<=281474976710656]) (cZ.refl w _) rfl
       (size_madeCells _ _) (by simp;omega) (by simp only[cb2];omega) (λj hj=>by
        simp at hj;rw[List.getElem_replicate];have sh:=B7 D.2.2.2.1 (j*u.size);rw[gJ] at sh;refine iQ (λ_ h=>h) (λ_ _ _=>rfl) u _ _ _ _ (λq hq=>?_) sh;have O:j*u.size+q<it c*u.size:=by
         have:(j+1)*u.size<=it c*u.size:=lw _ ab;grind
        rw[← mO,F,CN _ _ _ (by simpa[s] using O)];congr 1;simp only[fC,s];rw[yO,Nat.add_mul_mod_self_right,cy3 hq];omega)
      refine⟨_,_,.inl ?_,g⟩;unfold cb0;simp_all
     .cases hk
    .cases e
   .cases e
  .cases e
 .cases e
end
end Go.SX
