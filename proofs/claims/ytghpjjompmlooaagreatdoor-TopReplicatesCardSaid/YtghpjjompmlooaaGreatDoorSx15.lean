/- Short terms for proofs that a tactic finds. -/
import Derived.KernelRfl
import Derived.WalkKit
import Derived.LoopTactic
import Derived.Deep.LoopGhost
import Derived.RangeFuncRecord
import Derived.Deep.MidRow
import Derived.Laws.Entries
import Derived.Laws.StructEq
import Derived.Lib.AppendZeros
import Derived.Laws.BytesArg
import Derived.MapKept
import Derived.Carry
import Derived.TacticsIn
import Derived.OrdersIn
import Derived.Sort.LoopGhostIn
import Derived.Orders
set_option linter.all false
open List (take replicate range drop)
open And renaming intro->cT1
open Array renaming empty_append->cQ7,ext'->cL2,getElem?_eq_some_iff->cu3,map->cX5,range->cO7,size_append->cA5,toArray_toList->cO5,toList_map->cy4
open Bool renaming and_eq_true_iff->cw4,false->ct2,true->cs8
open ByteArray renaming empty->cZ2
open Decidable renaming decide->cs7
open Function renaming comp_def->cC0
open Go renaming Addr->cN3,BinOp->cL0,Deferred->cY8,Field->cV5,FuncId->cy6,IntKind->cv3,MapEntry->cO8,Oper->cA2,Operand->cv0,Program->cu2,TypeId->ct5,Value->ct8,World->cu6,binOp->cL1,cell_of_row->cy5,eqGuard->cN7,eqGuard_at_bool->cX3,eqGuard_at_int->cO4,eqGuard_at_string->cV9,execOp->cu7,grownCap_ge->cI4,grownCap_le_maxLen->cB4,growslice_fits->cL6,loadVar->cP7,madeCells->cA0,maxLen->cu5,run_append_grow->cX4,run_convert_bytes_arg->cS3,run_newObj->cU9,storeCells->cU8,storeVar->cY4
open Go.Act renaming eval->cU6
open Go.Addr renaming add->cV8,add_lit->cv5
open Go.Builtin renaming append_->cv7,firstCells->cE1,lenOf->cL3,zeroCells->cu8
open Go.ByteArray renaming toList_eq->cZ4
open Go.Deferred renaming ofValue->cP8
open Go.Fence renaming wide->cC1
open Go.Instr renaming alloc->cV7,build->cO6,buildSlice->cJ6,fill->cW5,findNow->cM5,index->cO9,indexAt->cM3,loadAt->cU7,mapUpdate->cS5,sameNow->cT7,slice->cK1,sliceAt->cF5,sliceBounds->cF3,storeAt->cT6,sureAddr->cz1
open Go.IntKind renaming i64->ct0
open Go.MapKept renaming IsKey->cS4,run_checkKey->cG9,run_findKey->cH4,run_getObj_map->cG3,run_setObj_map->cM6
open Go.Op renaming eqFields->cR0,equalIn->cJ0,intArith->cY2,maxDepth->cY3,stringOp->cY6,unary->cV6
open Go.Oper renaming semAt_eq->cM8
open Go.Operand renaming tmp->cT8
open Go.Program renaming fieldsOf->cQ5
open Go.Region renaming binds->cE2,ready->cC4,wanted->cD0
open Go.Result renaming andThen_ok->cu0
open Go.RowKit.Below renaming heap_alloc->cH7
open Go.Sem renaming run_bind->cu4,run_ite->cQ6,run_pure->cu9
open Go.Value renaming cells->cK3,int->cA9,oneCell'->cT0,slice->cE0
open Go.World renaming cell?_of_block->cO2,freeze->cI9,putObj_heap_other->cx0,putObj_heap_same->cG6,shape?->cv9,size_drew->cS2
open Int renaming le_of_lt->cQ9,le_total->cO3,tmod_nonneg->cE8,toNat->M
open List renaming cons->cF0,drop_drop->cA1,drop_eq_nil_of_le->cA3,ext_getElem?->cJ1,filter->cz9,foldl->cw5,getD->T,getElem?_append->cD9,getElem?_eq_some_iff->ct6,getElem?_map->cA7,getElem?_toArray->cD7,getElem_drop->cK2,getElem_mem->cv2,getElem_replicate->cN8,length->V,length_nil->cy2,map->cA6,map_nil->cH3,map_toArray->cK0,mem_map->cv1
open Nat renaming add_mul_mod_self_right->cM4,beq->ct7,ble->cx6,ble_eq->cY7,lt_of_lt_of_le->cF8,mod_eq_of_lt->cK6,mod_lt->cY5,mul_le_mul_left->cR1,mul_one->cH8,sub_zero->cG8,zero_mul->cW6
open Option renaming isSome_iff_exists->cL5,map->cC8,map_some->cB5,none->ct4,some->cs6
namespace Go.SX
variable{p:Prop}
theorem Y(h:p:=by omega):p:=h
theorem aw(h:p:=by simp):p:=h
theorem oO(h:p:=by kernel_rfl):p:=h
theorem aD(h:p:=by decide):p:=h
theorem aQ:True:=trivial
theorem aX:∀{p:Prop} [Decidable p],decide p=cs8->p:=@of_decide_eq_true
theorem bg:∀{p:Prop} [Decidable p],decide p=ct2->¬p:=@of_decide_eq_false
theorem I:∀{c:Prop}{h:Decidable c},¬c->∀{α:Sort _}{t e:α},(if c then t else e)=e:=@if_neg
theorem cK:∀ {α} {l:List α} {i:Nat} {a:α},T l i a=l[i]?.getD a:=@List.getD_eq_getElem?_getD
theorem ao:∀{c:Prop}{h:Decidable c},c->∀{α:Sort _}{t e:α},(if c then t else e)=t:=@if_pos
theorem bH:∀{n m:Nat},n.beq m=cs8->n=m:=@Nat.eq_of_beq_eq_true
theorem cy:∀ {α} (val val_1:α),(cs6 val=cs6 val_1)=(val=val_1):=@Option.some.injEq
theorem cT:∀ {α} {l:List α} {i:Nat} (h:i<V l),l[i]? = cs6 l[i]:=@List.getElem?_eq_getElem
theorem ck:∀ {α} {β} (fst:α) (snd:β) (fst_1:α) (snd_1:β),((fst,snd)=(fst_1,snd_1))=(fst=fst_1/\snd=snd_1):=@Prod.mk.injEq
theorem cw:∀ {α} {as bs:List α},V (as++bs)=V as+V bs:=@List.length_append
theorem gE:∀ {α} {i:Nat} {l:List α},V l<=i->take i l=l:=@List.take_of_length_le
theorem fq:∀ {α} {a:α},[a].length=1:=@List.length_singleton
theorem fa:∀ {α} {a:α} {as:List α},V (a::as)=V as+1:=@List.length_cons
theorem jW:∀{p:Prop},(¬p->False)->p:=@Classical.byContradiction
theorem fF:∀ {α} {i:Nat} {l:List α},V (take i l)=min i (V l):=@List.length_take
theorem lY:∀{α:Sort _}(b:Bool)(t e:α),(bif b then t else e)=if b=cs8 then t else e:=@Bool.cond_eq_ite
theorem fB:∀ a b,((a&&b)=cs8)=(a=cs8/\b=cs8):=@Bool.and_eq_true
theorem eZ:∀ {α} (y:α) {a:α} {l:List α},a∈l->a∈y::l:=@List.mem_cons_of_mem
theorem gH:∀{p:Prop} [Decidable p],¬p->decide p=false:=@decide_eq_false
theorem gR:∀ {α} {i:Nat} {l:List α},V (drop i l)=V l-i:=@List.length_drop
theorem dU:∀ {α} {a:α} {l:List α},a∈a::l:=@List.mem_cons_self
theorem jF:∀ {α} {xs:Array α},V xs.toList=xs.size:=@Array.length_toList
theorem gq:∀ {α} {a:α} {as:List α} (bs:List α),a∈as->a∈as++bs:=@List.mem_append_left
theorem jb:∀ {α} {a b:α},(cs6 a).getD b=a:=@Option.getD_some
theorem f7:∀{p:Prop} [Decidable p],p->decide p=true:=@decide_eq_true
theorem pn:∀ {α} {l₁ l₂:List α} {i:Nat},V l₁<=i->(l₁++l₂)[i]? = l₂[i-V l₁]? := @List.getElem?_append_right
theorem gU:∀ {α} {b:α} (as:List α) {bs:List α},b∈bs->b∈as++bs:=@List.mem_append_right
theorem f5:∀ {α} {as:List α} {i:Nat} {a:α},V (as.set i a)=V as:=@List.length_set
theorem nJ:∀ {α} {l₁ l₂:List α} {i:Nat},i<V l₁->(l₁++l₂)[i]? = l₁[i]? := @List.getElem?_append_left
theorem Be:∀ {α} {l:List α},V l=0->l=[]:=@List.eq_nil_of_length_eq_zero
theorem nW:∀(n m:Nat),n+m-n=m:=@Nat.add_sub_cancel_left
theorem gI:∀ {α} (as bs cs:List α),as++bs++cs=as++(bs++cs):=@List.append_assoc
theorem f6:∀ {α} {β} {f:α->β} {a:α} {l:List α},cA6 f (a::l)=f a::cA6 f l:=@List.map_cons
theorem rz:∀ {α} {xs:Array α} {i:Nat},xs.toList[i]? = xs[i]? := @Array.getElem?_toList
theorem lX:∀{n m:Nat},n.ble m=cs8->n<=m:=@Nat.le_of_ble_eq_true
theorem dq:∀(n:Nat),n<=n:=@Nat.le_refl
theorem pJ:∀{p:Prop} [Decidable p],(decide p=cs8)=p:=@decide_eq_true_eq
theorem gD:∀ n,0+n=n:=@Nat.zero_add
theorem jv:∀(n m k:Nat),n+m+k=n+(m+k):=@Nat.add_assoc
theorem gA:∀(n m k:Nat),(n+m)*k=n*k+m*k:=@Nat.add_mul
theorem mj:∀ {α} (i:Nat) (l:List α),take i l++drop i l=l:=@List.take_append_drop
theorem nk:∀{n m:Nat} k,n<=m->n*k<=m*k:=@Nat.mul_le_mul_right
theorem lr:∀ {α} {β} {f:β->α->β} {b:β} {l l':List α},cw5 f b (l++l')=cw5 f (cw5 f b l) l':=@List.foldl_append
theorem tj:∀{a:Int},0<=a->∃ (n:Nat),a=↑n:=@Int.eq_ofNat_of_zero_le
theorem kQ:∀ {α} {a:α} {as bs:List α},a::as++bs=a::(as++bs):=@List.cons_append
theorem sK:∀ {α} {xs:Array α} {i:Nat} {d:α},xs.getD i d=xs[i]?.getD d:=@Array.getD_eq_getD_getElem?
theorem oR:∀ {α} {p:α->Bool} {l:List α},List.takeWhile p l++List.dropWhile p l=l:=@List.takeWhile_append_dropWhile
theorem kz:∀ n,n+0=n:=@Nat.add_zero
theorem js:∀ {α} (as:List α),as++[]=as:=@List.append_nil
theorem Df:∀ {α} {i:Nat} {l:List α} (h:i<V l),take (i+1) l=take i l++[l[i]]:=@List.take_succ_eq_append_getElem
theorem uq:∀{p:Prop} [Decidable p],decide p=cs8↔p:=@decide_eq_true_iff
theorem kV:∀ {α} {β} {f:α->β} {l₁ l₂:List α},cA6 f (l₁++l₂)=cA6 f l₁++cA6 f l₂:=@List.map_append
theorem fJ:∀(a:Int),a<=a:=@Int.le_refl
theorem te:∀ {α} {i:Nat} {a:α} {l:List α},a∈take i l->a∈l:=@List.mem_of_mem_take
theorem tQ:∀ {α} {l:List α} {i:Nat} {a:α},l[i]? = cs6 a->a∈l:=@List.mem_of_getElem?
theorem Cl:∀ {α} {l:List α} {i j:Nat},(take i l)[j]? = if j<i then l[j]? else none:=@List.getElem?_take
theorem sM:∀ {α} {i:Nat} {l:List α} (h:i<V l),drop i l=l[i]::drop (i+1) l:=@List.drop_eq_getElem_cons
theorem xZ:∀{p:Prop}{x:Decidable p},decide p=ct2↔¬p:=@decide_eq_false_iff_not
theorem ni:∀{n:Nat},range n.succ=range n++[n]:=@List.range_succ
theorem wU:∀ {α} {n:Nat} {a:α},V (replicate n a)=n:=@List.length_replicate
theorem sS:∀ b,((!b)=cs8)=(b=ct2):=@Bool.not_eq_true'
theorem Ca:∀ {α} {xs:List α} {i j:Nat},(drop i xs)[j]? = xs[i+j]? := @List.getElem?_drop
theorem qS:∀ n,1*n=n:=@Nat.one_mul
theorem Hn:∀{a b:Int},0<=a->a.tmod b=a%b:=@Int.tmod_eq_emod_of_nonneg
theorem Bl:∀ {α} {p:α->Bool} (l₁ l₂:List α),cz9 p (l₁++l₂)=cz9 p l₁++cz9 p l₂:=@List.filter_append
theorem sN:∀ m{n:Nat},0<n->m*n/n=m:=@Nat.mul_div_cancel
theorem uJ:∀ a b,((a||b)=cs8)=(a=cs8∨b=cs8):=@Bool.or_eq_true
theorem si:∀ {α} {β} {l:List α} {a:α} {f:α->β},a∈l->f a∈cA6 f l:=@List.mem_map_of_mem
theorem vz:∀ {α} {as:List α},as.toArray.size=V as:=@List.size_toArray
theorem Je:∀ {α} {xs:Array α} {i j:Nat},i≠j->∀{a:α},(xs.setIfInBounds i a)[j]? = xs[j]? := @Array.getElem?_setIfInBounds_ne
theorem BE:∀ b,((!b)=ct2)=(b=cs8):=@Bool.not_eq_false'
theorem H8:∀ x n,x &&& 2^n-1=x%2^n:=@Nat.and_two_pow_sub_one_eq_mod
theorem x9:∀ {α} (as:List α),[]++as=as:=@List.nil_append
theorem dL:∀{α:Sort _}{β:Sort _}{a₁ a₂:α}(f:α->β),a₁=a₂->f a₁=f a₂:=@congrArg
theorem ir:∀(p:Prop),(p/\True)=p:=@and_true
theorem AL:∀ {α} {l:List α} {i:Nat} {a b:α},a∈l.set i b->a∈l∨a=b:=@List.mem_or_eq_of_mem_set
theorem F4:∀ a{b:Int},0<=b->a.fdiv b=a/b:=@Int.fdiv_eq_ediv_of_nonneg
theorem dX:∀ {α} {a:α} {s t:List α},a∈s++t↔a∈s∨a∈t:=@List.mem_append
theorem zo:∀ {α} {a:α} {i:Nat} {l:List α},a∈drop i l->a∈l:=@List.mem_of_mem_drop
theorem iV:∀ {α} {a b:α},a∈[b]↔a=b:=@List.mem_singleton
theorem tZ:∀{a:Prop},a↔a:=@Iff.rfl
theorem dm:∀ {α} {b:α} {l:List α} {a:α},a∈b::l↔a=b∨a∈l:=@List.mem_cons
theorem AR:∀{a b:Bool},a=b↔(a=cs8↔b=cs8):=@Bool.eq_iff_iff
theorem FJ:∀{a b:Int},0<=a->a.tdiv b=a/b:=@Int.tdiv_eq_ediv_of_nonneg
theorem nT:∀ {α} {β} {as:List α} (f:α->β),V (cA6 f as)=V as:=@List.length_map
theorem uh:∀{α:Sort _}(a b:α),(bif ct2 then a else b)=b:=@cond_false
theorem xQ:∀ {α} {l:List α} {i:Nat},V l<=i->l[i]? = none:=@List.getElem?_eq_none
theorem Az:∀{p:Prop} [Decidable p],¬¬p↔p:=@Decidable.not_not
theorem wK:∀(a:Nat),a.beq a=true:=@Nat.beq_refl
theorem ub:∀{n m k:Nat},n<=m->m<=k->n<=k:=@Nat.le_trans
theorem An:∀(n m:Nat),n+m=m+n:=@Nat.add_comm
theorem GQ:(ct2=cs8)=False:=@Bool.false_eq_true
theorem Xh:∀(n:Nat),n<=n.succ:=@Nat.le_succ
abbrev Z := List Int
inductive CT where
 | int (k:cv3)
 | bool
 | str
 | sl (t:CT)
 | pair (a b:CT)
 deriving DecidableEq
@[reducible] def CT.D:CT->Type
 | .int _=>Int
 | .bool=>Bool
 | .str=>ByteArray
 | .sl t=>List t.D
 | .pair a b=>a.D×b.D
def CT.size:CT->Nat
 | .pair a b=>a.size+b.size
 | _=>1
theorem CT.size_pos(t:CT):0<t.size:=by
 induction t with
 | pair a b iha ihb=>simp only[CT.size];omega
 | _=>simp[CT.size]
def CT.dflt:(t:CT)->t.D
 | .int _=>(0:Int)
 | .bool=>ct2
 | .str=>cZ2
 | .sl _=>[]
 | .pair a b=>(a.dflt,b.dflt)
def qa(t:CT)(xs:List t.D)(i:Nat):t.D:=T xs i t.dflt
def CT.wf:(t:CT)->t.D->Prop
 | .int k,n=>k.has n
 | .bool,_=>True
 | .str,s=>s.size<=cu5
 | .sl t,xs=>V xs<=cu5∧∀ x∈xs,t.wf x
 | .pair a b,d=>a.wf d.1/\b.wf d.2
inductive SV where
 | int (k:cv3) (n:Int)
 | bool (b:Bool)
 | str (s:ByteArray)
 | dsl (t:CT) (xs:List t.D)
 | dsx (t:CT) (xs:List t.D)
 | nilsl
 | own (n sz:Nat)
 | ptr (n off:Nat)
 | eptr (n sz i off:Nat)
 | dptr (t:CT) (d:t.D) (off:Nat)
 | nilp
 | fn (f:cy6) (caps:List SV)
 | agg (cs:List SV)
 | tup (cs:List SV)
 | opt (b:Bool) (v:SV)
 | cv (v:ct8)
 | gl (g:Nat)
 | csl (n len:Nat)
 | mapp (n:Nat)
 | arr (k:cv3) (n:Nat) (xs:Z)
 | yld (r:Loop) (ts:List Nat) (cs:List SV)
 | part (n sz lo len:Nat)
 | hv (i:Nat) (s:SV)
 | junk
inductive lJ where
 | cells (E:ct5) (cs:List SV)
 | row (E:ct5) (t:CT) (xs:List t.D)
 | frz (E:ct5) (t:CT) (xs:List t.D)
 | mp (kk vk:cv3) (l:List (Int×Int))
 | ary (E:ct5) (k:cv3) (n:Nat) (xs:Z)
def lJ.mut:lJ->Bool
 | .frz .. => ct2
 | _=>cs8
inductive Nm where
 | un
 | dead
 | live (b:lJ)
inductive Ev where
 | un
 | nil
 | blk (b:Nat) (len:Nat×Nat)
 | val (v:ct8) (s:SV)
abbrev cq:=Nat->Nm
abbrev bt:=Nat->Ev
def Rd(A:Nat->Prop)(w:cu6):(t:CT)->(Nat->Option ct8)->Nat->t.D->Prop
 | .int k,cv,o,n=>cv o=cs6 (.int k n)/\k.has n
 | .bool,cv,o,b=>cv o=cs6 (.bool b)
 | .str,cv,o,s=>cv o=cs6 (.string s)/\s.size<=cu5
 | .sl t,cv,o,xs=>∃ v,cv o=cs6 v/\V xs<=cu5/\(((∃ a,v = .slice a 0 0)/\xs=[]) ∨
   ∃ b off cap,v = .slice (cs6 ⟨b,off,ct4⟩) (V xs) cap/\V xs<=cap/\cap<=cu5/\A b ∧
    ∀ i (h:i<V xs),Rd A w t (λo=>w.cell? ⟨b,o,ct4⟩) (off+i*t.size) xs[i])
 | .pair a b,cv,o,d=>Rd A w a cv o d.1/\Rd A w b cv (o+a.size) d.2
def wF(A:Nat->Prop)(w:cu6)(t:CT)(v:ct8)(xs:List t.D):Prop :=
 V xs<=cu5/\(((∃ a,v = .slice a 0 0)/\xs=[]) ∨
  ∃ b off cap,v = .slice (cs6 ⟨b,off,ct4⟩) (V xs) cap/\V xs<=cap/\cap<=cu5/\A b ∧
   ∀ i (h:i<V xs),Rd A w t (λo=>w.cell? ⟨b,o,ct4⟩) (off+i*t.size) xs[i])
theorem xk{A w t cv o xs} :
  Rd A w (.sl t) cv o xs↔∃ v,cv o=cs6 v/\wF A w t v xs:=tZ
theorem jM{A A':Nat->Prop}{w w':cu6}(hA:∀ b,A b->A' b)(hw:∀ b o,A b->w'.cell? ⟨b,o,ct4⟩=w.cell? ⟨b,o,ct4⟩) :
  ∀ t cv cv' o d,(∀ j,j<t.size->cv' (o+j)=cv (o+j))->Rd A w t cv o d->Rd A' w' t cv' o d:=by
 intro t
 induction t with
 | int k=>intro cv cv' o d hc h;have:=hc 0 (by simp[CT.size]);simp only[kz] at this;simp only[Rd] at h ⊢;rw[this];exact h
 | bool=>intro cv cv' o d hc h;have:=hc 0 (by simp[CT.size]);simp only[kz] at this;simp only[Rd] at h ⊢;rw[this];exact h
 | str=>intro cv cv' o d hc h;have:=hc 0 (by simp[CT.size]);simp only[kz] at this;simp only[Rd] at h ⊢;rw[this];exact h
 | sl t ih =>
  intro cv cv' o d hc h;have:=hc 0 (by simp[CT.size]);simp only[kz] at this;simp only[Rd] at h ⊢;rw[this];have ⟨v,hv,hl,h⟩:=h;refine⟨v,hv,hl,?_⟩;obtain h|⟨b,off,cap,rfl,h1,h2,h3,h4⟩:=h
  .exact .inl h
  .exact .inr ⟨b,off,cap,rfl,h1,h2,hA b h3,λi hi=>ih _ _ _ _ (λj _=>hw b _ h3) (h4 i hi)⟩
 | pair a b iha ihb =>
  intro cv cv' o d hc h;refine⟨iha _ _ _ _ (λj hj=>hc j (by simp only[CT.size];omega)) h.1,ihb _ _ _ _ (λj hj=>?_) h.2⟩;have:=hc (a.size+j) (by simp only[CT.size];omega);simpa[jv] using this
theorem MV{A w}:∀ t cv o d,Rd A w t cv o d->t.wf d:=by
 intro t
 induction t with
 | int k=>intro cv o d h;exact h.2
 | bool=>intro cv o d h;trivial
 | str=>intro cv o d h;exact h.2
 | sl t ih =>
  intro cv o d h;have ⟨v,hv,hl,h⟩:=h;refine⟨hl,?_⟩;obtain⟨_,rfl⟩|⟨b,off,cap,_,_,_,_,h4⟩:=h
  .intro x hx;simp at hx
  .intro x hx;obtain⟨i,hi,rfl⟩:=List.mem_iff_getElem.1 hx;exact ih _ _ _ (h4 i hi)
 | pair a b iha ihb=>intro cv o d h;exact⟨iha _ _ _ h.1,ihb _ _ _ h.2⟩
mutual
def ax(A:Nat->Prop)(env:bt)(w:cu6):SV->ct8->Prop
 | .int k n,v=>v = .int k n/\k.has n
 | .bool b,v=>v = .bool b
 | .str s,v=>v = .string s/\s.size<=cu5
 | .dsl t xs,v=>wF A w t v xs
 | .nilsl,v=>v = .slice ct4 0 0
 | .dsx t xs,v=>wF A w t v xs∧∃ a,v = .slice a xs.length xs.length
 | .own n sz,v=>(env n = .nil∧∃ a,v = .slice a 0 0)∨∃ b len E c,env n = .blk b len/\w.shape? b=cs6 (E,c)/\v = .slice (cs6 ⟨b,len.1,ct4⟩) len.2 ((c-len.1)/sz)
 | .ptr n off,v=>∃ b len,env n = .blk b len/\v = .pointer (cs6 ⟨b,off,ct4⟩)
 | .eptr n sz i off,v=>∃ b len,env n = .blk b len/\i<len.2/\v = .pointer (cs6 ⟨b,len.1+(i*sz+off),ct4⟩)
 | .dptr t d off,v=>∃ b o,v = .pointer (cs6 ⟨b,o+off,ct4⟩)/\A b/\Rd A w t (λo=>w.cell? ⟨b,o,ct4⟩) o d
 | .nilp,v=>v = .pointer ct4
 | .fn f caps,v=>∃ vs,v = .func (.func f) #[] vs/\aL A env w caps vs.toList
 | .agg cs,v=>∃ vs,v = .agg vs/\aL A env w cs vs.toList
 | .tup cs,v=>∃ vs,v = .tuple vs/\aL A env w cs vs.toList
 | .opt b s,v=>match b with|true=>ax A env w s v|false=>v=undef
 | .cv x,v=>v=x
 | .gl g,v=>v = .pointer (cs6 ⟨g,0,ct4⟩)
 | .csl n len,v=>∃ b l,env n = .blk b l/\v = .slice (cs6 ⟨b,0,ct4⟩) len len
 | .mapp n,v=>∃ b l,env n = .blk b l/\v = .map (cs6 b)
 | .arr k n xs,v=>v = .agg (xs.map (cA9 k)).toArray/\xs.length=n∧∀ x∈xs,k.has x
 | .yld r ts cs,v=>∃ l,v = .func (.yield l) #[] #[]/\w.heap[l]? = cs6 (.loop r)/\aL A env w cs (ts.map λt=>r.tmps.getD t undef)
 | .part n sz lo len,v=>(len=0∧∃ a,v = .slice a 0 0)∨∃ b l E c,env n = .blk b l/\lo+len<=l.2/\w.shape? b=cs6 (E,c)/\v = .slice (cs6 ⟨b,l.1+lo*sz,ct4⟩) len ((c-l.1)/sz-lo)
 | .hv i s,v=>env i = .val v s/\v.oneCell'=cs8
 | .junk,_=>True
def aL(A:Nat->Prop)(env:bt)(w:cu6):List SV->List ct8->Prop
 | [],vs=>vs=[]
 | s::ss,vs=>∃ v r,vs=v::r/\ax A env w s v/\aL A env w ss r
end
mutual
def SV.noY:SV->Bool
 | .yld .. => ct2
 | .fn _ cs=>zz cs
 | .agg cs=>zz cs
 | .tup cs=>zz cs
 | .opt _ s=>s.noY
 | _=>cs8
def zz:List SV->Bool
 | []=>cs8
 | s::ss=>s.noY&&zz ss
end
structure Ex1 (y:Prop) (A:Nat->Prop) (env:bt) (w:cu6) (A':Nat->Prop) (env':bt) (w':cu6):Prop where
 imm:∀ b,A b->A' b
 envb:∀ n b l,env n = .blk b l->env' n = .blk b l
 envn:∀ n,env n = .nil->env' n = .nil
 envv:∀ n v s,env n = .val v s->env' n = .val v s
 keep:∀ b o,A b->w'.cell? ⟨b,o,ct4⟩=w.cell? ⟨b,o,ct4⟩
 shape:∀ b s,w.shape? b=cs6 s->w'.shape? b=cs6 s
 lop:y→∀(k:Nat)(r:Loop),w.heap[k]? = cs6 (.loop r)->w'.heap[k]? = cs6 (.loop r)
structure dQ (A:Nat->Prop) (env:bt) (w:cu6) (A':Nat->Prop) (env':bt) (w':cu6):Prop extends Ex1 True A env w A' env' w' where
 dfo:∀ k:Nat,w.heap[k]? = cs6 (.deferred (cs6 []))->w'.heap[k]? = cs6 (.deferred (cs6 []))
theorem dQ.refl{A env w}:dQ A env w A env w:=⟨⟨λ_ h=>h,λ_ _ _ h=>h,λ_ h=>h,λ_ _ _ h=>h,λ_ _ _=>rfl,λ_ _ h=>h,λ_ _ _ h=>h⟩,λ_ h=>h⟩
theorem dQ.trans{A A' A'' env env' env'' w w' w''}(h:dQ A env w A' env' w')(k:dQ A' env' w' A'' env'' w''):dQ A env w A'' env'' w'' :=
 ⟨⟨λb hb=>k.imm b (h.imm b hb),λn b l e=>k.envb n b l (h.envb n b l e),λn e=>k.envn n (h.envn n e),λn v s e=>k.envv n v s (h.envv n v s e),
  λb o hb=>(k.keep b o (h.imm b hb)).trans (h.keep b o hb),λb s e=>k.shape b s (h.shape b s e),λ_ j r e=>k.lop trivial j r (h.lop trivial j r e)⟩,λj e=>k.dfo j (h.dfo j e)⟩
theorem Ka{A A':Nat->Prop}{w w':cu6}(hA:∀ b,A b->A' b)(hw:∀ b o,A b->w'.cell? ⟨b,o,ct4⟩=w.cell? ⟨b,o,ct4⟩)
  {t} {v} {xs} (h:wF A w t v xs):wF A' w' t v xs:=by
 have:=jM hA hw (.sl t) (λ_=>cs6 v) (λ_=>cs6 v) 0 xs (λ_ _=>rfl) ⟨v,rfl,h⟩
 have ⟨v',hv,h'⟩:=this
 cases hv
 exact h'
mutual
theorem Ga{A A':Nat->Prop}{env env':bt}{w w':cu6}{y:Prop}(x:Ex1 y A env w A' env' w'):∀(s:SV)(v:ct8),y∨s.noY=cs8->ax A env w s v->ax A' env' w' s v
 | .int k n,v,q,h=>by simp only[ax] at h ⊢;exact h
 | .bool b,v,q,h=>by simp only[ax] at h ⊢;exact h
 | .str s,v,q,h=>by simp only[ax] at h ⊢;exact h
 | .dsl t xs,v,q,h=>by simp only[ax] at h ⊢;exact Ka x.imm x.keep h
 | .nilsl,v,q,h=>by simp only[ax] at h ⊢;exact h
 | .dsx t xs,v,q,h=>by simp only[ax] at h ⊢;exact⟨Ka x.imm x.keep h.1,h.2⟩
 | .own n sz,v,q,h=>by
  simp only[ax] at h ⊢;rcases h with⟨h1,h2⟩|⟨b,len,E,c,h1,h2,h3⟩
  .exact .inl ⟨x.envn _ h1,h2⟩
  .exact .inr ⟨b,len,E,c,x.envb _ _ _ h1,x.shape _ _ h2,h3⟩
 | .ptr n off,v,q,h=>by simp only[ax] at h ⊢;obtain⟨b,len,h1,h2⟩:=h;exact⟨b,len,x.envb _ _ _ h1,h2⟩
 | .eptr n sz i off,v,q,h=>by simp only[ax] at h ⊢;obtain⟨b,len,h1,h2⟩:=h;exact⟨b,len,x.envb _ _ _ h1,h2⟩
 | .dptr t d off,v,q,h=>by
  simp only[ax] at h ⊢;obtain⟨b,o,h1,h2,h3⟩:=h;exact⟨b,o,h1,x.imm _ h2,jM x.imm x.keep t _ _ _ _ (λj _=>x.keep _ _ h2) h3⟩
 | .nilp,v,q,h=>by simp only[ax] at h ⊢;exact h
 | .fn f caps,v,q,h=>by simp only[ax] at h ⊢;obtain⟨vs,h1,h2⟩:=h;exact⟨vs,h1,BY x caps _ q h2⟩
 | .agg cs,v,q,h=>by simp only[ax] at h ⊢;obtain⟨vs,h1,h2⟩:=h;exact⟨vs,h1,BY x cs _ q h2⟩
 | .tup cs,v,q,h=>by simp only[ax] at h ⊢;obtain⟨vs,h1,h2⟩:=h;exact⟨vs,h1,BY x cs _ q h2⟩
 | .opt b s,v,q,h=>by
  cases b with
  | true=>simp only[ax] at h ⊢;exact Ga x s v q h
  | false=>simp only[ax] at h ⊢;exact h
 | .cv y,v,q,h=>by simp only[ax] at h ⊢;exact h
 | .gl g,v,q,h=>by simp only[ax] at h ⊢;exact h
 | .csl n len,v,q,h=>by simp only[ax] at h ⊢;obtain⟨b,l,h1,h2⟩:=h;exact⟨b,l,x.envb _ _ _ h1,h2⟩
 | .mapp n,v,q,h=>by simp only[ax] at h ⊢;obtain⟨b,l,h1,h2⟩:=h;exact⟨b,l,x.envb _ _ _ h1,h2⟩
 | .arr k n xs,v,q,h=>by simp only[ax] at h ⊢;exact h
 | .yld r ts cs,v,q,h=>by simp only[ax] at h ⊢;obtain⟨l,h1,h2,h3⟩:=h;rcases q with q|q;exact⟨l,h1,x.lop q _ _ h2,BY x cs _ (.inl q) h3⟩;cases q
 | .part n sz lo len,v,q,h=>by
  simp only[ax] at h ⊢;rcases h with h|⟨b,l,E,c,h1,h2,h3,h4⟩
  .exact .inl h
  .exact .inr ⟨b,l,E,c,x.envb _ _ _ h1,h2,x.shape _ _ h3,h4⟩
 | .hv i s,v,q,h=>by simp only[ax] at h ⊢;exact⟨x.envv _ _ _ h.1,h.2⟩
 | .junk,v,q,h=>by simp only[ax]
theorem BY{A A':Nat->Prop}{env env':bt}{w w':cu6}{y:Prop}(x:Ex1 y A env w A' env' w'):∀(ss:List SV)(vs:List ct8),y∨zz ss=cs8->aL A env w ss vs->aL A' env' w' ss vs
 | [],vs,q,h=>by simp only[aL] at h ⊢;exact h
 | s::ss,vs,q,h=>by
  simp only[aL] at h ⊢;obtain⟨v,r,h1,h2,h3⟩:=h;have q1:y∨s.noY=true:=q.imp id λq=>(cw4.1 q).1;have q2:y∨zz ss=true:=q.imp id λq=>(cw4.1 q).2;exact⟨v,r,h1,Ga x s v q1 h2,BY x ss r q2 h3⟩
end
theorem DA{A A':Nat->Prop}{env env':bt}{w w':cu6}(x:dQ A env w A' env' w'):∀(s:SV)(v:ct8),ax A env w s v->ax A' env' w' s v:=λs v h=>Ga x.toEx1 s v (.inl trivial) h
theorem DU{A A':Nat->Prop}{env env':bt}{w w':cu6}(x:dQ A env w A' env' w'):∀(ss:List SV)(vs:List ct8),aL A env w ss vs->aL A' env' w' ss vs:=λs v h=>BY x.toEx1 s v (.inl trivial) h
theorem kr{A:Nat->Prop}{env:bt}{w:cu6}:∀{ss:List SV}{vs:List ct8},aL A env w ss vs->V vs=V ss
 | [],vs,h=>by simp only[aL] at h;simp[h]
 | s::ss,vs,h=>by
  simp only[aL] at h;obtain⟨v,r,rfl,_,h3⟩:=h;simp[kr h3]
theorem B5{A:Nat->Prop}{env:bt}{w:cu6}:∀{ss:List SV}{vs:List ct8}(i:Nat)(s:SV) ,aL A env w ss vs->ss[i]? = cs6 s→∃ v,vs[i]? = cs6 v/\ax A env w s v
 | [],vs,i,s,h,hi=>by simp at hi
 | s0::ss,vs,i,s,h,hi=>by
  simp only[aL] at h;obtain⟨v,r,rfl,h2,h3⟩:=h;cases i with
  | zero=>simp at hi;subst hi;exact⟨v,by simp,h2⟩
  | succ i =>
   obtain⟨u,hu,hd⟩:=B5 i s h3 (by simpa using hi);exact⟨u,by simpa using hu,hd⟩
theorem vm{A:Nat->Prop}{env:bt}{w:cu6}:∀{ss tt:List SV}{vs us:List ct8},aL A env w ss vs->aL A env w tt us->aL A env w (ss++tt) (vs++us)
 | [],tt,vs,us,h,k=>by simp only[aL] at h;subst h;simpa using k
 | s::ss,tt,vs,us,h,k=>by
  simp only[aL] at h;obtain⟨v,r,rfl,h2,h3⟩:=h;simp only[kQ,aL];exact⟨v,r++us,rfl,h2,vm h3 k⟩
def SV.one:SV->Bool
 | .agg _ | .tup _ | .opt _ _ | .arr .. | .yld .. | .junk=>ct2
 | .cv (.agg _) | .cv (.tuple _)=>ct2
 | _=>cs8
theorem Js{A:Nat->Prop}{env:bt}{w:cu6}{s:SV}{v:ct8}(h:ax A env w s v)(ho:s.one=cs8):v.oneCell'=true:=by
 cases s <;> simp only[SV.one,GQ] at ho <;> simp only[ax] at h
 case int=>rw[h.1];rfl
 case bool=>rw[h];rfl
 case str=>rw[h.1];rfl
 case dsl=>obtain⟨_,⟨⟨a,rfl⟩,_⟩|⟨b,off,cap,rfl,_⟩⟩:=h <;> rfl
 case dsx=>obtain⟨_,a,rfl⟩:=h;rfl
 case nilsl=>rw[h];rfl
 case own=>rcases h with⟨_,a,rfl⟩|⟨b,len,E,c,_,_,rfl⟩ <;> rfl
 case ptr=>obtain⟨b,len,_,rfl⟩:=h;rfl
 case eptr=>obtain⟨b,len,_,_,rfl⟩:=h;rfl
 case dptr=>obtain⟨b,off,rfl,_⟩:=h;rfl
 case nilp=>rw[h];rfl
 case fn=>obtain⟨vs,rfl,_⟩:=h;rfl
 case gl=>rw[h];rfl
 case csl=>obtain⟨b,l,_,rfl⟩:=h;rfl
 case mapp=>obtain⟨b,l,_,rfl⟩:=h;rfl
 case part=>rcases h with⟨_,a,rfl⟩|⟨b,l,E,c,_,_,_,rfl⟩ <;> rfl
 case hv=>exact h.2
 case cv x=>rw[h];cases x <;> first|rfl|simp_all
def zm:List SV->Bool
 | []=>cs8
 | s::ss=>s.one&&zm ss
theorem GS{A:Nat->Prop}{env:bt}{w:cu6}:∀{ss:List SV}{vs:List ct8},aL A env w ss vs->zm ss=cs8→∀ v∈vs,v.oneCell'=cs8
 | [],vs,h,_=>by simp only[aL] at h;subst h;simp
 | s::ss,vs,h,ho=>by
  simp only[aL] at h;obtain⟨v,r,rfl,h2,h3⟩:=h;simp only[zm,fB] at ho;intro u hu;rcases dm.1 hu with rfl|hu
  .exact Js h2 ho.1
  .exact GS h3 ho.2 u hu
def SV.cells:SV->List SV
 | .agg cs=>cs
 | s=>[s]
def Hc(q:Prop)(w:cu6)(k:Nat)(vs:Array ct8)(E:ct5):Prop:=∃ fz,w.heap[k]? = cs6 (.cells vs E fz)/\(fz=(0,0)∨q/\vs.size<=fz.1)
section
variable {q:Prop} {w w':cu6} {k:Nat} {vs:Array ct8} {E:ct5}
theorem Hc.of(h:w.heap[k]? = cs6 (.cells vs E (0,0))):Hc q w k vs E:=⟨_,h,.inl rfl⟩
theorem Hc.plain(h:Hc q w k vs E)(n:¬ q):w.heap[k]? = cs6 (.cells vs E (0,0)):=by
 obtain⟨f,h,rfl|⟨h',_⟩⟩:=h
 .exact h
 .exact (n h').elim
theorem Hc.cell(h:Hc q w k vs E)(j):w.cell? ⟨k,j,ct4⟩=vs[j]? := let ⟨_,h,_⟩:=h;cy5 w k j vs E _ h
theorem Hc.lt(h:Hc q w k vs E):k<w.heap.size:=let ⟨_,h,_⟩:=h;(cu3.1 h).1
theorem Hc.mono(hk:w'.heap[k]? = w.heap[k]?)(h:Hc q w k vs E):Hc q w' k vs E:=let ⟨f,h,q⟩:=h;⟨f,hk.trans h,q⟩
theorem Hc.norec(h:Hc q w k vs E):(∀ r,w.heap[k]? ≠ cs6 (.loop r))∧∀ l,w.heap[k]? ≠ cs6 (.deferred l):=by
 have ⟨f,h,_⟩:=h;rw[h];simp
theorem Hc.shape(h:Hc q w k vs E):w.shape? k=cs6 (E,vs.size):=by
 obtain⟨f,h,_⟩:=h;unfold cv9;rw[h]
end
def uw(A:Nat->Prop)(w:cu6)(k:Nat)(len:Nat×Nat)(E:ct5)(t:CT)(xs:List t.D):Prop :=
 ∃ vs cap,Hc (t = .int .u8) w k vs E/\vs.size=len.1+cap*t.size/\V xs=len.2/\len.2<=cap/\cap<=cu5 ∧
  ∀ i (h:i<V xs),Rd A w t (λo=>vs[o]?) (len.1+i*t.size) xs[i]
def mS(A:Nat->Prop)(env:bt)(w:cu6)(k:Nat)(len:Nat×Nat):lJ->Prop
 | .cells E cs=>∃ vs,w.heap[k]? = cs6 (.cells vs E (0,0))/\aL A env w cs vs.toList
 | .row E t xs=>uw A w k len E t xs
 | .frz E t xs=>A k/\uw A w k len E t xs
 | .mp kk vk l=>∃ es clk,w.heap[k]? = cs6 (.map es clk)/\es.toList.map (λe=>(e.key,e.val))=l.map (λp=>(cA9 kk p.1,cA9 vk p.2))∧∀ p∈l,vk.has p.2
 | .ary E kk n xs=>len=(0,n)/\V xs=n∧∃ vs,w.heap[k]? = cs6 (.cells vs E (0,0))/\aL A env w (xs.map (.int kk)) vs.toList
def TQ(A:Nat->Prop)(env:bt)(w:cu6)(n:Nat):Nm->Prop
 | .un=>env n = .un
 | .dead=>True
 | .live b=>(∃ k len,env n = .blk k len/\mS A env w k len b/\(b.mut=cs8→¬ A k)) ∨
   (env n = .nil∧∃ E t,b = .row E t []∨b = .frz E t [])
variable{len:Nat×Nat}{b:lJ}
theorem mS.lt{A:Nat->Prop}{env:bt}{w:cu6}{k:Nat}(h:mS A env w k len b):k<w.heap.size:=by
 cases b with
 | cells E cs=>obtain⟨vs,h,_⟩:=h;exact (cu3.1 h).1
 | row E t xs=>obtain⟨vs,cap,h,_⟩:=h;exact h.lt
 | frz E t xs=>obtain⟨_,vs,cap,h,_⟩:=h;exact h.lt
 | mp kk vk l=>obtain⟨es,clk,h,_⟩:=h;exact (cu3.1 h).1
 | ary E kk n xs=>obtain⟨_,_,vs,h,_⟩:=h;exact (cu3.1 h).1
theorem mS.norec{A:Nat->Prop}{env:bt}{w:cu6}{k:Nat}(h:mS A env w k len b):(∀ r,w.heap[k]? ≠ cs6 (.loop r))∧∀ l,w.heap[k]? ≠ cs6 (.deferred l):=by
 cases b with
 | cells E cs=>obtain⟨vs,h,_⟩:=h;rw[h];simp
 | row E t xs=>obtain⟨vs,cap,h,_⟩:=h;exact h.norec
 | frz E t xs=>obtain⟨_,vs,cap,h,_⟩:=h;exact h.norec
 | mp kk vk l=>obtain⟨es,clk,h,_⟩:=h;rw[h];simp
 | ary E kk n xs=>obtain⟨_,_,vs,h,_⟩:=h;rw[h];simp
variable{y:Prop}
theorem Td{A A' env env' w w'}(x:Ex1 y A env w A' env' w'){k}(hk:w'.heap[k]? = w.heap[k]?)
  {E} {t} {xs} (h:uw A w k len E t xs):uw A' w' k len E t xs:=by
 have ⟨vs,cap,h,h1,h2,h3,h4,h5⟩:=h
 exact⟨vs,cap,Hc.mono hk h,h1,h2,h3,h4,λi hi=>jM x.imm x.keep t _ _ _ _ (λ_ _=>rfl) (h5 i hi)⟩
theorem am4{k:cv3}:∀{xs:Z},zz (xs.map (.int k))=cs8
 | []=>rfl
 | _::xs=>am4 (xs:=xs)
def lJ.noY:lJ->Bool
 | .cells _ cs=>zz cs
 | _=>cs8
theorem Z2{A A':Nat->Prop}{env env':bt}{w w':cu6}(x:Ex1 y A env w A' env' w'){k:Nat}(hk:w'.heap[k]? = w.heap[k]?)
  (q:y∨b.noY=cs8) (h:mS A env w k len b):mS A' env' w' k len b:=by
 cases b with
 | cells E cs=>obtain⟨vs,h,hd⟩:=h;exact⟨vs,by rw[hk];exact h,BY x _ _ q hd⟩
 | row E t xs=>exact Td x hk h
 | frz E t xs=>exact⟨x.imm _ h.1,Td x hk h.2⟩
 | mp kk vk l=>obtain⟨es,clk,h,hd⟩:=h;exact⟨es,clk,by rw[hk];exact h,hd⟩
 | ary E kk n xs=>obtain⟨hl,hn,vs,h,hd⟩:=h;exact⟨hl,hn,vs,by rw[hk];exact h,BY x _ _ (.inr am4) hd⟩
abbrev vf:=Nat->Option ((t:CT)×t.D)
structure fT where
 n:Nat->Prop
 a:Nat->Prop
 g:vf
structure Mod (w0:cu6) (N0:fT) (A:Nat->Prop) (env:bt) (h:cq) (w:cu6):Prop where
 os:w.os=w0.os
 tape:w.tape=w0.tape
 output:w.output=w0.output
 dr:w0.drawn<=w.drawn
 size:w0.heap.size<=w.heap.size
 fr:∀ k,k<w0.heap.size→¬ N0.n k->w.heap[k]? = w0.heap[k]?
 Alt:∀ b,A b->b<w.heap.size
 nm:∀ n,TQ A env w n (h n)
 own:∀ n b k l,h n = .live b->b.mut=cs8->env n = .blk k l->N0.n k∨w0.heap.size<=k
 inj:∀ n m b c k l l',h n = .live b->h m = .live c->b.mut=cs8->c.mut=cs8->env n = .blk k l->env m = .blk k l'→n=m
 fresh:∀ b,A b->N0.a b∨N0.n b∨w0.heap.size<=b
 gl:∀ g x,N0.g g=cs6 x->A g/\Rd A w x.1 (λo=>w.cell? ⟨g,o,ct4⟩) 0 x.2
structure cY (w w':cu6) (W:Nat->Prop):Prop where
 os:w'.os=w.os
 tape:w'.tape=w.tape
 output:w'.output=w.output
 dr:w.drawn<=w'.drawn
 size:w.heap.size<=w'.heap.size
 blk:∀ k,k<w.heap.size→¬ W k->w'.heap[k]? = w.heap[k]?
 shape:∀ k s,w.shape? k=cs6 s->w'.shape? k=cs6 s
theorem cY.refl(w)(W):cY w w W:=⟨rfl,rfl,rfl,dq _,dq _,λ_ _ _=>rfl,λ_ _ h=>h⟩
theorem cY.alloc(w)(o)(W):cY w (w.alloc o) W :=
 ⟨rfl,rfl,rfl,dq _,aw,λk hk _=>cH7 w o k hk,λk s hs=>by
  unfold cv9 at hs ⊢;by_cases hk:k<w.heap.size
  .rw[cH7 w o k hk];exact hs
  .rw[Array.getElem?_eq_none Y] at hs;cases hs⟩
theorem cY.drew(w)(W):cY w w.drew W:=⟨rfl,rfl,rfl,Xh _,dq _,λ_ _ _=>rfl,λ_ _ h=>h⟩
theorem cY.trans{a b c W}(h:cY a b W)(k:cY b c W):cY a c W :=
 ⟨k.os.trans h.os,k.tape.trans h.tape,k.output.trans h.output,ub h.dr k.dr,ub h.size k.size,
  λi hi hw=>(k.blk i (cF8 hi h.size) hw).trans (h.blk i hi hw),λi s hs=>k.shape i s (h.shape i s hs)⟩
theorem cY.mono{w w'}{W W':Nat->Prop}(h:cY w w' W)(hW:∀ k,W k->W' k):cY w w' W' :=
 ⟨h.os,h.tape,h.output,h.dr,h.size,λk hk hw=>h.blk k hk (λx=>hw (hW k x)),h.shape⟩
def KU(ns:Nat->Prop)(env:bt)(h:cq)(w:cu6)(k:Nat):Prop :=
 w.heap.size<=k∨∃ m b l,ns m/\h m = .live b/\b.mut=cs8/\env m = .blk k l
structure mH (ns:Nat->Prop) (W:Nat->Prop) (A:Nat->Prop) (env:bt) (h:cq) (w:cu6) (A':Nat->Prop) (env':bt) (h':cq) (w':cu6):Prop where
 c:cY w w' W
 hW:∀ k,W k→∃ m b l,ns m/\h m = .live b/\b.mut=cs8/\env m = .blk k l
 hA:∀ b,A b->A' b
 hA':∀ b,A' b->A b∨(KU ns env h w b/\b<w'.heap.size)
 he:∀ n,¬ ns n->env' n=env n
 he':∀ n,env n ≠ .un->env' n=env n
 hh:∀ n,¬ ns n->h' n=h n
 hn:∀ n,ns n->TQ A' env' w' n (h' n)
 hs:∀ n b k l,ns n->h' n = .live b->b.mut=cs8->env' n = .blk k l->KU ns env h w k
 hi:∀ n m b c k l l',ns n->ns m->h' n = .live b->h' m = .live c->b.mut=cs8->c.mut=cs8->env' n = .blk k l->env' m = .blk k l'→n=m
section
variable {w0:cu6} {N0:fT} {A A':Nat->Prop} {env env':bt} {h h':cq} {w w':cu6} {ns W:Nat->Prop}
theorem Mod.live_blk(m:Mod w0 N0 A env h w){n:Nat}{b:lJ}{k:Nat}{l:Nat×Nat}(hl:h n = .live b)(he:env n = .blk k l):mS A env w k l b/\(b.mut=cs8→¬ A k):=by
 have:=m.nm n
 rw[hl] at this
 obtain⟨k',l',e,hb,hA⟩|⟨e,_⟩:=this
 .rw[he] at e;cases e;exact⟨hb,hA⟩
 .rw[he] at e;cases e
theorem Mod.xt(m:Mod w0 N0 A env h w)(c:cY w w' W)(hW:∀ k,W k→∃ n b l,h n = .live b/\b.mut=cs8/\env n = .blk k l)(he:∀ n,env n ≠ .un->env' n=env n):dQ A env w A env' w':=by
 refine⟨⟨λ_ h=>h,λn b l e=>by rw[he n (by rw[e];simp)];exact e,λn e=>by rw[he n (by rw[e];simp)];exact e,λn v s e=>by rw[he n (by rw[e];simp)];exact e,λb o hb=>?_,c.shape,λ_ k r e=>?_⟩,λk e=>?_⟩
 .refine cO2 (a:=⟨b,o,ct4⟩) (c.blk b (m.Alt b hb) λhw=>?_);have ⟨n,bb,l,hl,hm,hk⟩:=hW b hw;exact (m.live_blk hl hk).2 hm hb
 .rw[c.blk k (cu3.1 e).1 λhw=>?_]
  .exact e
  .have ⟨n,bb,l,hl,hm,hk⟩:=hW k hw;exact (m.live_blk hl hk).1.norec.1 _ e
 .rw[c.blk k (cu3.1 e).1 λhw=>?_]
  .exact e
  .have ⟨n,bb,l,hl,hm,hk⟩:=hW k hw;exact (m.live_blk hl hk).1.norec.2 _ e
theorem Mod.ext(m:Mod w0 N0 A env h w)(u:mH ns W A env h w A' env' h' w'):dQ A env w A' env' w' :=
 have x:=m.xt u.c (λk hk=>let ⟨n,b,l,_,h1,h2,h3⟩:=u.hW k hk;⟨n,b,l,h1,h2,h3⟩) u.he'
 ⟨⟨u.hA,x.envb,x.envn,x.envv,x.keep,x.shape,x.lop⟩,x.dfo⟩
theorem Mod.upd(m:Mod w0 N0 A env h w)(u:mH ns W A env h w A' env' h' w'):Mod w0 N0 A' env' h' w':=by
 have x:=m.ext u
 have old:∀ n b k l,¬ ns n->h n = .live b->b.mut=cs8->env n = .blk k l→¬ KU ns env h w k:=by
  intro n b k l hn hl hm he hs;have hlt:=(m.live_blk hl he).1.lt;rcases hs with hs|⟨mm,bb,l',hmm,hl',hm',he'⟩
  .omega
  .exact hn (m.inj n mm b bb k l l' hl hl' hm hm' he he'▸hmm)
 refine⟨u.c.os.trans m.os,u.c.tape.trans m.tape,u.c.output.trans m.output,ub m.dr u.c.dr,ub m.size u.c.size,?_,?_,?_,?_,?_,?_,?_⟩
 .intro k hk hN;by_cases hW:W k
  .obtain⟨mm,b,l,_,hl,hm,he⟩:=u.hW k hW;rcases m.own mm b k l hl hm he with h1|h1
   .exact absurd h1 hN
   .omega
  .rw[u.c.blk k (cF8 hk m.size) hW];exact m.fr k hk hN
 .intro b hb;rcases u.hA' b hb with h1|⟨_,h1⟩
  .exact cF8 (m.Alt b h1) u.c.size
  .exact h1
 .intro n;by_cases hn:ns n
  .exact u.hn n hn
  .rw[u.hh n hn];have:=m.nm n;cases hl:h n with
   | un=>rw[hl] at this;simp only[TQ] at this ⊢;rw[u.he n hn];exact this
   | dead=>trivial
   | live b =>
    rw[hl] at this;rcases this with⟨k,l,e,hb,hA⟩|⟨e,hb⟩
    .refine .inl ⟨k,l,by rw[u.he n hn];exact e,?_,?_⟩
     .refine Z2 x.toEx1 ?_ (.inl trivial) hb;by_cases hW:W k
      .cases hm:b.mut with
       | true =>
        obtain⟨mm,bb,l',hmm,hl',hm',he'⟩:=u.hW k hW;exact absurd (.inr ⟨mm,bb,l',hmm,hl',hm',he'⟩) (old n b k l hn hl hm e)
       | false =>
        obtain⟨mm,bb,l',hmm,hl',hm',he'⟩:=u.hW k hW;cases b with
        | frz E t xs=>exact absurd hb.1 ((m.live_blk hl' he').2 hm')
        | cells E cs=>cases hm
        | row E t xs=>cases hm
        | mp kk vk l=>cases hm
        | ary E kk n xs=>cases hm
      .exact u.c.blk k hb.lt hW
     .intro hm hA';rcases u.hA' k hA' with h1|⟨h1,_⟩
      .exact hA hm h1
      .exact old n b k l hn hl hm e h1
    .exact .inr ⟨by rw[u.he n hn];exact e,hb⟩
 .intro n b k l hl hm he;by_cases hn:ns n
  .rcases u.hs n b k l hn hl hm he with h1|⟨mm,bb,l',hmm,hl',hm',he'⟩
   .exact .inr (ub m.size h1)
   .exact m.own mm bb k l' hl' hm' he'
  .rw[u.hh n hn] at hl;rw[u.he n hn] at he;exact m.own n b k l hl hm he
 .intro n n' b c k l l' hl hl' hm hm' he he';by_cases hn:ns n <;> by_cases hn':ns n'
  .exact u.hi n n' b c k l l' hn hn' hl hl' hm hm' he he'
  .rw[u.hh n' hn'] at hl';rw[u.he n' hn'] at he';exact absurd (u.hs n b k l hn hl hm he) (old n' c k l' hn' hl' hm' he')
  .rw[u.hh n hn] at hl;rw[u.he n hn] at he;exact absurd (u.hs n' c k l' hn' hl' hm' he') (old n b k l hn hl hm he)
  .rw[u.hh n hn] at hl;rw[u.he n hn] at he;rw[u.hh n' hn'] at hl';rw[u.he n' hn'] at he';exact m.inj n n' b c k l l' hl hl' hm hm' he he'
 .intro b hb;rcases u.hA' b hb with h1|⟨h1|⟨mm,bb,l',hmm,hl',hm',he'⟩,_⟩
  .exact m.fresh b h1
  .exact .inr (.inr (ub m.size h1))
  .exact .inr (m.own mm bb b l' hl' hm' he')
 .intro g y hg;obtain⟨h1,h2⟩:=m.gl g y hg;exact⟨u.hA g h1,jM x.imm x.keep _ _ _ _ _ (λj _=>x.keep g _ h1) h2⟩
theorem mH.none(c:cY w w' λ_=>False):mH (λ_=>False) (λ_=>False) A env h w A env h w' :=
 ⟨c,λ_ h=>h.elim,λ_ h=>h,λ_ h=>.inl h,λ_ _=>rfl,λ_ _=>rfl,λ_ _=>rfl,λ_ h=>h.elim,λ_ _ _ _ h=>h.elim,λ_ _ _ _ _ _ _ h=>h.elim⟩
end
def xD:Obj->Bool
 | .loop _=>cs8
 | .deferred _=>cs8
 | _=>ct2
section
variable {w0:cu6} {N0:fT} {A:Nat->Prop} {env:bt} {h:cq} {w:cu6} {k:Nat} {o o':Obj}
theorem b57(hk:w.heap[k]? = cs6 o)(ho:xD o=cs8)(ho':xD o'=cs8)(a):(w.putObj k o').cell? a=w.cell? a:=by
 by_cases e:a.block=k
 .unfold World.cell?;rw[e,cG6 (cu3.1 hk).1,hk];cases o <;> cases o' <;> simp_all[xD]
 .exact cO2 (cx0 e)
theorem E4(hk:w.heap[k]? = cs6 o)(ho:xD o=cs8)(ho':xD o'=cs8):Ex1 (∀ r,o ≠ .loop r) A env w A env (w.putObj k o'):=by
 refine⟨λ_ h=>h,λ_ _ _ h=>h,λ_ h=>h,λ_ _ _ h=>h,λb p _=>b57 hk ho ho' _,λb s e=>?_,λhl j r e=>?_⟩
 .by_cases q:b=k
  .subst q;unfold cv9 at e;rw[hk] at e;cases o <;> simp_all[xD]
  .unfold cv9 at e ⊢;rw[cx0 q];exact e
 .rw[cx0 (by rintro rfl;rw[hk] at e;cases e;exact hl _ rfl)];exact e
theorem Mod.putB(m:Mod w0 N0 A env h w)(hk:w.heap[k]? = cs6 o)(ho:xD o=cs8)(ho':xD o'=cs8)(hy:(∀ r,o ≠ .loop r)∨∀ n b,h n = .live b->b.noY=cs8){wb:cu6}(e1:wb.os=w0.os)(e2:wb.tape=w0.tape)(e3:wb.output=w0.output)(e7:wb.drawn=w0.drawn)
  (e4:wb.heap.size=w0.heap.size) (e5:∀ j,j≠k->wb.heap[j]? = w0.heap[j]?) (e6:k<w0.heap.size->wb.heap[k]? = cs6 o'):Mod wb N0 A env h (w.putObj k o'):=by
 have x:=E4 (A:=A) (env:=env) hk ho ho'
 have oth:∀ {j},j≠k->(w.putObj k o').heap[j]? = w.heap[j]? := cx0
 refine⟨m.os.trans e1.symm,m.tape.trans e2.symm,m.output.trans e3.symm,by rw[e7];exact m.dr,by simpa[e4] using m.size,λj hj hn=>?_,λb hb=>by simpa using m.Alt b hb,λn=>?_,by rw[e4];exact m.own,m.inj,by rw[e4];exact m.fresh,λg y hg=>?_⟩
 .rw[e4] at hj;by_cases q:j=k
  .subst q;rw[e6 hj];exact cG6 (cu3.1 hk).1
  .rw[oth q,e5 j q];exact m.fr j hj hn
 .have:=m.nm n;cases e:h n with
  | un=>rw[e] at this;exact this
  | dead=>trivial
  | live b =>
   rw[e] at this;obtain⟨j,l,e1,hb,hA⟩|h1:=this
   .exact .inl ⟨j,l,e1,Z2 x (oth λq=>by
     subst q;have:=hb.norec;rw[hk] at this;cases o <;> simp_all[xD]) (hy.imp id λhy=>hy n b e) hb,hA⟩
   .exact .inr h1
 .have ⟨h1,h2⟩:=m.gl g y hg;exact⟨h1,jM (λ_ h=>h) x.keep _ _ _ _ _ (λj _=>x.keep g _ h1) h2⟩
theorem Mod.put(m:Mod w0 N0 A env h w)(hk:w.heap[k]? = cs6 o)(ho:xD o=cs8)(ho':xD o'=cs8)(h0:w0.heap.size<=k)(hy:(∀ r,o ≠ .loop r)∨∀ n b,h n = .live b->b.noY=cs8):Mod w0 N0 A env h (w.putObj k o') :=
 m.putB hk ho ho' hy rfl rfl rfl rfl rfl (λ_ _=>rfl) λh=>Y
end
def cq.set(h:cq)(n:Nat)(x:Nm):cq:=λm=>if m=n then x else h m
def bt.set(e:bt)(n:Nat)(x:Ev):bt:=λm=>if m=n then x else e m
@[simp] theorem cq.set_same (h:cq) (n:Nat) (x:Nm):h.set n x n=x:=by simp[cq.set]
@[simp] theorem bt.set_same (e:bt) (n:Nat) (x:Ev):e.set n x n=x:=by simp[bt.set]
variable{n m:Nat}
theorem cq.set_other(h:cq)(x)(hm:m≠n):h.set n x m=h m:=by simp[cq.set,hm]
theorem bt.set_other(e:bt)(x)(hm:m≠n):e.set n x m=e m:=by simp[bt.set,hm]
section
variable {w0:cu6} {N0:fT} {A:Nat->Prop} {env:bt} {h:cq} {w w':cu6}
variable{n:Nat}{len:Nat×Nat}
theorem mH.fresh(m:Mod w0 N0 A env h w)(hn:h n = .un){b:lJ}{o:Obj}(hmut:b.mut=cs8)(k:Nat)(hk:w.heap.size<=k)(hA:¬ A k)
  (c:cY w w' λ_=>False) (hb:mS A (env.set n (.blk k len)) w' k len b) :
  mH (λm=>m=n) (λ_=>False) A env h w A (env.set n (.blk k len)) (h.set n (.live b)) w':=by
 have hu:env n = .un:=by have:=m.nm n;rw[hn] at this;exact this
 refine⟨c,λ_ h=>h.elim,λ_ h=>h,λ_ h=>.inl h,λm hm=>bt.set_other _ _ hm,λm hm=>?_,λm hm=>cq.set_other _ _ hm,?_,?_,?_⟩
 .exact bt.set_other _ _ (λe=>hm (e▸hu))
 .rintro _ rfl;rw[cq.set_same];exact .inl ⟨k,len,bt.set_same _ _ _,hb,λ_=>hA⟩
 .rintro _ b' k' l rfl _ _ he;rw[bt.set_same] at he;cases he;exact .inl hk
 .rintro _ _ _ _ _ _ _ rfl rfl _ _ _ _ _ _;rfl
theorem mH.write(m:Mod w0 N0 A env h w){b b':lJ}{k:Nat}(hl:h n = .live b)(hm:b.mut=cs8)(he:env n = .blk k len)
  (c:cY w w' λj=>j=k) (hb:mS A env w' k len b') (hm':b'.mut=cs8) :
  mH (λm=>m=n) (λj=>j=k) A env h w A env (h.set n (.live b')) w':=by
 refine⟨c,?_,λ_ h=>h,λ_ h=>.inl h,λm _=>rfl,λm hm=>rfl,λm hm=>cq.set_other _ _ hm,?_,?_,?_⟩
 .rintro _ rfl;exact⟨n,b,len,rfl,hl,hm,he⟩
 .rintro _ rfl;rw[cq.set_same];exact .inl ⟨k,len,he,hb,λ_=>(m.live_blk hl he).2 hm⟩
 .rintro _ b'' k' l rfl _ _ he';rw[he] at he';cases he';exact .inr ⟨_,b,len,rfl,hl,hm,he⟩
 .rintro _ _ _ _ _ _ _ rfl rfl _ _ _ _ _ _;rfl
end
end Go.SX
namespace Go.SX
universe u v
inductive Q (α:Type u):Type u where
 | ret (a:α)
 | ask (n:Nat) (k:Nm->Q α)
 | fail
variable{α:Type u}
def Q.run(h:cq):Q α->Option (α×List Nat)
 | .ret a=>cs6 (a,[])
 | .ask n k=>match (k (h n)).run h with
  | some (a,r)=>cs6 (a,n::r)
  | none=>ct4
 | .fail=>ct4
variable{β:Type v}
def Q.bind:Q α->(α->Q β)->Q β
 | .ret a,f=>f a
 | .ask n k,f => .ask n λx=>(k x).bind f
 | .fail,_ => .fail
theorem Q.run_bind(h:cq)(q:Q α)(f:α->Q β){b:β}{r:List Nat}(e:(q.bind f).run h=cs6 (b,r)) :
  ∃ a c r2,q.run h=cs6 (a,c)/\(f a).run h=cs6 (b,r2)/\r=c++r2:=by
 induction q generalizing r with
 | ret a=>exact⟨a,[],r,rfl,e,rfl⟩
 | ask n k ih =>
  simp only[Q.bind,Q.run] at e;cases d:((k (h n)).bind f).run h with
  | none=>rw[d] at e;cases e
  | some p =>
   rw[d] at e;obtain⟨rfl,rfl⟩:=e;obtain⟨a,c,r2,h1,h2,h3⟩:=ih (h n) (by rw[d]);exact⟨a,n::c,r2,by simp only[Q.run,h1],h2,by rw[h3];rfl⟩
 | fail=>cases e
theorem Q.run_local{α:Type u}{h d:cq}:∀(q:Q α){a:α}{r:List Nat},q.run h=cs6 (a,r)->(∀ n∈r,d n=h n)->q.run d=cs6 (a,r)
 | .ret a,b,r,e,_=>e
 | .ask n k,b,r,e,hh=>by
  simp only[Q.run] at e ⊢;cases c:(k (h n)).run h with
  | none=>rw[c] at e;cases e
  | some p =>
   rw[c] at e;obtain⟨rfl,rfl⟩:=e;rw[hh n aw,Q.run_local (k (h n)) c (λm hm=>hh m (eZ _ hm))]
def bQ:List Prop->Prop
 | []=>True
 | p::r=>p/\bQ r
theorem tf{a b}:bQ (a++b)↔bQ a/\bQ b:=by
 induction a with
 | nil=>simp[bQ]
 | cons p a ih=>simp[bQ,ih,and_assoc]
structure Qn (X:Type) where
 all:(X->Prop)->Prop
 hall:∀ k,all k→∀ x,k x
 ex:(X->Prop)->Prop
 hex:∀ k,ex k→∃ x,k x
def Qn.plain(X:Type):Qn X:=⟨λk=>∀ x,k x,λ_ h=>h,λk=>∃ x,k x,λ_ h=>h⟩
inductive Dl:Type 1 where
 | det (pre:List Prop) (v:SV) (upd:List (Nat×Nm))
 | nd (X:Type) (qn:Qn X) (pre:List Prop) (R:X->Prop) (inh:bQ pre→∃ x,R x) (v:X->SV) (upd:List (Nat×(X->Nm)))
def Dl.X:Dl->Type
 | .det .. => Unit
 | .nd X .. => X
def Dl.pre:Dl->List Prop
 | .det p .. => p
 | .nd _ _ p .. => p
def Dl.R:(d:Dl)->d.X->Prop
 | .det ..,_=>True
 | .nd _ _ _ R _ _ _,x=>R x
def Dl.val:(d:Dl)->d.X->SV
 | .det _ v _,_=>v
 | .nd _ _ _ _ _ v _,x=>v x
def dM:List (Nat×Nm)->cq->cq
 | [],h=>h
 | (n,b)::r,h=>(dM r h).set n b
def Dl.upd:(d:Dl)->d.X->List (Nat×Nm)
 | .det _ _ u,_=>u
 | .nd _ _ _ _ _ _ u,x=>u.map λp=>(p.1,p.2 x)
def Dl.wr:Dl->List Nat
 | .det _ _ u=>u.map (·.1)
 | .nd _ _ _ _ _ _ u=>u.map (·.1)
def Dl.hp(d:Dl)(x:d.X)(h:cq):cq:=dM (d.upd x) h
theorem rq{u:List (Nat×Nm)}{h:cq}{n:Nat}(a:n ∉ u.map (·.1)):dM u h n=h n:=by
 induction u with
 | nil=>rfl
 | cons p u ih =>
  simp only[f6,dm,not_or] at a;rw[dM,cq.set_other _ _ a.1,ih a.2]
theorem Dl.wr_upd(d:Dl)(x):(d.upd x).map (·.1)=d.wr:=by
 cases d with
 | det p v u=>rfl
 | nd X qn p R i v u=>simp[Dl.upd,Dl.wr,cC0]
theorem Dl.ne(d:Dl)(h:bQ d.pre):∃ x,d.R x:=by
 cases d with
 | det p v u=>exact⟨(),aQ⟩
 | nd X qn p R i v u=>exact i h
def eV(w0:cu6)(N0:fT)(A:Nat->Prop)(env:bt)(h:cq)(w:cu6)(d:Dl)(v:ct8)(w':cu6):Prop :=
 ∃ (x:d.X) (A':Nat->Prop) (env':bt),d.R x/\Mod w0 N0 A' env' (d.hp x h) w'∧dQ A env w A' env' w'∧ax A' env' w' (d.val x) v
def bK(P:cu2)(o:cA2)(a:Act)(w0:cu6)(N0:fT)(A:Nat->Prop)(env:bt)(h:cq)(w:cu6)(d:Dl):Prop :=
 ∃ v w',((cu7 a.eval o).run P w = .ok (.value v) w'∨((cu7 a.eval o).run P w = .ok .skip w'∧v=undef))/\eV w0 N0 A env h w d v w'
def Ps(k:cv3)(n:Int):Bool:=cs7 (k.min<=n)&&cs7 (n<=k.max)
theorem Wx{k n}(h:Ps k n=cs8):k.has n:=by
 simp only[Ps,fB,pJ] at h;exact h
def Bu:ct8->SV
 | .int k n=>match Ps k n with
  | true => .int k n
  | false => .cv (.int k n)
 | .bool b => .bool b
 | .slice ct4 0 0 => .nilsl
 | .pointer ct4 => .nilp
 | v => .cv v
def bm(ρ:Nat->SV):cv0->SV
 | .tmp t=>ρ t
 | .const v=>Bu v
 | .func f => .fn f []
 | .global g => .gl g
section
variable {P:cu2} {w0:cu6} {N0:fT} {A:Nat->Prop} {env:bt} {h:cq} {w:cu6} {o:cA2} {a:Act}
theorem Lo(v:ct8):ax A env w (Bu v) v:=by
 unfold Bu
 split
 next k n=>
  split
  next hb=>simp only[ax];exact⟨aQ,Wx hb⟩
  .simp only[ax]
 all_goals simp only[ax]
def FD(A:Nat->Prop)(env:bt)(w:cu6)(ρ:Nat->SV)(a:Act):Prop:=∀ i,ax A env w (ρ i) (a.tmps.getD i undef)
theorem dG{ρ:Nat->SV}(f:FD A env w ρ a)(x:cv0):ax A env w (bm ρ x) (a.eval x):=by
 cases x with
 | tmp t=>exact f t
 | const v=>exact Lo v
 | global g=>simp only[bm,ax,cU6]
 | func f=>simp only[bm,ax,cU6];exact⟨#[],rfl,by simp[aL]⟩
theorem bK.pure(m:Mod w0 N0 A env h w){pre:List Prop}{s:SV}{v:ct8}(hr:(cu7 a.eval o).run P w = .ok (.value v) w)(hd:ax A env w s v) :
  bK P o a w0 N0 A env h w (.det pre s []) :=
 ⟨v,w,.inl hr,(),A,env,aQ,m,dQ.refl,hd⟩
end
theorem IntKind.wrap_has(k:cv3)(n):k.has (k.wrap n):=wrap_within k n
theorem WD(k:cv3):k.min<=0/\0<=k.max:=by cases k <;> decide
variable{x:Int}
theorem bD5{k:cv3}(h:k.has x)(y):k.has (x.tmod y):=by
 have ⟨h1,h2⟩:=h
 have ⟨h3,h4⟩:=WD k
 have h5:=Int.natAbs_tmod x y
 have h6:=Nat.mod_le x.natAbs y.natAbs
 have h7:0<=x->0<=x.tmod y:=λb=>cE8 y b
 have h8:x<=0->x.tmod y<=0:=λb=>by
  have:=cE8 (a := -x) y Y;simp_all
 exact⟨Y,Y⟩
def gd(k:cv3)(x y:Int):Int:=k.wrap (x*2^(min (M y) k.bits))
def fm(k:cv3)(x y:Int):Int:=x.fdiv (2^(min (M y) k.bits))
def G2(k:cv3)(n:Int):Int:=bits .xor k (if k.signed then -1 else k.max) n
theorem bX8{k:cv3}(h:k.has x)(y):k.has (fm k x y):=by
 have ⟨h1,h2⟩:=h
 have ⟨h3,h4⟩:=WD k
 unfold fm
 have a:(0:Int)<2^(min (M y) k.bits):=Int.pow_pos aD
 rw[F4 _ (cQ9 a)]
 generalize (2:Int)^(min (M y) k.bits)=p at *
 obtain b|b:=cO3 0 x
 .have h5:=Int.ediv_nonneg b (cQ9 a);have h6:=Int.ediv_le_self p b;exact⟨Y,Y⟩
 .have h5:x<=x/p:=by
   refine (Int.le_ediv_iff_mul_le a).2 ?_;have:=Int.mul_le_mul_of_nonneg_left (show (1:Int)<=p from by omega) (show 0 ≤ -x from by omega);grind
  have h6:x/p<=0:=by
   have:=Int.ediv_le_ediv a b;simpa using this
  exact⟨Y,Y⟩
theorem Ot(op)(k:cv3)(x y):k.has (bits op k x y):=IntKind.wrap_has k _
end Go.SX
namespace Go.SX
def j3(k k':cv3):Bool:=match k,k' with
 | .i8,.i8 | .i16,.i16 | .i32,.i32 | .i64,.i64 | .u8,.u8 | .u16,.u16 | .u32,.u32 | .u64,.u64=>cs8
 | _,_=>ct2
theorem kI{k k'}(h:j3 k k'=cs8):k=k':=by cases k <;> cases k' <;> first|rfl|cases h
def c8(v:SV):Q Dl := .ret (.det [] v [])
def Vb(op:cL0)(k:cv3)(a b:Int):Q Dl:=match op with
 | .add=>c8 (.int k (k.wrap (a+b)))
 | .sub=>c8 (.int k (k.wrap (a-b)))
 | .mul=>c8 (.int k (k.wrap (a*b)))
 | .quo => .ret (.det [b≠0] (.int k (k.wrap (a.tdiv b))) [])
 | .rem => .ret (.det [b≠0] (.int k (a.tmod b)) [])
 | .and=>c8 (.int k (bits .and k a b))
 | .or=>c8 (.int k (bits .or k a b))
 | .xor=>c8 (.int k (bits .xor k a b))
 | .andNot=>c8 (.int k (bits .andNot k a b))
 | .eql=>c8 (.bool (cs7 (a=b)))
 | .neq=>c8 (.bool (!cs7 (a=b)))
 | .lss=>c8 (.bool (cs7 (a<b)))
 | .leq=>c8 (.bool (cs7 (a<=b)))
 | .gtr=>c8 (.bool (cs7 (b<a)))
 | .geq=>c8 (.bool (cs7 (b<=a)))
 | .shl | .shr => .fail
def Zi(op:cL0)(k:cv3)(a b:Int):Q Dl:=match op with
 | .shl => .ret (.det [0<=b] (.int k (gd k a b)) [])
 | .shr => .ret (.det [0<=b] (.int k (fm k a b)) [])
 | _ => .fail
def bu3:cL0->Bool
 | .shl | .shr=>cs8
 | _=>ct2
def pY{α:Type}:List α->Nat->Option α
 | [],_=>ct4
 | x::_,0=>cs6 x
 | _::xs,n+1=>pY xs n
theorem yi{α:Type}:∀(l:List α)(n:Nat),pY l n=l[n]?
 | [],n=>by simp[pY]
 | x::xs,0=>rfl
 | x::xs,n+1=>by simp[pY,yi xs n]
def tx(P:cu2)(t:ct5):Option Bool:=match P.underlying t with
 | some (.struct _)=>cs6 cs8
 | some (.array _ _)=>cs6 cs8
 | some _=>cs6 ct2
 | none=>ct4
def iu(P:cu2)(t:ct5):Option Nat:=match P.info? t with
 | some i=>cs6 i.size
 | none=>ct4
def pf(P:cu2)(t:ct5)(cs:List SV)(off:Nat):Option SV:=match tx P t with
 | some cs8=>match iu P t with
  | some n=>match cx6 (off+n) (V cs) with
   | true=>cs6 (.agg ((cs.drop off).take n))
   | false=>ct4
  | none=>ct4
 | some ct2=>pY cs off
 | none=>ct4
def Cm(P:cu2):Nat->ct5->SV->SV->Option Bool
 | 0,_,_,_=>ct4
 | d+1,t,x,y=>match P.underlying t,x,y with
  | some (.int _),.int k a,.int k' b=>match j3 k k' with
   | true=>cs6 (cs7 (a=b))
   | false=>ct4
  | some .bool,.bool a,.bool b=>cs6 (a == b)
  | some (.struct fs),.agg xs,.agg ys=>match P.stoodInHeld t with
   | false=>eqFs (Cm P d) fs.toList xs ys
   | true=>ct4
  | _,_,_=>ct4
 where
 eqFs (q:ct5->SV->SV->Option Bool):List cV5->List SV->List SV->Option Bool
  | [],_,_=>cs6 cs8
  | f :: fs, xs, ys => match f.name == "_" with
   | true=>ct4
   | false=>match pf P f.type xs f.offset,pf P f.type ys f.offset with
    | some x,cs6 y=>match q f.type x y,eqFs q fs xs ys with
     | some b,cs6 r=>cs6 (b&&r)
     | _,_=>ct4
    | _,_=>ct4
def P4(P:cu2)(t:ct5)(xs ys:List SV):Option Bool :=
 match P.eqGuardType P.depth t with
 | false=>Cm P 6 t (.agg xs) (.agg ys)
 | true=>ct4
def Da(op:cL0)(n:Nat):Q Dl:=match op with
 | .eql => .ret (.nd Bool (Qn.plain Bool) [] (λb=>b=cs8->n=0) (λ_=>⟨ct2,λh=>by cases h⟩) (λb=>.bool b) [])
 | .neq => .ret (.nd Bool (Qn.plain Bool) [] (λb=>b=cs8->n=0) (λ_=>⟨ct2,λh=>by cases h⟩) (λb=>.bool (!b)) [])
 | _ => .fail
def Ws(P:cu2)(op:cL0)(t:ct5)(x:SV):Q Dl:=match P.underlying t,x with
 | some (.slice _),.dsl _ xs=>Da op (V xs)
 | some (.slice _),.dsx _ xs=>Da op (V xs)
 | some (.slice _),.nilsl=>Da op 0
 | some (.slice _),.own n _ => .ask n fun
  | .live (.row _ _ xs)=>Da op (V xs)
  | .live (.frz _ _ xs)=>Da op (V xs)
  | _ => .fail
 | _,_ => .fail
def TM(P:cu2)(op:cL0)(t:ct5)(x y:SV):Q Dl:=match x,y with
 | .int k a,.int k' b=>match bu3 op with
  | true=>Zi op k a b
  | false=>match j3 k k' with
   | true=>Vb op k a b
   | false => .fail
 | .bool a,.bool b=>match P.underlying t,op with
  | some .bool,.eql=>c8 (.bool (a == b))
  | some .bool,.neq=>c8 (.bool (!(a == b)))
  | _,_ => .fail
 | .agg xs,.agg ys=>match P4 P t xs ys,op with
  | some b,.eql=>c8 (.bool b)
  | some b,.neq=>c8 (.bool (!b))
  | _,_ => .fail
 | x,.nilsl=>Ws P op t x
 | _,_ => .fail
def Q1(op:UnOp)(x:SV):Q Dl:=match op,x with
 | .not,.bool b=>c8 (.bool (!b))
 | .neg,.int k n=>c8 (.int k (k.wrap (0-n)))
 | .xor,.int k n=>c8 (.int k (G2 k n))
 | _,_ => .fail
def PW(P:cu2)(src dst:ct5)(x:SV):Q Dl:=match x,P.underlying src,P.underlying dst with
 | .int _ n,cs6 _,cs6 (.int k')=>c8 (.int k' (k'.wrap n))
 | _,_,_ => .fail
def Mq:SV->Bool
 | .cv (.tuple vs)=>vs.isEmpty
 | _=>ct2
def KC:SV->Option (Bool×Option Bool)
 | .bool x=>cs6 (x,ct4)
 | .opt g (.bool x)=>cs6 (x,cs6 g)
 | s=>match Mq s with
  | true=>cs6 (ct2,cs6 ct2)
  | false=>ct4
def IP(g:Option Bool)(c:Prop):List Prop:=match g with
 | none=>[]
 | some g=>[c->g=cs8]
def QD(c a b:SV):Q Dl:=match c,KC a,KC b with
 | .bool cb,cs6 (x,gx),cs6 (y,gy) => .ret (.det (IP gx (cb=cs8)++IP gy (cb=ct2)) (.bool (bif cb then x else y)) [])
 | _,_,_ => .fail
section
variable {P:cu2} {w0:cu6} {N0:fT} {A:Nat->Prop} {env:bt} {h:cq} {w:cu6} {o:cA2} {a:Act} {ρ:Nat->SV} {d:Dl} {r:List Nat}
theorem cE{α:Type 1}{x y:α}{r}(e:(Q.ret x).run h=cs6 (y,r)):x=y:=by
 simp only[Q.run,cy,ck] at e;exact e.1
theorem XT{s:SV}{v:ct8}{x:Bool}{g:Option Bool}(e:KC s=cs6 (x,g))(b:ax A env w s v){c:Prop}(a:bQ (IP g c))(hc:c):v = .bool x:=by
 unfold KC at e
 split at e
 .cases e;simpa only[ax] using b
 .cases e;simp only[IP,bQ,ir] at a;have:=a hc;subst this;simpa only[ax] using b
 .split at e
  .cases e;simp only[IP,bQ,ir] at a;simp_all
  .cases e
variable{x y:cv0}
theorem cn6(m:Mod w0 N0 A env h w)(f:FD A env w ρ a){c:cv0}(ho:o.op = .pick c x y)
  (e:(QD (bm ρ c) (bm ρ x) (bm ρ y)).run h=cs6 (d,r)) (b:bQ d.pre):bK P o a w0 N0 A env h w d:=by
 have g:=dG f c
 have dx:=dG f x
 have dy:=dG f y
 unfold QD at e
 split at e
 next i b1 g1 b2 g2 hc hx hy=>
  cases cE e;simp only[Dl.pre,tf] at b;rw[hc] at g;simp only[ax] at g;refine bK.pure m (v := .bool (bif i then b1 else b2)) ?_ (by simp only[ax]);unfold cu7;rw[ho];simp only[g,asBool,cu4,cu9,cu0];cases i with
  | true=>simp;rw[XT hx dx b.1 rfl]
  | false=>simp;rw[XT hy dy b.2 rfl]
 .cases e
theorem Q3(a)(t)(x y)(k)(u v)(r)
  (hr:(cL1 a t (.int k u) (.int k v)).run P w = .ok r w) :
  ((do cN7 a t x y (.int k u) (.int k v);cL1 a t (.int k u) (.int k v):Sem ct8).run P w) = .ok r w:=by
 rw[cO4]
 simpa using hr
variable{t:ct5}
theorem FI{b}(h:tx P t=cs6 b)(w):(isAgg t).run P w = .ok b w:=by
 unfold tx at h
 unfold isAgg
 rw[cu4]
 cases a:P.underlying t with
 | none=>rw[a] at h;cases h
 | some d =>
  rw[run_underlying a w,cu0];rw[a] at h;cases d <;> simp at h <;> subst h <;> rfl
theorem jC{n}(h:iu P t=cs6 n)(w):(sizeOf t).run P w = .ok n w:=by
 unfold iu at h
 cases a:P.info? t with
 | none=>rw[a] at h;cases h
 | some i =>
  rw[a] at h;simp at h;simp[sizeOf,typeInfo,a,h]
theorem Eh{a:List SV}{vs:List ct8}(n:Nat)(h:aL A env w a vs):aL A env w (a.drop n) (vs.drop n):=by
 induction n generalizing a vs with
 | zero=>simpa using h
 | succ n ih =>
  cases a with
  | nil=>simp only[aL] at h;subst h;simp[aL]
  | cons s a =>
   simp only[aL] at h;grind
theorem Eb{a:List SV}{vs:List ct8}(n:Nat)(h:aL A env w a vs):aL A env w (a.take n) (vs.take n):=by
 induction n generalizing a vs with
 | zero=>simp[aL]
 | succ n ih =>
  cases a with
  | nil=>simp only[aL] at h;subst h;simp[aL]
  | cons s a =>
   simp only[aL] at h;simp only[List.take_succ_cons,aL];grind
theorem KS{cs:List SV}{off:Nat}{s:SV}{vs:Array ct8}(e:pf P t cs off=cs6 s)(d:aL A env w cs vs.toList) :
  ∃ v,(part t vs off).run P w = .ok v w/\ax A env w s v:=by
 unfold pf at e
 split at e
 next a=>
  split at e
  .rename_i n hn;split at e
   .rename_i hle;cases e;refine⟨.agg (vs.extract off (off+n)),?_,?_⟩
    .unfold part;simp[cu4,FI a w,jC hn w]
    .simp only[ax];have:=Eb n (Eh off d);simp_all
   .cases e
  .cases e
 next a=>
  rw[yi] at e;have ⟨v,hv,b⟩:=B5 _ _ d e;refine⟨v,?_,b⟩;have c:vs[off]? = cs6 v:=by rw[← rz];exact hv
  unfold part;simp[cu4,FI a w,c]
 .cases e
theorem VS{q:ct5->SV->SV->Option Bool}{n:Nat}(hq:∀ t x y b u v,q t x y=cs6 b->ax A env w x u->ax A env w y v->(cJ0 n t u v).run P w = .ok b w) :
  ∀(fs:List cV5)(xs ys:List SV)(us vs:Array ct8)(b:Bool),Cm.eqFs P q fs xs ys=cs6 b->aL A env w xs us.toList->aL A env w ys vs.toList →
   (cR0 n us vs fs).run P w = .ok b w
 | [],xs,ys,us,vs,b,e,_,_=>by simp only[Cm.eqFs] at e;cases e;simp[cR0]
 | f::fs,xs,ys,us,vs,b,e,hx,hy=>by
  simp only[Cm.eqFs] at e;split at e
  .cases e
  ·rename_i hname;have hne : f.name ≠ "_" := by simpa using hname
   split at e
   .rename_i x y h1 h2;split at e
    next b1 r hb hr=>cases e;obtain⟨u,p1,d1⟩:=KS h1 hx;obtain⟨v,p2,d2⟩:=KS h2 hy;have ih:=VS hq fs xs ys us vs r hr hx hy;have hk:=hq _ _ _ _ _ _ hb d1 d2;simp only[cR0,hne,ne_eq,not_false_eq_true,if_true,cu4,p1,p2,cu0,hk];cases b1 <;> simp[ih]
    .cases e
   .cases e
theorem US:∀(d:Nat)(n:Nat)(t:ct5)(x y:SV)(b:Bool)(u v:ct8),d<=n->Cm P d t x y=cs6 b->ax A env w x u->ax A env w y v->(cJ0 n t u v).run P w = .ok b w
 | 0,n,t,x,y,b,u,v,_,e,_,_=>by simp only[Cm] at e;cases e
 | d+1,0,t,x,y,b,u,v,hn,_,_,_=>by omega
 | d+1,n+1,t,x,y,b,u,v,hn,e,hx,hy=>by
  simp only[Cm] at e;split at e
  .rename_i k0 k1 a1 k2 a2 hu;split at e
   next hk=>cases e;cases kI hk;simp only[ax] at hx hy;rw[hx.1,hy.1,run_equalIn_int w n t k1 k0 a1 a2 hu];congr 1
   .cases e
  next a1 a2 hu=>cases e;simp only[ax] at hx hy;rw[hx,hy,run_equalIn_bool' w n t a1 a2 hu]
  .rename_i fs xs ys hu;split at e
   .rename_i hs;simp only[ax] at hx hy;obtain⟨us,rfl,hx⟩:=hx;obtain⟨vs,rfl,hy⟩:=hy;have hfo:P.underlying t=cs6 (.struct (P.fieldsOf t)):=by simp[cQ5,hu]
    have hff:P.fieldsOf t=fs:=by simp[cQ5,hu]
    rw[run_equalIn_struct w n t us vs hfo hs,hff];exact VS (λt' x' y' b' u' v' h1 h2 h3=>US d n t' x' y' b' u' v' (by omega) h1 h2 h3) _ _ _ _ _ _ e hx hy
   .cases e
  .cases e
theorem aO2(m:Mod w0 N0 A env h w)(f:FD A env w ρ a){op:cL0}{yt:ct5}(ho:o.op = .binOp op t x y yt)
  (e:(TM P op t (bm ρ x) (bm ρ y)).run h=cs6 (d,r)) (hp:bQ d.pre):bK P o a w0 N0 A env h w d:=by
 have dx:=dG f x
 have dy:=dG f y
 have go:∀(v:ct8),((do cN7 op t x y (a.eval x) (a.eval y);cL1 op t (a.eval x) (a.eval y):Sem ct8).run P w) = .ok v w →
   (cu7 a.eval o).run P w = .ok (.value v) w:=by
  intro v hv;unfold cu7;rw[ho];simp only[cu4,cu9] at hv ⊢;rw[hv];rfl
 unfold TM at e
 split at e
 next k u k' v hx hy=>
  rw[hx] at dx;rw[hy] at dy;simp only[ax] at dx dy;rw[dx.1,dy.1] at go;split at e
  .unfold Zi at e;split at e
   .cases cE e;simp only[Dl.pre,bQ,ir] at hp;refine bK.pure m (go _ ?_) (s := .int k (gd k u v)) (v := .int k (gd k u v)) (by simp only[ax];exact⟨trivial,IntKind.wrap_has _ _⟩);rw[cO4,binOp_shl];have hn:¬ v<0:=by omega
    simp[Op.shift,hn,gd]
   .cases cE e;simp only[Dl.pre,bQ,ir] at hp;refine bK.pure m (go _ ?_) (s := .int k (fm k u v)) (v := .int k (fm k u v)) (by simp only[ax];exact⟨trivial,bX8 dx.2 v⟩);rw[cO4,binOp_shr];have hn:¬ v<0:=by omega
    simp[Op.shift,hn,fm]
   .cases e
  .split at e
   .rename_i hk;cases kI hk;unfold Vb c8 at e;have eqd:∀ u v:Int,(u == v)=cs7 (u=v):=λu v=>by rw[AR];simp
    by_cases h1:op = .eql
    .subst h1;simp only at e;cases cE e;refine bK.pure m (go (.bool (cs7 (u=v))) ?_) (by simp only[ax]);exact Q3 _ _ _ _ _ _ _ _ (by rw[binOp_eql,eqd];rfl)
    by_cases h2:op = .neq
    .subst h2;simp only at e;cases cE e;refine bK.pure m (go (.bool (!cs7 (u=v))) ?_) (by simp only[ax]);exact Q3 _ _ _ _ _ _ _ _ (by rw[binOp_neq,bne,eqd];rfl)
    cases op <;> simp only at e <;> first
     | (exfalso;exact h1 rfl)
     | (exfalso;exact h2 rfl)
     | (cases cE e
        simp only[Dl.pre,bQ,ir] at hp;refine bK.pure m (go _ ?_) (by simp only[ax];first|exact⟨rfl,IntKind.wrap_has _ _⟩|exact⟨rfl,Ot _ _ _ _⟩|exact⟨rfl,bD5 dx.2 _⟩|rfl);refine Q3 _ _ _ _ _ _ _ _ ?_
        first
         | (simp[cL1,cY2];done)
         | (simp[cL1,Op.intDiv,hp];done)
         | (simp only[binOp_and,binOp_or,binOp_xor,binOp_andNot,intBits_and,intBits_or,intBits_xor,intBits_andNot,cu9];done)
         | (simp[cL1,Op.intCmp];done))
     | cases e
   .cases e
 next u v hx hy=>
  rw[hx] at dx;rw[hy] at dy;simp only[ax] at dx dy;rw[dx,dy] at go;split at e
  next hu=>unfold c8 at e;cases cE e;refine bK.pure m (go _ ?_) (s := .bool (u == v)) (v := .bool (u == v)) (by simp only[ax]);rw[cX3];simp[run_eql_bool w t u v hu]
  next hu=>unfold c8 at e;cases cE e;refine bK.pure m (go _ ?_) (s := .bool (!(u == v))) (v := .bool (!(u == v))) (by simp only[ax]);rw[cX3];simp[run_neq_bool w t u v hu]
  .cases e
 next xs ys hx hy=>
  rw[hx] at dx;rw[hy] at dy;simp only[ax] at dx dy;obtain⟨us,eu,du⟩:=dx;obtain⟨vs,ev,dv⟩:=dy;rw[eu,ev] at go;have key:∀ b,P4 P t xs ys=cs6 b->(cJ0 10000 t (.agg us) (.agg vs)).run P w = .ok b w/\(cN7 op t x y (.agg us) (.agg vs)).run P w = .ok () w:=by
   intro b hb;unfold P4 at hb;split at hb
   next h2=>exact⟨US 6 10000 t (.agg xs) (.agg ys) b _ _ (by omega) hb (by simp only[ax];exact⟨_,rfl,du⟩) (by simp only[ax];exact⟨_,rfl,dv⟩),run_eqGuard_agg w op t x y us vs h2⟩
   .cases hb
  split at e
  next b hb=>unfold c8 at e;cases cE e;obtain⟨k1,k2⟩:=key b hb;refine bK.pure m (go _ ?_) (s := .bool b) (v := .bool b) (by simp only[ax]);simp only[cu4,k2,cu0,run_eql_struct,k1]
  next b hb=>unfold c8 at e;cases cE e;obtain⟨k1,k2⟩:=key b hb;refine bK.pure m (go _ ?_) (s := .bool (!b)) (v := .bool (!b)) (by simp only[ax]);simp only[cu4,k2,cu0,run_neq_struct,k1]
  .cases e
 next hy=>
  rw[hy] at dy;simp only[ax] at dy;rw[dy] at go;have key:∀(d:Dl)(r:List Nat)(n:Nat)(E:ct5),P.underlying t=cs6 (.slice E)->(∃ b c,a.eval x = .slice b n c)->(∀ c,a.eval x = .slice ct4 n c->n=0)->(Da op n).run h=cs6 (d,r)->bK P o a w0 N0 A env h w d:=by
   rintro d r n E hu ⟨b,c,ev⟩ hn en;have hb:b.isNone=cs8->n=0:=λhb=>by
    cases b with
    | none=>exact hn c ev
    | some _=>cases hb
   have heq:(cJ0 10000 t (.slice b n c) (.slice ct4 0 0)).run P w = .ok b.isNone w:=by
    unfold cJ0;simp only[cu4,run_underlying hu,cu0];cases b <;> simp
   have hg:(cN7 op t x y (.slice b n c) (.slice ct4 0 0)).run P w = .ok () w:=by
    unfold cN7;split <;> simp
   unfold Da at en;split at en
   .cases cE en;refine⟨.bool b.isNone,w,.inl (go _ ?_),b.isNone,A,env,hb,m,dQ.refl,by simp only[Dl.val,ax]⟩;rw[ev];simp only[cu4,hg,cu0];simp[cL1,Op.equal,cY3,heq]
   .cases cE en;refine⟨.bool (!b.isNone),w,.inl (go _ ?_),b.isNone,A,env,hb,m,dQ.refl,by simp only[Dl.val,ax]⟩;rw[ev];simp only[cu4,hg,cu0];simp[cL1,Op.equal,cY3,heq]
   .cases en
  have data:∀{u:CT}{xs:List u.D},wF A w u (a.eval x) xs->(∃ b c,a.eval x = .slice b (V xs) c)/\(∀ c,a.eval x = .slice ct4 (V xs) c->V xs=0):=by
   rintro u xs ⟨_,⟨⟨q,e1⟩,rfl⟩|⟨b,off,cap,e1,_⟩⟩
   .exact⟨⟨q,0,e1⟩,λ_ _=>rfl⟩
   .exact⟨⟨_,_,e1⟩,λc e2=>by rw[e1] at e2;cases e2⟩
  unfold Ws at e;split at e
  next E u xs hu hx=>rw[hx] at dx;simp only[ax] at dx;exact key _ _ _ E hu (data dx).1 (data dx).2 e
  next E u xs hu hx=>rw[hx] at dx;simp only[ax] at dx;exact key _ _ _ E hu (data dx.1).1 (data dx.1).2 e
  next E hu hx=>rw[hx] at dx;simp only[ax] at dx;exact key _ _ 0 E hu ⟨ct4,0,dx⟩ (λ_ _=>rfl) e
  .rename_i E n sz hu hx;rw[hx] at dx;simp only[ax] at dx;simp only[Q.run] at e;split at e
   .rename_i p q hk;simp only[cy,ck] at e;obtain⟨rfl,rfl⟩:=e;have own:∀{b:lJ}{u:CT}{xs:List u.D}{E':ct5},h n = .live b->(b = .row E' u xs∨b = .frz E' u xs)->(∃ b c,a.eval x = .slice b (V xs) c)/\(∀ c,a.eval x = .slice ct4 (V xs) c->V xs=0):=by
     intro b u xs E' hl hb;rcases dx with⟨hnil,pa,ev⟩|⟨k,len,E2,c,hk2,hsh,ev⟩
     .have hx0:xs=[]:=by
       have:=m.nm n;rw[hl] at this;rcases this with⟨k',l',he',_⟩|⟨_,E3,t3,hb3⟩
       .rw[hnil] at he';cases he'
       .rcases hb with rfl|rfl <;> rcases hb3 with hb3|hb3 <;> cases hb3 <;> rfl
      subst hx0;exact⟨⟨pa,0,ev⟩,λ_ _=>rfl⟩
     .have hlen:V xs=len.2:=by
       have:=(m.live_blk hl hk2).1;rcases hb with rfl|rfl
       .obtain⟨_,_,_,_,h3,_⟩:=this;exact h3
       .obtain⟨_,_,_,_,_,h3,_⟩:=this;exact h3
      exact⟨⟨_,_,by rw[hlen];exact ev⟩,λc' e2=>by rw[ev] at e2;cases e2⟩
    split at hk
    next hl=>have:=own hl (.inl rfl);exact key _ _ _ E hu this.1 this.2 hk
    next hl=>have:=own hl (.inr rfl);exact key _ _ _ E hu this.1 this.2 hk
    .cases hk
   .cases e
  .cases e
 .cases e
theorem a87(m:Mod w0 N0 A env h w)(f:FD A env w ρ a){i:UnOp}(g:o.op = .unOp i t x)
  (e:(Q1 i (bm ρ x)).run h=cs6 (d,r)) (hp:bQ d.pre):bK P o a w0 N0 A env h w d:=by
 have c:=dG f x
 unfold Q1 c8 at e
 split at e
 next b hx=>rw[hx] at c;simp only[ax] at c;cases cE e;exact bK.pure m (v := .bool (!b)) (by unfold cu7;rw[g];simp[c,cV6]) (by simp only[ax])
 next k n hx=>rw[hx] at c;cases cE e;exact bK.pure m (v := .int k (k.wrap (0-n))) (by unfold cu7;rw[g];simp[c.1,cV6,cY2]) (by simp only[ax];exact⟨aQ,IntKind.wrap_has _ _⟩)
 next k n hx=>rw[hx] at c;cases cE e;exact bK.pure m (v := .int k (G2 k n)) (by unfold cu7;rw[g];simp only[c.1,cV6,intBits_xor,G2];rfl) (by simp only[ax];exact⟨aQ,Ot _ _ _ _⟩)
 .cases e
theorem aB0(m:Mod w0 N0 A env h w)(f:FD A env w ρ a){s:ct5}(ho:o.op = .convert s t x)
  (e:(PW P s t (bm ρ x)).run h=cs6 (d,r)) (hp:bQ d.pre):bK P o a w0 N0 A env h w d:=by
 have b:=dG f x
 unfold PW c8 at e
 split at e
 next k n dd c hx hs ht=>rw[hx] at b;cases cE e;refine bK.pure m (v := .int c (c.wrap n)) ?_ (by simp only[ax];exact⟨aQ,IntKind.wrap_has _ _⟩);unfold cu7;rw[ho];simp only[b.1,convert,cu4,run_underlying hs,run_underlying ht,cu0,Conv.intToInt,cu9]
 .cases e
end
end Go.SX
namespace Go.SX
def cS:(t:CT)->t.D->List SV
 | .int k,n=>[.int k n]
 | .bool,b=>[.bool b]
 | .str,s=>[.str s]
 | .sl t,xs=>[.dsl t xs]
 | .pair a b,d=>cS a d.1++cS b d.2
theorem zT:∀ t d,V (cS t d)=t.size
 | .int k,n=>rfl
 | .bool,b=>rfl
 | .str,s=>rfl
 | .sl t,xs=>rfl
 | .pair a b,d=>by simp[cS,CT.size,zT a d.1,zT b d.2]
theorem bW1{a b}:zm (a++b)=(zm a&&zm b):=by
 induction a with
 | nil=>rfl
 | cons x a ih=>simp[zm,ih,Bool.and_assoc]
theorem LV:∀ t d,zm (cS t d)=cs8
 | .int k,n=>rfl
 | .bool,b=>rfl
 | .str,s=>rfl
 | .sl t,xs=>rfl
 | .pair a b,d=>by simp[cS,bW1,LV a d.1,LV b d.2]
theorem BQ{A:Nat->Prop}{env:bt}{w:cu6}:∀(t:CT)(d:t.D)(cv:Nat->Option ct8)(o:Nat),Rd A w t cv o d →
  ∃ vs:List ct8,V vs=t.size/\(∀ j,j<t.size->cv (o+j)=vs[j]?)/\aL A env w (cS t d) vs
 | .int k,n,cv,o,h=>⟨[.int k n],rfl,λj hj=>by
   simp only[CT.size] at hj;have:j=0:=Y;subst this;simpa using h.1,by simp only[cS,aL,ax];exact⟨_,[],rfl,⟨rfl,h.2⟩,rfl⟩⟩
 | .bool,b,cv,o,h=>⟨[.bool b],rfl,λj hj=>by
   simp only[CT.size] at hj;have:j=0:=Y;subst this;simp only[Rd] at h;simpa using h,by simp only[cS,aL,ax];exact⟨_,[],rfl,rfl,rfl⟩⟩
 | .str,s,cv,o,h=>⟨[.string s],rfl,λj hj=>by
   simp only[CT.size] at hj;have:j=0:=Y;subst this;simpa using h.1,by simp only[cS,aL,ax];exact⟨_,[],rfl,⟨rfl,h.2⟩,rfl⟩⟩
 | .sl t,xs,cv,o,h=>by
   have ⟨v,hv,hs⟩:=xk.1 h;exact⟨[v],rfl,λj hj=>by
    simp only[CT.size] at hj;have:j=0:=Y;subst this;simpa using hv,by simp only[cS,aL,ax];exact⟨_,[],rfl,hs,rfl⟩⟩
 | .pair a b,d,cv,o,h=>by
   have ⟨us,l1,c1,d1⟩:=BQ (env:=env) a d.1 cv o h.1;have ⟨vs,l2,c2,d2⟩:=BQ (env:=env) b d.2 cv (o+a.size) h.2;refine⟨us++vs,by simp[CT.size,l1,l2],λj hj=>?_,vm d1 d2⟩;by_cases hlt:j<a.size
   .rw[c1 j hlt,nJ Y]
   .simp only[CT.size] at hj;have:=c2 (j-a.size) Y;rw[show o+a.size+(j-a.size)=o+j from by omega] at this;rw[this,pn Y,l1]
def iP(t t':CT)(xs:List t.D):Option (List t'.D):=if h:t=t' then cs6 (h▸xs) else ct4
theorem lv{t t' xs ys}(h:iP t t' xs=cs6 ys):∃ e:t=t',ys=e▸xs:=by
 unfold iP at h
 split at h
 next e=>cases h;exact⟨e,rfl⟩
 .cases h
def mB:(t:CT)->List SV->Q (t.D×List SV×List (Nat×Nm))
 | .int k,.int k' n::r=>match j3 k k' with
  | true => .ret (n,r,[])
  | false => .fail
 | .bool,.bool b::r => .ret (b,r,[])
 | .str,.str s::r => .ret (s,r,[])
 | .sl t,.dsl t' xs::r=>match iP t' t xs with
  | some ys => .ret (ys,r,[])
  | none => .fail
 | .sl t,.dsx t' xs::r=>match iP t' t xs with
  | some ys => .ret (ys,r,[])
  | none => .fail
 | .sl t,.nilsl::r => .ret ([],r,[])
 | .sl t,.own n sz::r => .ask n fun
  | .live (.row E t' xs)=>match ct7 sz t'.size,iP t' t xs with
   | true,cs6 ys => .ret (ys,r,[(n,.live (.frz E t' xs))])
   | _,_ => .fail
  | .live (.frz E t' xs)=>match ct7 sz t'.size,iP t' t xs with
   | true,cs6 ys => .ret (ys,r,[])
   | _,_ => .fail
  | _ => .fail
 | .pair a b,cs=>(mB a cs).bind λp=>(mB b p.2.1).bind λq=>.ret ((p.1,q.1),q.2.1,p.2.2++q.2.2)
 | _,_ => .fail
def iX(env:bt)(fz:List (Nat×Nm))(k:Nat):Prop:=∃ n b l,(n,b)∈fz/\env n = .blk k l
def qB(h:cq)(fz:List (Nat×Nm)):Prop:=∀ n b,(n,b)∈fz→∃ E t xs,h n = .live (.row E t xs)/\b = .live (.frz E t xs)
section
variable {w0:cu6} {N0:fT} {A A':Nat->Prop} {env:bt} {h:cq} {w:cu6}
variable{t:CT}
theorem Lf(hA:∀ b,A b->A' b){k len E xs}(hr:uw A w k len E t xs)(hk:A' k){c E'}
  (hs:w.shape? k=cs6 (E',c)):wF A' w t (.slice (cs6 ⟨k,len.1,ct4⟩) len.2 ((c-len.1)/t.size)) xs:=by
 have ⟨vs,cap,hh,h1,h2,h3,h4,h5⟩:=hr
 have hc:c=vs.size:=by
  rw[hh.shape] at hs;simp only[cy,ck] at hs;exact hs.2.symm
 have hcap:(c-len.1)/t.size=cap:=by rw[hc,h1,nW];exact sN _ t.size_pos
 rw[hcap,← h2]
 refine⟨Y,.inr ⟨k,len.1,cap,rfl,Y,h4,hk,λi hi=>?_⟩⟩
 refine jM hA (λ_ _ _=>rfl) t _ _ _ _ (λj _=>?_) (h5 i hi)
 rw[hh.cell]
theorem ag7{cv o d}(hr:Rd A w t cv o d)(n):Rd A w t (λj=>cv (j-n)) (o+n) d:=by
 have key:∀(t:CT)(cv:Nat->Option ct8)(o:Nat)(d:t.D),Rd A w t cv o d->Rd A w t (λj=>cv (j-n)) (o+n) d:=by
  intro t
  induction t with
  | pair a b iha ihb =>
   intro cv o d hh;refine⟨iha _ _ _ hh.1,?_⟩;have:=ihb _ _ _ hh.2
   rwa [show o+a.size+n=o+n+a.size from by omega] at this
  | int k=>intro cv o d hh;simpa[Rd] using hh
  | bool=>intro cv o d hh;simpa[Rd] using hh
  | str=>intro cv o d hh;simpa[Rd] using hh
  | sl t ih=>intro cv o d hh;simpa[Rd] using hh
 exact key t cv o d hr
theorem Fo{cv d}(hr:Rd A w t cv 0 d)(n):Rd A w t (λj=>cv (j-n)) (0+n) d:=ag7 hr n
theorem Ak(m:Mod w0 N0 A env h w):∀(t:CT)(cs:List SV)(vs:List ct8)(d:t.D)(rest:List SV)(fz:List (Nat×Nm))(r:List Nat),
  (mB t cs).run h=cs6 ((d,rest,fz),r)->aL A env w cs vs->(∀ b,A b->A' b)->(∀ k,iX env fz k->A' k) →
  qB h fz/\(∀ n b,(n,b)∈fz->n∈r)/\V vs=t.size+V rest/\Rd A' w t (λj=>vs[j]?) 0 d/\aL A env w rest (vs.drop t.size):=by
 intro t
 have hnil:∀{n:Nat}{b:Nm},(n,b)∈([]:List (Nat×Nm))->False:=λhh=>by simp at hh
 induction t with
 | int k =>
  intro cs vs d rest fz r e hd hA hF
  match cs with
  | .int k' n::cs => ?_
  | [] | .bool _::_ | .str _::_ | .dsl _ _::_ | .dsx _ _::_ | .nilsl::_ | .own _ _::_ | .ptr _ _::_ | .eptr _ _ _ _::_ | .dptr _ _ _::_ | .nilp::_ | .fn _ _::_ | .agg _::_ | .tup _::_ | .opt _ _::_ | .cv _::_ | .gl _::_ | .csl _ _::_ | .mapp _::_ | .arr _ _ _::_ | .part _ _ _ _::_ | .hv _ _::_ | .junk::_=>cases e
  simp only[mB] at e;split at e
  next hk=>cases kI hk;simp only[Q.run,cy,ck] at e;obtain⟨⟨rfl,rfl,rfl⟩,rfl⟩:=e;simp only[aL,ax] at hd;obtain⟨v,r,rfl,⟨rfl,hh⟩,hr⟩:=hd;have hl:=kr hr;exact⟨λ_ _ h=>(hnil h).elim,λ_ _ h=>(hnil h).elim,by simp[CT.size,hl];omega,⟨aw,hh⟩,by simpa[CT.size] using hr⟩
  .cases e
 | bool =>
  intro cs vs d rest fz r e hd hA hF
  match cs with
  | .bool n::cs => ?_
  | [] | .int _ _::_ | .str _::_ | .dsl _ _::_ | .dsx _ _::_ | .nilsl::_ | .own _ _::_ | .ptr _ _::_ | .eptr _ _ _ _::_ | .dptr _ _ _::_ | .nilp::_ | .fn _ _::_ | .agg _::_ | .tup _::_ | .opt _ _::_ | .cv _::_ | .gl _::_ | .csl _ _::_ | .mapp _::_ | .arr _ _ _::_ | .part _ _ _ _::_ | .hv _ _::_ | .junk::_=>cases e
  simp only[mB] at e;simp only[Q.run,cy,ck] at e;obtain⟨⟨rfl,rfl,rfl⟩,rfl⟩:=e;simp only[aL,ax] at hd;obtain⟨v,r,rfl,rfl,hr⟩:=hd;have hl:=kr hr;exact⟨λ_ _ h=>(hnil h).elim,λ_ _ h=>(hnil h).elim,by simp[CT.size,hl];omega,by simp[Rd],by simpa[CT.size] using hr⟩
 | str =>
  intro cs vs d rest fz r e hd hA hF
  match cs with
  | .str n::cs => ?_
  | [] | .int _ _::_ | .bool _::_ | .dsl _ _::_ | .dsx _ _::_ | .nilsl::_ | .own _ _::_ | .ptr _ _::_ | .eptr _ _ _ _::_ | .dptr _ _ _::_ | .nilp::_ | .fn _ _::_ | .agg _::_ | .tup _::_ | .opt _ _::_ | .cv _::_ | .gl _::_ | .csl _ _::_ | .mapp _::_ | .arr _ _ _::_ | .part _ _ _ _::_ | .hv _ _::_ | .junk::_=>cases e
  simp only[mB] at e;simp only[Q.run,cy,ck] at e;obtain⟨⟨rfl,rfl,rfl⟩,rfl⟩:=e;simp only[aL,ax] at hd;obtain⟨v,r,rfl,⟨rfl,hh⟩,hr⟩:=hd;have hl:=kr hr;exact⟨λ_ _ h=>(hnil h).elim,λ_ _ h=>(hnil h).elim,by simp[CT.size,hl];omega,⟨aw,hh⟩,by simpa[CT.size] using hr⟩
 | sl t ih =>
  intro cs vs d rest fz r e hd hA hF
  match cs with
  | .dsl t' xs::cs =>
   simp only[mB] at e;split at e
   next ys hc=>have ⟨et,ey⟩:=lv hc;subst et;simp only[Q.run,cy,ck] at e;obtain⟨⟨rfl,rfl,rfl⟩,rfl⟩:=e;simp only at ey;subst ey;simp only[aL,ax] at hd;obtain⟨v,r,rfl,hs,hr⟩:=hd;have hl:=kr hr;exact⟨λ_ _ h=>(hnil h).elim,λ_ _ h=>(hnil h).elim,by simp[CT.size,hl];omega,xk.2 ⟨v,aw,Ka hA (λ_ _ _=>rfl) hs⟩,by simpa[CT.size] using hr⟩
   .cases e
  | .dsx t' xs::cs =>
   simp only[mB] at e;split at e
   next ys hc=>have ⟨et,ey⟩:=lv hc;subst et;simp only[Q.run,cy,ck] at e;obtain⟨⟨rfl,rfl,rfl⟩,rfl⟩:=e;simp only at ey;subst ey;simp only[aL,ax] at hd;obtain⟨v,r,rfl,hs,hr⟩:=hd;have hl:=kr hr;exact⟨λ_ _ h=>(hnil h).elim,λ_ _ h=>(hnil h).elim,by simp[CT.size,hl];omega,xk.2 ⟨v,aw,Ka hA (λ_ _ _=>rfl) hs.1⟩,by simpa[CT.size] using hr⟩
   .cases e
  | .nilsl::cs =>
   simp only[mB] at e;simp only[Q.run,cy,ck] at e;obtain⟨⟨rfl,rfl,rfl⟩,rfl⟩:=e;simp only[aL,ax] at hd;obtain⟨v,r,rfl,rfl,hr⟩:=hd;have hl:=kr hr;exact⟨λ_ _ h=>(hnil h).elim,λ_ _ h=>(hnil h).elim,by simp[CT.size,hl];omega,xk.2 ⟨_,by simp;rfl,by simp,.inl ⟨⟨_,rfl⟩,rfl⟩⟩,by simpa[CT.size] using hr⟩
  | .own n sz::cs =>
   simp only[mB,Q.run] at e;simp only[aL,ax] at hd;obtain⟨v,r',rfl,hv,hr⟩:=hd;have hl:=kr hr;have hm:=m.nm n;split at e
   .rename_i p q hk;simp only[cy,ck] at e;obtain⟨rfl,rfl⟩:=e;split at hk
    .rename_i E t' xs hl';rw[hl'] at hm;split at hk
     .rename_i ys hsz hc;have ⟨et,ey⟩:=lv hc;subst et;simp only[Q.run,cy,ck] at hk;obtain⟨⟨rfl,rfl,rfl⟩,rfl⟩:=hk;simp only at ey;subst ey;have hsz:=bH hsz;subst hsz;refine⟨?_,?_,by simp[CT.size,hl];omega,?_,by simpa[CT.size] using hr⟩
      .intro n' b' hh;simp only[iV,ck] at hh;obtain⟨rfl,rfl⟩:=hh;exact⟨E,t',_,hl',rfl⟩
      .intro n' b' hh;simp only[iV,ck] at hh;simp[hh.1]
      .obtain⟨he,a,rfl⟩|⟨b,len,E',c,he,hs,rfl⟩:=hv
       .obtain⟨k,len,he',_⟩|⟨_,E2,t2,hb⟩:=hm
        .rw[he] at he';cases he'
        .have hx:ys=[]:=by
          obtain hb|hb:=hb <;> cases hb <;> rfl
         subst hx;exact xk.2 ⟨_,by simp;rfl,by simp,.inl ⟨⟨_,rfl⟩,rfl⟩⟩
       .obtain⟨k,len',he',hb,_⟩|⟨he',_⟩:=hm
        .rw[he] at he';cases he';exact xk.2 ⟨_,by simp,Lf hA hb (hF b ⟨n,_,len,by simp;rfl,he⟩) hs⟩
        .rw[he] at he';cases he'
     .cases hk
    .rename_i E t' xs hl';rw[hl'] at hm;split at hk
     .rename_i ys hsz hc;have ⟨et,ey⟩:=lv hc;subst et;simp only[Q.run,cy,ck] at hk;obtain⟨⟨rfl,rfl,rfl⟩,rfl⟩:=hk;simp only at ey;subst ey;have hsz:=bH hsz;subst hsz;refine⟨λ_ _ h=>(hnil h).elim,λ_ _ h=>(hnil h).elim,by simp[CT.size,hl];omega,?_,by simpa[CT.size] using hr⟩
      .obtain⟨he,a,rfl⟩|⟨b,len,E',c,he,hs,rfl⟩:=hv
       .obtain⟨k,len,he',_⟩|⟨_,E2,t2,hb⟩:=hm
        .rw[he] at he';cases he'
        .have hx:ys=[]:=by
          obtain hb|hb:=hb <;> cases hb <;> rfl
         subst hx;exact xk.2 ⟨_,by simp;rfl,by simp,.inl ⟨⟨_,rfl⟩,rfl⟩⟩
       .obtain⟨k,len',he',hb,_⟩|⟨he',_⟩:=hm
        .rw[he] at he';cases he';exact xk.2 ⟨_,aw,Lf hA hb.2 (hA _ hb.1) hs⟩
        .rw[he] at he';cases he'
     .cases hk
    .cases hk
   .cases e
  | [] | .int _ _::_ | .bool _::_ | .str _::_ | .ptr _ _::_ | .eptr _ _ _ _::_ | .dptr _ _ _::_ | .nilp::_ | .fn _ _::_ | .agg _::_ | .tup _::_ | .opt _ _::_ | .cv _::_ | .gl _::_ | .csl _ _::_ | .mapp _::_ | .arr _ _ _::_ | .part _ _ _ _::_ | .hv _ _::_ | .junk::_=>cases e
 | pair a b iha ihb =>
  intro cs vs d rest fz r e hd hA hF;simp only[mB] at e;obtain⟨⟨d1,r1,f1⟩,q1,q2,e1,e2,rfl⟩:=Q.run_bind _ _ _ e;obtain⟨⟨d2,r2,f2⟩,q3,q4,e3,e4,rfl⟩:=Q.run_bind _ _ _ e2;simp only[Q.run,cy,ck] at e4;obtain⟨⟨rfl,rfl,rfl⟩,rfl⟩:=e4;have hF1:∀ k,iX env f1 k->A' k:=λk ⟨n,x,l,hx,he⟩=>hF k ⟨n,x,l,gq _ hx,he⟩;have hF2:∀ k,iX env f2 k->A' k:=λk ⟨n,x,l,hx,he⟩=>hF k ⟨n,x,l,gU _ hx,he⟩;have ⟨o1,n1,l1,rd1,dr1⟩:=iha cs vs d1 r1 f1 q1 e1 hd hA hF1;have ⟨o2,n2,l2,rd2,dr2⟩:=ihb r1 _ d2 r2 f2 q3 e3 dr1 hA hF2;refine⟨?_,?_,?_,⟨rd1,?_⟩,?_⟩
  .intro n x hx;obtain hx|hx:=dX.1 hx
   .exact o1 n x hx
   .exact o2 n x hx
  .intro n x hx;obtain hx|hx:=dX.1 hx
   .exact gq _ (n1 n x hx)
   .exact gU _ (gq _ (n2 n x hx))
  .simp only[CT.size];simp at l2;omega
  .refine jM (λ_ h=>h) (λ_ _ _=>rfl) b _ _ _ _ (λj _=>?_) (Fo rd2 a.size);simp[An]
  .simp only[CT.size];rw[← cA1];exact dr2
end
end Go.SX
namespace Go.SX
def CJ:Option SV->Q Dl
 | some v=>c8 v
 | none => .fail
def KV(P:cu2)(s:ct5)(f:Nat):Option cV5:=match P.underlying s with
 | some (.struct fs)=>fs[f]?
 | _=>ct4
def P3(P:cu2)(s:ct5)(f:Nat)(x:SV):Q Dl:=match x,KV P s f with
 | .agg cs,cs6 fd=>CJ (pf P fd.type cs fd.offset)
 | _,_ => .fail
def Pi(i:Nat)(x:SV):Q Dl:=match x with
 | .tup cs=>CJ (pY cs i)
 | _ => .fail
def Sh(x:SV):Q Dl:=match x with
 | .ptr n o=>c8 (.ptr n o)
 | .eptr n s i o=>c8 (.eptr n s i o)
 | .dptr t d o=>c8 (.dptr t d o)
 | .fn f c=>c8 (.fn f c)
 | _ => .fail
def RM(P:cu2)(s:ct5)(f:Nat)(x:SV):Q Dl:=match KV P s f with
 | some fd=>match iu P fd.type with
  | some (_+1)=>match x with
   | .ptr n o=>c8 (.ptr n (o+fd.offset))
   | .eptr n sz i o=>c8 (.eptr n sz i (o+fd.offset))
   | .dptr t d o=>c8 (.dptr t d (o+fd.offset))
   | _ => .fail
  | _ => .fail
 | none => .fail
def Dv(P:cu2)(ty:ct5)(x:SV):Q Dl:=match x with
 | .ptr n off => .ask n fun
  | .live (.cells _ cs)=>CJ (pf P ty cs off)
  | _ => .fail
 | .eptr n sz i off => .ask n fun
  | .live (.row _ t xs)=>match ct7 sz t.size with
   | true=>CJ (pf P ty (cS t (qa t xs i)) off)
   | false => .fail
  | .live (.frz _ t xs)=>match ct7 sz t.size with
   | true=>CJ (pf P ty (cS t (qa t xs i)) off)
   | false => .fail
  | _ => .fail
 | .dptr t d off=>CJ (pf P ty (cS t d) off)
 | _ => .fail
def vH(P:cu2)(t:ct5):Option (ct5×Nat):=match P.underlying t with
 | some (.slice e)=>match iu P e with
  | some n=>cs6 (e,n)
  | none=>ct4
 | _=>ct4
def R5(P:cu2)(t:ct5)(x i:SV):Q Dl:=match i,vH P t with
 | .int _ i,cs6 (_,n)=>match x with
  | .dsl u xs=>match ct7 n u.size with
   | true => .ret (.det [0<=i,i<V xs] (.dptr u (qa u xs (M i)) 0) [])
   | false => .fail
  | .own m sz => .ask m fun
   | .live (.row _ u xs)=>match ct7 n u.size,ct7 sz u.size with
    | true,cs8 => .ret (.det [0<=i,i<V xs] (.eptr m sz (M i) 0) [])
    | _,_ => .fail
   | .live (.frz _ u xs)=>match ct7 n u.size,ct7 sz u.size with
    | true,cs8 => .ret (.det [0<=i,i<V xs] (.eptr m sz (M i) 0) [])
    | _,_ => .fail
   | _ => .fail
  | .csl m k=>match ct7 n 1,cs7 (0<=i)&&cs7 (i<k) with
   | true,cs8=>c8 (.ptr m (M i))
   | _,_ => .fail
  | .part m sz lo len=>match ct7 n sz with
   | true => .ret (.det [0<=i,i<len] (.eptr m sz (lo+M i) 0) [])
   | false => .fail
  | _ => .fail
 | _,_ => .fail
def sE(P:cu2)(t:ct5)(x:SV):Q Dl:=match P.underlying t with
 | some (.slice _)=>match x with
  | .dsl _ xs=>c8 (.int .i64 (V xs))
  | .dsx _ xs=>c8 (.int .i64 (V xs))
  | .nilsl=>c8 (.int .i64 0)
  | .own n _ => .ask n fun
   | .live (.row _ _ xs)=>c8 (.int .i64 (V xs))
   | .live (.frz _ _ xs)=>c8 (.int .i64 (V xs))
   | _ => .fail
  | .csl _ k=>match cx6 k cu5 with
   | true=>c8 (.int .i64 k)
   | false => .fail
  | .part n _ lo len => .ask n fun
   | .live (.row _ _ _)=>c8 (.int .i64 len)
   | _ => .fail
  | _ => .fail
 | _ => .fail
def Qj(x y:SV):Q Dl:=match x,y with
 | .int k a,.int k' b=>match j3 k k' with
  | true=>c8 (.int k (min a b))
  | false => .fail
 | _,_ => .fail
def QO(x y:SV):Q Dl:=match x,y with
 | .int k a,.int k' b=>match j3 k k' with
  | true=>c8 (.int k (max a b))
  | false => .fail
 | _,_ => .fail
section
variable {P:cu2} {w0:cu6} {N0:fT} {A:Nat->Prop} {env:bt} {h:cq} {w:cu6} {o:cA2} {a:Act} {ρ:Nat->SV} {d:Dl} {r:List Nat}
variable{off:Nat}
theorem Hf{t:ct5}{cs:List SV}{s:SV}{b:List ct8}{k o:Nat}(e:pf P t cs off=cs6 s)(g:aL A env w cs b)
  (hc:∀ j,j<V b->w.cell? ⟨k,o+j,ct4⟩=b[j]?) :
  ∃ v,(cP7 t ⟨k,o+off,ct4⟩).run P w = .ok v w/\ax A env w s v:=by
 unfold pf at e
 split at e
 next h=>
  split at e
  .rename_i n hn;split at e
   .rename_i c;cases e;have c:=lX c;have hl:=kr g;have d:∃ f,P.underlying t=cs6 f/\f.isRow=true:=by
     unfold tx at h;grind
    have ⟨f,hu,i⟩:=d;have hi:(P.info? t).map (·.size)=cs6 (V ((b.drop off).take n)):=by
     unfold iu at hn;grind
    refine⟨.agg ((b.drop off).take n).toArray,run_loadVar_mid w k (o+off) t _ f ?_ hu i hi,?_⟩
    .intro j v hj;grind
    .simp only[ax];exact⟨_,rfl,by simpa using Eb n (Eh off g)⟩
   .cases e
  .cases e
 next h=>rw[yi] at e;have ⟨v,hv,l⟩:=B5 _ _ g e;refine⟨v,?_,l⟩;have m:=(ct6.1 hv).1;have a:=hc off m;rw[hv] at a;simp[cP7,cu4,FI h w,a]
 .cases e
theorem DM{x}(e:(CJ x).run h=cs6 (d,r)):∃ s,x=cs6 s/\d = .det [] s []:=by
 cases x with
 | none=>cases e
 | some s=>exact⟨s,rfl,(cE e).symm⟩
variable{s:ct5}
theorem Xz{f a}(e:KV P s f=cs6 a):∃ b,P.underlying s=cs6 (.struct b)/\b[f]? = cs6 a:=by
 unfold KV at e
 grind
variable{x:cv0}{i:Nat}
theorem cf1(m:Mod w0 N0 A env h w)(f:FD A env w ρ a)(ho:o.op = .field s x i)
  (e:(P3 P s i (bm ρ x)).run h=cs6 (d,r)):bK P o a w0 N0 A env h w d:=by
 have c:=dG f x
 unfold P3 at e
 split at e
 next cs fd hx hf=>obtain⟨sv,e1,rfl⟩:=DM e;have ⟨fs,hu,b⟩:=Xz hf;rw[hx] at c;have ⟨vs,ev,dv⟩:=c;have ⟨v,hr,hd⟩:=KS e1 dv;refine bK.pure m ?_ hd;unfold cu7;rw[ho];simp[Instr.field,run_underlying hu,b,ev,asAgg,hr]
 .cases e
theorem bE4(m:Mod w0 N0 A env h w)(f:FD A env w ρ a)(ho:o.op = .extract x i)
  (e:(Pi i (bm ρ x)).run h=cs6 (d,r)):bK P o a w0 N0 A env h w d:=by
 have c:=dG f x
 unfold Pi at e
 split at e
 next cs hx=>
  obtain⟨sv,g,rfl⟩:=DM e;rw[hx] at c;have ⟨vs,ev,dv⟩:=c;rw[yi] at g;have ⟨v,hv,hd⟩:=B5 _ _ dv g;have b:vs[i]? = cs6 v:=by rw[← rz];exact hv
  refine bK.pure m ?_ hd;unfold cu7;rw[ho];simp[Instr.extract,ev,b]
 .cases e
theorem au8(m:Mod w0 N0 A env h w)(f:FD A env w ρ a)(k:o.op = .nilCheck x)
  (e:(Sh (bm ρ x)).run h=cs6 (d,r)):bK P o a w0 N0 A env h w d:=by
 have j:=dG f x
 unfold Sh c8 at e
 split at e
 next n o' hx=>cases cE e;rw[hx] at j;have g:=j;have ⟨b,l,p,ev⟩:=j;exact bK.pure m (by unfold cu7;rw[k];simp[ev]) g
 next n s i o' hx=>cases cE e;rw[hx] at j;have g:=j;have ⟨b,l,p,hl,ev⟩:=j;exact bK.pure m (by unfold cu7;rw[k];simp[ev]) g
 next t d' o' hx=>cases cE e;rw[hx] at j;have g:=j;have ⟨b,l,ev,p⟩:=j;exact bK.pure m (by unfold cu7;rw[k];simp[ev]) g
 next ff c hx=>cases cE e;rw[hx] at j;have g:=j;have ⟨vs,ev,p⟩:=j;exact bK.pure m (by unfold cu7;rw[k];simp[ev]) g
 .cases e
theorem bM6(m:Mod w0 N0 A env h w)(f:FD A env w ρ a)(ho:o.op = .fieldAddr s x i)
  (e:(RM P s i (bm ρ x)).run h=cs6 (d,r)):bK P o a w0 N0 A env h w d:=by
 have c:=dG f x
 unfold RM at e
 split at e
 next fd hf=>
  have ⟨fs,hu,g⟩:=Xz hf;split at e
  .rename_i z j;have k:∀(b off:Nat),a.eval x = .pointer (cs6 ⟨b,off,ct4⟩)->(cu7 a.eval o).run P w = .ok (.value (.pointer (cs6 ⟨b,off+fd.offset,ct4⟩))) w:=by
    intro b off ev;unfold cu7;rw[ho];simp[Instr.fieldAt,run_underlying hu,g,ev,cz1,fieldPlace,jC j,cv5]
   split at e
   next n o' hx=>cases cE e;rw[hx] at c;have ⟨b,l,p,ev⟩:=c;exact bK.pure m (k b o' ev) (by simp only[ax];exact⟨b,l,p,rfl⟩)
   next n s' i' o' hx=>cases cE e;rw[hx] at c;have ⟨b,l,p,hl,ev⟩:=c;exact bK.pure m (k b _ ev) (by simp only[ax];exact⟨b,l,p,hl,by rw[jv,jv]⟩)
   next t d' o' hx=>cases cE e;rw[hx] at c;have ⟨b,l,ev,hA,hr⟩:=c;exact bK.pure m (k b _ ev) (by simp only[ax];exact⟨b,l,by rw[jv],hA,hr⟩)
   .cases e
  .cases e
 .cases e
variable{t:CT}
theorem Pw{xs}(hi):qa t xs i=xs[i]:=by
 simp[qa,cK,hi]
theorem Hb{k len E xs}(hr:uw A w k len E t xs)(hi:i<len.2) :
  Rd A w t (λo=>w.cell? ⟨k,o,ct4⟩) (len.1+i*t.size) (qa t xs i):=by
 have ⟨vs,cap,hh,h1,h2,h3,h4,h5⟩:=hr
 rw[Pw (by omega:i<V xs)]
 refine jM (λ_ h=>h) (λ_ _ _=>rfl) t _ _ _ _ (λj _=>?_) (h5 i Y)
 rw[hh.cell]
variable{ty:ct5}
theorem PH{a:t.D}{k b:Nat}{s:SV}(hr:Rd A w t (λo=>w.cell? ⟨k,o,ct4⟩) b a)(e:pf P ty (cS t a) off=cs6 s) :
  ∃ v,(cP7 ty ⟨k,b+off,ct4⟩).run P w = .ok v w/\ax A env w s v:=by
 obtain⟨us,hl,hc,hd⟩:=BQ t a _ b hr
 exact Hf e hd (λj hj=>hc j Y)
theorem Kx(m:Mod w0 N0 A env h w)(φ:cv0->SV)(k:ax A env w (φ x) (a.eval x))(ho:o.op = .load ty x)
  (e:(Dv P ty (φ x)).run h=cs6 (d,r)):bK P o a w0 N0 A env h w d:=by
 have y:∀{b off:Nat}{v:ct8},a.eval x = .pointer (cs6 ⟨b,off,ct4⟩)->(cP7 ty ⟨b,off,ct4⟩).run P w = .ok v w->(cu7 a.eval o).run P w = .ok (.value v) w:=by
  intro b off v ev f;unfold cu7;rw[ho];simp only[ev,cU7,cz1,cu4,cu9,cu0,f]
 unfold Dv at e
 split at e
 next n off hx=>
  rw[hx] at k;have ⟨b,l,z,ev⟩:=k;simp only[Q.run] at e;split at e
  .rename_i p q hk;obtain⟨rfl,rfl⟩:=e;split at hk
   next E cs hl=>obtain⟨s,g,rfl⟩:=DM hk;have ⟨⟨vs,hh,hd⟩,_⟩:=m.live_blk hl z;obtain⟨v,f,hv⟩:=Hf (o:=0) g hd (λj hj=>by rw[cy5 w b _ vs E (0,0) hh];simp);rw[gD] at f;exact bK.pure m (y ev f) hv
   .cases hk
  .cases e
 next n sz i off hx=>
  rw[hx] at k;have ⟨b,l,z,u,ev⟩:=k;simp only[Q.run] at e;split at e
  .rename_i p q hk;obtain⟨rfl,rfl⟩:=e;split at hk
   .rename_i E t xs hl;split at hk
    next c=>have c:=bH c;subst c;obtain⟨s,g,rfl⟩:=DM hk;obtain⟨v,f,hv⟩:=PH (Hb (m.live_blk hl z).1 u) g;rw[jv] at f;exact bK.pure m (y ev f) hv
    .cases hk
   .rename_i E t xs hl;split at hk
    next c=>have c:=bH c;subst c;obtain⟨s,g,rfl⟩:=DM hk;obtain⟨v,f,hv⟩:=PH (Hb (m.live_blk hl z).1.2 u) g;rw[jv] at f;exact bK.pure m (y ev f) hv
    .cases hk
   .cases hk
  .cases e
 next t d' off hx=>rw[hx] at k;have ⟨b,l,ev,hA,f⟩:=k;obtain⟨s,g,rfl⟩:=DM e;obtain⟨v,f,hv⟩:=PH f g;exact bK.pure m (y ev f) hv
 .cases e
variable{t:ct5}{n:Nat}
theorem AD{e}(hh:vH P t=cs6 (e,n)):P.underlying t=cs6 (.slice e)/\iu P e=cs6 n:=by
 unfold vH at hh
 grind
theorem bW2(m:Mod w0 N0 A env h w)(f:FD A env w ρ a){i:cv0}(ho:o.op = .indexAddr t x i)
  (e:(R5 P t (bm ρ x) (bm ρ i)).run h=cs6 (d,r)) (hp:bQ d.pre):bK P o a w0 N0 A env h w d:=by
 have dx:=dG f x
 have di:=dG f i
 unfold R5 at e
 split at e
 next k iv E n hi he=>
  have ⟨hu,hn⟩:=AD he;rw[hi] at di;simp only[ax] at di;have go:∀{b off len cap:Nat},a.eval x = .slice (cs6 ⟨b,off,ct4⟩) len cap->0<=iv->iv<len →
    (cu7 a.eval o).run P w = .ok (.value (.pointer (cs6 ⟨b,off+M iv*n,ct4⟩))) w:=by
   intro b off len cap ev h0 h1;unfold cu7;rw[ho];simp[cM3,ev,di.1,asIntOf,run_underlying hu,jC hn,h0,h1,cv5]
  split at e
  .rename_i u xs hx;rw[hx] at dx;simp only[ax] at dx;split at e
   .rename_i hsz;have hsz:=bH hsz;cases cE e;simp only[Dl.pre,bQ,ir] at hp;obtain⟨hlen,⟨_,rfl⟩|⟨b,off,cap,ev,h1,h2,h3,h4⟩⟩:=dx
    .simp at hp;try omega
    .refine bK.pure m (go ev hp.1 hp.2) ?_;simp only[ax];have hlt:M iv<V xs:=Y;exact⟨b,off+M iv*n,rfl,h3,by rw[Pw hlt,hsz];exact h4 _ hlt⟩
   .cases e
  .rename_i mm sz hx;rw[hx] at dx;simp only[ax] at dx;simp only[Q.run] at e;split at e
   .rename_i p q hk;simp only[cy,ck] at e;obtain⟨rfl,rfl⟩:=e;have fin:∀{E':ct5}{u:CT}{xs:List u.D},(h mm = .live (.row E' u xs)∨h mm = .live (.frz E' u xs))->n=u.size->sz=u.size->0<=iv->iv<V xs →
      bK P o a w0 N0 A env h w (.det [0<=iv,iv<V xs] (.eptr mm sz (M iv) 0) []):=by
     intro E' u xs hl hn' hsz' h0 h1;obtain⟨hnil,_⟩|⟨b,len,E2,c,hb,_,ev⟩:=dx
     .exfalso;have:=m.nm mm;obtain hl|hl:=hl <;> rw[hl] at this <;> obtain⟨k',l',he',_⟩|⟨_,E3,t3,hb⟩:=this
      .rw[hnil] at he';cases he'
      ·(obtain hb|hb:=hb <;> cases hb);simp at h1;try omega
      .rw[hnil] at he';cases he'
      ·(obtain hb|hb:=hb <;> cases hb);simp at h1;try omega
     .have hlen:V xs=len.2:=by
       obtain hl|hl:=hl
       .have ⟨vs,cap,_,_,h2,_⟩:=(m.live_blk hl hb).1;exact h2
       .have ⟨_,vs,cap,_,_,h2,_⟩:=(m.live_blk hl hb).1;exact h2
      refine bK.pure m (go ev h0 Y) ?_;simp only[ax];exact⟨b,len,hb,Y,by rw[hn',hsz',kz]⟩
    split at hk
    .rename_i E' u xs hl;split at hk
     next h1 h2=>cases cE hk;simp only[Dl.pre,bQ,ir] at hp;exact fin (.inl hl) (bH h1) (bH h2) hp.1 hp.2
     .cases hk
    .rename_i E' u xs hl;split at hk
     next h1 h2=>cases cE hk;simp only[Dl.pre,bQ,ir] at hp;exact fin (.inr hl) (bH h1) (bH h2) hp.1 hp.2
     .cases hk
    .cases hk
   .cases e
  .rename_i mm kk hx;rw[hx] at dx;simp only[ax] at dx;have ⟨b,l,he',ev⟩:=dx;split at e
   next h1 h2=>have h1:=bH h1;simp only[fB,pJ] at h2;unfold c8 at e;cases cE e;exact bK.pure m (go ev h2.1 h2.2) (by simp only[ax];exact⟨b,l,he',by rw[h1,cH8,gD]⟩)
   .cases e
  .rename_i mm sz lo len hx;rw[hx] at dx;simp only[ax] at dx;split at e
   .rename_i h1;have h1:=bH h1;subst h1;cases cE e;simp only[Dl.pre,bQ,ir] at hp;obtain⟨h0,_⟩|⟨b,l,E2,c,hb,hle,_,ev⟩:=dx
    .omega
    .refine bK.pure m (go ev hp.1 hp.2) ?_;simp only[ax];exact⟨b,l,hb,Y,by rw[gA,kz,jv]⟩
   .cases e
  .cases e
 .cases e
theorem Ap(h:n<=cu5):ct0.has n:=by
 simp only[cu5] at h
 exact⟨by have:ct0.min = -9223372036854775808:=aD
          omega,by rw[IntKind.max_i64];omega⟩
theorem bT1(m:Mod w0 N0 A env h w)(f:FD A env w ρ a)(ho:o.op = .call {callee := .builtin .len,args := #[x],argTypes := #[t]})
  (e:(sE P t (bm ρ x)).run h=cs6 (d,r)):bK P o a w0 N0 A env h w d:=by
 have dx:=dG f x
 unfold sE at e
 split at e
 next E hu=>
  have go:∀{p:Option cN3}{len cap:Nat},a.eval x = .slice p len cap->(cu7 a.eval o).run P w = .ok (.value (.int .i64 len)) w:=by
   intro p len cap ev;unfold cu7;rw[ho];simp[resolve,invoke,builtin,Builtin.len_,run_underlying hu,ev,goInt]
  split at e
  .rename_i u xs hx;unfold c8 at e;cases cE e;rw[hx] at dx;simp only[ax] at dx;obtain⟨hlen,⟨⟨p,ev⟩,rfl⟩|⟨b,off,cap,ev,_⟩⟩:=dx
   .exact bK.pure m (go ev) (by simp only[ax];exact⟨aw,Ap hlen⟩)
   .exact bK.pure m (go ev) (by simp only[ax];exact⟨aQ,Ap hlen⟩)
  next u xs hx=>unfold c8 at e;cases cE e;rw[hx] at dx;simp only[ax] at dx;have ⟨hh,p,ev⟩:=dx;exact bK.pure m (go ev) (by simp only[ax];exact⟨aQ,Ap hh.1⟩)
  next hx=>unfold c8 at e;cases cE e;rw[hx] at dx;simp only[ax] at dx;exact bK.pure m (go dx) (by simp only[ax];exact⟨aw,Ap (n:=0) aw⟩)
  .rename_i mm sz hx;rw[hx] at dx;simp only[ax] at dx;simp only[Q.run] at e;split at e
   .rename_i p q hk;simp only[cy,ck] at e;obtain⟨rfl,rfl⟩:=e;have fin:∀{E':ct5}{u:CT}{xs:List u.D},(h mm = .live (.row E' u xs)∨h mm = .live (.frz E' u xs)) →
      bK P o a w0 N0 A env h w (.det [] (.int .i64 (V xs)) []):=by
     intro E' u xs hl;obtain⟨hnil,p,ev⟩|⟨b,len,E2,c,hb,_,ev⟩:=dx
     .have hx:V xs=0:=by
       have:=m.nm mm;obtain hl|hl:=hl <;> rw[hl] at this <;> obtain⟨k',l',he',_⟩|⟨_,E3,t3,hb⟩:=this
       .rw[hnil] at he';cases he'
       .obtain hb|hb:=hb <;> cases hb;rfl
       .rw[hnil] at he';cases he'
       .obtain hb|hb:=hb <;> cases hb;rfl
      exact bK.pure m (go ev) (by simp only[ax];rw[hx];exact⟨aw,Ap (n:=0) aw⟩)
     .have hlen:V xs=len.2/\len.2<=cu5:=by
       obtain hl|hl:=hl
       .have ⟨vs,cap,_,_,h2,h3,h4,_⟩:=(m.live_blk hl hb).1;exact⟨h2,Y⟩
       .have ⟨_,vs,cap,_,_,h2,h3,h4,_⟩:=(m.live_blk hl hb).1;exact⟨h2,Y⟩
      exact bK.pure m (go ev) (by simp only[ax];rw[hlen.1];exact⟨rfl,Ap hlen.2⟩)
    split at hk
    next E' u xs hl=>unfold c8 at hk;cases cE hk;exact fin (.inl hl)
    next E' u xs hl=>unfold c8 at hk;cases cE hk;exact fin (.inr hl)
    .cases hk
   .cases e
  .rename_i mm kk hx;rw[hx] at dx;simp only[ax] at dx;have ⟨b,l,he',ev⟩:=dx;split at e
   next h1=>unfold c8 at e;cases cE e;exact bK.pure m (go ev) (by simp only[ax];exact⟨aQ,Ap (lX h1)⟩)
   .cases e
  .rename_i mm sz lo kk hx;rw[hx] at dx;simp only[ax] at dx;simp only[Q.run] at e;split at e
   .rename_i p q hk;simp only[cy,ck] at e;obtain⟨rfl,rfl⟩:=e;split at hk
    .rename_i E' u xs hl;unfold c8 at hk;cases cE hk;obtain⟨rfl,pp,ev⟩|⟨b,l,E2,c,hb,hle,_,ev⟩:=dx
     .exact bK.pure m (go ev) (by simp only[ax];exact⟨aw,Ap (n:=0) aw⟩)
     .have ⟨vs,cap,_,_,h2,h3,h4,_⟩:=(m.live_blk hl hb).1;exact bK.pure m (go ev) (by simp only[ax];exact⟨aQ,Ap Y⟩)
    .cases hk
   .cases e
  .cases e
 .cases e
variable{ts:Array ct5}{y:cv0}
theorem b71(m:Mod w0 N0 A env h w)(f:FD A env w ρ a)(ho:o.op = .call {callee := .builtin .min,args := #[x,y],argTypes:=ts})
  (e:(Qj (bm ρ x) (bm ρ y)).run h=cs6 (d,r)):bK P o a w0 N0 A env h w d:=by
 have dx:=dG f x
 have dy:=dG f y
 unfold Qj at e
 split at e
 next k u k' v hx hy=>
  split at e
  .rename_i hk;cases kI hk;unfold c8 at e;cases cE e;rw[hx] at dx;rw[hy] at dy;simp only[ax] at dx dy;refine bK.pure m (v := .int k (min u v)) ?_ (by simp only[ax];refine⟨aQ,?_⟩;obtain hh|hh:=cO3 u v;rw[Int.min_eq_left hh];exact dx.2;rw[Int.min_eq_right hh];exact dy.2);unfold cu7;rw[ho];have hm:(if v<u then v else u)=min u v:=by split <;> omega
   simp[resolve,invoke,builtin,dx.1,dy.1,run_min_int2,hm]
  .cases e
 .cases e
theorem br6(m:Mod w0 N0 A env h w)(f:FD A env w ρ a)(ho:o.op = .call {callee := .builtin .max,args := #[x,y],argTypes:=ts})
  (e:(QO (bm ρ x) (bm ρ y)).run h=cs6 (d,r)):bK P o a w0 N0 A env h w d:=by
 have dx:=dG f x
 have dy:=dG f y
 unfold QO at e
 split at e
 next k u k' v hx hy=>
  split at e
  .rename_i hk;cases kI hk;unfold c8 at e;cases cE e;rw[hx] at dx;rw[hy] at dy;simp only[ax] at dx dy;refine bK.pure m (v := .int k (max u v)) ?_ (by simp only[ax];refine⟨aQ,?_⟩;obtain hh|hh:=cO3 u v;rw[Int.max_eq_right hh];exact dy.2;rw[Int.max_eq_left hh];exact dx.2);unfold cu7;rw[ho];have hm:(if u<v then v else u)=max u v:=by split <;> omega
   simp[resolve,invoke,builtin,dx.1,dy.1,run_max_int2,hm]
  .cases e
 .cases e
end
end Go.SX
namespace Go.SX
def Fz(s:SV):Option (List SV):=match s with
 | .agg cs=>match zm cs with
  | true=>cs6 cs
  | false=>ct4
 | s=>match s.one with
  | true=>cs6 [s]
  | false=>ct4
def zeroCells(P:cu2)(E:ct5):Option (List SV):=match P.info? E with
 | some i=>match i.zero with
  | some (.agg cs)=>match zm (cs.toList.map Bu) with
   | true=>cs6 (cs.toList.map Bu)
   | false=>ct4
  | some v=>match (Bu v).one with
   | true=>cs6 [Bu v]
   | false=>ct4
  | none=>ct4
 | none=>ct4
def Gz(E:ct5)(nm:Nat)(cs:Option (List SV)):Q Dl := .ask nm fun
 | .un=>match cs with
  | some cs => .ret (.det [] (.ptr nm 0) [(nm,.live (.cells E cs))])
  | none => .fail
 | _ => .fail
def tH(cs:List SV)(off:Nat)(vs:List SV):List SV:=cs.take off++(vs++cs.drop (off+V vs))
def Du(n:Nat):List (Nat×Nm)->Bool
 | []=>cs8
 | (m,_)::r => !ct7 n m&&Du n r
def Km(P:cu2)(ty:ct5)(x y:SV):Q Dl:=match Fz y,iu P ty with
 | some vs,cs6 n=>match ct7 n (V vs) with
  | true=>match x with
   | .ptr m off => .ask m fun
    | .live (.cells E cs)=>match cx6 (off+V vs) (V cs) with
     | true => .ret (.det [] (.cv undef) [(m,.live (.cells E (tH cs off vs)))])
     | false => .fail
    | _ => .fail
   | .eptr m sz i off => .ask m fun
    | .live (.row E t xs)=>match ct7 sz t.size,cx6 (off+V vs) t.size with
     | true,cs8=>(mB t (tH (cS t (qa t xs i)) off vs)).bind λp=>match Du m p.2.2 with
      | true => .ret (.det [] (.cv undef) ((m,.live (.row E t (xs.set i p.1)))::p.2.2))
      | false => .fail
     | _,_ => .fail
    | _ => .fail
   | _ => .fail
  | false => .fail
 | _,_ => .fail
section
variable {P:cu2} {w0:cu6} {N0:fT} {A:Nat->Prop} {env:bt} {h:cq} {w:cu6} {o:cA2} {a:Act} {ρ:Nat->SV} {d:Dl} {r:List Nat}
variable{v:ct8}
theorem O6(h:v.oneCell'=cs8):v.cells = #[v]:=by cases v <;> first|rfl|cases h
variable{cs:List SV}
theorem S4{s:SV}(e:Fz s=cs6 cs)(a:ax A env w s v):aL A env w cs v.cells.toList∧∀ u∈v.cells.toList,u.oneCell'=true:=by
 unfold Fz at e
 split at e
 next cs'=>
  split at e
  next b=>cases e;obtain⟨vs,rfl,a⟩:=a;exact⟨a,GS a b⟩
  .cases e
 .split at e
  next b=>cases e;have c:=Js a b;rw[O6 c];exact⟨by simp only[aL];exact⟨v,[],rfl,a,rfl⟩,by simpa using c⟩
  .cases e
variable{nm:Nat}
theorem eV.fresh(m:Mod w0 N0 A env h w)(a:h nm = .un){b:lJ}{len:Nat×Nat}{s:SV}{w':cu6}(hm:b.mut=cs8)(k:Nat)(hk:w.heap.size<=k)
  (c:cY w w' λ_=>False) (hb:∀ x:dQ A env w A (env.set nm (.blk k len)) w',mS A (env.set nm (.blk k len)) w' k len b)
  (hd:ax A (env.set nm (.blk k len)) w' s v):eV w0 N0 A env h w (.det [] s [(nm,.live b)]) v w':=by
 have hu:env nm = .un:=by have:=m.nm nm;rw[a] at this;exact this
 have d:¬ A k:=λd=>by have:=m.Alt k d;omega
 have x:dQ A env w A (env.set nm (.blk k len)) w':=m.xt c (λ_ h=>h.elim) λn a=>bt.set_other _ _ λe=>a (e▸hu)
 have u:=mH.fresh m a (o:=default) hm k hk d c (hb x)
 exact⟨(),A,env.set nm (.blk k len),aQ,m.upd u,x,hd⟩
theorem am8(m:Mod w0 N0 A env h w){E:ct5}(hn:h nm = .un){vs:Array ct8}(hd:aL A env w cs vs.toList) :
  eV w0 N0 A env h w (.det [] (.ptr nm 0) [(nm,.live (.cells E cs))]) (.pointer (cs6 ⟨w.heap.size,0,ct4⟩)) (w.alloc (.cells vs E)):=by
 refine eV.fresh m hn (len:=(0,0)) rfl w.heap.size (dq _) (cY.alloc w _ _) (λx=>⟨vs,heap_alloc_new w _,DU x _ _ hd⟩) ?_
 simp only[ax]
 simp_all
theorem WK{E cs}(e:(Gz E nm cs).run h=cs6 (d,r)) :
  h nm = .un∧∃ c,cs=cs6 c/\d = .det [] (.ptr nm 0) [(nm,.live (.cells E c))]:=by
 simp only[Gz,Q.run] at e
 split at e
 next p q hk=>
  obtain⟨rfl,rfl⟩:=e;split at hk
  .rename_i a;split at hk
   .exact⟨a,_,rfl,(cE hk).symm⟩
   .cases hk
  .cases hk
 .cases e
variable{x:cv0}
theorem aD2(m:Mod w0 N0 A env h w)(f:FD A env w ρ a){E:ct5}(ho:o.op = .box E x)
  (e:(Gz E nm (Fz (bm ρ x))).run h=cs6 (d,r)):bK P o a w0 N0 A env h w d:=by
 obtain⟨b,c,hc,rfl⟩:=WK e
 have ⟨h1,h2⟩:=S4 hc (dG f x)
 refine⟨_,_,.inl ?_,am8 m b h1⟩
 unfold cu7;rw[ho]
 simp[Instr.box,newVar,newRow]
variable{cs:List SV}
theorem D3{E:ct5}(e:zeroCells P E=cs6 cs):∃ i z,P.info? E=cs6 i/\i.zero=cs6 z/\aL A env w cs z.cells.toList∧∀ u∈z.cells.toList,u.oneCell'=true:=by
 have a:∀ l,aL A env w (l.map Bu) l:=by
  intro l
  induction l with
  | nil=>simp[aL]
  | cons v l ih=>simp;exact⟨v,l,rfl,Lo v,ih⟩
 unfold zeroCells at e
 split at e
 next i f=>
  split at e
  .rename_i cs' b;split at e
   next c=>cases e;exact⟨i,_,f,b,a _,GS (a _) c⟩
   .cases e
  .rename_i v hna b;split at e
   .rename_i c;cases e;have d:=Js (A:=A) (env:=env) (w:=w) (Lo v) c;refine⟨i,v,f,b,?_,?_⟩
    .rw[O6 d];exact⟨v,[],rfl,Lo v,rfl⟩
    .rw[O6 d];simpa using d
   .cases e
  .cases e
 .cases e
theorem bY9(m:Mod w0 N0 A env h w){E:ct5}(ho:o.op = .alloc E)
  (e:(Gz E nm (zeroCells P E)).run h=cs6 (d,r)):bK P o a w0 N0 A env h w d:=by
 obtain⟨b,c,hc,rfl⟩:=WK e
 have ⟨i,z,hi,hz,h1,h2⟩:=D3 (A:=A) (env:=env) (w:=w) hc
 refine⟨_,_,.inl ?_,am8 m b h1⟩
 unfold cu7;rw[ho]
 simp[cV7,zeroValue,typeInfo,hi,hz,newVar,newRow]
theorem MK:∀{fz:List (Nat×Nm)},qB h fz→∀{n:Nat},(∃ b,(n,b)∈fz)→∃ E t xs,h n = .live (.row E t xs)/\dM fz h n = .live (.frz E t xs)
 | (m,b)::fz,f,n,hn=>by
  by_cases a:n=m
  .subst a;have ⟨E,t,xs,c,d⟩:=f n b aw;exact⟨E,t,xs,c,by simp[dM,d]⟩
  .have e:∃ b,(n,b)∈fz:=by
    simp_all
   have ⟨E,t,xs,c,d⟩:=MK (λn b hb=>f n b (eZ _ hb)) e;exact⟨E,t,xs,c,by rw[dM,cq.set_other _ _ a];exact d⟩
def iQ(A:Nat->Prop)(env:bt)(fz:List (Nat×Nm)):Nat->Prop:=λb=>A b∨iX env fz b
variable{fz:List (Nat×Nm)}
theorem Vw(m:Mod w0 N0 A env h w)(ok:qB h fz) :
  mH (λn=>∃ b,(n,b)∈fz) (λ_=>False) A env h w (iQ A env fz) env (dM fz h) w:=by
 have x:dQ A env w (iQ A env fz) env w:=⟨⟨λb hb=>.inl hb,λ_ _ _ h=>h,λ_ h=>h,λ_ _ _ h=>h,λ_ _ _=>rfl,λ_ _ h=>h,λ_ _ _ h=>h⟩,λ_ h=>h⟩
 refine⟨cY.refl w _,λ_ h=>h.elim,λb hb=>.inl hb,?_,λ_ _=>rfl,λ_ _=>rfl,?_,?_,?_,?_⟩
 .rintro b (hb|⟨n,nb,l,hn,he⟩)
  .exact .inl hb
  .have ⟨E,t,xs,h1,_⟩:=ok n nb hn;exact .inr ⟨.inr ⟨n,_,l,⟨nb,hn⟩,h1,rfl,he⟩,(m.live_blk h1 he).1.lt⟩
 .intro n hn;exact rq (λhh=>by
   obtain⟨p,hp,rfl⟩:=cv1.1 hh;exact hn ⟨p.2,hp⟩)
 .rintro n ⟨b,hn⟩;have ⟨E,t,xs,h1,h2⟩:=MK ok ⟨b,hn⟩;rw[h2];have:=m.nm n;rw[h1] at this;obtain⟨k,l,he,hb,hA⟩|⟨he,E',t',hb⟩:=this
  .refine .inl ⟨k,l,he,⟨.inr ⟨n,b,l,hn,he⟩,Td x.toEx1 rfl hb⟩,λhm=>by cases hm⟩
  .refine .inr ⟨he,E',t',.inr ?_⟩;obtain hb|hb:=hb <;> cases hb;rfl
 .rintro n b k l ⟨b',hn⟩ hl hm he;have ⟨E,t,xs,h1,h2⟩:=MK ok ⟨b',hn⟩;rw[h2] at hl;cases hl;cases hm
 .rintro n n' b c k l l' ⟨b',hn⟩ _ hl _ hm;have ⟨E,t,xs,h1,h2⟩:=MK ok ⟨b',hn⟩;rw[h2] at hl;cases hl;cases hm
theorem Mod.freeze(m:Mod w0 N0 A env h w)(a:qB h fz) :
  Mod w0 N0 (iQ A env fz) env (dM fz h) w/\dQ A env w (iQ A env fz) env w :=
 ⟨m.upd (Vw m a),m.ext (Vw m a)⟩
variable{off:Nat}
theorem Fx{vs:List SV}{a b:List ct8}(c:aL A env w cs a)(d:aL A env w vs b) :
  aL A env w (tH cs off vs) (a.take off++(b++a.drop (off+V b))):=by
 have hl:=kr d
 rw[hl]
 exact vm (Eb _ c) (vm d (Eh _ c))
theorem Hc.setRow{q:Prop}{w:cu6}{k:Nat}{vs a:Array ct8}{E:ct5}(h:Hc q w k vs E)(hs:a.size=vs.size):Hc q (w.setRow k a) k a E :=
 let ⟨f,h,q⟩:=h;⟨f,setRow_heap w k vs a E f h,q.imp id λq=>⟨q.1,hs▸q.2⟩⟩
theorem PM{P:cu2}{q:Prop}(g o:Nat)(t:ct5):∀(vs:List ct8)(i:Nat)(cur:Array ct8)(w:cu6),Hc q w g cur t->o+i+V vs<=cur.size->(∀ v∈vs,v.oneCell'=cs8) →
  (cU8 ⟨g,o,ct4⟩ vs i).run P w = .ok () (w.setRow g (cur.toList.take (o+i)++vs++cur.toList.drop (o+i+V vs)).toArray)
 | [],i,cur,w,a,_,_=>by
  obtain⟨f,h,_⟩:=a;simp;rw[setRow_self w g cur t f h];rfl
 | v::rest,i,cur,w,a,j,l=>by
  have hi:o+i<cur.size:=by simp at j;omega
  have c:(⟨g,o,ct4⟩:cN3).add i=⟨g,o+i,ct4⟩:=by unfold cV8;split <;> simp_all
  have b:w.cell? ⟨g,o+i,ct4⟩=cs6 cur[o+i]:=by rw[a.cell];simp[hi]
  have ih:=PM (P:=P) g o t rest (i+1) (cur.setIfInBounds (o+i) v) (w.setRow g (cur.setIfInBounds (o+i) v)) (a.setRow aw) (by simp at j ⊢;omega) (λx hx=>l x (by simp[hx]));have ⟨⟨f,f'⟩,a,hq⟩:=a;have d:w.frozen? ⟨g,o+i,ct4⟩=false:=by
   simp only[World.frozen?,a,Bool.and_eq_false_iff,xZ];grind
  have k:(store ((⟨g,o,ct4⟩:cN3).add i) v).run P w = .ok () (w.setRow g (cur.setIfInBounds (o+i) v)):=by
   rw[c,run_store P w _ v _ (l v aw),b];simp[d,setCell_eq_setRow w g (o+i) cur t (f,f') v a]
  simp only[cU8,cu4,k,cu0,ih,setRow_setRow];congr 3;have e:=list_seg_step cur.toList (o+i) v rest (by simp at j ⊢;omega);simpa[Array.toList_setIfInBounds,jv] using e
theorem cY.setRow{q:Prop}(w:cu6)(k:Nat)(vs c:Array ct8)(E:ct5)(d:Hc q w k vs E)(e:c.size=vs.size):cY w (w.setRow k c) λj=>j=k:=by
 refine⟨rfl,rfl,rfl,dq _,aw,λj _ a=>setRow_other w k j c a,?_⟩
 intro j s a
 by_cases b:j=k
 .subst b;rw[(d.setRow e).shape,e,← d.shape];exact a
 .unfold cv9 at a ⊢;rw[setRow_other w k j c b];exact a
variable{ty:ct5}
theorem Qd{q:Prop}{k:Nat}{vs:Array ct8}{E:ct5}(hk:Hc q w k vs E)(b:iu P ty=cs6 v.cells.size)
  (a:off+v.cells.size<=vs.size) (h1:∀ u∈v.cells.toList,u.oneCell'=cs8) :
  (cY4 ty ⟨k,off,ct4⟩ v).run P w = .ok () (w.setRow k (vs.toList.take off++v.cells.toList++vs.toList.drop (off+v.cells.size)).toArray):=by
 have c:=PM (P:=P) k off E v.cells.toList 0 vs w hk (by simpa using a) h1
 simp[cY4,jC b,c]
theorem Jh{n}:∀{fz:List (Nat×Nm)},Du n fz=cs8->n ∉ fz.map (·.1)
 | [],_=>aw
 | (m,b)::fz,h=>by
  simp only[Du,fB,sS] at h;simp only[f6,dm,not_or];exact⟨λe=>by rw[e,wK] at h;exact absurd h.1 aw,Jh h.2⟩
theorem XP(m:Mod w0 N0 A env h w)(f:FD A env w ρ a){y:cv0}(ho:o.op = .store ty x y)
  (e:(Km P ty (bm ρ x) (bm ρ y)).run h=cs6 (d,r)):bK P o a w0 N0 A env h w d:=by
 have dx:=dG f x
 have dy:=dG f y
 unfold Km at e
 split at e
 next vs n hc hn=>
  have ⟨dv,h1⟩:=S4 hc dy;have hlv:=kr dv;split at e
  .rename_i hb;have hb:=bH hb;have hsz:iu P ty=cs6 (a.eval y).cells.size:=by rw[hn,hb,← hlv,jF]
   have go:∀{b off:Nat}{w':cu6},a.eval x = .pointer (cs6 ⟨b,off,ct4⟩)->(cY4 ty ⟨b,off,ct4⟩ (a.eval y)).run P w = .ok () w'→(cu7 a.eval o).run P w = .ok .skip w':=by
    intro b off w' ev hr;unfold cu7;rw[ho];simp only[ev,cT6,cz1,cu4,cu9,cu0,hr]
   split at e
   .rename_i mm off hx;rw[hx] at dx;simp only[ax] at dx;have ⟨b,l,he,ev⟩:=dx;simp only[Q.run] at e;split at e
    .rename_i p q hk;simp only[cy,ck] at e;obtain⟨rfl,rfl⟩:=e;split at hk
     .rename_i E cs hl;split at hk
      .rename_i hle;have hle:=lX hle;cases cE hk;have ⟨⟨us,hh,hd⟩,_⟩:=m.live_blk hl he;have hlu:=kr hd;have hfit:off+(a.eval y).cells.size<=us.size:=by rw[← jF,hlv,← jF,hlu];exact hle
       have hrun:=Qd (.of (q:=True) hh) hsz hfit h1;refine⟨undef,_,.inr ⟨go ev hrun,rfl⟩,?_⟩;have hdR:=Fx (off:=off) hd dv;have c:=cY.setRow w b us (us.toList.take off++(a.eval y).cells.toList++us.toList.drop (off+(a.eval y).cells.size)).toArray E (.of (q:=True) hh)
        (by simp only[vz,cw,fF,gR,jF];omega)
       have x:dQ A env w A env (w.setRow b (us.toList.take off++(a.eval y).cells.toList++us.toList.drop (off+(a.eval y).cells.size)).toArray) :=
        m.xt c (λk hk=>⟨_,_,_,hl,rfl,hk▸he⟩) λ_ _=>rfl
       have u:=mH.write (b' := .cells E (tH cs off vs)) m hl rfl he c ⟨_,setRow_heap w b us _ E _ hh,by
        have:=DU x _ _ hdR;simpa[gI] using this⟩ rfl
       exact⟨(),A,env,aQ,m.upd u,m.ext u,by simp only[Dl.val,ax]⟩
      .cases hk
     .cases hk
    .cases e
   .rename_i mm sz i off hx;rw[hx] at dx;simp only[ax] at dx;have ⟨b,l,he,hil,ev⟩:=dx;rw[← jv] at ev;simp only[Q.run] at e;split at e
    .rename_i p q hk;simp only[cy,ck] at e;obtain⟨rfl,rfl⟩:=e;split at hk
     .rename_i E t xs hl;split at hk
      .rename_i hs1 hle;have hs1:=bH hs1;have hle:=lX hle;subst hs1;obtain⟨⟨d',rest,fz⟩,r1,r2,e1,e2,rfl⟩:=Q.run_bind _ _ _ hk;simp only at e2;split at e2
       .rename_i hni;cases cE e2;have hni:=Jh hni;have ⟨us,cap,hh,hus,hxl,hlc,hcm,hrd⟩:=(m.live_blk hl he).1;have hix:i<V xs:=Y;have ⟨es,hel,hec,hed⟩:=BQ (env:=env) t (qa t xs i) _ _ (Hb (m.live_blk hl he).1 hil);have hdR:=Fx (off:=off) hed dv;have hle':V (cS t (qa t xs i))=t.size:=zT _ _;have ⟨ok,_,hlen,hrd',_⟩:=Ak m t _ _ d' rest fz r1 e1 hdR (A':=iQ A env fz) (λb hb=>.inl hb) (λk hk'=>.inr hk');have ⟨m2,x2⟩:=m.freeze ok;have hl2:dM fz h mm = .live (.row E t xs):=by rw[rq hni];exact hl
        have hpos:l.1+i*t.size+t.size<=us.size:=by
         rw[hus];have:(i+1)*t.size<=cap*t.size:=nk _ Y;grind
        have hsv:(a.eval y).cells.size=V vs:=by rw[← jF,hlv]
        have hfit:l.1+i*t.size+off+(a.eval y).cells.size<=us.size:=Y;have hrun:=Qd hh hsz hfit h1;refine⟨undef,_,.inr ⟨go ev hrun,rfl⟩,?_⟩;have c:=cY.setRow w b us (us.toList.take (l.1+i*t.size+off)++(a.eval y).cells.toList++us.toList.drop (l.1+i*t.size+off+(a.eval y).cells.size)).toArray E hh
         (by simp only[vz,cw,fF,gR,jF];omega)
        have x3:dQ (iQ A env fz) env w (iQ A env fz) env (w.setRow b (us.toList.take (l.1+i*t.size+off)++(a.eval y).cells.toList++us.toList.drop (l.1+i*t.size+off+(a.eval y).cells.size)).toArray) :=
         m2.xt c (λk hk=>⟨_,_,_,hl2,rfl,hk▸he⟩) λ_ _=>rfl
        have hrow:uw (iQ A env fz) (w.setRow b (us.toList.take (l.1+i*t.size+off)++(a.eval y).cells.toList++us.toList.drop (l.1+i*t.size+off+(a.eval y).cells.size)).toArray) b l E t (xs.set i d'):=by
         refine⟨_,cap,hh.setRow (by simp only[vz,cw,fF,gR,jF];omega),?_,by simpa using hxl,hlc,hcm,?_⟩
         .grind
         .intro j hj;have hj':j<V xs:=by simpa using hj
          rw[List.getElem_set];have cellAt:∀ p,(us.toList.take (l.1+i*t.size+off)++(a.eval y).cells.toList++us.toList.drop (l.1+i*t.size+off+(a.eval y).cells.size)).toArray[p]? =
            if p<l.1+i*t.size+off then us[p]? else if p<l.1+i*t.size+off+V vs then (a.eval y).cells[p-(l.1+i*t.size+off)]? else us[p]? := by
           intro p;rw[cD7,gI,cD9];simp only[fF,jF];rw[show min (l.1+i*t.size+off) us.size=l.1+i*t.size+off from by omega];split
           .simp_all
           .rename_i hp;rw[cD9];simp only[jF,hsv];by_cases h2:p<l.1+i*t.size+off+V vs
            .grind
            .rw[I Y,I h2,Ca,rz];congr 1;omega
          split
          .rename_i hij;subst hij;have hsh:=Fo hrd' (l.1+i*t.size);rw[gD] at hsh;refine jM (λ_ h=>h) x3.keep t _ _ _ _ (λq hq=>?_) hsh;rw[cellAt];have hq2:l.1+i*t.size+q-(l.1+i*t.size)=q:=Y;simp only[hq2];have hel':=hel;have hecq:=hec q hq;rw[hh.cell] at hecq;rw[cD9];simp only[fF,hel'];rw[show min off t.size=off from by omega];by_cases c1:q<off
           .rw[ao Y,ao c1,Cl,ao c1,hecq]
           .rw[I Y,I c1,cD9];by_cases c2:q<off+V vs
            .rw[ao Y,ao Y,rz];congr 1;omega
            .rw[I Y,I Y,Ca,hecq];congr 1;omega
          .rename_i hij;refine jM (λb hb=>.inl hb) (λb' o' hb'=>x3.keep b' o' (.inl hb')) t _ _ _ _ (λq hq=>?_) (hrd j hj');rw[cellAt];have hjt:j*t.size+t.size<=i*t.size∨i*t.size+t.size<=j*t.size:=by
            obtain hlt|hlt:=Nat.lt_or_gt_of_ne hij
            .right;have:(i+1)*t.size<=j*t.size:=nk _ Y;rw[gA,qS] at this;exact this
            .left;have:(j+1)*t.size<=i*t.size:=nk _ Y;rw[gA,qS] at this;exact this
           obtain hjt|hjt:=hjt
           .rw[ao Y]
           .rw[I Y,I Y]
        have u:=mH.write (b' := .row E t (xs.set i d')) m2 hl2 rfl he c hrow rfl;exact⟨(),_,env,aQ,m2.upd u,x2.trans (m2.ext u),by simp only[Dl.val,ax]⟩
       .cases e2
      .cases hk
     .cases hk
    .cases e
   .cases e
  .cases e
 .cases e
end
end Go.SX
namespace Go.SX
def OS(P:cu2)(t:ct5)(i:Nat):Option (Nat×Nat):=match P.underlying t with
 | some (.struct fs)=>match fs[i]? with
  | some f=>match iu P f.type with
   | some n=>cs6 (f.offset,n)
   | none=>ct4
  | none=>ct4
 | some (.array _ e)=>match iu P e with
  | some n=>cs6 (i*n,n)
  | none=>ct4
 | _=>ct4
def S0(P:cu2):List cV5->Bool
 | []=>cs8
 | f::fs=>(iu P f.type).isSome&&S0 P fs
def Ao(P:cu2)(place:Nat->Option (Nat×Nat)):List SV->List (Nat×SV)->Option (List SV)
 | cs,[]=>cs6 cs
 | cs,(i,v)::r=>match place i,Fz v with
  | some (off,n),cs6 vs=>match ct7 (V vs) n,cx6 (off+n) (V cs) with
   | true,cs8=>Ao P place (tH cs off vs) r
   | _,_=>ct4
  | _,_=>ct4
def af3(P:cu2)(t:ct5):Bool:=match P.underlying t with
 | some (.struct fs)=>S0 P fs.toList
 | some (.array _ e)=>(iu P e).isSome
 | _=>ct2
def OB(P:cu2)(t:ct5)(ps:List (Nat×SV)):Q Dl:=match af3 P t,zeroCells P t with
 | true,cs6 z=>match Ao P (OS P t) z ps with
  | some cs=>c8 (.agg cs)
  | none => .fail
 | _,_ => .fail
def ad8(c:CT):Nat->Option CT
 | 0=>ct4
 | 1=>cs6 c
 | n+1=>match ad8 c n with
  | some u=>cs6 (.pair c u)
  | none=>ct4
def C5(P:cu2):Nat->ct5->Option CT
 | 0,_=>ct4
 | n+1,t=>match P.underlying t with
  | some (.int k)=>cs6 (.int k)
  | some .bool=>cs6 .bool
  | some .string=>cs6 .str
  | some (.slice e)=>match C5 P n e with
   | some c=>cs6 (.sl c)
   | none=>ct4
  | some (.array k e)=>match C5 P n e with
   | some c=>ad8 c k
   | none=>ct4
  | some (.struct fs)=>ctAll (C5 P n) fs.toList
  | _=>ct4
 where
 ctAll (f:ct5->Option CT):List cV5->Option CT
  | []=>ct4
  | [x]=>f x.type
  | x::xs=>match f x.type,ctAll f xs with
   | some a,cs6 b=>cs6 (.pair a b)
   | _,_=>ct4
def ON(t:CT):Nat->List SV->Q (List t.D×List (Nat×Nm))
 | 0,_ => .ret ([],[])
 | n+1,cs=>(mB t cs).bind λp=>(ON t n p.2.1).bind λq=>.ret (p.1::q.1,p.2.2++q.2)
def mP{α:Type}(l:List α):Nat->List α
 | 0=>[]
 | n+1=>l++mP l n
def RR(P:cu2)(t:ct5)(len nm:Nat)(ps:List (Nat×SV)):Q Dl:=match vH P t with
 | some (e,sz)=>match C5 P 8 e,zeroCells P e with
  | some u,cs6 z=>match ct7 u.size sz,ct7 (V z) sz,cx6 (len*sz) 16777216,Ao P (λi=>cs6 (i*sz,sz)) (mP z len) ps with
   | true,cs8,cs8,cs6 cs=>(ON u len cs).bind λp=>.ask nm fun
    | .un=>match Du nm p.2 with
     | true => .ret (.det [] (.own nm sz) ((nm,.live (.row e u p.1))::p.2))
     | false => .fail
    | _ => .fail
   | _,_,_,_ => .fail
  | none,cs6 z=>match ct7 (V z) sz,ct7 sz 1,cx6 1 len&&cx6 len 16777216,Ao P (λi=>cs6 (i*sz,sz)) (mP z len) ps with
   | true,cs8,cs8,cs6 cs => .ask nm fun
    | .un => .ret (.det [] (.csl nm len) [(nm,.live (.cells e cs))])
    | _ => .fail
   | _,_,_,_ => .fail
  | _,_ => .fail
 | none => .fail
def RL(P:cu2)(t:ct5)(nm:Nat)(l c:SV):Q Dl:=match vH P t,l,c with
 | some (e,sz),.int _ l,.int _ c=>match C5 P 8 e,zeroCells P e,P.info? e with
  | some u,cs6 z,cs6 i=>match ct7 u.size sz,ct7 (V z) sz,cx6 1 i.bytes,mB u z with
   | true,cs8,cs8,.ret (d,_,[]) => .ask nm fun
    | .un => .ret (.det [0<=l,l<=c,(i.bytes:Int)*c<=281474976710656] (.own nm sz) [(nm,.live (.row e u (replicate (M l) d)))])
    | _ => .fail
   | _,_,_,_ => .fail
  | _,_,_ => .fail
 | _,_,_ => .fail
def zM(t:CT)(x:SV):Q (List t.D):=match x with
 | .dsl u ys=>match iP u t ys with
  | some ys => .ret ys
  | none => .fail
 | .dsx u ys=>match iP u t ys with
  | some ys => .ret ys
  | none => .fail
 | .nilsl => .ret []
 | .own n sz => .ask n fun
  | .live (.row _ u ys)=>match ct7 sz u.size,iP u t ys with
   | true,cs6 ys => .ret ys
   | _,_ => .fail
  | .live (.frz _ u ys)=>match ct7 sz u.size,iP u t ys with
   | true,cs6 ys => .ret ys
   | _,_ => .fail
  | _ => .fail
 | _ => .fail
def IJ(P:cu2)(t:ct5)(nm:Nat)(s x:SV):Q Dl:=match vH P t with
 | some (e,sz)=>match P.info? e with
  | some i=>match cx6 1 i.bytes,i.zero with
   | true,cs6 z=>match ct7 z.cells.size sz with
    | true=>match s with
     | .own n sz' => .ask n fun
      | .live (.row E u xs)=>match ct7 E e,ct7 sz u.size,ct7 sz' u.size with
       | true,cs8,cs8=>(zM u x).bind λys=>.ask nm fun
        | .un => .ret (.det [(V xs+V ys)*i.bytes<=140737488355328] (.own nm sz) [(nm,.live (.row e u (xs++ys))),(n,.dead)])
        | _ => .fail
       | _,_,_ => .fail
      | _ => .fail
     | .nilsl=>match C5 P 8 e with
      | some u=>match ct7 sz u.size with
       | true=>(zM u x).bind λys=>.ask nm fun
        | .un => .ret (.det [V ys*i.bytes<=140737488355328] (.own nm sz) [(nm,.live (.row e u ys))])
        | _ => .fail
       | false => .fail
      | none => .fail
     | .dsx u xs=>match ct7 sz u.size with
      | true=>(zM u x).bind λys=>.ask nm fun
       | .un => .ret (.det [(V xs+V ys)*i.bytes<=140737488355328,xs=[]] (.own nm sz) [(nm,.live (.row e u ys))])
       | _ => .fail
      | false => .fail
     | _ => .fail
    | false => .fail
   | _,_ => .fail
  | none => .fail
 | none => .fail
def cZ{α:Type}(xs:List α)(l h:Nat):List α:=(xs.take h).drop l
def sc(x:Option SV)(dflt:Int):Option Int:=match x with
 | none=>cs6 dflt
 | some (.int _ n)=>cs6 n
 | _=>ct4
def Rk(P:cu2)(t:ct5)(x:SV)(lo hi mx:Option SV):Q Dl:=match vH P t with
 | some (_,sz)=>match x with
  | .dsl u xs=>match ct7 sz u.size,sc lo 0,sc hi (V xs) with
   | true,cs6 l,cs6 h=>match mx with
    | none => .ret (.det [0<=l,l<=h,h<=V xs] (.dsl u (cZ xs (M l) (M h))) [])
    | some (.int _ mm)=>match hi with
     | some _ => .ret (.det [0<=l,l<=h,h=mm,h<=V xs] (.dsx u (cZ xs (M l) (M h))) [])
     | none => .fail
    | _ => .fail
   | _,_,_ => .fail
  | .own n sz'=>match mx with
   | none => .ask n fun
    | .live (.row E u xs)=>match ct7 sz u.size,ct7 sz' u.size,sc lo 0,sc hi (V xs) with
     | true,cs8,cs6 l,cs6 h => .ret (.det [0<=l,l<=h,h<=V xs] (.dsl u (cZ xs (M l) (M h))) [(n,.live (.frz E u xs))])
     | _,_,_,_ => .fail
    | .live (.frz E u xs)=>match ct7 sz u.size,ct7 sz' u.size,sc lo 0,sc hi (V xs) with
     | true,cs8,cs6 l,cs6 h => .ret (.det [0<=l,l<=h,h<=V xs] (.dsl u (cZ xs (M l) (M h))) [])
     | _,_,_,_ => .fail
    | _ => .fail
   | _ => .fail
  | .nilsl=>match sc lo 0,sc hi 0,mx with
   | some l,cs6 h,ct4 => .ret (.det [l=0,h=0] .nilsl [])
   | _,_,_ => .fail
  | _ => .fail
 | none => .fail
def pickI(l:Z)(i:Nat):Int:=T l i 0
def yC(k:cv3)(sz:Nat):List SV->Nat->Option Z
 | [],_=>cs6 []
 | .int k' n::cs,0=>match j3 k k',yC k sz cs (sz-1) with
  | true,cs6 l=>cs6 (n::l)
  | _,_=>ct4
 | _::_,0=>ct4
 | _::cs,s+1=>yC k sz cs s
def P7(P:cu2)(t:ct5)(x i:SV):Q Dl:=match x,i,P.underlying t with
 | .agg cs,.int _ i,cs6 (.array len e)=>match P.underlying e,iu P e with
  | some (.int k),cs6 1=>match yC k 1 cs 0,ct7 (V cs) len with
   | some l,cs8 => .ret (.det [0<=i,i<len] (.int k (pickI l (M i))) [])
   | _,_ => .fail
  | some (.array 2 e2),cs6 2=>match P.underlying e2,iu P e2 with
   | some (.int k),cs6 1=>match yC k 2 cs 0,yC k 2 cs 1,ct7 (V cs) (len*2) with
    | some l1,cs6 l2,cs8 => .ret (.det [0<=i,i<len] (.agg [.int k (pickI l1 (M i)),.int k (pickI l2 (M i))]) [])
    | _,_,_ => .fail
   | _,_ => .fail
  | _,_ => .fail
 | _,_,_ => .fail
section
variable {P:cu2} {w0:cu6} {N0:fT} {A:Nat->Prop} {env:bt} {h:cq} {w:cu6} {o:cA2} {a:Act} {ρ:Nat->SV} {d:Dl} {r:List Nat}
theorem UJ{α β:Type}(f:α->Sem β)(g):∀(l:List α),(∀ x∈l,(f x).run P w = .ok (g x) w)->(l.mapM f).run P w = .ok (l.map g) w
 | [],_=>aw
 | x::l,hx=>by
  have ih:=UJ f g l (λy hy=>hx y (eZ _ hy));simp_all
theorem bE6{α β:Type}(f:α->Sem β)(g:α->β)(l:Array α)(hx:∀ x∈l.toList,(f x).run P w = .ok (g x) w):(l.mapM f).run P w = .ok (l.map g) w:=by
 rw[Array.mapM_eq_mapM_toList]
 have:=UJ f g l.toList hx
 simp only[Sem.run_map,this,cu0]
 congr 1
 exact cL2 aw
theorem bp3(vs)(off)(cs)(hfit:off+V vs<=V cs) :
  (vs.toArray.zipIdx.foldl (λcs (x:ct8×Nat)=>cs.setIfInBounds (off+x.2) x.1) cs.toArray).toList=cs.take off++(vs++cs.drop (off+V vs)):=by
 have c:∀(vs:List ct8)(k:Nat)(pre a b:List ct8),V pre=off+k->V a=V vs →
   ((vs.zipIdx k).foldl (λcs (x:ct8×Nat)=>cs.setIfInBounds (off+x.2) x.1) (pre++(a++b)).toArray).toList=pre++(vs++b):=by
  intro vs
  induction vs with
  | nil=>intro k pre a b _ hm;simp at hm;subst hm;simp
  | cons v vs ih =>
   intro k pre a b hp hm;cases a with
   | nil=>simp at hm
   | cons u a =>
    simp;have:(pre++(u::a++b)).toArray.setIfInBounds (off+k) v=((pre++[v])++(a++b)).toArray:=by
     simp_all
    grind
 have:=c vs 0 (cs.take off) ((cs.drop off).take (V vs)) (cs.drop (off+V vs)) (by simp;omega) (by simp;omega)
 have e:cs.take off++((cs.drop off).take (V vs)++cs.drop (off+V vs))=cs:=by
  rw[← cA1,mj,mj]
 simp_all
theorem H7{place place':Nat->Option (Nat×Nat)}(g:∀ i p,place i=cs6 p->place' i=cs6 p):∀(ps:List (Nat×SV))(b:List (Nat×ct8))(cs rs:List SV)(c:Array ct8),
  Ao P place cs ps=cs6 rs->aL A env w cs c.toList->b.map (·.1)=ps.map (·.1)->aL A env w (ps.map (·.2)) (b.map (·.2)) →
  ∃ vs,cW5 place' c b=cs6 vs/\aL A env w rs vs.toList
 | [],b,cs,rs,c,e,k,f,s=>by
  have:b=[]:=by simpa using f
  subst this;cases e;exact⟨c,rfl,k⟩
 | (i,v)::ps,b,cs,rs,c,e,k,f,s=>by
  match b,f with
  | (i',u)::b,h =>
   clear f;simp at h;obtain⟨rfl,f⟩:=h;have ⟨u',r',l,m,o⟩:=s;obtain⟨rfl,rfl⟩:=l;simp only[Ao] at e;split at e
   .rename_i off n vs hp hc;split at e
    .rename_i d j;have d:=bH d;have j:=lX j;have ⟨t,_⟩:=S4 hc m;have q:=kr t;have r:=kr k;have hlv':u.cells.size=n:=by rw[← jF,q,d]
     have hlu':c.size=V cs:=by rw[← jF,r]
     have hR:=Fx (off:=off) k t;have a:=bp3 u.cells.toList off c.toList (by simp;omega);have ⟨ws,hw1,hw2⟩:=H7 g ps b (tH cs off vs) rs (u.cells.zipIdx.foldl (λcs (x:ct8×Nat)=>cs.setIfInBounds (off+x.2) x.1) c) e
      (by simp only[cO5] at a;rw[a];exact hR) f o
     simp only[cW5,g i' _ hp];simp_all
    .cases e
   .cases e
theorem aK1(m:Mod w0 N0 A env h w)(f:FD A env w ρ a){t:ct5}{b:Array (Nat×cv0)}(ho:o.op = .build t b)
  (e:(OB P t (b.toList.map λp=>(p.1,bm ρ p.2))).run h=cs6 (d,r)):bK P o a w0 N0 A env h w d:=by
 unfold OB at e
 split at e
 next z hb hz=>
  split at e
  .rename_i cs hf;cases cE e;obtain⟨i,B,hi,S,F,_⟩:=D3 hz;have g:aL A env w ((b.toList.map λp=>(p.1,bm ρ p.2)).map (·.2)) ((b.toList.map λp=>(p.1,a.eval p.2)).map (·.2)):=by
    generalize b.toList=l
    induction l with
    | nil=>simp[aL]
    | cons p l G=>simp only[f6,aL];exact⟨_,_,rfl,dG f p.2,G⟩
   have j:∀{vs:Array ct8},(cO6 t (b.map λx=>(x.1,a.eval x.2))).run P w = .ok (.agg vs) w->(cu7 a.eval o).run P w = .ok (.value (.agg vs)) w:=by
    unfold cu7;simp_all
   have k:(zeroValue t).run P w = .ok B w:=by simp[zeroValue,typeInfo,hi,S]
   unfold af3 at hb;split at hb
   .rename_i y q;have s:∀ x∈y.toList,(iu P x.type).isSome=true:=by
     generalize y.toList=l at hb
     induction l with
     | nil=>simp
     | cons x l G =>
      simp only[S0,fB] at hb;simp_all
    have u:=bE6 (P:=P) (w:=w) (λf=>(do pure (f.offset,← sizeOf f.type):Sem (Nat×Nat))) (λf=>(f.offset,(iu P f.type).getD 0)) y (λx hx=>by
     have ⟨n,v⟩:=cL5.1 (s x hx);simp[jC v,v])
    have ⟨vs,D,E⟩:=H7 (place':=λi=>(y.map λf=>(f.offset,(iu P f.type).getD 0))[i]?) (λi p c=>by
     unfold OS at c;rw[q] at c;simp only at c;split at c
     .grind
     .cases c) (b.toList.map λp=>(p.1,bm ρ p.2)) (b.toList.map λp=>(p.1,a.eval p.2)) z cs B.cells hf F (by simp[cC0]) g
    refine bK.pure m (j ?_) (by simp only[ax];exact⟨vs,rfl,E⟩);unfold cO6;simp only[cu4,k,cu0,run_underlying q,u,cy4,D,cu9]
   .rename_i len e' q;have ⟨n,v⟩:=cL5.1 hb;have ⟨vs,D,E⟩:=H7 (place':=λi=>cs6 (i*n,n)) (λi p c=>by
     unfold OS at c;rw[q] at c;simp only[v] at c;exact c) (b.toList.map λp=>(p.1,bm ρ p.2)) (b.toList.map λp=>(p.1,a.eval p.2)) z cs B.cells hf F (by simp[cC0]) g
    refine bK.pure m (j ?_) (by simp only[ax];exact⟨vs,rfl,E⟩);unfold cO6;simp only[cu4,k,cu0,run_underlying q,jC v,cy4,D,cu9]
   .cases hb
  .cases e
 .cases e
end
end Go.SX
namespace Go.SX
section
variable {P:cu2} {w0:cu6} {N0:fT} {A:Nat->Prop} {env:bt} {h:cq} {w:cu6} {o:cA2} {a:Act} {ρ:Nat->SV} {d:Dl} {r:List Nat}
theorem SH(u v)(h):dM (u++v) h=dM u (dM v h):=by
 induction u with
 | nil=>rfl
 | cons p u ih=>simp[dM,ih]
theorem eV.of_frz(m:Mod w0 N0 A env h w){fz:List (Nat×Nm)}(ok:qB h fz){pre:List Prop}{s:SV}{a:List (Nat×Nm)}{v:ct8}{b:cu6}
  (g:eV w0 N0 (iQ A env fz) env (dM fz h) w (.det pre s a) v b):eV w0 N0 A env h w (.det pre s (a++fz)) v b:=by
 have ⟨x,A',env',_,m',e',d'⟩:=g
 exact⟨(),A',env',aQ,by simpa only[Dl.hp,Dl.upd,SH] using m',(m.freeze ok).2.trans e',d'⟩
theorem ad7(m:Mod w0 N0 A env h w){A':Nat->Prop}(s:∀ b,A b->A' b)(t:CT):∀(n:Nat)(cs:List SV)(vs:List ct8)(xs:List t.D)(fz:List (Nat×Nm))(r:List Nat),
  (ON t n cs).run h=cs6 ((xs,fz),r)->aL A env w cs vs->(∀ k,iX env fz k->A' k) →
  qB h fz/\V xs=n/\n*t.size<=V vs∧∀ i (c:i<V xs),Rd A' w t (λj=>vs[j]?) (i*t.size) xs[i]
 | 0,cs,vs,xs,fz,r,e,u,d=>by
  obtain⟨⟨rfl,rfl⟩,rfl⟩:=e;exact⟨λn b hb=>by simp at hb,rfl,aw,λi c=>by simp at c⟩
 | n+1,cs,vs,xs,fz,r,e,u,d=>by
  obtain⟨⟨d1,v,y⟩,q1,q2,e1,e2,rfl⟩:=Q.run_bind _ _ _ e;obtain⟨⟨ds,z⟩,q3,q4,e3,e4,rfl⟩:=Q.run_bind _ _ _ e2;obtain⟨⟨rfl,rfl⟩,rfl⟩:=e4;have f:∀ k,iX env y k->A' k:=λk ⟨n,x,l,a,g⟩=>d k ⟨n,x,l,gq _ a,g⟩;have o:∀ k,iX env z k->A' k:=λk ⟨n,x,l,a,g⟩=>d k ⟨n,x,l,gU _ a,g⟩;have ⟨o1,n1,l1,p,dr1⟩:=Ak m t cs vs d1 v y q1 e1 u s f;have ⟨o2,n2,l2,q⟩:=ad7 m s t n v _ ds z q3 e3 dr1 o;have hr1:=kr dr1;refine⟨?_,by simp[n2],by rw[gA,qS];omega,?_⟩
  .intro n x a;obtain a|a:=dX.1 a
   .exact o1 n x a
   .exact o2 n x a
  .intro i c;cases i with
   | zero=>simpa using p
   | succ i =>
    have:=q i (by simpa using c);have B:=ag7 this t.size;rw[show i*t.size+t.size=(i+1)*t.size from by rw[gA,qS]] at B;refine jM (λ_ h=>h) (λ_ _ _=>rfl) t _ _ _ _ (λj _=>?_) B;grind
theorem Od{α:Type}(l:List α)(n:Nat):V (mP l n)=n*V l:=by
 induction n with
 | zero=>simp[mP]
 | succ n ih=>simp[mP,ih,gA];omega
theorem G5{α:Type}(l:List α):∀(n i:Nat),i<n*V l->(mP l n)[i]? = l[i%V l]?
 | 0,i,h=>by simp at h
 | n+1,i,h=>by
  simp only[mP];by_cases a:i<V l
  .rw[nJ a,cK6 a]
  .rw[pn Y,G5 l n (i-V l) (by rw[gA,qS] at h;omega)];rw[← Nat.mod_eq_sub_mod Y]
theorem Ri(z)(n)(hz:0<z.size):(cA0 z (n*z.size)).toList=mP z.toList n:=by
 apply cJ1
 intro i
 by_cases a:i<n*z.size
 .rw[G5 _ _ _ (by simpa using a)];simp only[cA0,cy4,Array.toList_range,cA7,jF,rz];rw[List.getElem?_range a];have:i%z.size<z.size:=cY5 _ hz;simp[getElem!_pos,this]
 .rw[xQ (by simp[cA0];omega),xQ (by rw[Od];simpa using a)]
theorem QT{z:List SV}{vs:List ct8}(a:aL A env w z vs):∀ n,aL A env w (mP z n) (mP vs n)
 | 0=>by simp[mP,aL]
 | n+1=>vm a (QT a n)
theorem Yz{place}:∀ ps cs rs,Ao P place cs ps=cs6 rs->V rs=V cs
 | [],cs,rs,e=>by simp only[Ao] at e;cases e;rfl
 | (i,v)::ps,cs,rs,e=>by
  simp only[Ao] at e;split at e
  .rename_i off n vs _ _;split at e
   next a b=>have a:V vs=n:=bH a;have b:=lX b;rw[Yz ps _ rs e];simp[tH];omega
   .cases e
  .cases e
variable{nm:Nat}
theorem ai7(m:Mod w0 N0 A env h w)(hn:h nm = .un){E:ct5}{t:CT}{xs:List t.D}{a w':cu6}{vs:Array ct8}{cap:Nat}{pre:List Prop}
  (e:cY w a λ_=>False) (d:w'=a.alloc (.cells vs E)) (f:vs.size=cap*t.size) (hl:V xs<=cap) (hc:cap<=cu5)
  (hr:∀ i (g:i<V xs),Rd A w t (λo=>vs[o]?) (i*t.size) xs[i]) :
  eV w0 N0 A env h w (.det pre (.own nm t.size) [(nm,.live (.row E t xs))]) (.slice (cs6 ⟨a.heap.size,0,ct4⟩) (V xs) cap) w':=by
 subst d
 have c:cY w (a.alloc (.cells vs E)) λ_=>False:=e.trans (cY.alloc a _ _)
 obtain⟨x,A',env',h1,h2,h3,h4⟩:=eV.fresh (s := .own nm t.size) m hn (b := .row E t xs) (len:=(0,V xs)) rfl a.heap.size e.size c
  (λx=>⟨vs,cap,.of (heap_alloc_new a _),by simpa using f,rfl,hl,hc,λi g=>jM x.imm x.keep t _ _ _ _ (λ_ _=>rfl) (by simpa using hr i g)⟩) (by
   refine .inr ⟨a.heap.size,(0,V xs),E,vs.size,bt.set_same _ _ _,?_,?_⟩
   .unfold cv9;rw[heap_alloc_new]
   .show _=cE0 _ _ ((vs.size-0)/t.size);rw[cG8,f,sN _ t.size_pos])
 exact⟨(),A',env',aQ,h2,h3,h4⟩
variable{t:ct5}
theorem aH7(m:Mod w0 N0 A env h w)(f:FD A env w ρ a){len:Nat}{c:Array (Nat×cv0)}(ho:o.op = .buildSlice t len c)
  (e:(RR P t len nm (c.toList.map λp=>(p.1,bm ρ p.2))).run h=cs6 (d,r)):bK P o a w0 N0 A env h w d:=by
 unfold RR at e
 split at e
 next E sz he=>
  have ⟨hu,hsz⟩:=AD he;split at e
  .rename_i u z hct hz;split at e
   .rename_i cs s n y hf;have s:=bH s;have n:=bH n;have y:=lX y;obtain⟨⟨xs,fz⟩,q1,q2,e1,e2,rfl⟩:=Q.run_bind _ _ _ e;simp only[Q.run] at e2;split at e2
    .rename_i p q B;obtain⟨rfl,rfl⟩:=e2;split at B
     .rename_i hun;split at B
      .rename_i hni;have hni:=Jh hni;cases cE B;subst s;obtain⟨i,j,hi,hzv,dz,_⟩:=D3 hz;have F:j.cells.size=u.size:=by rw[← jF,kr dz,n]
       have dps:aL A env w ((c.toList.map λp=>(p.1,bm ρ p.2)).map (·.2)) ((c.toList.map λp=>(p.1,a.eval p.2)).map (·.2)):=by
        generalize c.toList=l
        induction l with
        | nil=>simp[aL]
        | cons p l ih=>simp only[f6,aL];exact⟨_,_,rfl,dG f p.2,ih⟩
       have v:(cA0 j.cells (len*u.size)).toList=mP j.cells.toList len:=by rw[← F];exact Ri _ _ (by rw[F];exact u.size_pos)
       have ⟨vs,hv,dv⟩:=H7 (place':=λi=>cs6 (i*u.size,u.size)) (λi p hp=>hp)
        (c.toList.map λp=>(p.1,bm ρ p.2)) (c.toList.map λp=>(p.1,a.eval p.2)) (mP z len) cs (cA0 j.cells (len*u.size)) hf (by rw[v];exact QT dz len) (by simp[cC0]) dps
       have ⟨ok,hxl,hle,hrd⟩:=ad7 m (A':=iQ A env fz) (λb hb=>.inl hb) u len cs vs.toList xs fz q1 e1 dv (λk B=>.inr B);have ⟨m2,x2⟩:=m.freeze ok;have hcl:vs.size=len*u.size:=by
        rw[← jF,kr dv,Yz _ _ _ hf,Od,n]
       have S:(cu7 a.eval o).run P w = .ok (.value (.slice (cs6 ⟨w.heap.size,0,ct4⟩) len len)) (w.alloc (.cells vs E)):=by
        unfold cu7;rw[ho];have G:¬ (len*u.size>2^24):=Y;have hz':(zeroValue E).run P w = .ok j w:=by simp[zeroValue,typeInfo,hi,hzv]
        by_cases h0:len*u.size=0
        .have D:cA0 j.cells (len*u.size) = #[]:=by simp[h0,cA0]
         rw[D] at hv;have hr0:cO7 (len*u.size) = #[]:=by rw[h0];rfl
         simp only[cJ6,cu4,run_underlying hu,cu0,jC hsz,I G,ao h0,cu9,hr0,cK0,cH3,cy4,hv,newRow,cU9];rfl
        .have D:((cO7 (len*u.size)).map (j.cells[· % j.cells.size]!))=cA0 j.cells (len*u.size):=rfl;simp only[cJ6,cu4,run_underlying hu,cu0,jC hsz,I G,I h0,hz',cu9,D,cy4,hv,newRow,cU9];rfl
       have hxl':=hxl;have hlm:len<=cu5:=by
        have:len*1<=len*u.size:=cR1 _ u.size_pos;simp only[cu5];omega
       have g:=ai7 m2 (by rw[rq hni];exact hun) (E:=E) (xs:=xs) (pre:=[]) (cY.refl w _) rfl hcl Y hlm (λi hi=>by simpa using hrd i hi);refine⟨_,_,.inl S,?_⟩;rw[hxl'] at g;exact eV.of_frz m ok g
      .cases B
     .cases B
    .cases e2
   .cases e
  .rename_i z hct hz;split at e
   .rename_i cs s n y hf;have s:=bH s;have n:=bH n;simp only[fB] at y;have hb4:=lX y.1;have hb5:=lX y.2;subst n;simp only[Q.run] at e;split at e
    .rename_i p q B;obtain⟨rfl,rfl⟩:=e;split at B
     .rename_i hun;cases cE B;obtain⟨i,j,hi,hzv,dz,_⟩:=D3 hz;have F:j.cells.size=1:=by rw[← jF,kr dz,s]
      have dps:aL A env w ((c.toList.map λp=>(p.1,bm ρ p.2)).map (·.2)) ((c.toList.map λp=>(p.1,a.eval p.2)).map (·.2)):=by
       generalize c.toList=l
       induction l with
       | nil=>simp[aL]
       | cons p l ih=>simp only[f6,aL];exact⟨_,_,rfl,dG f p.2,ih⟩
      have v:(cA0 j.cells (len*1)).toList=mP j.cells.toList len:=by
       have:=Ri j.cells len Y;rw[F] at this;exact this
      have ⟨vs,hv,dv⟩:=H7 (place':=λi=>cs6 (i*1,1)) (λi p hp=>hp)
       (c.toList.map λp=>(p.1,bm ρ p.2)) (c.toList.map λp=>(p.1,a.eval p.2)) (mP z len) cs (cA0 j.cells (len*1)) hf (by rw[v];exact QT dz len) (by simp[cC0]) dps
      have G:¬ (len*1>2^24):=Y;have h0:¬ (len*1=0):=Y;have hz':(zeroValue E).run P w = .ok j w:=by simp[zeroValue,typeInfo,hi,hzv]
      have D:((cO7 (len*1)).map (j.cells[· % j.cells.size]!))=cA0 j.cells (len*1):=rfl;have S:(cu7 a.eval o).run P w = .ok (.value (.slice (cs6 ⟨w.heap.size,0,ct4⟩) len len)) (w.alloc (.cells vs E)):=by
       unfold cu7;rw[ho];simp only[cJ6,cu4,run_underlying hu,cu0,jC hsz,I G,I h0,hz',cu9,D,cy4,hv,newRow,cU9];rfl
      refine⟨_,_,.inl S,eV.fresh m hun (len:=(0,0)) rfl w.heap.size (dq _) (cY.alloc w _ _) (λx=>⟨vs,heap_alloc_new w _,DU x _ _ dv⟩) ?_⟩;simp only[ax];simp_all
     .cases B
    .cases e
   .cases e
  .cases e
 .cases e
theorem co0(m:Mod w0 N0 A env h w)(f:FD A env w ρ a){x y:cv0}(ho:o.op = .makeSlice t x y)
  (e:(RL P t nm (bm ρ x) (bm ρ y)).run h=cs6 (d,r)) (R:bQ d.pre):bK P o a w0 N0 A env h w d:=by
 have S:=dG f x
 have qq4:=dG f y
 unfold RL at e
 split at e
 next E U kl l kc c he hx hy=>
  have ⟨hu,v⟩:=AD he;rw[hx] at S;rw[hy] at qq4;simp only[ax] at S qq4;split at e
  .rename_i u z i hct hz hi;split at e
   .rename_i qq5 rest B W H hpz;have B:=bH B;have W:=bH W;have H:=lX H;subst B;simp only[Q.run] at e;split at e
    .rename_i p q hk;obtain⟨rfl,rfl⟩:=e;split at hk
     .rename_i K;cases cE hk;simp only[Dl.pre,bQ,ir] at R;have ⟨h0,L,qq1⟩:=R;obtain⟨i',G,X,qq2,dz,_⟩:=D3 hz;rw[hi] at X;cases X;have s:G.cells.size=u.size:=by rw[← jF,kr dz,W]
      have hisz:i.size=u.size:=by
       unfold iu at v;rw[hi] at v;simpa using v
      have qq0:c<=9223372036854775807:=by
       have:(1:Int)*c<=(i.bytes:Int)*c:=Int.mul_le_mul_of_nonneg_right Y Y;omega
      have hrun:=run_make w t E i G hu hi qq2 kl kc l c h0 L qq1 qq0;have D:=Ak m u z G.cells.toList qq5 rest [] [] (by rw[hpz];rfl) dz (A':=A) (λ_ hb=>hb) (λk ⟨n,b,l,hh,_⟩=>by simp at hh);have F:(cA0 G.cells (M c*u.size)).toList=mP G.cells.toList (M c):=by rw[← s];exact Ri _ _ (by rw[s];exact u.size_pos)
      have g:=ai7 m K (E:=E) (xs:=replicate (M l) qq5) (vs:=cA0 G.cells (M c*u.size)) (pre:=[0<=l,l<=c,(i.bytes:Int)*c<=281474976710656]) (cY.refl w _) rfl
       (size_madeCells _ _) (by simp;omega) (by simp only[cu5];omega) (λj hj=>by
        simp at hj;rw[cN8];have sh:=Fo D.2.2.2.1 (j*u.size);rw[gD] at sh;refine jM (λ_ h=>h) (λ_ _ _=>rfl) u _ _ _ _ (λq hq=>?_) sh;have qq3:j*u.size+q<M c*u.size:=by
         have:(j+1)*u.size<=M c*u.size:=nk _ Y;grind
        rw[← rz,F,G5 _ _ _ (by simpa[s] using qq3)];congr 1;simp only[jF,s];rw[An,cM4,cK6 hq];omega)
      refine⟨_,_,.inl ?_,g⟩;unfold cu7;simp_all
     .cases hk
    .cases e
   .cases e
  .cases e
 .cases e
end
end Go.SX
namespace Go.SX
section
variable {P:cu2} {w0:cu6} {N0:fT} {A:Nat->Prop} {env:bt} {h:cq} {w:cu6} {o:cA2} {a:Act} {ρ:Nat->SV} {d:Dl} {r:List Nat}
theorem NN{t:CT}{cv:Nat->Option ct8}:∀(ys:List t.D)(off:Nat),(∀ i (c:i<V ys),Rd A w t cv (off+i*t.size) ys[i]) →
  ∃ news:List ct8,V news=V ys*t.size/\(∀ j,j<V news->cv (off+j)=news[j]?)∧∀ u∈news,u.oneCell'=cs8
 | [],off,_=>⟨[],aw,aw,aw⟩
 | y::ys,off,d=>by
  obtain⟨us,hl,hc,hd⟩:=BQ (env:=λ_=>.un) t y cv off (by have:=d 0 aw;simpa only[cW6,kz,List.getElem_cons_zero] using this);obtain⟨news,b,hc2,h1⟩:=NN ys (off+t.size) (λi c=>by
   have:=d (i+1) (by simpa using c);rw[show off+t.size+i*t.size=off+(i+1)*t.size from by rw[gA,qS];omega];exact this)
  refine⟨us++news,by simp[hl,b,gA];omega,λj hj=>?_,?_⟩
  .grind
  .intro u a;obtain a|a:=dX.1 a
   .exact GS hd (LV _ _) u a
   .exact h1 u a
variable{t:CT}{v:ct8}
theorem VR{ys}(hs:wF A w t v ys):∃ p c,v = .slice p (V ys) c/\V ys<=cu5 ∧
  (V ys=0∨∃ b off,p=cs6 ⟨b,off,ct4⟩∧∀ i (hi:i<V ys),Rd A w t (λo=>w.cell? ⟨b,o,ct4⟩) (off+i*t.size) ys[i]):=by
 obtain⟨hl,⟨⟨p,rfl⟩,rfl⟩|⟨b,off,cap,rfl,h1,h2,h3,h4⟩⟩:=hs
 .simp_all
 .grind
theorem Tw(m:Mod w0 N0 A env h w){x:SV}{ys:List t.D}(e:(zM t x).run h=cs6 (ys,r))(y:ax A env w x v) :
  ∃ p c,v = .slice p (V ys) c/\V ys<=cu5 ∧
  (V ys=0∨∃ b off,p=cs6 ⟨b,off,ct4⟩∧∀ i (z:i<V ys),Rd A w t (λo=>w.cell? ⟨b,o,ct4⟩) (off+i*t.size) ys[i]):=by
 unfold zM at e
 split at e
 next u zs=>
  split at e
  next f hc=>obtain⟨rfl,_⟩:=e;have ⟨j,k⟩:=lv hc;subst j;subst k;exact VR y
  .cases e
 next u zs=>
  split at e
  next f hc=>obtain⟨rfl,_⟩:=e;have ⟨j,k⟩:=lv hc;subst j;subst k;exact VR y.1
  .cases e
 .simp only[Q.run,cy,ck] at e;simp only[ax] at y;simp_all
 next n sz=>
  simp only[Q.run] at e;split at e
  .rename_i p q hk;simp at e;obtain⟨rfl,rfl⟩:=e;have l:∀{g:ct5}{u:CT}{zs:List u.D},(h n = .live (.row g u zs)∨h n = .live (.frz g u zs))->iP u t zs=cs6 p →
     ∃ S c,v = .slice S (V p) c/\V p<=cu5 ∧
     (V p=0∨∃ b off,S=cs6 ⟨b,off,ct4⟩∧∀ i (z:i<V p),Rd A w t (λo=>w.cell? ⟨b,o,ct4⟩) (off+i*t.size) p[i]):=by
    intro g u zs a hc;have ⟨j,k⟩:=lv hc;subst j;subst k;obtain⟨hnil,pp,ev⟩|⟨b,len,E2,c,B,_,ev⟩:=y
    .have hx:V p=0:=by
      have:=m.nm n;obtain a|a:=a <;> rw[a] at this <;> obtain⟨k',l',he',_⟩|⟨_,E3,t3,B⟩:=this
      .simp_all
      .grind
      .simp_all
      .grind
     simp_all
    .have d:uw A w b len g u p:=by
      obtain a|a:=a
      .exact (m.live_blk a B).1
      .exact (m.live_blk a B).1.2
     have s:V p=len.2/\len.2<=cu5:=by
      have ⟨vs,cap,_,_,h2,h3,h4,_⟩:=d;omega
     refine⟨_,_,by rw[s.1];exact ev,Y,.inr ⟨b,len.1,rfl,λi z=>?_⟩⟩;have:=Hb d (i:=i) Y;rw[Pw z] at this;exact this
   split at hk
   .rename_i g u zs a;split at hk
    next f h1 hc=>obtain⟨rfl,_⟩:=hk;exact l (.inl a) hc
    .cases hk
   .rename_i g u zs a;split at hk
    next f h1 hc=>obtain⟨rfl,_⟩:=hk;exact l (.inr a) hc
    .cases hk
   .cases hk
  .cases e
 .cases e
theorem sn(m:Mod w0 N0 A env h w){nm:Nat}(F:h nm = .un)(a:List Nat)(o:∀ n∈a,∃ b,h n = .live b/\b.mut=cs8){E:ct5}{zs:List t.D}{w':cu6}
  {pre:List Prop} {W:Nat->Prop} {ev:Ev} (c:cY w w' W) (hW:∀ k,W k→∃ n l,n∈a/\env n = .blk k l) (hne:ev ≠ .un)
  (r:∀ k len,ev = .blk k len->w.heap.size<=k∨∃ n l,n∈a/\env n = .blk k l)
  (H:dQ A env w A (env.set nm ev) w'→(ev = .nil/\zs=[]∧∃ p,v = .slice p 0 0)∨∃ k len c,ev = .blk k len/\uw A w' k len E t zs/\w'.shape? k=cs6 (E,c)/\v = .slice (cs6 ⟨k,len.1,ct4⟩) len.2 ((c-len.1)/t.size)) :
  eV w0 N0 A env h w (.det pre (.own nm t.size) ((nm,.live (.row E t zs))::a.map λn=>(n,.dead))) v w':=by
 have D:env nm = .un:=by have:=m.nm nm;rw[F] at this;exact this
 have z:∀ k,W k→∃ G b l,G∈a/\h G = .live b/\b.mut=cs8/\env G = .blk k l:=by
  grind
 have x:dQ A env w A (env.set nm ev) w':=m.xt c (λk P=>let ⟨n,b,l,_,h1⟩:=z k P;⟨n,b,l,h1⟩) λn hn=>bt.set_other _ _ λe=>hn (e▸D)
 have j:∀ n,n≠nm->n ∉ a->dM ((nm,.live (.row E t zs))::a.map λn=>(n,.dead)) h n=h n:=by
  intro n h1 i;refine rq ?_;grind
 have d:dM ((nm,.live (.row E t zs))::a.map λn=>(n,.dead)) h nm = .live (.row E t zs):=by simp[dM]
 have f:∀ n,n≠nm->n∈a->dM ((nm,.live (.row E t zs))::a.map λn=>(n,.dead)) h n = .dead:=by
  intro n h1 i;simp only[dM];rw[cq.set_other _ _ h1];clear o hW r z j d
  induction a with
  | nil=>simp at i
  | cons q a ih =>
   simp only[f6,dM];by_cases hq:n=q
   .subst hq;simp
   .rw[cq.set_other _ _ hq];exact ih (by simpa[hq] using i)
 have u:mH (λn=>n=nm∨n∈a) W A env h w A (env.set nm ev) (dM ((nm,.live (.row E t zs))::a.map λn=>(n,.dead)) h) w':=by
  refine⟨c,λk P=>?_,λ_ h=>h,λ_ h=>.inl h,λn hn=>bt.set_other _ _ (λe=>hn (.inl e)),λn hn=>?_,λn hn=>j n (λe=>hn (.inl e)) (λe=>hn (.inr e)),?_,?_,?_⟩
  .grind
  .exact bt.set_other _ _ (λe=>hn (e▸D))
  .rintro n hn;by_cases hnm:n=nm
   .subst hnm;rw[d];obtain⟨h1,i,_⟩|⟨k,len,K,h1,i,_⟩:=H x
    .exact .inr ⟨by rw[bt.set_same];exact h1,E,t,.inl (by rw[i])⟩
    .refine .inl ⟨k,len,by rw[bt.set_same];exact h1,i,λ_ L=>?_⟩;obtain h3|⟨B,l,g,S⟩:=r k len h1
     .have:=m.Alt k L;omega
     .have ⟨b,s,y⟩:=o B g;exact (m.live_blk s S).2 y L
   .rw[f n hnm (hn.resolve_left hnm)];trivial
  .intro n b k l hn hl hm S;by_cases hnm:n=nm
   .subst hnm;rw[bt.set_same] at S;obtain h3|⟨B,Q,g,he'⟩:=r k l S
    .exact .inl h3
    .have ⟨b',s,y⟩:=o B g;exact .inr ⟨B,b',Q,.inr g,s,y,he'⟩
   .grind
  .intro n B b c k l Q hn g hl hl' _ _ _ _;by_cases hnm:n=nm
   .grind
   .rw[f n hnm (hn.resolve_left hnm)] at hl;cases hl
 refine⟨(),A,env.set nm ev,aQ,m.upd u,m.ext u,?_⟩
 obtain⟨h1,i,h3⟩|⟨k,len,K,h1,i,h3,h4⟩:=H x
 .exact .inl ⟨by rw[bt.set_same];exact h1,h3⟩
 .exact .inr ⟨k,len,E,K,by rw[bt.set_same];exact h1,h3,h4⟩
variable{f:Nat}
theorem VN{t e ty}(d:P.underlying t=cs6 (.slice e))(a:iu P e=cs6 f)(p q)(n cap c)(g:n<=cap) :
  (cv7 #[t,t] ty #[.slice p n cap,.slice q 0 c]).run P w = .ok (.slice p n cap) w:=by
 have h:(cE1 f 0 (.slice q 0 c)).run P w = .ok #[] w:=by
  cases q <;> simp[cE1,loadCells,loadCellsFrom]
 cases p with
 | none=>simp[cv7,run_underlying d,jC a,cL3,g,h]
 | some b=>simp[cv7,run_underlying d,jC a,cL3,g,h,cU8]
theorem zu{t}{cv c:Nat->Option ct8}{o d}(h:Rd A w t cv o d)(e:∀ j,j<t.size->c (f+j)=cv (o+j)):Rd A w t c f d:=by
 have key:∀(t:CT)(cv c:Nat->Option ct8)(o f:Nat)(d:t.D),Rd A w t cv o d->(∀ j,j<t.size->c (f+j)=cv (o+j))->Rd A w t c f d:=by
  intro t
  induction t with
  | pair a b g i =>
   intro cv c o f d h e;refine⟨g _ _ _ _ _ h.1 (λj hj=>e j (by simp only[CT.size];omega)),i _ _ _ _ _ h.2 (λj hj=>?_)⟩;have:=e (a.size+j) (by simp only[CT.size];omega);grind
  | int k=>intro cv c o f d h e;have:=e 0 (by simp[CT.size]);simp at this;simp only[Rd] at h ⊢;rw[this];exact h
  | bool=>intro cv c o f d h e;have:=e 0 (by simp[CT.size]);simp at this;simp only[Rd] at h ⊢;rw[this];exact h
  | str=>intro cv c o f d h e;have:=e 0 (by simp[CT.size]);simp at this;simp only[Rd] at h ⊢;rw[this];exact h
  | sl t ih=>intro cv c o f d h e;have:=e 0 (by simp[CT.size]);simp at this;simp only[Rd] at h ⊢;rw[this];exact h
 grind
theorem RD{t:CT}{xs ys:List t.D}{olds news rest:List ct8}(ho:V olds=V xs*t.size)(hn:V news=V ys*t.size)
  (hx:∀ i (b:i<V xs),Rd A w t (λj=>olds[j]?) (i*t.size) xs[i]) (hy:∀ i (b:i<V ys),Rd A w t (λj=>news[j]?) (i*t.size) ys[i]) :
  ∀ i (b:i<V (xs++ys)),Rd A w t (λj=>(olds++news++rest).toArray[j]?) (i*t.size) (xs++ys)[i]:=by
 intro i b
 simp only[cD7]
 by_cases a:i<V xs
 .rw[List.getElem_append_left a];refine zu (hx i a) λj hj=>?_;have:(i+1)*t.size<=V xs*t.size:=nk _ Y;grind
 .rw[List.getElem_append_right Y];have c:i-V xs<V ys:=by simp at b;omega
  refine zu (hy _ c) λj hj=>?_;have e1:i*t.size=V xs*t.size+(i-V xs)*t.size:=by rw[← gA];congr 1;omega
  have:(i-V xs+1)*t.size<=V ys*t.size:=nk _ Y;rw[gA,qS] at this;rw[gI,pn Y,nJ Y];congr 1;omega
end
end Go.SX
namespace Go.SX
theorem bt3{P:cu2}{q:Prop}(w:cu6)(t ty e:ct5)(i:TypeInfo)(ht:P.underlying t=cs6 (.slice e))(hi:P.info? e=cs6 i)
  (g off sE A0:Nat) (cur:Array ct8) (hg:Hc q w g cur e)
  (a:cN3) (m c:Nat) (news:List ct8) (hl:V news=m*i.size) (hnews:∀ j u,news[j]? = cs6 u->w.cell? (a.add j)=cs6 u) (h1:∀ u∈news,u.oneCell'=cs8)
  (hroom:sE+m<=A0) (hfit:off+sE*i.size+V news<=cur.size) :
  (cv7 #[t,t] ty #[.slice (cs6 ⟨g,off,ct4⟩) sE A0,.slice (cs6 a) m c]).run P w =
   .ok (.slice (cs6 ⟨g,off,ct4⟩) (sE+m) A0) (w.setRow g (cur.toList.take (off+sE*i.size)++news++cur.toList.drop (off+sE*i.size+V news)).toArray):=by
 have hf:=run_firstCells_some (P:=P) w i.size m a m c news hl hnews
 have hst:=PM (P:=P) g (off+sE*i.size) e news 0 cur w hg (by simpa using hfit) h1
 simp[cv7,run_underlying ht,sizeOf,typeInfo,hi,cL3,hroom,hf,cv5,hst]
section
variable {P:cu2} {w0:cu6} {N0:fT} {A:Nat->Prop} {env:bt} {h:cq} {w:cu6} {o:cA2} {a:Act} {ρ:Nat->SV} {d:Dl} {r:List Nat}
theorem ba6(l)(z:Array ct8):l.toArray++z=(l++z.toList).toArray:=by apply cL2;simp
theorem bP5(l m)(z:Array ct8):l.toArray++m.toArray++z=(l++m++z.toList).toArray:=by apply cL2;simp
variable{t ty:ct5}{nm:Nat}
theorem Oh(m:Mod w0 N0 A env h w){e:ct5}{X:Nat}{i:TypeInfo}{z:ct8}{u:CT}{ys:List u.D}{p q:Option cN3}{c:Nat}{pre:List Prop}
  (qq0:P.underlying t=cs6 (.slice e)) (d:iu P e=cs6 X) (f:P.info? e=cs6 i) (hz:i.zero=cs6 z) (K:z.cells.size=X) (hb1:1<=i.bytes) (hu:X=u.size) (y:h nm = .un)
  (B:List Nat) (D:∀ n∈B,∃ b,h n = .live b/\b.mut=cs8)
  (hl:V ys<=cu5) (L:V ys*i.bytes<=140737488355328)
  (E:V ys=0∨∃ b off,q=cs6 ⟨b,off,ct4⟩∧∀ i (f:i<V ys),Rd A w u (λo=>w.cell? ⟨b,o,ct4⟩) (off+i*u.size) ys[i]) :
  ∃ v w',(cv7 #[t,t] ty #[.slice p 0 0,.slice q (V ys) c]).run P w = .ok v w' ∧
   eV w0 N0 A env h w (.det pre (.own nm X) ((nm,.live (.row e u ys))::B.map λn=>(n,.dead))) v w':=by
 subst hu
 by_cases qq1:V ys=0
 .refine⟨.slice p 0 0,w,by rw[qq1];exact VN qq0 d p q 0 0 c (dq _),?_⟩;have:ys=[]:=Be qq1;subst this;exact sn m y B D (W:=λ_=>False) (cY.refl w _) (λ_ h=>h.elim) aw (λk l e=>by cases e) (λ_=>.inl ⟨rfl,rfl,p,rfl⟩)
 .obtain⟨b,off,rfl,F⟩:=E.resolve_left qq1;have ⟨news,g,qq2,hn1⟩:=NN ys off F;have r:i.size=u.size:=by unfold iu at d;rw[f] at d;simpa using d
  have a:∀ j v,news[j]? = cs6 v->w.cell? ((⟨b,off,ct4⟩:cN3).add j)=cs6 v:=by
   intro j v qq3;rw[cv5,qq2 j (ct6.1 qq3).1];exact qq3
  have G:∀ i (f:i<V ys),Rd A w u (λj=>news[j]?) (i*u.size) ys[i]:=λi f =>
   zu (F i f) λj qq3=>by
    have:(i+1)*u.size<=V ys*u.size:=nk _ Y;grind
  have H:((V ys:Nat):Int)<=9223372036854775807:=by simp only[cu5] at hl;omega
  have Q:∀ v w' cap,V ys<=cap->cap<=cu5->v = .slice (cs6 ⟨w.heap.size,0,ct4⟩) (V ys) cap->w'=w.drew.alloc (.cells (news.toArray++cu8 z.cells (cap-V ys)) e) →
    eV w0 N0 A env h w (.det pre (.own nm u.size) ((nm,.live (.row e u ys))::B.map λn=>(n,.dead))) v w':=by
   rintro v w' cap R S rfl rfl;have cg:cY w (w.drew.alloc (.cells (news.toArray++cu8 z.cells (cap-V ys)) e)) λ_=>False:=(cY.drew w _).trans (cY.alloc w.drew _ _);have s:(news.toArray++cu8 z.cells (cap-V ys)).size=cap*u.size:=by
    simp only[cA5,vz,g,size_zeroCells,K,← gA];congr 1;omega
   refine sn m y B D cg (λ_ h=>h.elim) aw (λk l e=>by cases e;exact .inl (dq _)) (λx=>.inr ⟨w.heap.size,(0,V ys),cap*u.size,rfl,?_,?_,?_⟩)
   .refine⟨_,cap,.of (heap_alloc_new w.drew _),by rw[s,gD],rfl,R,S,λi f=>?_⟩;rw[gD];have:=RD (xs:=([]:List u.D)) (olds:=[]) (rest:=(cu8 z.cells (cap-V ys)).toList) aw g aw G i (by simpa using f);refine jM (λ_ h=>h) x.keep u _ _ _ _ (λj _=>?_) this;rw[ba6];rfl
   .unfold cv9;have hh:=heap_alloc_new w.drew (.cells (news.toArray++cu8 z.cells (cap-V ys)) e);simp_all
   .show _=cE0 _ _ ((cap*u.size-0)/u.size);rw[cG8,sN _ u.size_pos]
  have qq4:=cI4 w (V ys) 0 e;have U:=cB4 w (V ys) 0 e hl;cases p with
  | none =>
   exact⟨_,_,run_append_nil w t ty e i z qq0 f hz ⟨b,off,ct4⟩ (V ys) c news (by rw[g,r]) a Y H Y,Q _ _ _ qq4 U rfl rfl⟩
  | some pa =>
   have hr:=cX4 w t ty e i z qq0 f hz pa 0 0 [] aw aw ⟨b,off,ct4⟩ (V ys) c news (by rw[g,r]) a Y (by simpa using H) (cL6 Y (by simpa using L));grind
def L7(P:cu2)(t t':ct5):Bool:=ct7 t t'||match P.underlying t,P.underlying t' with
 | some (.slice e),cs6 (.slice e')=>ct7 e e'
 | _,_=>ct2
theorem a49{a s x}(h:L7 P t a=cs8):(cv7 #[t,a] ty #[s,x]).run P w=(cv7 #[t,t] ty #[s,x]).run P w:=by
 obtain h|h:=Bool.or_eq_true_iff.1 h
 .simp_all
 .split at h
  next e1 e2=>cases s <;> simp[cv7,cu4,run_underlying e1,run_underlying e2]
  .cases h
theorem ZN(m:Mod w0 N0 A env h w)(f:FD A env w ρ a){t':ct5}{s x:cv0}(hts:L7 P t t'=cs8)(ho:o.op = .call {callee := .builtin .append,args := #[s,x],argTypes := #[t,t']})
  (e:(IJ P t nm (bm ρ s) (bm ρ x)).run h=cs6 (d,r)) (hp:bQ d.pre):bK P o a w0 N0 A env h w d:=by
 have ds:=dG f s
 have dx:=dG f x
 have exe:∀{v:ct8}{w':cu6},(cv7 #[t,t] o.type #[a.eval s,a.eval x]).run P w = .ok v w'→(cu7 a.eval o).run P w = .ok (.value v) w':=by
  intro v w' hr;unfold cu7;rw[ho];simp only[resolve,invoke,builtin,cu4,cu9,cu0,cK0,f6,cH3,a49 hts,hr]
 unfold IJ at e
 split at e
 next E sz he=>
  have ⟨hu,hsz⟩:=AD he;split at e
  .rename_i i hi;split at e
   .rename_i z hb1 hz;have hb1:=lX hb1;split at e
    .rename_i hzs;have hzs:=bH hzs;have hisz:i.size=sz:=by unfold iu at hsz;rw[hi] at hsz;simpa using hsz
     split at e
     .rename_i n sz' hs;rw[hs] at ds;simp only[ax] at ds;simp only[Q.run] at e;split at e
      .rename_i p q hk;simp only[cy,ck] at e;obtain⟨rfl,rfl⟩:=e;split at hk
       .rename_i E' u xs hl;split at hk
        .rename_i hE h1 h2;have hE:=bH hE;have h1:=bH h1;have h2:=bH h2;subst hE;obtain⟨ys,q1,q2,e1,e2,rfl⟩:=Q.run_bind _ _ _ hk;simp only[Q.run] at e2;split at e2
         .rename_i p' q' hk';simp only[cy,ck] at e2;obtain⟨rfl,rfl⟩:=e2;split at hk'
          .rename_i hun;cases cE hk';simp only[Dl.pre,bQ,ir] at hp;have ⟨pq,c,ev,hyl,hsrc⟩:=Tw m e1 dx;have hdn:∀ n'∈[n],∃ b,h n' = .live b/\b.mut=true:=by simp[hl,lJ.mut]
           obtain⟨hnil,pa,es⟩|⟨b,len,E2,cc,hb,hsh,es⟩:=ds
           .have hx:xs=[]:=by
             have:=m.nm n;rw[hl] at this;obtain⟨k',l',he',_⟩|⟨_,E3,t3,hb⟩:=this
             .simp_all
             .grind
            subst hx;simp only[cy2,gD] at hp;have ⟨v,w',hr,g⟩:=Oh (P:=P) (ty:=o.type) (p:=pa) (q:=pq) (c:=c) (pre:=[(V ([]:List u.D)+V ys)*i.bytes<=140737488355328]) m hu hsz hi hz hzs hb1 h1 hun [n] hdn hyl hp hsrc;refine⟨v,w',.inl (exe (by rw[es,ev];exact hr)),?_⟩;simpa using g
           .have ⟨β,len⟩:=len;have ⟨cur,cap,hh,hcs,hxl,hlc,hcm,hrd⟩:=(m.live_blk hl hb).1;simp only at hcs hxl hlc hrd es;have hcc:cc=cur.size:=by
             rw[hh.shape] at hsh;simp_all
            have hcap:(cc-β)/sz'=cap:=by rw[hcc,hcs,h2,nW];exact sN _ u.size_pos
            rw[hcap] at es;have hne:nm≠n:=λe'=>by rw[e',hl] at hun;cases hun
            have hnA:=(m.live_blk hl hb).2 rfl;subst h1;by_cases h0:V ys=0
            .have:ys=[]:=Be h0;subst this;refine⟨.slice (cs6 ⟨b,β,ct4⟩) len cap,w,.inl (exe (by rw[es,ev];exact VN hu hsz _ _ _ _ _ hlc)),?_⟩;have g:=sn (pre:=[(V xs+V ([]:List u.D))*i.bytes<=140737488355328]) (v := .slice (cs6 ⟨b,β,ct4⟩) len cap) (E:=E') (t:=u) (zs:=xs++[]) m hun [n] hdn (W:=λ_=>False) (ev := .blk b (β,len)) (cY.refl w _) (λ_ h=>h.elim) aw
              (λk l e=>by cases e;exact .inr ⟨n,(β,len),aw,hb⟩) (λx=>.inr ⟨b,(β,len),cc,rfl,by rw[js];exact (m.live_blk hl hb).1,by rw[hsh];rw[hh.shape] at hsh;cases hsh;rfl,by rw[← h2,hcap]⟩)
             simpa using g
            .obtain⟨bb,off,rfl,hrdy⟩:=hsrc.resolve_left h0;have ⟨news,hnl,hnc,hn1⟩:=NN ys off hrdy;have hnews:∀ j v,news[j]? = cs6 v->w.cell? ((⟨bb,off,ct4⟩:cN3).add j)=cs6 v:=by
              intro j v hj;rw[cv5,hnc j (ct6.1 hj).1];exact hj
             have hrdn:∀ i (hi:i<V ys),Rd A w u (λj=>news[j]?) (i*u.size) ys[i]:=λi hi =>
              zu (hrdy i hi) λj hj=>by
               have:(i+1)*u.size<=V ys*u.size:=nk _ Y;grind
             have holds:∀ i (hi:i<V xs),Rd A w u (λj=>((cur.toList.drop β).take (len*u.size))[j]?) (i*u.size) xs[i]:=λi hi =>
              zu (hrd i hi) λj hj=>by
               have:(i+1)*u.size<=len*u.size:=nk _ Y;grind
             have hlec:len*u.size<=cap*u.size:=nk _ hlc;have hol:V ((cur.toList.drop β).take (len*u.size))=V xs*u.size:=by rw[fF,gR,jF,hxl];omega
             have hlen:V (xs++ys)=len+V ys:=by rw[cw,hxl]
             have hsum:len+V ys<=cu5:=by
              have:(len+V ys)*1<=(V xs+V ys)*i.bytes:=by rw[hxl];exact cR1 _ hb1
              simp only[cu5];omega
             by_cases hroom:len+V ys<=cap
             .have hfit:β+len*u.size+V news<=cur.size:=by
               have:(len+V ys)*u.size<=cap*u.size:=nk _ hroom;grind
              have hr:=bt3 (P:=P) w t o.type E' i hu hi b β len cap cur hh ⟨bb,off,ct4⟩ (V ys) c news (by rw[hnl,hisz]) hnews hn1 hroom (by rw[hisz];exact hfit);rw[hisz] at hr;refine⟨_,_,.inl (exe (by rw[es,ev];exact hr)),?_⟩;have hsize:(cur.toList.take (β+len*u.size)++news++cur.toList.drop (β+len*u.size+V news)).toArray.size=cur.size:=by
               grind
              have cg:=cY.setRow w b cur _ E' hh hsize;refine sn m hun [n] hdn (W:=λj=>j=b) (ev := .blk b (β,len+V ys)) cg (λk hk=>⟨n,(β,len),aw,hk▸hb⟩) aw (λk l e=>by cases e;exact .inr ⟨n,(β,len),aw,hb⟩) (λx=>.inr ⟨b,(β,len+V ys),β+cap*u.size,rfl,?_,?_,?_⟩)
              .refine⟨_,cap,hh.setRow hsize,by rw[hsize,hcs],hlen,hroom,hcm,λi hi=>?_⟩;refine jM (λ_ h=>h) x.keep u _ _ _ _ (λj _=>rfl) (zu (RD (rest:=cur.toList.drop (β+len*u.size+V news)) hol hnl holds hrdn i hi) λj hj=>?_);simp only[cD7];rw[List.take_add,gI,gI,pn (by rw[fF,jF];omega),gI];congr 1;grind
              .rw[(hh.setRow hsize).shape,hsize,hcs]
              .show _=cE0 _ _ ((β+cap*u.size-β)/u.size);rw[nW,sN _ u.size_pos]
             .have holdsc:∀ j v,((cur.toList.drop β).take (len*u.size))[j]? = cs6 v->w.cell? ((⟨b,β,ct4⟩:cN3).add j)=cs6 v:=by
               intro j v hj;rw[cv5,hh.cell];rw[Cl] at hj;split at hj
               .rwa [Ca,rz] at hj
               .cases hj
              have hr:=cX4 (P:=P) w t o.type E' i z hu hi hz ⟨b,β,ct4⟩ len cap ((cur.toList.drop β).take (len*u.size)) (by rw[hol,hxl,hisz]) holdsc ⟨bb,off,ct4⟩ (V ys) c news (by rw[hnl,hisz]) hnews Y
               (by simp only[cu5] at hsum;omega) (cL6 Y (by rw[← hxl];exact hp))
              refine⟨_,_,.inl (exe (by rw[es,ev];exact hr)),?_⟩;have hge:=cI4 w (len+V ys) cap E';have hcm':=cB4 w (len+V ys) cap E' hsum;generalize grownCap w (len+V ys) cap E'=cap' at *;have hsize:(((cur.toList.drop β).take (len*u.size)).toArray++news.toArray++cu8 z.cells (cap'-(len+V ys))).size=cap'*u.size:=by
               simp only[cA5,vz,hol,hnl,size_zeroCells,hzs,← gA];congr 1;omega
              have cg:cY w (w.drew.alloc (.cells (((cur.toList.drop β).take (len*u.size)).toArray++news.toArray++cu8 z.cells (cap'-(len+V ys))) E')) λ_=>False:=(cY.drew w _).trans (cY.alloc w.drew _ _);refine sn m hun [n] hdn (W:=λ_=>False) (ev := .blk w.heap.size (0,len+V ys)) cg (λ_ h=>h.elim) aw (λk l e=>by cases e;exact .inl (dq _)) (λx=>.inr ⟨w.heap.size,(0,len+V ys),cap'*u.size,rfl,?_,?_,?_⟩)
              .refine⟨_,cap',.of (heap_alloc_new w.drew _),by rw[hsize,gD],hlen,hge,hcm',λi hi=>?_⟩;have:=RD (A:=A) (w:=w) (rest:=(cu8 z.cells (cap'-(len+V ys))).toList) hol hnl holds hrdn i hi;rw[gD];refine jM (λ_ h=>h) x.keep u _ _ _ _ (λj _=>?_) this;rw[bP5]
              .unfold cv9;have hh':=heap_alloc_new w.drew (.cells (((cur.toList.drop β).take (len*u.size)).toArray++news.toArray++cu8 z.cells (cap'-(len+V ys))) E');simp only[cS2] at hh';rw[hh'];simp only[hsize]
              .show _=cE0 _ _ ((cap'*u.size-0)/u.size);rw[cG8,sN _ u.size_pos]
          .cases hk'
         .cases e2
        .cases hk
       .cases hk
      .cases e
     .rename_i hs;rw[hs] at ds;simp only[ax] at ds;split at e
      .rename_i u hct;split at e
       .rename_i h1;have h1:=bH h1;obtain⟨ys,q1,q2,e1,e2,rfl⟩:=Q.run_bind _ _ _ e;simp only[Q.run] at e2;split at e2
        .rename_i p' q' hk';simp only[cy,ck] at e2;obtain⟨rfl,rfl⟩:=e2;split at hk'
         next hun=>cases cE hk';simp only[Dl.pre,bQ,ir] at hp;have ⟨pq,c,ev,hyl,hsrc⟩:=Tw m e1 dx;have ⟨v,w',hr,g⟩:=Oh (P:=P) (ty:=o.type) (p:=ct4) (q:=pq) (c:=c) (pre:=[V ys*i.bytes<=140737488355328]) m hu hsz hi hz hzs hb1 h1 hun [] aw hyl hp hsrc;exact⟨v,w',.inl (exe (by rw[ds,ev];exact hr)),g⟩
         .cases hk'
        .cases e2
       .cases e
      .cases e
     .rename_i u xs hs;rw[hs] at ds;simp only[ax] at ds;split at e
      .rename_i h1;have h1:=bH h1;obtain⟨ys,q1,q2,e1,e2,rfl⟩:=Q.run_bind _ _ _ e;simp only[Q.run] at e2;split at e2
       .rename_i p' q' hk';simp only[cy,ck] at e2;obtain⟨rfl,rfl⟩:=e2;split at hk'
        next hun=>cases cE hk';simp only[Dl.pre,bQ,ir] at hp;obtain⟨hp1,rfl⟩:=hp;have ⟨_,pa,es⟩:=ds;have ⟨pq,c,ev,hyl,hsrc⟩:=Tw m e1 dx;simp only[cy2,gD] at hp1;have ⟨v,w',hr,g⟩:=Oh (P:=P) (ty:=o.type) (p:=pa) (q:=pq) (c:=c) (pre:=[(V ([]:List u.D)+V ys)*i.bytes<=140737488355328,([]:List u.D)=[]]) m hu hsz hi hz hzs hb1 h1 hun [] aw hyl hp1 hsrc;exact⟨v,w',.inl (exe (by rw[es,ev];exact hr)),g⟩
        .cases hk'
       .cases e2
      .cases e
     .cases e
    .cases e
   .cases e
  .cases e
 .cases e
end
end Go.SX
namespace Go.SX
section
variable {P:cu2} {w0:cu6} {N0:fT} {A:Nat->Prop} {env:bt} {h:cq} {w:cu6} {o:cA2} {a:Act} {ρ:Nat->SV} {d:Dl} {r:List Nat}
theorem K0(len cap)(lo hi a:Option ct8)(l hh m:Nat)
  (hm:(a=ct4/\m=cap)∨∃ k i,a=cs6 (.int k i)/\0<=i/\i<=cap/\m=M i)
  (b:(hi=ct4/\a=ct4/\hh=len)∨∃ k i,hi=cs6 (.int k i)/\0<=i/\i<=m/\hh=M i)
  (c:(lo=ct4/\l=0)∨∃ k i,lo=cs6 (.int k i)/\0<=i/\i<=hh/\l=M i) :
  (cF3 cs8 len cap lo hi a).run P w = .ok (l,hh,m) w:=by
 obtain⟨rfl,rfl⟩|⟨km,im,rfl,m0,m1,rfl⟩:=hm <;> obtain⟨rfl,e,rfl⟩|⟨kh,ih,rfl,h0,h1,rfl⟩:=b <;> obtain⟨rfl,rfl⟩|⟨kl,il,rfl,l0,l1,rfl⟩:=c <;>
  first
  | (cases e;done)
  | (simp[cF3,run_sliceBound, *,-Int.ofNat_toNat])
theorem Co{x:Option cv0}{b v:Int}(f:FD A env w ρ a)(e:sc (x.map (bm ρ)) b=cs6 v) :
  (x=ct4/\v=b)∨∃ k y,x=cs6 y/\a.eval y = .int k v:=by
 cases x with
 | none=>simp at e;cases e;exact .inl ⟨rfl,rfl⟩
 | some y =>
  have c:=dG f y;simp only[cC8] at e;unfold sc at e;split at e
  next hh=>cases hh
  next k n hh=>simp at hh;rw[hh] at c;simp only[ax] at c;simp_all
  .cases e
variable{v:ct8}
theorem Rx{t xs}(hs:wF A w t v xs){l hh}(h1:l<=hh)(g:hh<=V xs) :
  ∃ p cap,v = .slice p (V xs) cap/\V xs<=cap/\cap<=cu5∧∀ m,hh<=m->m<=cap →
   wF A w t (.slice (if m=l then p else p.map (·.add (l*t.size))) (hh-l) (m-l)) (cZ xs l hh):=by
 have a:V (cZ xs l hh)=hh-l:=by simp[cZ];omega
 obtain⟨hl,⟨⟨p,rfl⟩,rfl⟩|⟨b,off,cap,rfl,c1,c2,c3,c4⟩⟩:=hs
 .refine⟨p,0,rfl,dq _,aw,λm hm c=>?_⟩;have:m=0:=Y;subst this;have d:l=0:=by simp at g;omega
  have e:hh=0:=by simpa using g
  subst d;subst e;exact⟨by simp[cZ],.inl ⟨⟨p,aw⟩,by simp[cZ]⟩⟩
 .refine⟨_,cap,rfl,c1,c2,λm hm c=>⟨Y,?_⟩⟩;by_cases f:m=l
  .simp_all
  .rw[I f];refine .inr ⟨b,off+l*t.size,m-l,by rw[a];simp[cv5],Y,Y,c3,λi hi=>?_⟩;have eg:(cZ xs l hh)[i]=xs[l+i]:=by simp[cZ]
   grind
variable{x:cv0}{t:ct5}{lo hi mx:Option cv0}
theorem aE0(m:Mod w0 N0 A env h w)(f:FD A env w ρ a)(ho:o.op = .slice t x lo hi mx)
  (e:(Rk P t (bm ρ x) (lo.map (bm ρ)) (hi.map (bm ρ)) (mx.map (bm ρ))).run h=cs6 (d,r)) (hp:bQ d.pre):bK P o a w0 N0 A env h w d:=by
 have dx:=dG f x
 unfold Rk at e
 split at e
 next E sz he=>
  have ⟨hu,hsz⟩:=AD he;have exe:∀{p:Option cN3}{len cap l hh m:Nat},a.eval x = .slice p len cap →
    ((mx=ct4/\m=cap)∨∃ y k i,mx=cs6 y/\a.eval y = .int k i/\0<=i/\i<=cap/\m=M i) →
    ((hi=ct4/\mx=ct4/\hh=len)∨∃ y k i,hi=cs6 y/\a.eval y = .int k i/\0<=i/\i<=m/\hh=M i) →
    ((lo=ct4/\l=0)∨∃ y k i,lo=cs6 y/\a.eval y = .int k i/\0<=i/\i<=hh/\l=M i) →
    (cu7 a.eval o).run P w = .ok (.value (.slice (if m=l then p else p.map (·.add (l*sz))) (hh-l) (m-l))) w:=by
   intro p len cap l hh m ev hm hhi hlo;unfold cu7;rw[ho];have hb:=K0 (P:=P) (w:=w) len cap (lo.map a.eval) (hi.map a.eval) (mx.map a.eval) l hh m
    (by obtain⟨rfl,rfl⟩|⟨y,k,i,rfl,e1,e2⟩:=hm;exact .inl ⟨rfl,rfl⟩;exact .inr ⟨k,i,by simp[e1],e2⟩)
    (by obtain⟨rfl,rfl,rfl⟩|⟨y,k,i,rfl,e1,e2⟩:=hhi;exact .inl ⟨rfl,rfl,rfl⟩;exact .inr ⟨k,i,by simp[e1],e2⟩)
    (by obtain⟨rfl,rfl⟩|⟨y,k,i,rfl,e1,e2⟩:=hlo;exact .inl ⟨rfl,rfl⟩;exact .inr ⟨k,i,by simp[e1],e2⟩)
   simp only[cF5,cK1,cu4,run_underlying hu,cu0,ev,hb,jC hsz,cu9]
  have loF:∀{l hh:Int}{len:Nat},sc (lo.map (bm ρ)) 0=cs6 l->0<=l->l<=hh->((lo=ct4/\M l=0)∨∃ y k i,lo=cs6 y/\a.eval y = .int k i/\0<=i/\i<=M hh/\M l=M i):=by
   intro l hh len hb h0 h1;obtain⟨rfl,rfl⟩|⟨k,y,rfl,e1⟩:=Co f hb
   .exact .inl ⟨rfl,rfl⟩
   .grind
  split at e
  .rename_i u xs hx;rw[hx] at dx;simp only[ax] at dx;split at e
   .rename_i l hh hs1 hb1 hb2;have hs1:=bH hs1;subst hs1;split at e
    .rename_i hmx;cases cE e;simp only[Dl.pre,bQ,ir] at hp;have hmx':mx=none:=by cases mx <;> simp_all
     have ⟨p,cap,ev,c1,c2,c3⟩:=Rx dx (l:=M l) (hh:=M hh) Y Y;refine bK.pure m (exe ev (.inl ⟨hmx',rfl⟩) ?_ (loF (len:=0) hb1 hp.1 hp.2.1)) (by simp only[ax];exact c3 cap Y (dq _));obtain⟨rfl,rfl⟩|⟨k,y,rfl,e1⟩:=Co f hb2
     .simp_all
     .grind
    .rename_i km mm hmx;split at e
     case h_2=>cases e
     rename_i ys hhi;cases cE e;simp only[Dl.pre,bQ,ir] at hp;have ⟨hp1,hp2,hp3,hp4⟩:=hp;cases mx with
     | none=>cases hmx
     | some y =>
      have dy:=dG f y;simp only[cC8,cy] at hmx;rw[hmx] at dy;simp only[ax] at dy;have ⟨p,cap,ev,c1,c2,c3⟩:=Rx dx (l:=M l) (hh:=M hh) Y Y;refine bK.pure m (exe ev (.inr ⟨y,km,mm,rfl,dy.1,Y,Y,rfl⟩) ?_ (loF (len:=0) hb1 hp1 hp2)) ?_
      .obtain⟨rfl,rfl⟩|⟨k,y',rfl,e1⟩:=Co f hb2
       .cases hhi
       .exact .inr ⟨y',k,hh,rfl,e1,Y,Y,rfl⟩
      .simp only[ax];have hlen:V (cZ xs (M l) (M hh))=M hh-M l:=by simp[cZ];omega
       exact⟨c3 (M mm) Y Y,_,by rw[hlen];congr 1;omega⟩
    .cases e
   .cases e
  .rename_i n sz' hx;rw[hx] at dx;simp only[ax] at dx;split at e
   .rename_i hmx;have hmx':mx=none:=by cases mx <;> simp_all
    simp only[Q.run] at e;split at e
    .rename_i p q hk;simp only[cy,ck] at e;obtain⟨rfl,rfl⟩:=e;have fin:∀{E':ct5}{u:CT}{xs:List u.D}{l hh:Int}{A':Nat->Prop}{h':cq},Mod w0 N0 A' env h' w->dQ A env w A' env w->(h n = .live (.row E' u xs)∨h n = .live (.frz E' u xs)) →
       h' n = .live (.frz E' u xs)->sz=u.size->sz'=u.size →
       sc (lo.map (bm ρ)) 0=cs6 l->sc (hi.map (bm ρ)) (V xs)=cs6 hh->0<=l->l<=hh->hh<=V xs →
       ∃ v,(cu7 a.eval o).run P w = .ok (.value v) w/\ax A' env w (.dsl u (cZ xs (M l) (M hh))) v:=by
      intro E' u xs l hh A' h' m' x' hl hl' h1 h2 hb1 hb2 p1 p2 p3;have hrs:wF A' w u (a.eval x) xs:=by
       obtain⟨hnil,pa,ev⟩|⟨b,len,E2,c,hb,hsh,ev⟩:=dx
       .have hx0:xs=[]:=by
         have:=m'.nm n;rw[hl'] at this;obtain⟨k',l',he',_⟩|⟨_,E3,t3,hb⟩:=this
         .rw[hnil] at he';cases he'
         .obtain hb|hb:=hb <;> cases hb;rfl
        subst hx0;exact⟨aw,.inl ⟨⟨pa,ev⟩,rfl⟩⟩
       .have hbd:=(m'.live_blk hl' hb).1;rw[ev,h2];exact Lf (λ_ h=>h) hbd.2 hbd.1 hsh
      subst h1;have ⟨p,cap,ev,c1,c2,c3⟩:=Rx hrs (l:=M l) (hh:=M hh) Y Y;refine⟨_,exe ev (.inl ⟨hmx',rfl⟩) ?_ (loF (len:=0) hb1 p1 p2),by simp only[ax];exact c3 cap Y (dq _)⟩;obtain⟨rfl,rfl⟩|⟨k,y,rfl,e1⟩:=Co f hb2
      .exact .inl ⟨rfl,hmx',aw⟩
      .exact .inr ⟨y,k,hh,rfl,e1,Y,Y,rfl⟩
     split at hk
     .rename_i E' u xs hl;split at hk
      .rename_i l hh h1 h2 hb1 hb2;cases cE hk;simp only[Dl.pre,bQ,ir] at hp;have ok:qB h [(n,.live (.frz E' u xs))]:=by
        intro n' b hb;simp only[iV,ck] at hb;obtain⟨rfl,rfl⟩:=hb;exact⟨E',u,xs,hl,rfl⟩
       have ⟨m2,x2⟩:=m.freeze ok;have ⟨v,hr,hd⟩:=fin m2 x2 (.inl hl) (by simp[dM]) (bH h1) (bH h2) hb1 hb2 hp.1 hp.2.1 hp.2.2;exact⟨v,w,.inl hr,(),_,env,aQ,m2,x2,hd⟩
      .cases hk
     .rename_i E' u xs hl;split at hk
      next l hh h1 h2 hb1 hb2=>cases cE hk;simp only[Dl.pre,bQ,ir] at hp;have ⟨v,hr,hd⟩:=fin m dQ.refl (.inr hl) hl (bH h1) (bH h2) hb1 hb2 hp.1 hp.2.1 hp.2.2;exact bK.pure m hr hd
      .cases hk
     .cases hk
    .cases e
   .cases e
  .rename_i hx;rw[hx] at dx;simp only[ax] at dx;split at e
   .rename_i l hh hb1 hb2 hmx;have hmx':mx=none:=by cases mx <;> simp_all
    cases cE e;simp only[Dl.pre,bQ,ir] at hp;obtain⟨rfl,rfl⟩:=hp;have hr:=exe (l:=0) (hh:=0) (m:=0) dx (.inl ⟨hmx',rfl⟩) (by
     obtain⟨rfl,_⟩|⟨k,y,rfl,e1⟩:=Co f hb2
     .exact .inl ⟨rfl,hmx',rfl⟩
     .exact .inr ⟨y,k,0,rfl,e1,Y,Y,rfl⟩) (by
     obtain⟨rfl,_⟩|⟨k,y,rfl,e1⟩:=Co f hb1
     .exact .inl ⟨rfl,rfl⟩
     .exact .inr ⟨y,k,0,rfl,e1,Y,Y,rfl⟩)
    exact bK.pure m hr (by simp[ax])
   .cases e
  .cases e
 .cases e
def Sx(P:cu2)(t:ct5)(nm:Nat)(x:SV)(lo hi mx:Option SV):Q Dl:=match vH P t,lo,hi,mx with
 | some (_,sz),ct4,cs6 (.int _ hh),ct4=>match x with
  | .own n sz' => .ask n fun
   | .live (.row E u xs)=>match ct7 sz u.size,ct7 sz' u.size with
    | true,cs8 => .ask nm fun
     | .un => .ret (.det [0<=hh,hh<=V xs] (.own nm sz) [(nm,.live (.row E u (xs.take (M hh)))),(n,.dead)])
     | _ => .fail
    | _,_ => .fail
   | _ => .fail
  | _ => .fail
 | some (_,sz),cs6 (.int _ l),ct4,ct4=>match x with
  | .own n sz' => .ask n fun
   | .live (.row E u xs)=>match ct7 sz u.size,ct7 sz' u.size with
    | true,cs8 => .ask nm fun
     | .un => .ret (.det [0<=l,l<=V xs] (.own nm sz) [(nm,.live (.row E u (xs.drop (M l)))),(n,.dead)])
     | _ => .fail
    | _,_ => .fail
   | _ => .fail
  | _ => .fail
 | _,_,_,_ => .fail
def TG(P:cu2)(t tn:ct5)(nm:Nat)(s x:SV):Q Dl:=match vH P t,s,x,P.underlying tn with
 | some (e,sz),.nilsl,.int _ n,cs6 (.int _)=>match C5 P 8 e,zeroCells P e,P.info? e with
  | some u,cs6 z,cs6 i=>match ct7 u.size sz,ct7 (V z) sz,cx6 1 i.bytes,mB u z with
   | true,cs8,cs8,.ret (d,_,[]) => .ask nm fun
    | .un => .ret (.det [0<=n,n*(i.bytes:Int)<=140737488355328] (.own nm sz) [(nm,.live (.row e u (replicate (M n) d)))])
    | _ => .fail
   | _,_,_,_ => .fail
  | _,_,_ => .fail
 | _,_,_,_ => .fail
def A0(P:cu2)(t:ct5)(x:SV):Q Dl:=match P.underlying t,x with
 | some (.slice _),.nilsl=>c8 (.int .i64 0)
 | _,_ => .fail
theorem bG3(m:Mod w0 N0 A env h w)(f:FD A env w ρ a)(ho:o.op = .call {callee := .builtin .cap,args := #[x],argTypes := #[t]})
  (e:(A0 P t (bm ρ x)).run h=cs6 (d,r)):bK P o a w0 N0 A env h w d:=by
 have b:=dG f x
 unfold A0 at e
 split at e
 next E hu hx=>rw[hx] at b;simp only[ax] at b;cases cE e;refine bK.pure m (v := .int .i64 0) ?_ (by simp only[ax];exact⟨aQ,Wx aD⟩);unfold cu7;rw[ho];simp[resolve,invoke,builtin,Builtin.cap_,run_underlying hu,b,goInt]
 .cases e
variable{nm:Nat}
theorem ba4(m:Mod w0 N0 A env h w)(f:FD A env w ρ a)(ho:o.op = .slice t x lo hi mx)
  (e:(Sx P t nm (bm ρ x) (lo.map (bm ρ)) (hi.map (bm ρ)) (mx.map (bm ρ))).run h=cs6 (d,r)) (hp:bQ d.pre):bK P o a w0 N0 A env h w d:=by
 have dx:=dG f x
 unfold Sx at e
 split at e
 case h_3=>cases e
 next E sz kh hh he hlo hhi hmx=>
  have ⟨hu,hsz⟩:=AD he;have hlo':lo=none:=by cases lo <;> simp_all
  have hmx':mx=none:=by cases mx <;> simp_all
  subst hlo' hmx';cases hi with
  | none=>cases hhi
  | some y =>
  simp only[cC8,cy] at hhi;have dy:=dG f y;rw[hhi] at dy;simp only[ax] at dy;split at e
  case h_2=>cases e
  rename_i n sz' hx;rw[hx] at dx;simp only[ax] at dx;simp only[Q.run] at e;split at e
  case h_2=>cases e
  rename_i p q hk;simp only[cy,ck] at e;obtain⟨rfl,rfl⟩:=e;split at hk
  case h_2=>cases hk
  rename_i E' u xs hl;split at hk
  case h_2=>cases hk
  rename_i hs1 hs2;have hs1:=bH hs1;have hs2:=bH hs2;subst hs1;simp only[Q.run] at hk;split at hk
  case h_2=>cases hk
  rename_i p' q' hk';simp only[cy,ck] at hk;obtain⟨rfl,rfl⟩:=hk;split at hk'
  case h_2=>cases hk'
  rename_i hun;cases cE hk';simp only[Dl.pre,bQ,ir] at hp;have exe:∀{p:Option cN3}{len cap:Nat},a.eval x = .slice p len cap->M hh<=cap->(cu7 a.eval o).run P w = .ok (.value (.slice p (M hh) cap)) w:=by
   intro p len cap ev hc;unfold cu7;rw[ho];have hb:=K0 (P:=P) (w:=w) len cap ct4 (cs6 (a.eval y)) ct4 0 (M hh) cap (.inl ⟨rfl,rfl⟩) (.inr ⟨kh,hh,by rw[dy.1],hp.1,Y,rfl⟩) (.inl ⟨rfl,rfl⟩);simp only[cC8,cF5,cK1,cu4,run_underlying hu,cu0,ev,hb,jC hsz,cu9,cW6,cG8];congr 3;split
   .rfl
   .cases p <;> simp[cV8]
  have hdn:∀ n'∈[n],∃ b,h n' = .live b/\b.mut=true:=by simp[hl,lJ.mut]
  obtain⟨hnil,pa,es⟩|⟨b,len,E2,cc,hb,hsh,es⟩:=dx
  .have hx:xs=[]:=by
    have:=m.nm n;rw[hl] at this;obtain⟨k',l',he',_⟩|⟨_,E3,t3,hb⟩:=this
    .simp_all
    .grind
   subst hx;have h0:M hh=0:=by simp at hp;omega
   have g:=sn (pre:=[0<=hh,hh<=V ([]:List u.D)]) (v := .slice pa 0 0) (E:=E') (t:=u) (zs:=([]:List u.D).take (M hh)) m hun [n] hdn (W:=λ_=>False) (ev := .nil) (cY.refl w _) (λ_ h=>h.elim) aw
    (λk l e=>by cases e) (λ_=>.inl ⟨rfl,aw,pa,rfl⟩)
   exact⟨_,w,.inl (exe es Y),by rw[h0];simpa using g⟩
  .have ⟨β,len⟩:=len;have ⟨cur,cap,hhp,hcs,hxl,hlc,hcm,hrd⟩:=(m.live_blk hl hb).1;simp only at hcs hxl hlc hrd es;have hcc:cc=cur.size:=by
    rw[hhp.shape] at hsh;simp_all
   have hcap:(cc-β)/sz'=cap:=by rw[hcc,hcs,hs2,nW];exact sN _ u.size_pos
   rw[hcap] at es;have hle:M hh<=V xs:=Y;have g:=sn (pre:=[0<=hh,hh<=V xs]) (v := .slice (cs6 ⟨b,β,ct4⟩) (M hh) cap) (E:=E') (t:=u) (zs:=xs.take (M hh)) m hun [n] hdn (W:=λ_=>False) (ev := .blk b (β,M hh)) (cY.refl w _) (λ_ h=>h.elim) aw
    (λk l e=>by cases e;exact .inr ⟨n,(β,len),by simp,hb⟩) (λx=>.inr ⟨b,(β,M hh),cc,rfl,⟨cur,cap,hhp,hcs,by simp;omega,Y,hcm,λi hi=>?_⟩,by rw[hsh];rw[hhp.shape] at hsh;cases hsh;rfl,by rw[← hs2,hcap]⟩)
   .exact⟨_,w,.inl (exe es Y),by simpa using g⟩
   .grind
 next E sz kl l he hlo hhi hmx=>
  have ⟨hu,hsz⟩:=AD he;have hhi':hi=none:=by cases hi <;> simp_all
  have hmx':mx=none:=by cases mx <;> simp_all
  subst hhi' hmx';cases lo with
  | none=>cases hlo
  | some y =>
  simp only[cC8,cy] at hlo;have dy:=dG f y;rw[hlo] at dy;simp only[ax] at dy;split at e
  case h_2=>cases e
  rename_i n sz' hx;rw[hx] at dx;simp only[ax] at dx;simp only[Q.run] at e;split at e
  case h_2=>cases e
  rename_i p q hk;simp only[cy,ck] at e;obtain⟨rfl,rfl⟩:=e;split at hk
  case h_2=>cases hk
  rename_i E' u xs hl;split at hk
  case h_2=>cases hk
  rename_i hs1 hs2;have hs1:=bH hs1;have hs2:=bH hs2;subst hs1;simp only[Q.run] at hk;split at hk
  case h_2=>cases hk
  rename_i p' q' hk';simp only[cy,ck] at hk;obtain⟨rfl,rfl⟩:=hk;split at hk'
  case h_2=>cases hk'
  rename_i hun;cases cE hk';simp only[Dl.pre,bQ,ir] at hp;have exe:∀{p:Option cN3}{len cap:Nat},a.eval x = .slice p len cap->M l<=len->(cu7 a.eval o).run P w = .ok (.value (.slice (if cap=M l then p else p.map (·.add (M l*u.size))) (len-M l) (cap-M l))) w:=by
   intro p len cap ev hc;unfold cu7;rw[ho];have hb:=K0 (P:=P) (w:=w) len cap (cs6 (a.eval y)) ct4 ct4 (M l) len cap (.inl ⟨rfl,rfl⟩) (.inl ⟨rfl,rfl,rfl⟩) (.inr ⟨kl,l,by rw[dy.1],hp.1,Y,rfl⟩);simp only[cC8,cF5,cK1,cu4,run_underlying hu,cu0,ev,hb,jC hsz,cu9]
  have hdn:∀ n'∈[n],∃ b,h n' = .live b/\b.mut=true:=by simp[hl,lJ.mut]
  obtain⟨hnil,pa,es⟩|⟨b,len,E2,cc,hb,hsh,es⟩:=dx
  .have hx:xs=[]:=by
    have:=m.nm n;rw[hl] at this;obtain⟨k',l',he',_⟩|⟨_,E3,t3,hb⟩:=this
    .simp_all
    .grind
   subst hx;have h0:M l=0:=by simp at hp;omega
   have g:=sn (pre:=[0<=l,l<=V ([]:List u.D)]) (v := .slice pa 0 0) (E:=E') (t:=u) (zs:=([]:List u.D).drop (M l)) m hun [n] hdn (W:=λ_=>False) (ev := .nil) (cY.refl w _) (λ_ h=>h.elim) aw
    (λk l e=>by cases e) (λ_=>.inl ⟨rfl,aw,pa,rfl⟩)
   have ex:=exe es Y;rw[h0] at ex;exact⟨_,w,.inl ex,by simpa[h0] using g⟩
  .have ⟨β,len⟩:=len;have ⟨cur,cap,hhp,hcs,hxl,hlc,hcm,hrd⟩:=(m.live_blk hl hb).1;simp only at hcs hxl hlc hrd es;have hcc:cc=cur.size:=by
    rw[hhp.shape] at hsh;simp_all
   have hcap:(cc-β)/sz'=cap:=by rw[hcc,hcs,hs2,nW];exact sN _ u.size_pos
   rw[hcap] at es;have hle:M l<=V xs:=Y;have ex:=exe es Y;by_cases hfull:cap=M l
   .rw[ao hfull] at ex;have hz:xs.drop (M l)=[]:=cA3 Y;have g:=sn (pre:=[0<=l,l<=V xs]) (v := .slice (cs6 ⟨b,β,ct4⟩) 0 0) (E:=E') (t:=u) (zs:=xs.drop (M l)) m hun [n] hdn (W:=λ_=>False) (ev := .nil) (cY.refl w _) (λ_ h=>h.elim) aw
     (λk l e=>by cases e) (λ_=>.inl ⟨rfl,hz,_,rfl⟩)
    rw[show len-M l=0 by omega,show cap-M l=0 by omega] at ex;exact⟨_,w,.inl ex,by simpa using g⟩
   .rw[I hfull] at ex;have hmul:M l*u.size+(cap-M l)*u.size=cap*u.size:=by rw[← gA];congr 1;omega
    have g:=sn (pre:=[0<=l,l<=V xs]) (v := .slice (cs6 ⟨b,β+M l*u.size,ct4⟩) (len-M l) (cap-M l)) (E:=E') (t:=u) (zs:=xs.drop (M l)) m hun [n] hdn (W:=λ_=>False) (ev := .blk b (β+M l*u.size,len-M l)) (cY.refl w _) (λ_ h=>h.elim) aw
     (λk l e=>by cases e;exact .inr ⟨n,(β,len),aw,hb⟩) (λx=>.inr ⟨b,(β+M l*u.size,len-M l),cc,rfl,⟨cur,cap-M l,hhp,by rw[hcs,jv,hmul],by simp only[gR];omega,Y,Y,λi hi=>?_⟩,by rw[hsh];rw[hhp.shape] at hsh;cases hsh;rfl,by
      show _=cE0 _ _ ((cc-(β+M l*u.size))/u.size);rw[hcc,hcs,show β+cap*u.size-(β+M l*u.size)=(cap-M l)*u.size by rw[← hmul];omega,sN _ u.size_pos]⟩)
    .exact⟨_,w,.inl ex,by simpa only[cC8,cv5,f6,cH3] using g⟩
    .have hi':i+M l<V xs:=by simp at hi;omega
     rw[cK2];have:=hrd (M l+i) Y;rw[show β+(M l+i)*u.size=β+M l*u.size+i*u.size by rw[gA];omega] at this;exact this
theorem aq0(z)(n)(hz:0<z.size):(cu8 z n).toList=mP z.toList n:=by
 apply cJ1
 intro i
 by_cases hi:i<n*z.size
 .rw[G5 _ _ _ (by simpa using hi)];unfold cu8;have hm:i%z.size<z.size:=cY5 _ hz;simp_all
 .rw[xQ (by simp[cu8];omega),xQ (by rw[Od];simp;omega)]
theorem cn1(m:Mod w0 N0 A env h w)(f:FD A env w ρ a){tn:ct5}{s:cv0}(ho:o.op = .call {callee := .builtin .append,args := #[s,x],argTypes := #[t,tn]})
  (e:(TG P t tn nm (bm ρ s) (bm ρ x)).run h=cs6 (d,r)) (hp:bQ d.pre):bK P o a w0 N0 A env h w d:=by
 have ds:=dG f s
 have dx:=dG f x
 have exe:∀{v:ct8}{w':cu6},(cv7 #[t,tn] o.type #[a.eval s,a.eval x]).run P w = .ok v w'→(cu7 a.eval o).run P w = .ok (.value v) w':=by
  intro v w' hr;unfold cu7;rw[ho];simp only[resolve,invoke,builtin,cu4,cu9,cu0,cK0,f6,cH3,hr]
 unfold TG at e
 split at e
 case h_2=>cases e
 rename_i E sz kn n kt he hs hx hut
 have ⟨hu,hsz⟩:=AD he
 rw[hs] at ds;rw[hx] at dx
 simp only[ax] at ds dx
 split at e
 case h_2=>cases e
 rename_i u z i hct hz hi
 split at e
 case h_2=>cases e
 rename_i dd rest hb1 hb2 hb3 hpz
 have hb1:=bH hb1
 have hb2:=bH hb2
 have hb3:=lX hb3
 subst hb1
 simp only[Q.run] at e
 split at e
 case h_2=>cases e
 rename_i p q hk
 simp only[cy,ck] at e
 obtain⟨rfl,rfl⟩:=e
 split at hk
 case h_2=>cases hk
 rename_i hun
 cases cE hk
 simp only[Dl.pre,bQ,ir] at hp
 have ⟨h0,hby⟩:=hp
 have ⟨i',zv,hi',hzv,dz,_⟩:=D3 (A:=A) (env:=env) (w:=w) hz
 rw[hi] at hi';cases hi'
 have hzl:zv.cells.size=u.size:=by rw[← jF,kr dz,hb2]
 have hisz:i.size=u.size:=by
  unfold iu at hsz;rw[hi] at hsz;simpa using hsz
 obtain⟨k,rfl⟩:=tj h0
 have hkb:k*i.bytes<=140737488355328:=by
  have:((k*i.bytes:Nat):Int)<=140737488355328:=by rw[Int.natCast_mul];exact hby
  omega
 have hk1:k<=k*i.bytes:=Nat.le_mul_of_pos_right k Y
 by_cases hk0:k=0
 .subst hk0;have hr:(cv7 #[t,tn] o.type #[a.eval s,a.eval x]).run P w = .ok (.slice ct4 0 0) w:=by
   rw[ds,dx.1];have hw:ct0.wrap ((0:Nat):Int)=0:=aD;have hut':=hut;have hai:(asIntOf (cA9 kn 0)).run P w = .ok (kn,0) w:=by simp[asIntOf]
   unfold cv7;simp[run_underlying hu,run_underlying hut',jC hsz,typeInfo,hi,asInt,hai,show ct0.wrap 0=0 from by decide]
  refine⟨_,w,.inl (exe hr),?_⟩;have g:=sn (pre:=[0<=((0:Nat):Int),((0:Nat):Int)*(i.bytes:Int)<=140737488355328]) (v := .slice ct4 0 0) (E:=E) (t:=u) (zs:=replicate (M (((0:Nat):Int))) dd) m hun [] aw (W:=λ_=>False) (ev := .nil) (cY.refl w _) (λ_ h=>h.elim) aw
   (λk l e=>by cases e) (λ_=>.inl ⟨rfl,aw,ct4,rfl⟩)
  simpa using g
 .have hr:=Go.Lib.run_append_nil_zeros (P:=P) w t tn o.type E i zv kn kt hu hut hi hzv k Y (by rw[hisz];exact u.size_pos) Y Y;rw[← ds,← dx.1] at hr;refine⟨_,_,.inl (exe hr),?_⟩;have hge:=cI4 w k 0 E;have hcm:=cB4 w k 0 E (by simp only[cu5];omega);generalize grownCap w k 0 E=cap at *;have hproj:=Ak m u z zv.cells.toList dd rest [] [] (by rw[hpz];rfl) dz (A':=A) (λ_ hb=>hb) (λk ⟨n,b,l,hh,_⟩=>by simp at hh);have hall:(cu8 zv.cells k++cu8 zv.cells (cap-k)).toList=mP zv.cells.toList cap:=by
   rw[Array.toList_append,aq0 _ _ (by rw[hzl];exact u.size_pos),aq0 _ _ (by rw[hzl];exact u.size_pos)];have radd:∀(l:List ct8)(a b:Nat),mP l a++mP l b=mP l (a+b):=by
    intro l a b
    induction a with
    | zero=>simp[mP]
    | succ a ih=>rw[Nat.succ_add];simp only[mP,gI,ih]
   rw[radd];congr 1;omega
  have hsize:(cu8 zv.cells k++cu8 zv.cells (cap-k)).size=cap*u.size:=by
   rw[← jF,hall,Od,jF,hzl]
  have cg:cY w (w.drew.alloc (.cells (cu8 zv.cells k++cu8 zv.cells (cap-k)) E)) λ_=>False:=(cY.drew w _).trans (cY.alloc w.drew _ _);have g:=sn (pre:=[0<=((k:Nat):Int),((k:Nat):Int)*(i.bytes:Int)<=140737488355328]) (v := .slice (cs6 ⟨w.heap.size,0,ct4⟩) k cap) (E:=E) (t:=u) (zs:=replicate (M ((k:Nat):Int)) dd) m hun [] aw (W:=λ_=>False) (ev := .blk w.heap.size (0,k)) cg (λ_ h=>h.elim) aw
   (λk l e=>by cases e;exact .inl (dq _)) (λx=>.inr ⟨w.heap.size,(0,k),cap*u.size,rfl,⟨_,cap,.of (heap_alloc_new w.drew _),by rw[hsize,gD],aw,hge,hcm,λj hj=>?_⟩,?_,?_⟩)
  .simpa using g
  .simp only[wU,Int.toNat_natCast] at hj;rw[cN8];have sh:=Fo hproj.2.2.2.1 (j*u.size);rw[gD] at sh;rw[gD];refine jM (λ_ h=>h) x.keep u _ _ _ _ (λq hq=>?_) sh;have hlt:j*u.size+q<cap*u.size:=by
    have:(j+1)*u.size<=cap*u.size:=nk _ Y;rw[gA,qS] at this;omega
   rw[← rz,hall,G5 _ _ _ (by simpa[hzl] using hlt)];congr 1;simp only[jF,hzl];rw[An,cM4,cK6 hq];omega
  .unfold cv9;have hh:=heap_alloc_new w.drew (.cells (cu8 zv.cells k++cu8 zv.cells (cap-k)) E);simp only[cS2] at hh;rw[hh];simp only[hsize]
  .show _=cE0 _ _ ((cap*u.size-0)/u.size);rw[cG8,sN _ u.size_pos]
variable{xs:Z}{src e dst:ct5}
theorem JS(h:wF A w (.int .u8) v xs)(d:P.underlying src=cs6 (.slice e))(f:P.underlying e=cs6 (.int .u8))(g:P.underlying dst=cs6 .string) :
  (convert src dst v).run P w = .ok (.string (strOfNums xs)) w:=by
 obtain⟨hl,⟨⟨a,rfl⟩,c⟩|⟨b,off,cap,rfl,h1,h2,h3,h4⟩⟩:=h
 .have c:=c;subst c;rw[run_convert_bytes_string w src dst e _ 0 0 d f g];cases a <;> simp[Conv.bytesToString,loadCells]
  all_goals rfl
 .refine cS3 w src e d f b off (V xs) cap xs rfl (λi hi=>?_) dst g;have:=(h4 i hi).1;simp only[CT.size,cH8] at this;simp_all
theorem aJ0{k c len E}(h:uw A w k len E (.int .u8) xs)(hs:P.underlying src=cs6 (.slice e))(he:P.underlying e=cs6 (.int .u8))(hd:P.underlying dst=cs6 .string) :
  (convert src dst (.slice (cs6 ⟨k,len.1,ct4⟩) len.2 c)).run P w = .ok (.string (strOfNums xs)) w:=by
 have ⟨vs,cap,h0,h1,h2,h3,h4,h5⟩:=h
 refine cS3 (P:=P) w src e hs he k len.1 len.2 c xs h2 (λi hi=>?_) dst hd
 have hi':i<V xs:=Y
 have:=(h5 i hi').1
 simp only[CT.size,cH8] at this
 rw[h0.cell,this,cK,cT hi',jb]
def QQ(P:cu2)(src:ct5)(x:SV):Q Dl:=match P.underlying src with
 | some (.slice e)=>match P.underlying e with
  | some (.int .u8)=>match x with
   | .dsl t xs=>match iP t (.int .u8) xs with
    | some ys=>c8 (.str (strOfNums ys))
    | none => .fail
   | .dsx t xs=>match iP t (.int .u8) xs with
    | some ys=>c8 (.str (strOfNums ys))
    | none => .fail
   | .nilsl=>c8 (.str (strOfNums []))
   | .own n sz => .ask n fun
    | .live (.row _ t xs)=>match iP t (.int .u8) xs with
     | some ys=>c8 (.str (strOfNums ys))
     | none => .fail
    | .live (.frz _ t xs)=>match iP t (.int .u8) xs with
     | some ys=>c8 (.str (strOfNums ys))
     | none => .fail
    | _ => .fail
   | _ => .fail
  | _ => .fail
 | _ => .fail
theorem Im{v:ct8}(hl:V xs<=cu5):ax A env w (.str (strOfNums xs)) (.string (strOfNums xs)):=by
 simp only[ax];exact⟨aQ,by rw[strOfNums_size];exact hl⟩
theorem cj8(m:Mod w0 N0 A env h w)(f:FD A env w ρ a){s:ct5}(ho:o.op = .convert s t x)(S:P.underlying t=cs6 .string)
  (e:(QQ P s (bm ρ x)).run h=cs6 (d,r)):bK P o a w0 N0 A env h w d:=by
 have i:=dG f x
 have D:∀{v:ct8},(convert s t (a.eval x)).run P w = .ok v w->(cu7 a.eval o).run P w = .ok (.value v) w:=by
  unfold cu7;simp_all
 unfold QQ at e
 split at e
 next el hs=>
  split at e
  .rename_i F;split at e
   .rename_i u xs l;rw[l] at i;split at e
    next ys hc=>have ⟨y,z⟩:=lv hc;subst y;subst z;cases cE e;exact bK.pure m (D (JS i hs F S)) (Im (v:=a.eval x) i.1)
    .cases e
   .rename_i u xs l;rw[l] at i;split at e
    next ys hc=>have ⟨y,z⟩:=lv hc;subst y;subst z;cases cE e;exact bK.pure m (D (JS i.1 hs F S)) (Im (v:=a.eval x) i.1.1)
    .cases e
   next l=>rw[l] at i;cases cE e;refine bK.pure m (D ?_) (Im (v:=a.eval x) aw);rw[i];exact JS (A:=A) ⟨aw,.inl ⟨⟨_,rfl⟩,rfl⟩⟩ hs F S
   .rename_i n sz l;rw[l] at i;simp only[Q.run] at e;split at e
    .rename_i p q hk;obtain⟨rfl,rfl⟩:=e;have G:∀{E:ct5}{ys:Z}{fz:Bool},h n = .live (match fz with|true => .frz E (.int .u8) ys|false => .row E (.int .u8) ys)->bK P o a w0 N0 A env h w (.det [] (.str (strOfNums ys)) []):=by
      intro E ys fz hl;have H:=m.nm n;rw[hl] at H;obtain⟨j,a0,ev⟩|⟨b,len,E',c,j,_,ev⟩:=i
      .obtain⟨k,len,g,_⟩|⟨_,E2,t2,B⟩:=H
       .rw[j] at g;cases g
       .have:ys=[]:=by cases fz <;> (obtain B|B:=B <;> cases B) <;> rfl
        subst this;refine bK.pure m (D ?_) (Im (v:=a.eval x) aw);rw[ev];exact JS (A:=A) ⟨aw,.inl ⟨⟨_,rfl⟩,rfl⟩⟩ hs F S
      .obtain⟨k,len',g,B,_⟩|⟨g,_⟩:=H
       .rw[j] at g;cases g;have K:uw A w b len E (.int .u8) ys:=by
         cases fz with
         | true=>exact B.2
         | false=>exact B
        refine bK.pure m (D ?_) (Im (v:=a.eval x) ?_)
        .rw[ev];exact aJ0 K hs F S
        .have ⟨vs,cap,_,_,h2,h3,h4,_⟩:=K;omega
       .rw[j] at g;cases g
     split at hk
     .rename_i E u xs hl;split at hk
      next ys hc=>have ⟨y,z⟩:=lv hc;subst y;subst z;cases cE hk;exact G (fz:=false) hl
      .cases hk
     .rename_i E u xs hl;split at hk
      next ys hc=>have ⟨y,z⟩:=lv hc;subst y;subst z;cases cE hk;exact G (fz:=true) hl
      .cases hk
     .cases hk
    .cases e
   .cases e
  .cases e
 .cases e
def Kq:SV->Option ByteArray
 | .str s=>cs6 s
 | .cv (.string s)=>cs6 s
 | _=>ct4
def PI(op:cL0)(x y:SV):Q Dl:=match Kq x,Kq y,op with
 | some a,cs6 b,.eql=>c8 (.bool (cs7 (a=b)))
 | some a,cs6 b,.neq=>c8 (.bool (!cs7 (a=b)))
 | _,_,_ => .fail
theorem MY{x:SV}{s:ByteArray}(e:Kq x=cs6 s)(a:ax A env w x v):v = .string s:=by
 unfold Kq at e
 split at e
 .cases e;exact a.1
 .cases e;exact a
 .cases e
variable{x y:cv0}
theorem aO1(m:Mod w0 N0 A env h w)(f:FD A env w ρ a){c:cL0}{yt:ct5}(ho:o.op = .binOp c t x y yt)(ht:P.underlying t=cs6 .string)
  (e:(PI c (bm ρ x) (bm ρ y)).run h=cs6 (d,r)):bK P o a w0 N0 A env h w d:=by
 have k:=dG f x
 have l:=dG f y
 have g:∀(v:ct8),((do cN7 c t x y (a.eval x) (a.eval y);cL1 c t (a.eval x) (a.eval y):Sem ct8).run P w) = .ok v w →
   (cu7 a.eval o).run P w = .ok (.value v) w:=by
  intro v hv;unfold cu7;rw[ho];simp only[cu4,cu9] at hv ⊢;rw[hv];rfl
 have b:∀ u v:ByteArray,(u.toList == v.toList)=cs7 (u=v):=λu v=>by
  rw[AR];simp only[cZ4,beq_iff_eq,pJ];exact⟨λh=>by cases u;simp_all,λh=>by rw[h]⟩
 unfold PI at e
 split at e
 next u v hx hy=>have i:=MY hx k;have j:=MY hy l;rw[i,j] at g;cases cE e;refine bK.pure m (g _ ?_) (v := .bool (cs7 (u=v))) (by simp only[ax]);rw[cV9];simp[cL1,cY6,b]
 next u v hx hy=>have i:=MY hx k;have j:=MY hy l;rw[i,j] at g;cases cE e;refine bK.pure m (g _ ?_) (v := .bool (!cs7 (u=v))) (by simp only[ax]);rw[cV9];simp[cL1,cY6,b]
 .cases e
def Li(P:cu2)(t:ct5)(x i:SV):Q Dl:=match i,P.underlying t with
 | .int _ i,cs6 (.array len e)=>match iu P e,cs7 (0<=i)&&cs7 (i<len)&&cs7 (2<=len) with
  | some (n+1),cs8=>match x with
   | .ptr m o=>c8 (.ptr m (o+M i*(n+1)))
   | .eptr m s j o=>c8 (.eptr m s j (o+M i*(n+1)))
   | .dptr u d o=>c8 (.dptr u d (o+M i*(n+1)))
   | _ => .fail
  | _,_ => .fail
 | _,_ => .fail
variable{i:cv0}
theorem Zh(m:Mod w0 N0 A env h w)(f:FD A env w ρ a)(φ:cv0->SV)(c:ax A env w (φ x) (a.eval x))(ho:o.op = .indexAddr t x i)
  (e:(Li P t (φ x) (bm ρ i)).run h=cs6 (d,r)):bK P o a w0 N0 A env h w d:=by
 have s:=dG f i
 unfold Li at e
 split at e
 next k iv len E hi hu=>
  rw[hi] at s;split at e
  .rename_i n hn hb;simp at hb;have ⟨⟨h0,h1⟩,h2⟩:=hb;have g:∀{b off:Nat},a.eval x = .pointer (cs6 ⟨b,off,ct4⟩)->(cu7 a.eval o).run P w = .ok (.value (.pointer (cs6 ⟨b,off+M iv*(n+1),ct4⟩))) w:=by
    intro b off ev;unfold cu7;rw[ho];simp[cM3,cz1,ev,s.1,asIntOf,run_underlying hu,jC hn,h0,h1,cv5]
   split at e
   next q o' hx=>rw[hx] at c;have ⟨b,l,p,ev⟩:=c;cases cE e;exact bK.pure m (g ev) (by simp only[ax];exact⟨b,l,p,rfl⟩)
   next q sz j o' hx=>rw[hx] at c;have ⟨b,l,p,hj,ev⟩:=c;cases cE e;exact bK.pure m (g ev) (by simp only[ax];exact⟨b,l,p,hj,by rw[jv,jv]⟩)
   next u dd o' hx=>rw[hx] at c;have ⟨b,off,ev,hA,hr⟩:=c;cases cE e;exact bK.pure m (g ev) (by simp only[ax];exact⟨b,off,by rw[jv],hA,hr⟩)
   .cases e
  .cases e
 .cases e
def jm(i:Int):List (Int×Int)->Bool
 | []=>ct2
 | p::r=>bif cs7 (i=p.1) then cs8 else jm i r
def ob(i:Int):List (Int×Int)->Int
 | []=>0
 | p::r=>bif cs7 (i=p.1) then p.2 else ob i r
def m6(i v:Int):List (Int×Int)->List (Int×Int)
 | []=>[(i,v)]
 | p::r=>bif cs7 (i=p.1) then (i,v)::r else p::m6 i v r
def vp(i:Int):List (Int×Int)->Nat
 | []=>0
 | p::r=>bif cs7 (i=p.1) then 0 else vp i r+1
def If(P:cu2)(t:ct5):Option (ct5×cv3×ct5×cv3):=match P.underlying t with
 | some (.map k e)=>match P.underlying k,P.underlying e with
  | some (.int kk),cs6 (.int vk)=>cs6 (k,kk,e,vk)
  | _,_=>ct4
 | _=>ct4
def RZ(P:cu2)(e:ct5)(vk:cv3):Bool:=match P.info? e with
 | some j=>match j.zero with
  | some (.int k n)=>j3 k vk&&cs7 (n=0)
  | _=>ct2
 | none=>ct2
def Pk(P:cu2)(t:ct5)(nm:Nat):Q Dl:=match If P t with
 | some (_,kk,_,vk) => .ask nm fun
  | .un => .ret (.det [] (.mapp nm) [(nm,.live (.mp kk vk []))])
  | _ => .fail
 | none => .fail
def OZ(P:cu2)(t:ct5)(x i:SV):Q Dl:=match If P t,x,i with
 | some (_,kk,e,vk),.mapp n,.int k i => .ask n fun
  | .live (.mp kk' vk' l)=>match j3 kk kk',j3 vk vk',j3 k kk,RZ P e vk with
   | true,cs8,cs8,cs8=>c8 (.tup [.int vk (ob i l),.bool (jm i l)])
   | _,_,_,_ => .fail
  | _ => .fail
 | _,_,_ => .fail
def T0(P:cu2)(t:ct5)(x i y:SV):Q Dl:=match If P t,x,i,y with
 | some (_,kk,_,vk),.mapp n,.int k i,.int k' v => .ask n fun
  | .live (.mp kk' vk' l)=>match j3 kk kk',j3 vk vk',j3 k kk,j3 k' vk with
   | true,cs8,cs8,cs8 => .ret (.det [] (.cv undef) [(n,.live (.mp kk vk (m6 i v l)))])
   | _,_,_,_ => .fail
  | _ => .fail
 | _,_,_,_ => .fail
theorem V1{k a b}(h:If P t=cs6 (k,a,e,b)):P.underlying t=cs6 (.map k e)/\P.underlying k=cs6 (.int a)/\P.underlying e=cs6 (.int b):=by
 unfold If at h
 grind
theorem b76{a}(h:RZ P e a=cs8):(zeroValue e).run P w = .ok (.int a 0) w:=by
 unfold RZ at h
 split at h
 next j hj=>
  split at h
  next k n b=>simp at h;cases kI h.1;rw[h.2] at b;simp[zeroValue,typeInfo,hj,b]
  .cases h
 .cases h
def xW(kk vk:cv3)(l:List (Int×Int)):List (ct8×ct8):=l.map λp=>(cA9 kk p.1,cA9 vk p.2)
theorem Tx{a g i}:∀{d:List cO8}{l:List (Int×Int)}{n:Nat},d.map (λe=>(e.key,e.val))=xW a g l →
  cM5 (.int a) (.int a i) d n=cs6 (bif jm i l then cs6 (n+vp i l,.int g (ob i l)) else ct4)
 | [],[],n,_=>rfl
 | e::d,p::l,n,h=>by
  simp only[xW,f6,cF0.injEq,ck] at h;obtain⟨⟨h1,h2⟩,h3⟩:=h;have b:cT7 (.int a) (.int a i) e.key=cs6 (i == p.1):=by rw[h1];simp[cT7]
  by_cases c:i=p.1
  .have f:(i == p.1)=true:=by simp[c]
   rw[f] at b;simp only[cM5,b,h2,jm,ob,vp,f7 c,cond_true,kz]
  .have f:(i == p.1)=false:=by simp[c]
   rw[f] at b;simp only[cM5,b,jm,ob,vp,gH c,uh];rw[Tx h3,show n+1+vp i l=n+(vp i l+1) by omega]
theorem Uy{i}:∀{l:List (Int×Int)},jm i l=ct2->ob i l=0
 | [],_=>rfl
 | p::l,h=>by
  simp only[jm] at h;cases a:cs7 (i=p.1) with
  | true=>rw[a] at h;cases h
  | false =>
   rw[a,uh] at h;simp only[ob,a,uh];exact Uy h
theorem Y6{b:cv3}{i v}(c:b.has v):∀{l:List (Int×Int)},(∀ p∈l,b.has p.2)→∀ p∈m6 i v l,b.has p.2
 | [],_,p,a=>by simp only[m6,iV] at a;rw[a];exact c
 | q::l,h,p,a=>by
  simp only[m6] at a;cases hd:cs7 (i=q.1) with
  | true =>
   grind
  | false =>
   rw[hd,uh] at a;obtain rfl|a:=dm.1 a
   .simp_all
   .exact Y6 c (λp a=>h p (eZ _ a)) p a
theorem XF{a:cv3}{i}(b:a.has 0):∀{l:List (Int×Int)},(∀ p∈l,a.has p.2)->a.has (ob i l)
 | [],_=>b
 | q::l,h=>by
  simp only[ob];cases cs7 (i=q.1) with
  | true=>exact h _ dU
  | false=>exact XF b λp hp=>h p (eZ _ hp)
theorem Y2{b d i v}:∀{c:List cO8}{l:List (Int×Int)},c.map (λe=>(e.key,e.val))=xW b d l->jm i l=cs8 →
  (c.modify (vp i l) λe=>{e with key := .int b i,val := .int d v}).map (λe=>(e.key,e.val))=xW b d (m6 i v l)∧∃ e,c[vp i l]? = cs6 e/\e.key = .int b i
 | [],[],_,a=>by cases a
 | e::c,p::l,h,a=>by
  simp only[xW,f6,cF0.injEq,ck] at h;have ⟨⟨h1,h2⟩,h3⟩:=h;simp only[jm] at a;cases f:cs7 (i=p.1) with
  | true =>
   simp only[m6,vp,f,cond_true,xW,f6];simp_all
  | false =>
   rw[f,uh] at a;obtain⟨k1,k2⟩:=Y2 h3 a;simp only[m6,vp,f,uh,xW,f6];refine⟨?_,by simpa using k2⟩;simp only[List.modify_succ_cons,f6,h1,h2,cF0.injEq,true_and];exact k1
theorem VF{a b i v}:∀{l:List (Int×Int)},jm i l=ct2->xW a b (m6 i v l)=xW a b l++[(cA9 a i,cA9 b v)]
 | [],_=>rfl
 | p::l,h=>by
  simp only[jm] at h;cases c:cs7 (i=p.1) with
  | true=>rw[c] at h;cases h
  | false =>
   rw[c,uh] at h;simp only[m6,c,uh,xW,f6,kQ];exact dL _ (VF h)
theorem aV7(m:Mod w0 N0 A env h w)(ho:o.op = .makeMap t ct4)
  (e:(Pk P t nm).run h=cs6 (d,r)):bK P o a w0 N0 A env h w d:=by
 unfold Pk at e
 split at e
 .simp only[Q.run] at e;split at e
  .rename_i p q hk;obtain⟨rfl,rfl⟩:=e;split at hk
   .rename_i c;cases cE hk;have b:(cu7 a.eval o).run P w = .ok (.value (.map (cs6 w.heap.size))) (w.alloc (.map #[] 0)):=by
     unfold cu7;rw[ho];rfl
    refine⟨_,_,.inl b,eV.fresh m c (len:=(0,0)) rfl w.heap.size (dq _) (cY.alloc w _ _) (λx=>⟨#[],0,heap_alloc_new w _,rfl,λp hp=>by cases hp⟩) ?_⟩;simp only[ax];simp_all
   .cases hk
  .cases e
 .cases e
theorem Oy(kk)(i):cS4 (.int kk) (.int kk i):=by simp[cS4]
theorem aG9(m:Mod w0 N0 A env h w)(f:FD A env w ρ a)(ho:o.op = .lookup t x i cs8)
  (e:(OZ P t (bm ρ x) (bm ρ i)).run h=cs6 (d,r)):bK P o a w0 N0 A env h w d:=by
 have j:=dG f x
 have s:=dG f i
 unfold OZ at e
 split at e
 next kt kk et vk n k i hm hx hi=>
  rw[hx] at j;rw[hi] at s;have ⟨b,len,he,ev⟩:=j;have ⟨hu,c,hue⟩:=V1 hm;simp only[Q.run] at e;split at e
  .rename_i p q hk;obtain⟨rfl,rfl⟩:=e;split at hk
   .rename_i kk' vk' l hl;split at hk
    .rename_i q1 q2 q3 q4;cases kI q1;cases kI q2;cases kI q3;cases cE hk;have ⟨⟨es,clk,hb,g,hh⟩,_⟩:=m.live_blk hl he;have hf:=Tx (i:=i) (n:=0) g;have h0:vk.has 0:=by
      have:=IntKind.wrap_has vk 0;have e0:vk.wrap 0=0:=by cases vk <;> rfl
      rw[e0] at this;exact this
     refine bK.pure m (v := .tuple #[.int vk (ob i l),.bool (jm i l)]) ?_ ?_
     .unfold cu7;rw[ho];simp only[ev,s.1,Instr.lookup,cu4,run_underlying hu,cu0,cG3 hb,cu9,cG9 c (Oy kk i),cH4 c hf];cases hq:jm i l with
      | true=>simp
      | false =>
       simp[b76 q4,Uy hq]
     .simp only[ax];exact⟨_,rfl,⟨_,_,rfl,⟨rfl,XF h0 hh⟩,_,_,rfl,rfl,rfl⟩⟩
    .cases hk
   .cases hk
  .cases e
 .cases e
theorem cY.setMap{w b es c}(hb:w.heap[b]? = cs6 (.map es c))(es')(c') :
  cY w {w with heap:=w.heap.setIfInBounds b (.map es' c')} λj=>j=b:=by
 refine⟨rfl,rfl,rfl,dq _,aw,λk hk hw=>?_,λk s hs=>?_⟩
 .exact Je (λe=>hw e.symm)
 .by_cases e:k=b
  .subst e;unfold cv9 at hs;rw[hb] at hs;cases hs
  .unfold cv9 at hs ⊢;have:({w with heap:=w.heap.setIfInBounds b (.map es' c')}:cu6).heap[k]? = w.heap[k]? := Je (λh=>e h.symm);rw[this];exact hs
theorem b86(m:Mod w0 N0 A env h w)(f:FD A env w ρ a)(ho:o.op = .mapUpdate t x i y)
  (e:(T0 P t (bm ρ x) (bm ρ i) (bm ρ y)).run h=cs6 (d,r)):bK P o a w0 N0 A env h w d:=by
 have dx:=dG f x
 have di:=dG f i
 have H:=dG f y
 unfold T0 at e
 split at e
 next kt j et S n k i k' v hm hx hi hy=>
  rw[hx] at dx;rw[hi] at di;rw[hy] at H;have ⟨b,len,he,ev⟩:=dx;have ⟨hu,g,hue⟩:=V1 hm;simp only[Q.run] at e;split at e
  .rename_i p q hk;obtain⟨rfl,rfl⟩:=e;split at hk
   .rename_i kk' vk' l hl;split at hk
    .rename_i q1 q2 q3 q4;cases kI q1;cases kI q2;cases kI q3;cases kI q4;cases cE hk;have ⟨⟨es,s,B,z,hh⟩,_⟩:=m.live_blk hl he;have L:=Tx (i:=i) (n:=0) z;have D:∀(c:Array cO8)(R:Nat),(cu7 a.eval o).run P w = .ok .skip {w with heap:=w.heap.setIfInBounds b (.map c R)}->c.toList.map (λe=>(e.key,e.val))=xW j S (m6 i v l) →
       bK P o a w0 N0 A env h w (.det [] (.cv undef) [(n,.live (.mp j S (m6 i v l)))]):=by
      intro c R E F;have hlt:=(cu3.1 B).1;have u:=mH.write (b' := .mp j S (m6 i v l)) m hl rfl he (cY.setMap B c R) ⟨c,R,by simp[hlt],F,Y6 H.2 hh⟩ rfl;exact⟨undef,_,.inr ⟨E,rfl⟩,(),A,env,aQ,m.upd u,m.ext u,by simp only[Dl.val,ax]⟩
     cases K:jm i l with
     | true =>
      rw[K,cond_true] at L;obtain⟨k1,e0,k2,k3⟩:=Y2 z K;refine D (es.modify (vp i l) λe=>{e with key := .int j i,val := .int S v}) s ?_ (by rw[Array.toList_modify];exact k1);have G:es[vp i l]? = cs6 e0:=by rw[← rz];exact k2
      unfold cu7;rw[ho];simp only[ev,di.1,H.1,cS5,cu4,run_underlying hu,cu0,cG3 B,cu9,cG9 g (Oy j i),cH4 g L,gD,G,cB5,jb,k3,Instr.keyThatStays,Instr.sameBits,beq_self_eq_true,Bool.and_self,if_true,cM6 _ B]
     | false =>
      rw[K,uh] at L;refine D (es.push {key := .int j i,val := .int S v,born:=s}) (s+1) ?_ (by rw[Array.toList_push,kV,z,VF K];rfl);unfold cu7;rw[ho];simp only[ev,di.1,H.1,cS5,cu4,run_underlying hu,cu0,cG3 B,cu9,cG9 g (Oy j i),cH4 g L,cM6 _ B]
    .cases hk
   .cases hk
  .cases e
 .cases e
end
end Go.SX
namespace Go.SX
def FF(P:cu2)(E:ct5):Option (cv3×Nat):=match P.underlying E with
 | some (.array n e)=>match P.underlying e,iu P e,cx6 16 n with
  | some (.int k),cs6 1,cs8=>cs6 (k,n)
  | _,_,_=>ct4
 | _=>ct4
def M9(k:cv3):List SV->Nat->Bool
 | [],0=>cs8
 | .int k' z::r,n+1=>j3 k k'&&cs7 (z=0)&&M9 k r n
 | _,_=>ct2
def ints:(t:CT)->t.D->Z
 | .int _,n=>[n]
 | .pair a b,d=>ints a d.1++ints b d.2
 | _,_=>[]
def JY(k:cv3):CT->Bool
 | .int k'=>j3 k k'
 | .pair a b=>JY k a&&JY k b
 | _=>ct2
def SP(P:cu2)(E:ct5)(nm:Nat):Q Dl:=match FF P E,zeroCells P E with
 | some (k,n),cs6 cs=>match M9 k cs n with
  | true => .ask nm fun
   | .un => .ret (.det [] (.ptr nm 0) [(nm,.live (.ary E k n (replicate n 0)))])
   | _ => .fail
  | false => .fail
 | _,cs=>Gz E nm cs
def QG(P:cu2)(t:ct5)(x i:SV):Q Dl:=match x,i,FF P t with
 | .ptr m 0,.int _ iv,cs6 (_,n) => .ask m fun
  | .live (.ary ..) => .ret (.det [0<=iv,iv<n] (.ptr m (M iv)) [])
  | _=>Li P t x i
 | _,_,_=>Li P t x i
def TV(P:cu2)(ty:ct5)(off:Nat)(k:cv3)(n:Nat)(xs:Z):Q Dl:=match P.underlying ty with
 | some (.int _) => .ret (.det [off<n] (.int k (T xs off 0)) [])
 | some (.array _ _)=>match off,iu P ty with
  | 0,cs6 m=>match ct7 m n with
   | true=>c8 (.arr k n xs)
   | false => .fail
  | _,_ => .fail
 | _ => .fail
def QZ(P:cu2)(ty:ct5)(x:SV):Q Dl:=match x with
 | .ptr n off => .ask n fun
  | .live (.ary E k n xs)=>TV P ty off k n xs
  | _=>Dv P ty (.ptr n off)
 | .dptr t d off=>match FF P ty,off with
  | some (k,n),0=>match JY k t,iu P ty with
   | true,cs6 m=>match ct7 m t.size with
    | true=>c8 (.arr k t.size (ints t d))
    | false => .fail
   | _,_ => .fail
  | _,_=>Dv P ty (.dptr t d off)
 | x=>Dv P ty x
def Kf(k:cv3):List SV->Option Z
 | []=>cs6 []
 | .int k' n::r=>match j3 k k',Kf k r with
  | true,cs6 l=>cs6 (n::l)
  | _,_=>ct4
 | _=>ct4
def Tn(k:cv3)(y:SV):SV:=match y with
 | .agg cs=>match Kf k cs with
  | some ys => .arr k (V ys) ys
  | none=>y
 | y=>y
def PX(P:cu2)(ty:ct5)(x y:SV):Q Dl:=match x with
 | .ptr n off => .ask n fun
  | .live (.ary E k l xs)=>match Tn k y,iu P ty with
   | .int k' v,cs6 1=>match j3 k k' with
    | true => .ret (.det [off<l] (.cv undef) [(n,.live (.ary E k l (xs.set off v)))])
    | false => .fail
   | .arr k' l' ys,cs6 m=>match j3 k k',off,ct7 l l',ct7 l m with
    | true,0,cs8,cs8 => .ret (.det [] (.cv undef) [(n,.live (.ary E k l ys))])
    | _,_,_,_ => .fail
   | _,_ => .fail
  | _=>Km P ty (.ptr n off) y
 | x=>Km P ty x y
def Tk(P:cu2)(t:ct5)(x i:SV):Q Dl:=match x,i,P.underlying t with
 | .arr k n xs,.int _ i,cs6 (.array len e)=>match P.underlying e,iu P e,ct7 n len with
  | some (.int _),cs6 1,cs8 => .ret (.det [0<=i,i<len] (.int k (pickI xs (M i))) [])
  | _,_,_ => .fail
 | x,i,_=>P7 P t x i
def Og(P:cu2)(t:ct5)(x:SV)(lo hi mx:Option SV):Q Dl:=match x,lo,hi,mx,FF P t with
 | .ptr n 0,ct4,ct4,ct4,cs6 (k,len) => .ask n fun
  | .live (.ary E k' l xs)=>match ct7 l len,cx6 len cu5 with
   | true,cs8 => .ret (.det [] (.dsl (.int k') xs) [(n,.live (.frz E (.int k') xs))])
   | _,_ => .fail
  | _ => .fail
 | x,lo,hi,mx,_=>Rk P t x lo hi mx
section
variable {P:cu2} {w0:cu6} {N0:fT} {A:Nat->Prop} {env:bt} {h:cq} {w:cu6} {o:cA2} {a:Act} {ρ:Nat->SV} {d:Dl} {r:List Nat}
variable{n:Nat}
theorem PO{E k}(e:FF P E=cs6 (k,n)):∃ u,P.underlying E=cs6 (.array n u)/\P.underlying u=cs6 (.int k)/\iu P u=cs6 1:=by
 unfold FF at e
 grind
theorem Za{k}:∀{cs:List SV}{n:Nat},M9 k cs n=cs8->cs=(replicate n (0:Int)).map (.int k)
 | [],0,_=>rfl
 | .int k' z::r,n+1,h=>by
  simp only[M9,fB,pJ] at h;obtain⟨⟨a,rfl⟩,h2⟩:=h;have a:=kI a;subst a;rw[List.replicate_succ,f6,← Za h2]
theorem Mm{k}:∀{t:CT}{d:t.D},JY k t=cs8->cS t d=(ints t d).map (.int k)
 | .int k',d,h=>by simp only[cS,ints,cA6];rw[kI h]
 | .pair a b,d,h=>by
  obtain⟨h1,h2⟩:=cw4.1 h;simp only[cS,ints,kV,Mm h1,Mm h2]
theorem z4{k:cv3}:∀{xs:Z}{vs:List ct8},aL A env w (xs.map (.int k)) vs->vs=xs.map (cA9 k)∧∀ x∈xs,k.has x
 | [],vs,h=>⟨h,aw⟩
 | x::xs,vs,h=>by
  obtain⟨v,r,rfl,⟨rfl,h1⟩,h2⟩:=h;obtain⟨rfl,h3⟩:=z4 h2;simp_all
theorem O3{k:cv3}:∀{xs:Z},(∀ x∈xs,k.has x)->aL A env w (xs.map (.int k)) (xs.map (cA9 k))
 | [],_=>rfl
 | x::xs,h=>⟨_,_,rfl,by simp only[ax];exact⟨aQ,h x (dU ..)⟩,O3 λy hy=>h y (eZ _ hy)⟩
theorem IC{k}(e:(Q.ask n k).run h=cs6 (d,r)):∃ q,(k (h n)).run h=cs6 (d,q):=by
 simp only[Q.run] at e
 grind
theorem bH8(m:Mod w0 N0 A env h w){E:ct5}{nm:Nat}(f:o.op = .alloc E)(e:(SP P E nm).run h=cs6 (d,r)):bK P o a w0 N0 A env h w d:=by
 unfold SP at e
 split at e
 next k n cs ha hc=>
  split at e
  .rename_i hz;have ⟨q,e⟩:=IC e;split at e
   .rename_i b;cases cE e;obtain⟨i,z,hi,c,g,h2⟩:=D3 hc;rw[Za hz] at g;refine⟨_,_,.inl ?_,eV.fresh m b (v := .pointer (cs6 ⟨w.heap.size,0,ct4⟩)) (w':=w.alloc (.cells z.cells E)) rfl w.heap.size (dq _) (cY.alloc w _ _) (λx=>⟨rfl,aw,_,heap_alloc_new w _,DU x _ _ g⟩) ?_⟩
    .unfold cu7;rw[f];simp[cV7,zeroValue,typeInfo,hi,c,newVar,newRow]
    .exact⟨_,_,bt.set_same _ _ _,rfl⟩
   .cases e
  .cases e
 next cs hn=>exact bY9 m f e
variable{t:ct5}{x:cv0}
theorem av3(m:Mod w0 N0 A env h w)(f:FD A env w ρ a){i:cv0}(φ:cv0->SV)(c:ax A env w (φ x) (a.eval x))(g:o.op = .indexAddr t x i)
  (e:(QG P t (φ x) (bm ρ i)).run h=cs6 (d,r)) (j:bQ d.pre):bK P o a w0 N0 A env h w d:=by
 have p:=dG f i
 unfold QG at e
 split at e
 next m' k iv k' n hx hi ha=>
  have ⟨q,e⟩:=IC e;split at e
  .cases cE e;have ⟨u,hu,_,hs⟩:=PO ha;rw[hx] at c;rw[hi] at p;simp only[Dl.pre,bQ,ir] at j;have ⟨b,l,he,ev⟩:=c;refine bK.pure m ?_ (by simp only[ax];exact⟨b,l,he,rfl⟩);unfold cu7;rw[g];simp[cM3,cz1,ev,p.1,asIntOf,run_underlying hu,jC hs,j.1,j.2,cv5]
  .exact Zh m f φ c g e
 .exact Zh m f φ c g e
variable{xs:Z}{off:Nat}
theorem ch3{k}(h:off<V xs):pY (xs.map (SV.int k)) off=cs6 (.int k (T xs off 0)):=by
 rw[yi,cA7,cT h,cK,cT h];rfl
variable{ty:ct5}
theorem ay1{k:cv3}(hn:V xs=n)(e:(TV P ty off k n xs).run h=cs6 (d,r))(hp:bQ d.pre):∃ s b,d = .det (d.pre) s []/\pf P ty (xs.map (.int k)) off=cs6 b∧∀ v,ax A env w b v->ax A env w s v:=by
 unfold TV at e
 split at e
 next c=>cases cE e;simp only[Dl.pre,bQ,ir] at hp;exact⟨_,_,rfl,by unfold pf tx;rw[c];exact ch3 Y,λv h=>h⟩
 next n u c=>
  split at e
  .rename_i mm hs;split at e
   case h_2=>cases e
   rename_i a;have a:=bH a;cases cE e;refine⟨_,.agg (xs.map (.int k)),rfl,?_,λv f=>?_⟩
   .unfold pf tx;have:cx6 (0+mm) (V (xs.map (SV.int k)))=true:=by rw[cY7];simp;omega
    grind
   .simp only[ax] at f ⊢;obtain⟨vs,rfl,hd⟩:=f;have ⟨h1,h2⟩:=z4 hd;exact⟨by rw[← h1],hn,h2⟩
  .cases e
 .cases e
theorem aD8(m:Mod w0 N0 A env h w)(φ:cv0->SV)(c:ax A env w (φ x) (a.eval x))(i:o.op = .load ty x)
  (e:(QZ P ty (φ x)).run h=cs6 (d,r)) (hp:bQ d.pre):bK P o a w0 N0 A env h w d:=by
 have go:∀{b off:Nat}{v:ct8},a.eval x = .pointer (cs6 ⟨b,off,ct4⟩)->(cP7 ty ⟨b,off,ct4⟩).run P w = .ok v w->(cu7 a.eval o).run P w = .ok (.value v) w:=by
  intro b off v ev f;unfold cu7;rw[i];simp only[ev,cU7,cz1,cu4,cu9,cu0,f]
 unfold QZ at e
 split at e
 next n off hx=>
  have ⟨q,e⟩:=IC e;split at e
  next E k n xs hl=>rw[hx] at c;have ⟨b,l,he,ev⟩:=c;have ⟨⟨_,hn,vs,hh,g⟩,_⟩:=m.live_blk hl he;obtain⟨s,s',y,z,h3⟩:=ay1 hn e hp;obtain⟨v,f,hv⟩:=Hf (o:=0) z g (λj hj=>by rw[cy5 w b _ vs E (0,0) hh];simp);rw[gD] at f;rw[y];exact bK.pure m (go ev f) (h3 v hv)
  .exact Kx m φ c i (by rw[hx];exact e)
 next t p off hx=>
  split at e
  .rename_i k n ha;split at e
   .rename_i S ht hs;split at e
    .rename_i B;cases cE e;have ⟨u,hu,hk,hs1⟩:=PO ha;have B:=bH B;have hlen:V (cS t p)=S:=by rw[zT,B]
     have e2:(Dv P ty (φ x)).run h=cs6 (.det [] (.agg (cS t p)) [],[]):=by
      rw[hx];unfold Dv pf tx;rw[hu];simp only[hs];have:cx6 (0+S) (V (cS t p))=true:=by rw[cY7];omega
      rw[this];simp;rw[gE Y];rfl
     have ⟨v,w',f,x0,A',env',hR,m',x',g⟩:=Kx m φ c i e2;refine⟨v,w',f,(),A',env',aQ,m',x',?_⟩;obtain⟨vs,rfl,g⟩:=g;rw[Mm ht] at g;have ⟨y,z⟩:=z4 g;exact⟨by rw[← y],by rw[← zT t p,Mm ht];simp,z⟩
    .cases e
   .cases e
  .exact Kx m φ c i (by rw[hx];exact e)
 .exact Kx m φ c i e
theorem bK6{k v}(h:off<V xs):tH (xs.map (SV.int k)) off [.int k v]=(xs.set off v).map (.int k):=by
 rw[List.map_set,List.set_eq_take_append_cons_drop,ao (by simpa using h)]
 rfl
theorem Mod.re(m:Mod w0 N0 A env h w){b b':lJ}(d:h n = .live b)(hm:b.mut=cs8)(a:b'.mut=cs8)(hn:env n ≠ .nil)(hb:∀ k len,mS A env w k len b->mS A env w k len b'):Mod w0 N0 A env (h.set n (.live b')) w:=by
 have:=m.nm n
 rw[d] at this
 obtain⟨k,l,c,hk,hA⟩|⟨c,_⟩:=this
 .exact m.upd (mH.write m d hm c (cY.refl w _) (hb k l hk) a)
 .exact absurd c hn
theorem set_set(h:cq)(n)(x y):(h.set n x).set n y=h.set n y:=by
 funext q;unfold cq.set;split <;> rfl
theorem ZU{k}:∀{cs:List SV}{ys:Z},Kf k cs=cs6 ys->cs=ys.map (.int k)
 | [],ys,e=>by cases e;rfl
 | c::r,ys,e=>by
  unfold Kf at e;split at e
  next h=>cases h
  .rename_i k' n r' h;cases h;split at e
   next l h1 h2=>cases e;rw[ZU h2,kI h1];rfl
   .cases e
  .cases e
theorem b63{k:cv3}{y:SV}{v:ct8}(d:ax A env w y v):ax A env w (Tn k y) v:=by
 unfold Tn
 split
 .split
  next cs ys e=>rw[ZU e] at d;simp only[ax] at d ⊢;obtain⟨vs,rfl,d⟩:=d;have ⟨h1,h2⟩:=z4 d;exact⟨by rw[← h1],aQ,h2⟩
  .exact d
 .exact d
theorem co7(m:Mod w0 N0 A env h w)(f:FD A env w ρ a){y:cv0}(ho:o.op = .store ty x y)
  (e:(PX P ty (bm ρ x) (bm ρ y)).run h=cs6 (d,r)) (hp:bQ d.pre):bK P o a w0 N0 A env h w d:=by
 unfold PX at e
 split at e
 next n off hx=>
  have ⟨q,e⟩:=IC e;split at e
  .rename_i E k len xs hl;have dx:=dG f x;have dy:=b63 (k:=k) (dG f y);rw[hx] at dx;simp only[ax] at dx;have ⟨b,l,he,ev⟩:=dx;have ⟨⟨hlen,hxl,us,hh,hd⟩,_⟩:=m.live_blk hl he;have hlu:=kr hd;have key:∀(vs:List SV)(zs:Z),aL A env w vs (a.eval y).cells.toList->(∀ v∈(a.eval y).cells.toList,v.oneCell'=cs8)->iu P ty=cs6 (V vs)->off+V vs<=V xs->tH (xs.map (SV.int k)) off vs=zs.map (.int k)->V zs=V xs →
     bK P o a w0 N0 A env h w (.det d.pre (.cv undef) [(n,.live (.ary E k len zs))]):=by
    intro vs zs dv h1 hs hle hset hz;have hlv:=kr dv;have hsz:iu P ty=cs6 (a.eval y).cells.size:=by rw[hs,← hlv,jF]
    have hfit:off+(a.eval y).cells.size<=us.size:=by rw[← jF,hlv,← jF,hlu];simpa using hle
    have hrun:=Qd (.of (q:=True) hh) hsz hfit h1;have hdR:=Fx (off:=off) hd dv;rw[hset] at hdR;have c:=cY.setRow w b us (us.toList.take off++(a.eval y).cells.toList++us.toList.drop (off+(a.eval y).cells.size)).toArray E (.of (q:=True) hh)
     (by simp only[vz,cw,fF,gR,jF];omega)
    have x:dQ A env w A env (w.setRow b (us.toList.take off++(a.eval y).cells.toList++us.toList.drop (off+(a.eval y).cells.size)).toArray) :=
     m.xt c (λk hk=>⟨_,_,_,hl,rfl,hk▸he⟩) λ_ _=>rfl
    have u:=mH.write (b' := .ary E k len zs) m hl rfl he c ⟨hlen,hz.trans hxl,_,setRow_heap w b us _ E _ hh,by
     have:=DU x _ _ hdR;simpa[gI] using this⟩ rfl
    refine⟨undef,_,.inr ⟨?_,rfl⟩,(),A,env,aQ,m.upd u,m.ext u,by simp only[Dl.val,ax]⟩;unfold cu7;rw[ho];simp only[ev,cT6,cz1,cu4,cu9,cu0,hrun]
   split at e
   .rename_i k' v hy hs;split at e
    next hk=>have hk:=kI hk;subst hk;cases cE e;simp only[Dl.pre,bQ,ir] at hp;rw[hy] at dy;simp only[ax] at dy;refine key [.int k v] (xs.set off v) (by rw[dy.1];simp only[cK3,aL,ax];exact⟨_,_,rfl,⟨rfl,dy.2⟩,rfl⟩) (by rw[dy.1];simp[cK3,cT0]) hs (by simp;omega) (bK6 Y) aw
    .cases e
   .rename_i k' len' ys mm hy hs;split at e
    next hk h1 h2 _=>have hk:=kI hk;have h1:=bH h1;have h2:=bH h2;subst hk;cases cE e;simp only[Dl.pre,bQ,ir] at hp;rw[hy] at dy;simp only[ax] at dy;refine key (ys.map (.int k)) ys (by rw[dy.1];simpa[cK3] using O3 dy.2.2) (by rw[dy.1];simp[cK3,cT0]) (by rw[hs];simp[dy.2.1];omega) (by simp;omega) ?_ Y;unfold tH;simp;omega
    .cases e
   .cases e
  .exact XP m f ho (by rw[hx];exact e)
 .exact XP m f ho e
theorem bf4(m:Mod w0 N0 A env h w)(f:FD A env w ρ a){y g z:Option cv0}(G:o.op = .slice t x y g z)
  (e:(Og P t (bm ρ x) (y.map (bm ρ)) (g.map (bm ρ)) (z.map (bm ρ))).run h=cs6 (d,r)) (hp:bQ d.pre):bK P o a w0 N0 A env h w d:=by
 unfold Og at e
 split at e
 next n k len hx H Q R ha=>
  have ⟨q,e⟩:=IC e;split at e
  .rename_i E k' l' xs hl;split at e
   case h_2=>cases e
   rename_i p c;cases cE e;have p:=bH p;have c:=lX c;have H:y=none:=by cases y <;> simp_all
   have Q:g=none:=by cases g <;> simp_all
   have R:z=none:=by cases z <;> simp_all
   subst H Q R;have K:=dG f x;rw[hx] at K;have ⟨b,l,B,ev⟩:=K;have ⟨⟨hlen,s,us,hh,S⟩,_⟩:=m.live_blk hl B;rw[p] at s;have ⟨e1,e2⟩:=z4 S;have ⟨u,hu,_,hs⟩:=PO ha;have m1:=m.re (b' := .row E (.int k') xs) hl rfl rfl (by rw[B];simp) λj ln hb=>by
    have ⟨D,_,vs,hv,S⟩:=hb;subst D;have ⟨L,e4⟩:=z4 S;refine⟨vs,V xs,.of hv,by rw[← jF,L];simp[CT.size],Y,by simp;omega,Y,λi g=>?_⟩;simp only[Rd,CT.size];refine⟨?_,e4 _ (cv2 g)⟩;rw[gD,cH8,← rz,L,cA7,cT g];rfl
   have fz:qB (h.set n (.live (.row E (.int k') xs))) [(n,.live (.frz E (.int k') xs))]:=λq bb hq=>by
    simp_all
   have ⟨U,x2⟩:=m1.freeze fz;have v:dM [(n,.live (.frz E (.int k') xs))] (h.set n (.live (.row E (.int k') xs)))=h.set n (.live (.frz E (.int k') xs)):=by
    simp only[dM,set_set]
   rw[v] at U;refine⟨.slice (cs6 ⟨b,0,ct4⟩) len len,w,.inl ?_,(),_,env,aQ,U,x2,?_⟩
   .unfold cu7;rw[G];have F:(cF3 ct2 len len ct4 ct4 ct4).run P w = .ok (0,len,len) w:=by
     simp[cF3,cu9]
    simp only[cF5,cu4,run_underlying hu,cu0,ev,cz1,cu9,cC8,F,jC hs];by_cases q:len=0
    .simp[q]
    .simp[q,cv5]
   .simp only[Dl.val,ax];refine⟨Y,.inr ⟨b,0,len,by rw[s],Y,c,.inr ⟨n,_,_,iV.2 rfl,B⟩,λi g=>?_⟩⟩;simp only[Rd,CT.size];refine⟨?_,e2 _ (cv2 g)⟩;rw[cy5 w b _ us E (0,0) hh,gD,cH8,← rz,e1,cA7,cT g];rfl
  .cases e
 .exact aE0 m f G e hp
theorem Hc.freeze{w k vs E}(h:Hc True w k vs E):Hc True (w.freeze ⟨k,vs.size,ct4⟩ 1) k vs E:=by
 have ⟨⟨a,b⟩,h,hq⟩:=h
 refine⟨if a == b then (vs.size,vs.size+1) else (min a vs.size,max b (vs.size+1)),?_,.inr ⟨aQ,?_⟩⟩
 .unfold cI9;grind
 .grind
def Pj(P:cu2)(s t e:ct5)(v:SV):Q Dl:=match v with
 | .own n sz => .ask n λb=>match b with
  | .live (.row E (.int .u8) xs)=>match ct7 s t,P.underlying e with
   | true,cs6 (.int .u8) => .ret (.det [1<=V xs] (.own n sz) [(n,.live (.row E (.int .u8) xs))])
   | _,_ => .fail
  | _ => .fail
 | _ => .fail
theorem av1(m:Mod w0 N0 A env h w)(f:FD A env w ρ a){s D:ct5}(ho:o.op = .convert s t x)(ht:P.underlying t=cs6 (.slice D))
  (e:(Pj P s t D (bm ρ x)).run h=cs6 (d,r)) (F:bQ d.pre):bK P o a w0 N0 A env h w d:=by
 have G:=dG f x
 unfold Pj at e
 split at e
 case h_2=>cases e
 rename_i n sz hx
 rw[hx] at G
 simp only[Q.run] at e
 split at e
 case h_2=>cases e
 rename_i p q y
 obtain⟨rfl,rfl⟩:=e
 split at y
 case h_2=>cases y
 rename_i E xs S
 split at y
 case h_2=>cases y
 rename_i z he
 cases cE y
 have z:=bH z
 subst z
 simp only[Dl.pre,bQ,ir] at F
 obtain⟨hnil,_⟩|⟨k,l,E2,c,v,hsh,ev⟩:=G
 .have:=m.nm n;rw[S] at this;obtain⟨k',l',he',_⟩|⟨_,E3,t3,v⟩:=this
  .simp_all
  .obtain v|v:=v <;> cases v;simp at F
 have ⟨vs,cap,hh,h1,h2,h3,h4,h5⟩:=(m.live_blk S v).1
 have hh:Hc True w k vs E:=let ⟨f,g,q⟩:=hh;⟨f,g,q.imp id λq=>⟨aQ,q.2⟩⟩
 have H:=hh.freeze
 have b:∀ j,(w.freeze ⟨k,vs.size,ct4⟩ 1).shape? j=w.shape? j:=λj=>by
  by_cases K:j=k
  .subst K;rw[H.shape,hh.shape]
  .unfold cv9 cI9;grind
 have c:cY w (w.freeze ⟨k,vs.size,ct4⟩ 1) λj=>j=k:=by
  refine⟨rfl,rfl,rfl,dq _,by unfold cI9;simp,λj _ K=>?_,λj s hs=>by rw[b];exact hs⟩;unfold cI9;grind
 have xx:=m.xt c (λk y=>⟨_,_,_,S,rfl,y▸v⟩) λ_ _=>rfl
 have u:=mH.write (b' := .row E (.int .u8) xs) m S rfl v c ⟨vs,cap,let ⟨f,g,q⟩:=H;⟨f,g,q.imp id λq=>⟨rfl,q.2⟩⟩,h1,h2,h3,h4,λi hi=>jM (λ_ h=>h) xx.keep _ _ _ _ _ (λ_ _=>rfl) (h5 i hi)⟩ rfl
 refine⟨a.eval x,_,.inl ?_,(),A,env,aQ,m.upd u,m.ext u,?_⟩
 .unfold cu7;rw[ho];have B:=hh.shape;simp[convert,ev,run_underlying ht,run_underlying he,markStringish,B]
 .simp only[Dl.val,ax,b];grind
end
end Go.SX
namespace Go.SX
section
variable {P:cu2} {w0:cu6} {N0:fT} {A:Nat->Prop} {env:bt} {h:cq} {w:cu6} {o:cA2} {a:Act} {ρ:Nat->SV} {d:Dl} {r:List Nat}
theorem HY{k:cv3}{a:Nat}(b:1<=a):∀(cs:List SV)(vs:List ct8)(s:Nat)(l:Z),yC k a cs s=cs6 l->aL A env w cs vs →
  ∀ j,s+j*a<V vs->vs[s+j*a]? = cs6 (.int k (pickI l j))/\k.has (pickI l j)
 | c::cs,vs,0,l,e,f,j,d=>by
  obtain⟨v,r,rfl,hv,g⟩:=f;cases c with
  | int k' n =>
   simp only[yC] at e;split at e
   .rename_i l' hk hl;cases e;cases kI hk;cases j with
    | zero=>simp[pickI,hv.1,hv.2]
    | succ j =>
     have:=HY b cs r (a-1) l' hl g j (by simp at d;rw[gA] at d;omega);have e1:0+(j+1)*a=(a-1+j*a)+1:=by rw[gA];omega
     rw[e1,List.getElem?_cons_succ];simpa[pickI] using this
   .cases e
  | _=>simp[yC] at e
 | c::cs,vs,s+1,l,e,f,j,d=>by
  obtain⟨v,r,rfl,hv,g⟩:=f;have e':yC k a cs s=cs6 l:=by cases c <;> simpa[yC] using e
  have:=HY b cs r s l e' g j (by simp at d;omega);grind
variable{t:ct5}{x i:cv0}
theorem aY9(m:Mod w0 N0 A env h w)(f:FD A env w ρ a)(ho:o.op = .index t x i)
  (e:(P7 P t (bm ρ x) (bm ρ i)).run h=cs6 (d,r)) (hp:bQ d.pre):bK P o a w0 N0 A env h w d:=by
 have u:=dG f x
 have y:=dG f i
 unfold P7 at e
 split at e
 next cs ki b len E hx hi hu=>
  rw[hx] at u;rw[hi] at y;have ⟨vs,ev,j⟩:=u;have hvl:=kr j;have c:∀{v:ct8}{n:Nat},iu P E=cs6 n->0<=b->b<len->(part E vs (M b*n)).run P w = .ok v w->(cu7 a.eval o).run P w = .ok (.value v) w:=by
   intro v n hn h0 h1 hr;unfold cu7;rw[ho];simp only[cO9,y.1,ev,asIntOf,cu4,cu9,cu0,run_underlying hu,cQ6,ao (cT1 h0 h1),jC hn,hr]
  split at e
  .rename_i k hE hsz;split at e
   .rename_i l hc g;have g:=bH g;cases cE e;simp only[Dl.pre,bQ,ir] at hp;have ⟨z,c2⟩:=HY (dq 1) cs vs.toList 0 l hc j (M b) Y;refine bK.pure m (c hsz hp.1 hp.2 (v := .int k (pickI l (M b))) ?_) (by simp only[ax];exact⟨aQ,c2⟩);have p:tx P E=cs6 false:=by unfold tx;rw[hE]
    have q:vs[M b]? = cs6 (.int k (pickI l (M b))):=by rw[← rz];simpa using z
    unfold part;simp[cu4,FI p w,q]
   .cases e
  .rename_i E2 hE hsz;split at e
   .rename_i k hE2 hsz2;split at e
    .rename_i B l2 hc1 hc2 g;have g:=bH g;cases cE e;simp only[Dl.pre,bQ,ir] at hp;have ⟨z,c2⟩:=HY aD cs vs.toList 0 B hc1 j (M b) Y;have ⟨c3,c4⟩:=HY aD cs vs.toList 1 l2 hc2 j (M b) Y;have p:tx P E=cs6 true:=by unfold tx;rw[hE]
     refine bK.pure m (c hsz hp.1 hp.2 (v := .agg (vs.extract (M b*2) (M b*2+2))) ?_) ?_
     .unfold part;simp[cu4,FI p w,jC hsz w]
     .simp only[ax,aL];have s:(vs.extract (M b*2) (M b*2+2)).toList=[.int k (pickI B (M b)),.int k (pickI l2 (M b))]:=by
       apply cJ1;grind
      exact⟨_,rfl,_,_,s,⟨rfl,c2⟩,_,_,rfl,⟨rfl,c4⟩,rfl⟩
    .cases e
   .cases e
  .cases e
 .cases e
theorem bu8(m:Mod w0 N0 A env h w)(f:FD A env w ρ a){g:cy6}{b:Array cv0}(ho:o.op = .makeFunc (.func g) #[] b){pre:List Prop} :
  bK P o a w0 N0 A env h w (.det pre (.fn g (b.toList.map (bm ρ))) []):=by
 refine bK.pure m (v := .func (.func g) #[] (b.map a.eval)) ?_ ?_
 .unfold cu7;rw[ho];simp[Instr.makeFunc]
 .simp only[ax];refine⟨_,rfl,?_⟩;rw[cy4];generalize b.toList=l
  induction l with
  | nil=>simp[aL]
  | cons p l ih=>simp;exact⟨_,_,rfl,dG f p,ih⟩
theorem ag6(m:Mod w0 N0 A env h w)(f:FD A env w ρ a)(b:o.op = .move x∨o.op = .assign x){pre:List Prop} :
  bK P o a w0 N0 A env h w (.det pre (bm ρ x) []):=by
 refine bK.pure m ?_ (dG f x)
 unfold cu7
 obtain b|b:=b <;> rw[b] <;> rfl
theorem bH0(m:Mod w0 N0 A env h w)(f:FD A env w ρ a)(ho:o.op = .index t x i)
  (e:(Tk P t (bm ρ x) (bm ρ i)).run h=cs6 (d,r)) (hp:bQ d.pre):bK P o a w0 N0 A env h w d:=by
 unfold Tk at e
 split at e
 next k n xs ki iv len E hx hi hu=>
  split at e
  .rename_i k2 hE hs hn;have hn:=bH hn;cases cE e;have dx:=dG f x;have di:=dG f i;rw[hx] at dx;rw[hi] at di;simp only[ax] at dx di;simp only[Dl.pre,bQ,ir] at hp;have ⟨ev,hxl,hk⟩:=dx;have hl:M iv<V xs:=Y;have hv:(xs.map (cA9 k))[M iv]? = cs6 (.int k (pickI xs (M iv))):=by
    rw[cA7,cT hl];simp[pickI,hl]
   refine bK.pure m (v := .int k (pickI xs (M iv))) ?_ (by simp only[ax];exact⟨aQ,by unfold pickI;rw[cK,cT hl];exact hk _ (cv2 hl)⟩);have ha:tx P E=cs6 false:=by unfold tx;rw[hE]
   unfold cu7;rw[ho];simp only[cO9,di.1,ev,asIntOf,cu4,cu9,cu0,run_underlying hu,cQ6,ao (cT1 hp.1 hp.2),jC hs];unfold part;simp[cu4,FI ha w,hv]
  .cases e
 .exact aY9 m f ho e hp
end
abbrev Spec:=Nat->List SV->Q Dl
def mG(P:cu2)(G:vf)(f:cy6)(s:Spec):Prop :=
 ∀(base:Nat)(svs:List SV)(h:cq)(d:Dl)(r:List Nat),(s base svs).run h=cs6 (d,r)->bQ d.pre →
  ∀(w0:cu6)(N0:fT)(A:Nat->Prop)(env:bt)(w:cu6)(vs:List ct8),N0.g=G->Mod w0 N0 A env h w->aL A env w svs vs →
   Calls P f vs.toArray w (λe w'=>∃ v,e = .returned v/\eV w0 N0 A env h w d v w')
def Mg(P:cu2)(f:cy6):Bool:=match P.funcs[f]? with
 | some fn => !(fn.name == "runtime.NumGoroutine") && fn.body.isSome
 | none=>ct2
structure d8 where
 fn:cy6->Option Spec
 gl:vf
 yl:Option Spec
def iF(P:cu2)(sp:d8):Prop:=∀ f s,sp.fn f=cs6 s->mG P sp.gl f s
def Dr(P:cu2)(G:vf)(r:Loop)(ts:List Nat)(s:Spec):Prop :=
 ∀(base:Nat)(svs:List SV)(h:cq)(d:Dl)(q:List Nat),(s base svs).run h=cs6 (d,q)->bQ d.pre →
  ∀(w0:cu6)(N0:fT)(A:Nat->Prop)(env:bt)(w:cu6)(vs:List ct8)(l:Nat),N0.g=G->Mod w0 N0 A env h w->w.heap[l]? = cs6 (.loop r)->aL A env w svs (vs++ts.map λt=>r.tmps.getD t undef) →
   vs.length=r.params.size/\RoundIn cC1 0 P l r.fn ((r.params.zip vs.toArray).foldl (λtmps (t,a)=>tmps.setIfInBounds t a) r.tmps) r.assign r.body w (λe w'=>∃ v,e = .returned v/\eV w0 N0 A env h w d v w')
def Dl.addPre(p:Prop):Dl->Dl
 | .det l v u => .det (p::l) v u
 | .nd X qn l R inh v u => .nd X qn (p::l) R (λh=>inh h.2) v u
variable{p:Prop}
theorem cj7{d:Dl}(h:bQ (d.addPre p).pre):p/\bQ d.pre:=by cases d <;> exact h
theorem YK{P:cu2}{w0:cu6}{N0:fT}{A:Nat->Prop}{env:bt}{h:cq}{w:cu6}{d:Dl}{v:ct8}{w':cu6}(g:eV w0 N0 A env h w d v w'):eV w0 N0 A env h w (d.addPre p) v w':=by cases d <;> exact g
def Po(P:cu2)(sp:d8)(base:Nat)(f:SV)(args:List SV):Q Dl:=match f with
 | .fn g caps=>match Mg P g,sp.fn g with
  | true,cs6 s=>s base (args++caps)
  | _,_ => .fail
 | .yld r ts caps=>match sp.yl with
  | some s=>(s base (args++caps)).bind λd=>.ret (d.addPre (Dr P sp.gl r ts s))
  | none => .fail
 | _ => .fail
def ZJ(dst:Option Tmp):Nat:=match dst with
 | some d=>(d+1)*16
 | none=>0
def P1(P:cu2)(dst:Option Tmp)(b:Builtin)(args:List SV)(ts:List ct5):Q Dl:=match b,args,ts with
 | .len,[x],[t]=>sE P t x
 | .append,[s,x],[t,t']=>match L7 P t t',dst with
  | true,cs6 d=>IJ P t ((d+1)*16) s x
  | false,cs6 d=>TG P t t' ((d+1)*16) s x
  | _,ct4 => .fail
 | .cap,[x],[t]=>A0 P t x
 | .min,[x,y],_=>Qj x y
 | .max,[x,y],_=>QO x y
 | _,_,_ => .fail
def aE4(sp:d8):Option Tmp->Option Nat
 | some d=>match sp.fn (4000000000+d) with
  | some _=>cs6 d
  | none=>ct4
 | none=>ct4
def aT8(sp:d8):Option Tmp->Bool
 | some d=>match sp.fn (4100000000+d) with
  | some _=>cs8
  | none=>ct2
 | none=>ct2
def W7(sp:d8):Option Tmp->Bool
 | some d=>match sp.fn (4500000000+d) with
  | some _=>cs8
  | none=>ct2
 | none=>ct2
def Nn(x:SV):Q Dl:=match x with
 | .own n sz => .ask n fun
  | .live (.row E u xs)=>match ct7 sz u.size with
   | true => .ret (.det [] (.dsl u xs) [(n,.live (.frz E u xs))])
   | false => .fail
  | _ => .fail
 | .dsl t xs=>c8 (.dsl t xs)
 | _ => .fail
def aS1(sp:d8):Option Tmp->Bool
 | some d=>match sp.fn (4700000000+d) with
  | some _=>cs8
  | none=>ct2
 | none=>ct2
def Pv(P:cu2)(t:ct5)(x:SV)(lo hi mx:Option SV):Q Dl:=match vH P t,x,mx with
 | some (_,sz),.own n sz',ct4 => .ask n fun
  | .live (.row _ u xs)=>match ct7 sz u.size,ct7 sz' u.size,sc lo 0,sc hi (V xs) with
   | true,cs8,cs6 l,cs6 hh => .ret (.det [0<=l,l<=hh,hh<=V xs] (.part n sz' (M l) (M hh-M l)) [])
   | _,_,_,_ => .fail
  | _ => .fail
 | _,_,_ => .fail
def uO(sp:d8)(ρ:Nat->SV)(x:cv0):SV:=match x with
 | .global g=>match sp.gl g with
  | some y => .dptr y.1 y.2 0
  | none => .gl g
 | x=>bm ρ x
def TK(P:cu2)(t:ct5)(x i:SV):Q Dl:=match x,i,P.underlying t with
 | .agg cs,.int _ i,cs6 (.array len e)=>match iu P e,cs7 (0<=i)&&cs7 (i<len) with
  | some n,cs8=>CJ (pf P e cs (M i*n))
  | _,_ => .fail
 | _,_,_ => .fail
def Dx(P:cu2)(sp:d8)(o:cA2)(ρ:Nat->SV):Q Dl :=
 match o.op with
 | .move x=>match W7 sp o.dst with
  | true=>Nn (bm ρ x)
  | false=>c8 (bm ρ x)
 | .assign x=>match W7 sp o.dst with
  | true=>Nn (bm ρ x)
  | false=>c8 (bm ρ x)
 | .pick c x y=>QD (bm ρ c) (bm ρ x) (bm ρ y)
 | .alloc E=>match o.dst with
  | some d=>SP P E ((d+1)*16)
  | none => .fail
 | .box E x=>match o.dst with
  | some d=>Gz E ((d+1)*16) (Fz (bm ρ x))
  | none => .fail
 | .build t ps=>OB P t (ps.toList.map λp=>(p.1,bm ρ p.2))
 | .buildSlice t n ps=>match o.dst with
  | some d=>RR P t n ((d+1)*16) (ps.toList.map λp=>(p.1,bm ρ p.2))
  | none => .fail
 | .load t x=>QZ P t (uO sp ρ x)
 | .store t x y=>PX P t (bm ρ x) (bm ρ y)
 | .nilCheck x=>Sh (bm ρ x)
 | .binOp op t x y _=>match P.underlying t with
  | some .string=>PI op (bm ρ x) (bm ρ y)
  | _=>TM P op t (bm ρ x) (bm ρ y)
 | .unOp op _ x=>Q1 op (bm ρ x)
 | .convert s t x=>match P.underlying t with
  | some .string=>QQ P s (bm ρ x)
  | some (.slice e)=>Pj P s t e (bm ρ x)
  | _=>PW P s t (bm ρ x)
 | .makeFunc (.func g) fs caps=>match fs.isEmpty with
  | true=>c8 (.fn g (caps.toList.map (bm ρ)))
  | false => .fail
 | .makeSlice t l c=>match o.dst with
  | some d=>RL P t ((d+1)*16) (bm ρ l) (bm ρ c)
  | none => .fail
 | .slice t x lo hi mx=>match aS1 sp o.dst with
  | true=>Pv P t (bm ρ x) (lo.map (bm ρ)) (hi.map (bm ρ)) (mx.map (bm ρ))
  | false=>match aE4 sp o.dst with
   | some d=>Sx P t ((d+1)*16) (bm ρ x) (lo.map (bm ρ)) (hi.map (bm ρ)) (mx.map (bm ρ))
   | none=>Og P t (bm ρ x) (lo.map (bm ρ)) (hi.map (bm ρ)) (mx.map (bm ρ))
 | .fieldAddr s x f=>RM P s f (bm ρ x)
 | .field s x f=>P3 P s f (bm ρ x)
 | .indexAddr t x i=>match P.underlying t with
  | some (.array _ _)=>QG P t (uO sp ρ x) (bm ρ i)
  | _=>R5 P t (bm ρ x) (bm ρ i)
 | .index t x i=>match aT8 sp o.dst with
  | true=>TK P t (bm ρ x) (bm ρ i)
  | false=>Tk P t (bm ρ x) (bm ρ i)
 | .extract x i=>Pi i (bm ρ x)
 | .makeMap t ct4=>match o.dst with
  | some d=>Pk P t ((d+1)*16)
  | none => .fail
 | .lookup t x i cs8=>OZ P t (bm ρ x) (bm ρ i)
 | .mapUpdate t x i y=>T0 P t (bm ρ x) (bm ρ i) (bm ρ y)
 | .call {callee := .builtin b,args,argTypes}=>P1 P o.dst b (args.toList.map (bm ρ)) argTypes.toList
 | .call {callee := .value f,args,..}=>Po P sp (ZJ o.dst) (bm ρ f) (args.toList.map (bm ρ))
 | _ => .fail
def bl1(sp:d8):Option Tmp->Option (Nat×Nat)
 | some d=>match sp.fn (4600000000+d) with
  | some s=>match s 0 [] with
   | .ask p k=>match k .un with
    | .ask off _=>cs6 (p,off)
    | _=>ct4
   | _=>ct4
  | none=>ct4
 | none=>ct4
def Oz(p off nm:Nat):Q (List Prop×List (Nat×Nm)) := .ask p fun
 | .live (.cells E cs)=>match cs[off]? with
  | some (.part n sz lo len) => .ask n fun
   | .live (.row E' u xs)=>match ct7 sz u.size with
    | true => .ask nm fun
     | .un => .ret ([lo+len=V xs],[(p,.live (.cells E (tH cs off [.own nm u.size]))),(nm,.live (.row E' u (xs.drop lo))),(n,.dead)])
     | _ => .fail
    | false => .fail
   | _ => .fail
  | _ => .fail
 | _ => .fail
def DQ(P:cu2)(sp:d8)(o:cA2)(ρ:Nat->SV):Q Dl:=match bl1 sp o.dst with
 | none=>Dx P sp o ρ
 | some (p,off)=>(Dx P sp o ρ).bind λdl=>match dl with
  | .det pre v []=>(Oz p off (ZJ o.dst)).bind λx=>.ret (.det (pre++x.1) v x.2)
  | _ => .fail
section
variable {P:cu2} {sp:d8} {w0:cu6} {N0:fT} {A:Nat->Prop} {env:bt} {h:cq} {w:cu6} {o:cA2} {a:Act} {ρ:Nat->SV} {d:Dl} {r:List Nat}
abbrev wf(ro:Option Nat):Fence:={cC1 with round:=ro}
def Gd(P:cu2)(o:cA2)(a:Act)(w0:cu6)(N0:fT)(A:Nat->Prop)(env:bt)(h:cq)(w:cu6)(d:Dl):Prop :=
 ∀(ro:Option Nat)(K:Act->cu6->Prop)(Q':Exit->Act->cu6->Prop),(∀ v w',eV w0 N0 A env h w d v w'→K (a.put o.dst v) w')->o.wpIn (wf ro) 0 P a w K Q'
theorem aK4{v w'}(h:(cu7 a.eval o).run P w = .ok (.value v) w'∨((cu7 a.eval o).run P w = .ok .skip w'∧v=undef))(c):o.op ≠ .defer c:=by
 intro e
 unfold cu7 at h
 rw[e] at h
 simp only[cu4] at h
 cases hr:(resolve a.eval c o.type).run P w <;> simp[hr,Result.andThen,cu9] at h
theorem bK.steps(y:bK P o a w0 N0 A env h w d):Gd P o a w0 N0 A env h w d:=by
 intro ro K Q' hK
 have ⟨v,w',hr,g⟩:=y
 refine⟨λ_ _=>trivial,?_⟩
 rw[cM8 _ _ _ (aK4 hr)]
 obtain hr|⟨hr,rfl⟩:=hr <;> rw[hr]
 .exact hK _ _ g
 .exact hK _ _ g
theorem VL(f:FD A env w ρ a)(xs:Array cv0):aL A env w (xs.toList.map (bm ρ)) (xs.map a.eval).toList:=by
 rw[cy4]
 generalize xs.toList=l
 induction l with
 | nil=>simp[aL]
 | cons p l ih=>simp;exact⟨_,_,rfl,dG f p,ih⟩
theorem YT(hg:N0.g=sp.gl)(m:Mod w0 N0 A env h w)(f:FD A env w ρ a)(x:cv0):ax A env w (uO sp ρ x) (a.eval x):=by
 cases x with
 | global g =>
  simp only[uO];cases hy:sp.gl g with
  | none=>simp only[ax,cU6]
  | some y =>
   have ⟨h1,h2⟩:=m.gl g y (by rw[hg];exact hy);exact⟨g,0,rfl,h1,h2⟩
 | tmp t=>simp only[uO];exact dG f _
 | const v=>simp only[uO];exact dG f (.const v)
 | func v=>simp only[uO];exact dG f (.func v)
variable{x:cv0}
theorem UG(m:Mod w0 N0 A env h w)(f:FD A env w ρ a)(ho:o.op = .move x∨o.op = .assign x)(e:(Nn (bm ρ x)).run h=cs6 (d,r)):bK P o a w0 N0 A env h w d:=by
 have dx:=dG f x
 have exe:(cu7 a.eval o).run P w = .ok (.value (a.eval x)) w:=by unfold cu7;obtain ho|ho:=ho <;> rw[ho] <;> rfl
 unfold Nn at e
 split at e
 next n sz hx=>
  rw[hx] at dx;simp only[ax] at dx;simp only[Q.run] at e;split at e
  .rename_i p q hk;simp only[cy,ck] at e;obtain⟨rfl,rfl⟩:=e;split at hk
   .rename_i E u xs hl;split at hk
    .rename_i h1;have h1:=bH h1;cases cE hk;have ok:qB h [(n,.live (.frz E u xs))]:=by
      intro n' b hb;simp only[iV,ck] at hb;obtain⟨rfl,rfl⟩:=hb;exact⟨E,u,xs,hl,rfl⟩
     have ⟨m2,x2⟩:=m.freeze ok;refine⟨a.eval x,w,.inl exe,(),_,env,aQ,m2,x2,?_⟩;show ax _ env w (.dsl u xs) (a.eval x);simp only[ax];obtain⟨hnil,pa,ev⟩|⟨b,len,E2,c,hb,hsh,ev⟩:=dx
     .have hx0:xs=[]:=by
       have:=m.nm n;rw[hl] at this;obtain⟨k',l',he',_⟩|⟨_,E3,t3,hb⟩:=this
       .rw[hnil] at he';cases he'
       .obtain hb|hb:=hb <;> cases hb;rfl
      subst hx0;exact⟨aw,.inl ⟨⟨pa,ev⟩,rfl⟩⟩
     .have hs:dM [(n,Nm.live (lJ.frz E u xs))] h n = .live (.frz E u xs):=by simp[dM]
      have hbd:=(m2.live_blk hs hb).1;rw[ev,h1];exact Lf (λ_ h=>h) hbd.2 hbd.1 hsh
    .cases hk
   .cases hk
  .cases e
 next t xs hx=>rw[hx] at dx;unfold c8 at e;cases cE e;exact bK.pure m exe dx
 .cases e
variable{t:ct5}
theorem bT3(m:Mod w0 N0 A env h w)(f:FD A env w ρ a){lo hi mx:Option cv0}(ho:o.op = .slice t x lo hi mx)
  (e:(Pv P t (bm ρ x) (lo.map (bm ρ)) (hi.map (bm ρ)) (mx.map (bm ρ))).run h=cs6 (d,r)) (hp:bQ d.pre):bK P o a w0 N0 A env h w d:=by
 have dx:=dG f x
 unfold Pv at e
 split at e
 case h_2=>cases e
 rename_i E sz n sz' he hx hmx
 have ⟨hu,hsz⟩:=AD he
 have hmx':mx=none:=by cases mx <;> simp_all
 subst hmx'
 rw[hx] at dx;simp only[ax] at dx
 simp only[Q.run] at e
 split at e
 case h_2=>cases e
 rename_i p q hk
 simp only[cy,ck] at e
 obtain⟨rfl,rfl⟩:=e
 split at hk
 case h_2=>cases hk
 rename_i E' u xs hl
 split at hk
 case h_2=>cases hk
 rename_i l hh h1 h2 hb1 hb2
 have h1:=bH h1
 have h2:=bH h2
 cases cE hk
 simp only[Dl.pre,bQ,ir] at hp
 have ⟨p1,p2,p3⟩:=hp
 have exe:∀{p:Option cN3}{cap:Nat},a.eval x = .slice p (V xs) cap->V xs<=cap →
   (cu7 a.eval o).run P w = .ok (.value (.slice (if cap=M l then p else p.map (·.add (M l*sz))) (M hh-M l) (cap-M l))) w:=by
  intro p cap ev hle;unfold cu7;rw[ho];have hb:=K0 (P:=P) (w:=w) (V xs) cap (lo.map a.eval) (hi.map a.eval) ct4 (M l) (M hh) cap (.inl ⟨rfl,rfl⟩)
   (by rcases Co f hb2 with⟨rfl,e1⟩|⟨k,y,rfl,e1⟩
       .exact .inl ⟨rfl,rfl,Y⟩
       .exact .inr ⟨k,hh,by simp[e1],Y,Y,rfl⟩)
   (by rcases Co f hb1 with⟨rfl,e1⟩|⟨k,y,rfl,e1⟩
       .exact .inl ⟨rfl,Y⟩
       .exact .inr ⟨k,l,by simp[e1],Y,Y,rfl⟩)
  simp only[Option.map_none,cF5,cK1,cu4,run_underlying hu,cu0,ev,hb,jC hsz,cu9]
 obtain⟨hnil,pa,ev⟩|⟨b,⟨β,len⟩,E2,c,hb,hsh,ev⟩:=dx
 .have hx0:xs=[]:=by
   have:=m.nm n;rw[hl] at this;obtain⟨k',l',he',_⟩|⟨_,E3,t3,hb⟩:=this
   .rw[hnil] at he';cases he'
   .obtain hb|hb:=hb <;> cases hb;rfl
  subst hx0;have hz:M hh-M l=0:=by simp at p3;omega
  refine bK.pure m (exe ev aw) ?_;simp only[ax];exact .inl ⟨hz,_,by rw[hz,show 0-M l=0 by omega]⟩
 .have ⟨cur,cap,hhp,hcs,hxl,hlc,hcm,hrd⟩:=(m.live_blk hl hb).1;simp only at hcs hxl hlc ev;have hcc:c=cur.size:=by
   rw[hhp.shape] at hsh;simp only[cy,ck] at hsh;exact hsh.2.symm
  have hcap:(c-β)/sz'=cap:=by rw[hcc,hcs,h2,nW];exact sN _ u.size_pos
  rw[hcap,← hxl] at ev;refine bK.pure m (exe ev Y) ?_;simp only[ax];by_cases hm:cap=M l
  .rw[ao hm];have hz:M hh-M l=0:=Y;exact .inl ⟨hz,_,by rw[hz,hm,Nat.sub_self]⟩
  .rw[I hm];refine .inr ⟨b,(β,len),E2,c,hb,by simp only;omega,hsh,?_⟩;rw[hcap];simp only[cB5,cv5,h1,h2]
theorem bk6(m:Mod w0 N0 A env h w)(f:FD A env w ρ a){i:cv0}(ho:o.op = .index t x i)
  (e:(TK P t (bm ρ x) (bm ρ i)).run h=cs6 (d,r)):bK P o a w0 N0 A env h w d:=by
 have c:=dG f x
 have g:=dG f i
 unfold TK at e
 split at e
 next cs ki iv len E hx hi hu=>
  rw[hx] at c;rw[hi] at g;have ⟨vs,ev,dv⟩:=c;split at e
  next n hn b=>simp at b;obtain⟨sv,e1,rfl⟩:=DM e;have ⟨v,hr,hd⟩:=KS e1 dv;refine bK.pure m ?_ hd;unfold cu7;rw[ho];simp only[cO9,g.1,ev,asIntOf,cu4,cu9,cu0,run_underlying hu,cQ6,ao (cT1 b.1 b.2),jC hn,hr]
  .cases e
 .cases e
theorem aZ5(hs:iF P sp/\N0.g=sp.gl)(m:Mod w0 N0 A env h w)(f:FD A env w ρ a){g:cv0}{args:Array cv0}{ts:Array ct5}{base:Nat}(ho:o.op = .call {callee := .value g,args,argTypes:=ts})
  (e:(Po P sp base (bm ρ g) (args.toList.map (bm ρ))).run h=cs6 (d,r)) (hp:bQ d.pre):(∃ v w',eV w0 N0 A env h w d v w')/\Gd P o a w0 N0 A env h w d:=by
 have dg:=dG f g
 unfold Po at e
 split at e
 next gi caps hg=>
  split at e
  .rename_i s hb hsp;rw[hg] at dg;simp only[ax] at dg;have ⟨vs,ev,dv⟩:=dg;have hcall:=hs.1 gi s hsp base _ h d r e hp w0 N0 A env w _ hs.2 m (vm (VL f args) dv);refine⟨?_,λro K Q' hK=>?_⟩
   .have ⟨e',w',fr,⟨v,_,g⟩,_⟩:=hcall [];exact⟨v,w',g⟩
   refine⟨λ_ _=>trivial,?_⟩;rw[cM8 _ _ _ (λc=>by rw[ho];simp)];unfold cu7;rw[ho];unfold Mg at hb;split at hb
   .rename_i fn hfn;simp only[fB,sS] at hb;have hbody:fn.body.isNone=false:=by cases hfb:fn.body <;> simp_all
    simp only[resolve,cP8,ev,cu4,cu9,cu0,invoke,callFunc,run_program,hfn,hb.1,hbody,GQ,if_false,cQ7,Oper.uponIn];have hargs:((cX5 a.eval args).toList++vs.toList).toArray=cX5 a.eval args++vs:=by apply cL2;simp
    rw[hargs] at hcall;refine⟨λq=>by simp[cC1] at q,CallsIn.mono (callsIn_wide.2 hcall:CallsIn cC1 0 P _ _ _ _) ?_⟩;rintro e' w' ⟨v,rfl,g⟩;exact hK _ _ g
   .cases hb
  .cases e
 next r ts caps hg=>
  split at e
  .rename_i s hsp;obtain⟨d',r1,r2,e1,e2,rfl⟩:=Q.run_bind _ _ _ e;cases cE e2;rw[hg] at dg;simp only[ax] at dg;have ⟨l,ev,hl,dv⟩:=dg;have ⟨hy,hp⟩:=cj7 hp;have ⟨hlen,hR⟩:=hy base _ h d' _ e1 hp w0 N0 A env w _ l hs.2 m hl (vm (VL f args) dv);refine⟨?_,λro K Q' hK=>?_⟩
   .have ⟨e',w',⟨v,_,g⟩,_⟩:=hR.2 default [] (room_wide _);exact⟨v,w',YK (P:=P) g⟩
   refine⟨λ_ _=>trivial,?_⟩;rw[cM8 _ _ _ (λc=>by rw[ho];simp)];unfold cu7;rw[ho];simp only[resolve,cP8,ev,cu4,cu9,cu0,invoke,cQ7];rw[run_yield hl (by simpa using hlen)];refine⟨λq=>by simp[cC1] at q,RoundIn.mono (F:=cC1) (cO5 (xs:=args.map a.eval)▸hR) ?_⟩;rintro e' w' ⟨v,rfl,g⟩;exact hK _ _ (YK (P:=P) g)
  .cases e
 .cases e
theorem FM{v}(e:(c8 v).run h=cs6 (d,r)):d = .det [] v []:=(cE e).symm
theorem Up(hs:iF P sp/\N0.g=sp.gl)(m:Mod w0 N0 A env h w)(f:FD A env w ρ a)
  (e:(Dx P sp o ρ).run h=cs6 (d,r)) (hp:bQ d.pre):(∃ v w',eV w0 N0 A env h w d v w')/\Gd P o a w0 N0 A env h w d:=by
 have ofY:bK P o a w0 N0 A env h w d->(∃ v w',eV w0 N0 A env h w d v w')/\Gd P o a w0 N0 A env h w d:=λy=>by
  have y':=y;obtain⟨v,w',hr,g⟩:=y';exact⟨⟨v,w',g⟩,y.steps⟩
 unfold Dx at e
 split at e
 next x ho=>
  split at e
  .exact ofY (UG m f (.inl ho) e)
  .rw[FM e];rw[FM e] at ofY;exact ofY (ag6 m f (.inl ho))
 next x ho=>
  split at e
  .exact ofY (UG m f (.inr ho) e)
  .rw[FM e];rw[FM e] at ofY;exact ofY (ag6 m f (.inr ho))
 next c x y ho=>exact ofY (cn6 m f ho e hp)
 next E ho=>
  split at e
  .exact ofY (bH8 m ho e)
  .cases e
 next E x ho=>
  split at e
  .exact ofY (aD2 m f ho e)
  .cases e
 next t ps ho=>exact ofY (aK1 m f ho e)
 next t n ps ho=>
  split at e
  .exact ofY (aH7 m f ho e)
  .cases e
 next t x ho=>exact ofY (aD8 m (uO sp ρ) (YT hs.2 m f x) ho e hp)
 next t x y ho=>exact ofY (co7 m f ho e hp)
 next x ho=>exact ofY (au8 m f ho e)
 next op t x y yt ho=>
  split at e
  next ht=>exact ofY (aO1 m f ho ht e)
  .exact ofY (aO2 m f ho e hp)
 next op t x ho=>exact ofY (a87 m f ho e hp)
 next s t x ho=>
  split at e
  next ht=>exact ofY (cj8 m f ho ht e)
  next ht=>exact ofY (av1 m f ho ht e hp)
  .exact ofY (aB0 m f ho e hp)
 next g fs caps ho=>
  split at e
  .rename_i hfs;have:fs = #[]:=by simpa using hfs
   subst this;rw[FM e];rw[FM e] at ofY;exact ofY (bu8 m f ho)
  .cases e
 next t l c ho=>
  split at e
  .exact ofY (co0 m f ho e hp)
  .cases e
 next t x lo hi mx ho=>
  split at e
  .exact ofY (bT3 m f ho e hp)
  .split at e
   .exact ofY (ba4 m f ho e hp)
   .exact ofY (bf4 m f ho e hp)
 next s x i ho=>exact ofY (bM6 m f ho e)
 next s x i ho=>exact ofY (cf1 m f ho e)
 next t x i ho=>
  split at e
  .exact ofY (av3 m f (uO sp ρ) (YT hs.2 m f x) ho e hp)
  .exact ofY (bW2 m f ho e hp)
 next t x i ho=>
  split at e
  .exact ofY (bk6 m f ho e)
  .exact ofY (bH0 m f ho e hp)
 next x i ho=>exact ofY (bE4 m f ho e)
 next t ho=>
  split at e
  .exact ofY (aV7 m ho e)
  .cases e
 next t x i ho=>exact ofY (aG9 m f ho e)
 next t x i y ho=>exact ofY (b86 m f ho e)
 next b args ts ho=>
  obtain⟨al⟩:=args;obtain⟨tl⟩:=ts;have e':(P1 P o.dst b (al.map (bm ρ)) tl).run h=cs6 (d,r):=e;clear e;cases b
  case len =>
   match al,tl with
   | [x1],[t1]=>exact ofY (bT1 m f ho e')
   | [],_=>cases e'
   | _::_::_,_=>cases e'
   | [_],[]=>cases e'
   | [_],_::_::_=>cases e'
  case cap =>
   match al,tl with
   | [x1],[t1]=>exact ofY (bG3 m f ho e')
   | [],_=>cases e'
   | _::_::_,_=>cases e'
   | [_],[]=>cases e'
   | [_],_::_::_=>cases e'
  case append =>
   match al,tl with
   | [x1,x2],[t1,t2] =>
    simp only[cA6,P1] at e';split at e'
    next dd hb _=>exact ofY (ZN m f hb ho e' hp)
    .exact ofY (cn1 m f ho e' hp)
    .cases e'
   | [],_=>cases e'
   | [_],_=>cases e'
   | _::_::_::_,_=>cases e'
   | [_,_],[]=>cases e'
   | [_,_],[_]=>cases e'
   | [_,_],_::_::_::_=>cases e'
  case min =>
   match al with
   | [x1,x2]=>exact ofY (b71 m f ho e')
   | []=>cases e'
   | [_]=>cases e'
   | _::_::_::_=>cases e'
  case max =>
   match al with
   | [x1,x2]=>exact ofY (br6 m f ho e')
   | []=>cases e'
   | [_]=>cases e'
   | _::_::_::_=>cases e'
  all_goals (cases e')
 next g args ts ho=>exact aZ5 hs m f ho e hp
 .cases e
theorem aT3(m:Mod w0 N0 A env h w){p off nm:Nat}{x:List Prop×List (Nat×Nm)}(e:(Oz p off nm).run h=cs6 (x,r))(hp:bQ x.1) :
  ∃ A' env',Mod w0 N0 A' env' (dM x.2 h) w/\dQ A env w A' env' w:=by
 unfold Oz at e
 simp only[Q.run] at e
 split at e
 case h_2=>cases e
 rename_i p0 q0 hk
 simp only[cy,ck] at e
 obtain⟨rfl,rfl⟩:=e
 split at hk
 case h_2=>cases hk
 rename_i E cs hl
 split at hk
 case h_2=>cases hk
 rename_i n sz lo len hc
 simp only[Q.run] at hk
 split at hk
 case h_2=>cases hk
 rename_i p1 q1 hk1
 simp only[cy,ck] at hk
 obtain⟨rfl,rfl⟩:=hk
 split at hk1
 case h_2=>cases hk1
 rename_i E' u xs hn
 split at hk1
 case h_2=>cases hk1
 rename_i hsz
 have hsz:=bH hsz
 subst hsz
 simp only[Q.run] at hk1
 split at hk1
 case h_2=>cases hk1
 rename_i p2 q2 hk2
 simp only[cy,ck] at hk1
 obtain⟨rfl,rfl⟩:=hk1
 split at hk2
 case h_2=>cases hk2
 rename_i hun
 simp only[Q.run,cy,ck] at hk2
 obtain⟨rfl,rfl⟩:=hk2
 simp only[bQ,ir] at hp
 have hpe:∃ k l,env p = .blk k l:=by
  have:=m.nm p;rw[hl] at this;obtain⟨k,l,h1,_⟩|⟨_,E2,t2,hb⟩:=this
  .exact⟨k,l,h1⟩
  .obtain hb|hb:=hb <;> cases hb
 have ⟨k,l,hpe⟩:=hpe
 have ⟨⟨vs,hvs,hd⟩,_⟩:=m.live_blk hl hpe
 have ⟨v,hv,hdv⟩:=B5 _ _ hd hc
 have hpn:p≠n:=λe=>by rw[e,hn] at hl;cases hl
 have hpm:p≠nm:=λe=>by rw[e,hun] at hl;cases hl
 have hdn:∀ n'∈[n],∃ b,h n' = .live b/\b.mut=true:=by simp[hn,lJ.mut]
 have g:eV w0 N0 A env h w (.det [] (.own nm u.size) ((nm,.live (.row E' u (xs.drop lo)))::[n].map λn=>(n,.dead))) v w:=by
  simp only[ax] at hdv;obtain⟨rfl,pa,rfl⟩|⟨b,⟨β,ln⟩,E2,c,hb,hle,hsh,rfl⟩:=hdv
  .have hz:xs.drop lo=[]:=cA3 Y;exact sn m hun [n] hdn (W:=λ_=>False) (ev := .nil) (cY.refl w _) (λ_ h=>h.elim) aw (λk l e=>by cases e) (λ_=>.inl ⟨rfl,hz,pa,rfl⟩)
  .have ⟨cur,cap,hh,hcs,hxl,hlc,hcm,hrd⟩:=(m.live_blk hn hb).1;simp only at hcs hxl hlc hrd hle;have hcc:E2=E'∧c=cur.size:=by
    rw[hh.shape] at hsh;simp only[cy,ck] at hsh;exact⟨hsh.1.symm,hsh.2.symm⟩
   obtain⟨rfl,rfl⟩:=hcc;have hcap:(cur.size-β)/u.size=cap:=by rw[hcs,nW];exact sN _ u.size_pos
   have hm:cap*u.size=lo*u.size+(cap-lo)*u.size:=by rw[← gA];congr 1;omega
   refine sn m hun [n] hdn (W:=λ_=>False) (ev := .blk b (β+lo*u.size,len)) (cY.refl w _) (λ_ h=>h.elim) aw (λk l e=>by cases e;exact .inr ⟨n,(β,ln),aw,hb⟩)
    (λx=>.inr ⟨b,(β+lo*u.size,len),cur.size,rfl,⟨cur,cap-lo,hh,by simp only;omega,by simp only[gR];omega,by simp only;omega,Y,λi hi=>?_⟩,hsh,?_⟩)
   .simp only[gR] at hi;rw[cK2];have:=hrd (lo+i) Y;simp only;rw[gA,← jv] at this;exact this
   .simp only;rw[hcap,show cur.size-(β+lo*u.size)=(cap-lo)*u.size from by omega,sN _ u.size_pos]
 have ⟨x0,A',env',_,m1,x1,d1⟩:=g
 have m1:=m1
 have d1:=d1
 have hl1:dM [(nm,Nm.live (.row E' u (xs.drop lo))),(n,.dead)] h p = .live (.cells E cs):=by
  rw[rq (by simp[hpm,hpn])];exact hl
 have hpe1:=x1.envb _ _ _ hpe
 have hup:=mH.write (b' := .cells E (tH cs off [.own nm u.size])) m1 hl1 rfl hpe1 (cY.refl w _) ⟨vs,hvs,by
  have h2:aL A' env' w [.own nm u.size] [v]:=by simp only[aL];exact⟨v,[],rfl,d1,rfl⟩
  have h3:=Fx (off:=off) (DU x1 _ _ hd) h2;have hlt:=(ct6.1 hv).1;have hvv:=(ct6.1 hv).2;have he:vs.toList.take off++([v]++vs.toList.drop (off+[v].length))=vs.toList:=by
   rw[← hvv];simp only[fq,List.singleton_append];rw[List.getElem_cons_drop,mj]
  rw[he] at h3;exact h3⟩ rfl
 exact⟨A',env',m1.upd hup,x1.trans (m1.ext hup)⟩
theorem VE(hs:iF P sp/\N0.g=sp.gl)(m:Mod w0 N0 A env h w)(f:FD A env w ρ a)
  (e:(DQ P sp o ρ).run h=cs6 (d,r)) (hp:bQ d.pre):(∃ v w',eV w0 N0 A env h w d v w')/\Gd P o a w0 N0 A env h w d:=by
 unfold DQ at e
 split at e
 .exact Up hs m f e hp
 next p off hc=>
  obtain⟨dl,r1,r2,e1,e2,rfl⟩:=Q.run_bind _ _ _ e;split at e2
  .rename_i pre v;obtain⟨x,r3,r4,e3,e4,rfl⟩:=Q.run_bind _ _ _ e2;cases cE e4;have hp:=hp;have ⟨hp1,hp2⟩:=tf.1 hp;have ⟨⟨v0,w0',g0⟩,s0⟩:=Up hs m f e1 hp1;have conv:∀ v1 w1,eV w0 N0 A env h w (.det pre v []) v1 w1->eV w0 N0 A env h w (.det (pre++x.1) v x.2) v1 w1:=λv1 w1 g=>by
    have ⟨_,A',env',_,m1,x1,d1⟩:=g;have ⟨A2,env2,m2,x2⟩:=aT3 (h:=h) m1 e3 hp2;exact⟨(),A2,env2,aQ,m2,x1.trans x2,DA x2 _ _ d1⟩
   exact⟨⟨v0,w0',conv _ _ g0⟩,λro K Q' hK=>s0 ro K Q' λv1 w1 g=>hK v1 w1 (conv _ _ g)⟩
  .cases e2
end
end Go.SX
namespace Go.SX
def d7(sl:List SV)(i:Nat):SV:=match pY sl i with
 | some v=>v
 | none => .junk
structure FS where
 sl:List SV
 h:cq
def JN:SV->SV
 | .opt _ v=>v
 | v=>v
def TD(g:Bool):SV->List Prop
 | .opt b _=>[g=cs8->b=cs8]
 | _=>[]
def AU:List cv0->List Nat
 | []=>[]
 | .tmp t::r=>t::AU r
 | _::r=>AU r
def rp(n:Nat):List Nat->Bool
 | []=>ct2
 | m::r=>ct7 n m||rp n r
theorem Bd{n}:∀{l:List Nat},rp n l=cs8↔n∈l
 | []=>by simp[rp]
 | m::r=>by simp[rp,Bd (l:=r)]
def zU(o:cA2):List Nat:=match o.op with
 | .pick (.tmp c) _ _=>[c]
 | .pick _ _ _=>[]
 | op=>AU op.operands.toList
inductive GV where
 | always
 | cond (g:Bool)
 | unknown
abbrev ab0(b want:Bool):Bool:=match want with
 | true=>b
 | false => !b
def DG(ops:List cA2)(sl:List SV):Option (Nat×Bool)->GV
 | none => .always
 | some (j,want)=>match pY ops j with
  | some oj=>match oj.dst with
   | some d=>match d7 sl d with
    | .bool b => .cond (ab0 b want)
    | .opt g (.bool b) => .cond (g&&ab0 b want)
    | v=>match Mq v with
     | true => .cond ct2
     | false => .unknown
   | none => .unknown
  | none => .unknown
inductive kM:Type 1 where
 | go (d:Dl)
 | split (g:Bool) (d:Dl)
def vB(g:Bool)(sl:List SV):List Nat->List Prop
 | []=>[]
 | i::r=>TD g (d7 sl i)++vB g sl r
def Hu:List Prop->Bool->List Prop
 | [],_=>[]
 | l,g=>[g=cs8->bQ l]
def YB(g:Bool)(pu:List Prop)(d:Dl):Q kM:=match d with
 | .det pre v [] => .ret (.go (.det (Hu (pu++pre) g) (.opt g v) []))
 | .det pre v upd => .ret (.split g (.det (pu++pre) v upd))
 | .nd X qn pre R inh v upd => .ret (.split g (.nd X qn (pu++pre) R (λh=>inh (tf.1 h).2) v upd))
def Iz(sl:List SV):List Nat->Bool
 | []=>ct2
 | i::r=>Mq (d7 sl i)||Iz sl r
def qI(P:cu2)(sp:d8)(ops:List cA2)(o:cA2)(sl:List SV):Q kM:=match DG ops sl o.guard with
 | .always=>(DQ P sp o (d7 sl)).bind λd=>.ret (.go d)
 | .cond g=>match Iz sl (zU o) with
  | true => .ret (.go (.det [g=ct2] (.cv undef) []))
  | false=>(DQ P sp o (λi=>match rp i (zU o) with|true=>JN (d7 sl i)|false=>d7 sl i)).bind (YB g (vB g sl (zU o)))
 | .unknown => .fail
def mO(sl:List SV)(dst:Option Tmp)(v:SV):List SV:=match dst with
 | some d=>sl.set d v
 | none=>sl
def FS.app(F:FS)(dst:Option Tmp)(d:Dl)(x:d.X):FS:=⟨mO F.sl dst (d.val x),d.hp x F.h⟩
def FS.skip(F:FS)(dst:Option Tmp):FS:=⟨mO F.sl dst (.cv undef),F.h⟩
def oB(st:kM)(dst:Option Tmp)(F F':FS):Prop:=match st with
 | .go d=>∃ x,d.R x/\F'=F.app dst d x
 | .split g d=>(g=cs8∧∃ x,d.R x/\F'=F.app dst d x)∨(g=ct2/\F'=F.skip dst)
def kM.pre:kM->Prop
 | .go d=>bQ d.pre
 | .split g d=>g=cs8->bQ d.pre
def kM.wr:kM->List Nat
 | .go d=>d.wr
 | .split _ d=>d.wr
def sX(w0 w:cu6):List cY8->Prop
 | []=>True
 | d::r=>∃ D,d={target := .collected D,args := #[]}/\w0.heap.size<=D/\w.heap[D]? = cs6 (.deferred (cs6 []))/\(∀ e∈r,e.target ≠ .collected D)/\sX w0 w r
theorem sX.mono{a w w'}(x:∀ k:Nat,w.heap[k]? = cs6 (.deferred (cs6 []))->w'.heap[k]? = cs6 (.deferred (cs6 []))):∀{b:List cY8},sX a w b->sX a w' b
 | [],_=>trivial
 | _::_,⟨D,h1,h2,h3,h4,h5⟩=>⟨D,h1,h2,x _ h3,h4,h5.mono x⟩
theorem sX.lt{w0 w}:∀{b:List cY8},sX w0 w b→∀ e∈b,∃ D,e.target = .collected D/\D<w.heap.size
 | _::_,⟨D,h1,_,h3,_,h5⟩,e,a=>by
  obtain rfl|a:=dm.1 a
  .grind
  .exact h5.lt e a
structure ia (w0:cu6) (N0:fT) (A:Nat->Prop) (env:bt) (F:FS) (a:Act) (w:cu6):Prop where
 m:Mod w0 N0 A env F.h w
 len:V F.sl<=a.tmps.size
 f:FD A env w (d7 F.sl) a
 dfr:sX w0 w a.defers
section
variable {P:cu2} {sp:d8} {w0:cu6} {N0:fT} {A:Nat->Prop} {env:bt} {F F':FS} {w:cu6} {o:cA2} {a:Act} {st:kM} {r:List Nat}
theorem JR{a d i v}:d7 (a.set d v) i=if i=d/\d<V a then v else d7 a i:=by
 unfold d7
 simp only[yi,List.getElem?_set]
 grind
theorem XK{A':Nat->Prop}{env':bt}{e:cu6}{c:List SV}{v:SV}{u:ct8}(len:c.length<=a.tmps.size)(f:FD A env w (d7 c) a)(x:dQ A env w A' env' e)(b:Option Tmp)
  (hd:ax A' env' e v u):FD A' env' e (d7 (mO c b v)) (a.put b u):=by
 intro i
 cases b with
 | none=>exact DA x _ _ (f i)
 | some d =>
  simp only[mO,Act.put];rw[JR];split
  next h=>have hi:i<a.tmps.size:=Y;simp_all
  .rename_i h;by_cases g:i=d
   .subst g;have:d7 c i = .junk:=by unfold d7;rw[yi,xQ Y]
    rw[this];simp only[ax]
   .have h2:=DA x _ _ (f i);simp at h2 ⊢;grind
theorem an3(a:Act)(dst)(v):(a.put dst v).tmps.size=a.tmps.size:=by cases dst <;> simp[Act.put]
theorem UZ(a:Act)(dst)(v):(a.put dst v).defers=a.defers:=by cases dst <;> rfl
theorem an4(sl)(dst)(v):V (mO sl dst v)=V sl:=by cases dst <;> simp[mO]
theorem ia.app(t:ia w0 N0 A env F a w){d:Dl}{v:ct8}{w':cu6}(g:eV w0 N0 A env F.h w d v w')(dst:Option Tmp) :
  ∃ x A' env',d.R x/\ia w0 N0 A' env' (F.app dst d x) (a.put dst v) w'∧dQ A env w A' env' w':=by
 have ⟨x,A',env',hR,m',b,hd⟩:=g
 exact⟨x,A',env',hR,⟨m',by simp only[FS.app,an4,an3];exact t.len,XK t.len t.f b dst hd,by rw[UZ];exact t.dfr.mono b.dfo⟩,b⟩
theorem ia.skip(t:ia w0 N0 A env F a w)(b:Option Tmp):ia w0 N0 A env (F.skip b) (a.put b undef) w :=
 ⟨t.m,by simp only[FS.skip,an4,an3];exact t.len,XK t.len t.f dQ.refl b (by simp only[ax]),by rw[UZ];exact t.dfr⟩
theorem bU9(a:Act){ops}(h:o.guard=ct4):cD0 o (yielded ops a.tmps)=true:=by simp[cD0,h]
variable{g:Bool}
theorem aw9(t:ia w0 N0 A env F a w){ops:Array cA2}(e:DG ops.toList F.sl o.guard = .cond g) :
  cD0 o (yielded ops a.tmps)=g:=by
 unfold DG at e
 split at e
 .cases e
 next j want hg=>
  have hw:cD0 o (yielded ops a.tmps)=(yielded ops a.tmps j == cs6 want):=by simp[cD0,hg]
  split at e
  .rename_i oj hj;split at e
   .rename_i d hd;have k:ops[j]? = cs6 oj:=by rw[yi,rz] at hj;exact hj
    have hy:yielded ops a.tmps j=match a.tmps[d]? with|some (.bool b)=>cs6 b|_=>none:=by
     unfold yielded;rw[k];simp only[Option.bind_some,hd];rfl
    have c:=t.f d;have h:∀{v:ct8},a.tmps.getD d undef=v->v≠undef->a.tmps[d]? = cs6 v:=by
     intro v hv hne;rw[sK] at hv;grind
    rw[hw,hy];split at e
    next b hb=>cases e;rw[hb] at c;rw[h c (by simp[undef])];grind
    .rename_i g' b hb;cases e;rw[hb] at c;cases g' with
     | true =>
      rw[h c (by simp[undef])];grind
     | false =>
      rw[sK] at c;cases hx:a.tmps[d]? with
      | none=>rfl
      | some u=>rw[hx] at c;subst c;rfl
    .rename_i hv1 hv2;split at e
     .rename_i l;have i:∃ vs,d7 F.sl d = .cv (.tuple vs)/\vs.isEmpty=true:=by
       unfold Mq at l;grind
      have ⟨vs,h1,h2⟩:=i;rw[h1] at c;simp only[ax] at c;rw[sK] at c;grind
     .cases e
   .cases e
  .cases e
theorem Xy{g b}:∀{l:List Nat},bQ (vB g b l)→∀ i∈l,bQ (TD g (d7 b i))
 | j::r,h,i,a=>by
  simp only[vB,tf] at h;obtain rfl|a:=dm.1 a
  .exact h.1
  .exact Xy h.2 i a
theorem b54(f:FD A env w (d7 F.sl) a){l:List Nat}(hp:bQ (vB cs8 F.sl l)) :
  FD A env w (λi=>match rp i l with|true=>JN (d7 F.sl i)|false=>d7 F.sl i) a:=by
 intro i
 show ax A env w (match rp i l with|true=>JN (d7 F.sl i)|false=>d7 F.sl i) _
 cases hm:rp i l with
 | false=>exact f i
 | true =>
  have:=Xy hp i (Bd.1 hm);have c:=f i;generalize d7 F.sl i=v at *;cases v with
  | opt b v =>
   have hb:b=true:=by simpa[TD,bQ] using this
   subst hb;simpa only[JN,ax] using c
  | _=>exact c
theorem bk1{l}(h:bQ (Hu l g))(hg:g=cs8):bQ l:=by
 cases l with
 | nil=>trivial
 | cons p l=>simp only[Hu,bQ,ir] at h;exact h hg
theorem Sv(hs:iF P sp/\N0.g=sp.gl)(t:ia w0 N0 A env F a w){ops:Array cA2}(e:(qI P sp ops.toList o F.sl).run F.h=cs6 (st,r))(D:st.pre) :
  (∃ k,oB st o.dst F k∧∃ A' env' y w',ia w0 N0 A' env' k y w'∧dQ A env w A' env' w') ∧
  ∀(ro:Option Nat)(K:Act->cu6->Prop)(j:Exit->Act->cu6->Prop),(∀ k A' env' y w',oB st o.dst F k->ia w0 N0 A' env' k y w'→dQ A env w A' env' w'→K y w') →
   if cD0 o (yielded ops a.tmps) then o.wpIn (wf ro) 0 P a w K j else (∀ f,o.about P w a.eval=cs6 f->(wf ro).fn f)/\K (a.put o.dst undef) w:=by
 unfold qI at e
 split at e
 next hg=>
  obtain⟨d,r1,r2,e1,B,rfl⟩:=Q.run_bind _ _ _ e;obtain⟨rfl,rfl⟩:=B;have ⟨⟨v,w',g⟩,l⟩:=VE hs t.m t.f e1 D;have hgn:o.guard=none:=by
   unfold DG at hg;grind
  refine⟨?_,λro K j n=>?_⟩
  .have ⟨x,A',env',i,t',b⟩:=t.app g o.dst;exact⟨_,⟨x,i,rfl⟩,A',env',_,_,t',b⟩
  .rw[bU9 a hgn];refine (l ro K j λv w' g=>?_);have ⟨x,A',env',i,t',b⟩:=t.app g o.dst;exact n _ _ _ _ _ ⟨x,i,rfl⟩ t' b
 next g hg=>
  have p:=aw9 t hg;split at e
  .simp only[Q.run,cy,ck] at e;obtain⟨rfl,rfl⟩:=e;simp only[kM.pre,Dl.pre,bQ,ir] at D;rw[p];subst D;have q:eV w0 N0 A env F.h w (.det [ct2=ct2] (.cv undef) []) undef w :=
    ⟨(),A,env,aQ,t.m,dQ.refl,by simp only[Dl.val,ax]⟩
   have ⟨x,A',env',i,t',b⟩:=t.app q o.dst;refine⟨⟨_,⟨x,i,rfl⟩,A',env',_,_,t',b⟩,λro K j n=>?_⟩;exact⟨λ_ _=>trivial,n _ _ _ _ _ ⟨x,i,rfl⟩ t' b⟩
  obtain⟨d,r1,r2,e1,B,rfl⟩:=Q.run_bind _ _ _ e;rw[p];have E:g=cs8->bQ (vB g F.sl (zU o))->bQ d.pre->(∃ v w',eV w0 N0 A env F.h w d v w')/\Gd P o a w0 N0 A env F.h w d:=by
   rintro rfl z h2;exact VE hs t.m (b54 t.f z) e1 h2
  have c:∀ G,st = .split g G->G.X=d.X->(∀(z:bQ G.pre),bQ (vB g F.sl (zU o))/\bQ d.pre) →
    (∀ v w',eV w0 N0 A env F.h w d v w'→eV w0 N0 A env F.h w G v w') →
    (∃ k,oB st o.dst F k∧∃ A' env' y w',ia w0 N0 A' env' k y w'∧dQ A env w A' env' w') ∧
    ∀(ro:Option Nat)(K:Act->cu6->Prop)(j:Exit->Act->cu6->Prop),(∀ k A' env' y w',oB st o.dst F k->ia w0 N0 A' env' k y w'→dQ A env w A' env' w'→K y w') →
     if g=cs8 then o.wpIn (wf ro) 0 P a w K j else (∀ f,o.about P w a.eval=cs6 f->(wf ro).fn f)/\K (a.put o.dst undef) w:=by
   rintro G rfl _ hpre s;cases g with
   | true =>
    have ⟨z,h2⟩:=hpre (D rfl);have ⟨⟨v,w',q⟩,l⟩:=E rfl z h2;refine⟨?_,λro K j n=>?_⟩
    .have ⟨x,A',env',i,t',b⟩:=t.app (s _ _ q) o.dst;exact⟨_,.inl ⟨rfl,x,i,rfl⟩,A',env',_,_,t',b⟩
    .rw[ao rfl];refine (l ro K j λv w' q=>?_);have ⟨x,A',env',i,t',b⟩:=t.app (s _ _ q) o.dst;exact n _ _ _ _ _ (.inl ⟨rfl,x,i,rfl⟩) t' b
   | false =>
    refine⟨⟨_,.inr ⟨rfl,rfl⟩,A,env,_,_,t.skip o.dst,dQ.refl⟩,λro K j n=>?_⟩;exact⟨λ_ _=>trivial,n _ _ _ _ _ (.inr ⟨rfl,rfl⟩) (t.skip o.dst) dQ.refl⟩
  unfold YB at B;split at B
  .rename_i pre v;obtain⟨rfl,rfl⟩:=B;cases g with
   | true =>
    have S:=bk1 D rfl;rw[tf] at S;have ⟨⟨u,w',q⟩,l⟩:=E rfl S.1 S.2;have conv:∀ u w',eV w0 N0 A env F.h w (.det pre v []) u w'→eV w0 N0 A env F.h w (.det (Hu (vB cs8 F.sl (zU o)++pre) cs8) (.opt cs8 v) []) u w':=by
     rintro u w' ⟨x,A',env',i,m',b,hd⟩;exact⟨(),A',env',aQ,m',b,by simpa only[Dl.val,ax] using hd⟩
    refine⟨?_,λro K j n=>?_⟩
    .have ⟨x,A',env',i,t',b⟩:=t.app (conv _ _ q) o.dst;exact⟨_,⟨x,i,rfl⟩,A',env',_,_,t',b⟩
    .rw[ao rfl];refine (l ro K j λv w' q=>?_);have ⟨x,A',env',i,t',b⟩:=t.app (conv _ _ q) o.dst;exact n _ _ _ _ _ ⟨x,i,rfl⟩ t' b
   | false =>
    have q:eV w0 N0 A env F.h w (.det (Hu (vB ct2 F.sl (zU o)++pre) ct2) (.opt ct2 v) []) undef w :=
     ⟨(),A,env,aQ,t.m,dQ.refl,by simp only[Dl.val,ax]⟩
    have ⟨x,A',env',i,t',b⟩:=t.app q o.dst;refine⟨⟨_,⟨x,i,rfl⟩,A',env',_,_,t',b⟩,λro K j n=>?_⟩;exact⟨λ_ _=>trivial,n _ _ _ _ _ ⟨x,i,rfl⟩ t' b⟩
  next pre v upd _=>obtain⟨rfl,rfl⟩:=B;exact c _ rfl rfl (λz=>by simpa only[Dl.pre,tf] using z) (λu w' ⟨x,A',env',i,m',b,hd⟩=>⟨(),A',env',aQ,m',b,hd⟩)
  next X pre R inh v upd=>obtain⟨rfl,rfl⟩:=B;exact c _ rfl rfl (λz=>by simpa only[Dl.pre,tf] using z) (λu w' ⟨x,A',env',i,m',b,hd⟩=>⟨x,A',env',i,m',b,hd⟩)
 .cases e
end
end Go.SX
namespace Go.SX
def BX:Option Tmp->List Nat
 | some d=>[d]
 | none=>[]
def yQ(wr:List Nat)(h:cq):cq:=λn=>match rp n wr with
 | true=>h n
 | false => .un
theorem bN9{wr h n}(hn:n∈wr):yQ wr h n=h n:=by unfold yQ;rw[Bd.2 hn]
theorem a90{a h b}(e:∀ n∈a,b n=h n):yQ a b=yQ a h:=by
 funext n
 unfold yQ
 split
 next hm=>exact e n (Bd.1 hm)
 .rfl
structure rR where
 rd:List Nat
 wr:List Nat
 srd:List Nat
 swr:List Nat
 q:Q kM
 st:kM
 old:cq
def lh(P:cu2)(sp:d8)(ops:Array cA2)(o:cA2)(st:kM)(r:List Nat)(F:FS):rR:=⟨r,st.wr,o.looksAt ops,BX o.dst,qI P sp ops.toList o F.sl,st,yQ st.wr F.h⟩
def sU:List Nat->List Nat->Bool
 | [],_=>cs8
 | a::r,l => !rp a l&&sU r l
theorem ul:∀{l m:List Nat},sU l m=cs8→∀ n∈l,n ∉ m
 | a::r,m,h,n,b=>by
  simp only[sU,fB,sS] at h;obtain rfl|b:=dm.1 b
  .intro hm;rw[Bd.2 hm] at h;exact absurd h.1 aw
  .exact ul h.2 n b
def Q9(s t:rR):Bool:=sU s.wr t.rd&&sU s.wr t.wr&&sU t.wr s.rd&&sU s.swr t.srd&&sU s.swr t.swr&&sU t.swr s.srd
def Sy(s t:rR):Prop:=∃ pre v u,s.st = .go (.det pre v u)/\(∀ n∈t.rd,n∈s.wr)/\t.q.run s.old=cs6 (t.st,t.rd)/\t.q.run (dM u s.old)=cs6 (t.st,t.rd)
structure zI (s t:rR):Prop where
 a:(∀ n∈s.wr,n ∉ t.rd)∨Sy s t
 b:∀ n∈s.wr,n ∉ t.wr
 c:(∀ n∈t.wr,n ∉ s.rd)∨Sy t s
 d:∀ n∈s.swr,n ∉ t.srd
 e:∀ n∈s.swr,n ∉ t.swr
 f:∀ n∈t.swr,n ∉ s.srd
theorem zI.symm{s t}(h:zI s t):zI t s:=⟨h.c,λn hn hm=>h.b n hm hn,h.a,h.f,λn hn hm=>h.e n hm hn,h.d⟩
theorem aS8{s t}(h:Q9 s t=cs8):zI s t:=by
 simp only[Q9,fB] at h
 have ⟨⟨⟨⟨⟨h1,h2⟩,h3⟩,h4⟩,h5⟩,h6⟩:=h
 exact⟨.inl (ul h1),ul h2,.inl (ul h3),ul h4,ul h5,ul h6⟩
def yo:List Nat->Nat->Nat
 | [],_=>0
 | m::_,0=>m
 | _::r,n+1=>yo r n
theorem Ow:∀ l n,yo l n=T l n 0
 | [],n=>by simp[yo]
 | m::r,0=>rfl
 | m::r,n+1=>by simp[yo,Ow r n]
def EO(tbl:List Nat):List Edge->Nat
 | []=>0
 | e::r=>match cE2 .any e with
  | true=>(1 <<< e.on) ||| (yo tbl e.on ||| EO tbl r)
  | false=>EO tbl r
def K1:List cA2->List Nat->List Nat
 | [],tbl=>tbl
 | o::r,tbl=>K1 r (tbl++[EO tbl o.after.toList])
def Gc(msk:List Nat)(i j:Nat):Bool:=(yo msk j).testBit i
inductive xh (ops:Array cA2):Nat->Nat->Prop where
 | edge {i j:Nat} {o:cA2} {e:Edge} (ho:ops[j]? = cs6 o) (he:e∈o.after) (hb:cE2 .any e=cs8) (hi:e.on=i):xh ops i j
 | step {i j:Nat} {o:cA2} {e:Edge} (ho:ops[j]? = cs6 o) (he:e∈o.after) (hb:cE2 .any e=cs8) (h:xh ops i e.on):xh ops i j
theorem aI3(n i)(h:(1 <<< n).testBit i=cs8):i=n:=by
 rw[Nat.testBit_shiftLeft] at h
 simp at h
 have a:=h.2
 by_cases hz:i-n=0
 .omega
 .have:Nat.testBit 1 (i-n)=false:=by
   cases hk:i-n with
   | zero=>exact absurd hk hz
   | succ k=>simp[Nat.testBit_succ]
  rw[this] at a;cases a
theorem OU{ops a j i o}(b:ops[j]? = cs6 o)(d:∀ k,(yo a k).testBit i=cs8->xh ops i k) :
  ∀ g,(∀ e∈g,e∈o.after)->(EO a g).testBit i=cs8->xh ops i j
 | [],_,h=>by simp[EO] at h
 | e::r,c,h=>by
  simp only[EO] at h;split at h
  .rename_i l;simp only[Nat.testBit_or,uJ] at h;obtain h|h|h:=h
   .exact .edge b (c e aw) l (aI3 _ _ h).symm
   .exact .step b (c e aw) l (d _ h)
   .exact OU b d r (λe f=>c e (eZ _ f)) h
  .exact OU b d r (λe f=>c e (eZ _ f)) h
theorem al5{ops}:∀ l k a,(∀ j,l[j]? = ops[k+j]?)->V a=k->(∀ i j,(yo a j).testBit i=cs8->xh ops i j) →
  ∀ i j,(yo (K1 l a) j).testBit i=cs8->xh ops i j
 | [],k,a,_,_,h=>h
 | o::l,k,a,c,d,h=>by
  have h0:ops[k]? = cs6 o:=by simpa using (c 0).symm
  refine al5 l (k+1) _ (λj=>by have:=c (j+1);simpa[jv,An 1 j] using this) (by simp[d]) ?_;intro i j hb;rw[Ow,cK] at hb;by_cases hj:j<V a
  .rw[nJ hj,← cK,← Ow] at hb;exact h i j hb
  .by_cases b:j=V a
   .subst b;simp at hb;exact OU (d▸h0) (λk hk=>h i k hk) _ (λe he=>by simpa using he) hb
   .grind
abbrev ue:=List (Nat×rR)
def Nj(msk:List Nat)(i:Nat)(t:rR)(l:ue):Prop:=∀ p∈l,Gc msk p.1 i=cs8∨zI p.2 t
section
variable (P:cu2) (sp:d8) (ops:Array cA2) (msk:List Nat)
def ye(i:Nat)(log:ue)(K:ue->FS->Prop)(F:FS):Prop :=
 match ops[i]? with
 | none=>K log F
 | some o=>∃ st r,(qI P sp ops.toList o F.sl).run F.h=cs6 (st,r)/\st.pre/\Nj msk i (lh P sp ops o st r F) log ∧
   ∀ F',oB st o.dst F F'→K ((i,lh P sp ops o st r F)::log) F'
def Bs(K:FS->Prop):Nat->Array Bool->ue->FS->Prop
 | 0,listed,log,F=>cC4 .any ops listed=[]/\K F
 | n+1,listed,log,F=>(cC4 .any ops listed=[]->K F) ∧
   ∀ i∈cC4 .any ops listed,ye P sp ops msk i log (λlog' F'=>Bs K n (listed.setIfInBounds i cs8) log' F') F
def BG(K:FS->Prop):List cA2->Nat->ue->FS->Prop
 | [],_,_,F=>K F
 | _::l,k,log,F=>ye P sp ops msk k log (λlog' F'=>BG K l (k+1) log' F') F
end
section
variable {P:cu2} {sp:d8} {ops:Array cA2} {msk:List Nat} {w0:cu6} {N0:fT} {K:FS->Prop}
theorem Qq:∀(n:Nat)(a:Array Bool)(c b:ue)(F:FS),(∀ p,p∈b↔p∈c)->Bs P sp ops msk K n a c F->Bs P sp ops msk K n a b F
 | 0,_,_,_,_,_,h=>h
 | n+1,a,c,b,F,d,h=>by
  refine⟨h.1,λi hi=>?_⟩;have:=h.2 i hi;unfold ye at this ⊢;split
  next e=>rw[e] at this;exact Qq n _ _ _ _ d this
  next o e=>rw[e] at this;have ⟨st,r,h1,h2,h3,h4⟩:=this;refine⟨st,r,h1,h2,λp hp=>h3 p ((d p).1 hp),λF' hF=>Qq n _ _ _ _ (λp=>?_) (h4 F' hF)⟩;simp[d p]
theorem ah0{a}(e:a.pre)(b)(F):∃ F',oB a b F F':=by
 cases a with
 | go d=>have ⟨x,c⟩:=d.ne e;exact⟨_,x,c,rfl⟩
 | split g d =>
  cases g with
  | true=>have ⟨x,c⟩:=d.ne (e rfl);exact⟨_,.inl ⟨rfl,x,c,rfl⟩⟩
  | false=>exact⟨_,.inr ⟨rfl,rfl⟩⟩
theorem ZV{ρ a:Nat->SV}{x:cv0}(h:∀ t,x = .tmp t->ρ t=a t):bm ρ x=bm a x:=by
 cases x with
 | tmp t=>exact h t rfl
 | _=>rfl
theorem bl3{o:Oper}{ρ ρ':Nat->SV}(h:∀ x∈o.op.operands,bm ρ x=bm ρ' x):Dx P sp o ρ=Dx P sp o ρ':=by
 have hmap:∀ xs:Array Operand,(∀ x∈xs,bm ρ x=bm ρ' x)->xs.toList.map (bm ρ)=xs.toList.map (bm ρ'):=λxs hx =>
  List.map_congr_left λx hm=>hx x (by simpa using hm)
 have hpairs:∀ ps:Array (Nat×Operand),(∀ x∈(ps.toList.map (·.2)).toArray,bm ρ x=bm ρ' x) →
   ps.toList.map (λp=>(p.1,bm ρ p.2))=ps.toList.map (λp=>(p.1,bm ρ' p.2)):=λps hx =>
  List.map_congr_left λp hm=>by
   rw[hx p.2 (by
    simp only[List.mem_toArray,List.mem_map];exact⟨p,hm,rfl⟩)]
 have hopt:∀ x,(∀ y,x=some y->bm ρ y=bm ρ' y)->x.map (bm ρ)=x.map (bm ρ'):=λx hx=>by
  cases x with
  | none=>rfl
  | some y=>simp[hx y rfl]
 have ⟨dst,op,ty,pos,after,guard⟩:=o
 simp only at h
 unfold Dx
 cases op <;> simp only[Op.operands] at h <;> simp only
 case move x=>rw[h x aw]
 case assign x=>rw[h x aw]
 case pick c x y=>rw[h c aw,h x aw,h y aw]
 case box E x=>rw[h x aw]
 case build t ps=>rw[hpairs ps h]
 case buildSlice t n ps=>rw[hpairs ps h]
 case load t x=>rw[show uO sp ρ x=uO sp ρ' x from by (cases x with|tmp s=>exact h (.tmp s) aw|_=>rfl)]
 case store t x y=>rw[h x aw,h y aw]
 case nilCheck x=>rw[h x aw]
 case binOp op t x y yt=>rw[h x aw,h y aw]
 case unOp op t x=>rw[h x aw]
 case convert s t x=>rw[h x aw]
 case makeFunc fn fs caps=>cases fn <;> simp only;rw[hmap caps λx hx=>h x (by simp[hx])]
 case makeSlice t l c=>rw[h l aw,h c aw]
 case slice t x lo hi mx =>
  rw[h x aw,hopt lo λy hy=>h y (by simp[hy]),hopt hi λy hy=>h y (by simp[hy]),hopt mx λy hy=>h y (by simp[hy])]
 case fieldAddr s x f=>rw[h x aw]
 case field s x f=>rw[h x aw]
 case indexAddr t x i=>rw[h x aw,h i aw,show uO sp ρ x=uO sp ρ' x from (by cases x with|tmp s=>exact h (.tmp s) aw|_=>rfl)]
 case index t x i=>rw[h x aw,h i aw]
 case extract x i=>rw[h x aw]
 case makeMap t r=>cases r <;> rfl
 case lookup t x i ok=>cases ok <;> simp only[h x aw,h i aw]
 case mapUpdate t x i y=>rw[h x aw,h i aw,h y aw]
 case call c =>
  have ⟨callee,args,ts⟩:=c;cases callee with
  | value g=>simp only;rw[h g (by simp[Call.operands]),hmap args λx hx=>h x (by simp[Call.operands,hx])]
  | builtin b=>simp only;rw[hmap args λx hx=>h x (by simp[Call.operands,hx])]
  | invoke rc m=>rfl
theorem Xt{o:cA2}{ρ ρ':Nat->SV}(h:∀ x∈o.op.operands,bm ρ x=bm ρ' x):DQ P sp o ρ=DQ P sp o ρ':=by
 unfold DQ;rw[bl3 h]
theorem G8{t}:∀{l:List cv0},t∈AU l↔cT8 t∈l
 | []=>by simp[AU]
 | .tmp s::r=>by simp[AU,G8 (l:=r)]
 | .const v::r=>by simp[AU,G8]
 | .global g::r=>by simp[AU,G8]
 | .func f::r=>by simp[AU,G8]
variable{t:Nat}
theorem ND{o:cA2}(h:cT8 t∈o.op.operands):t∈o.looksAt ops:=by
 refine gq _ (List.mem_filterMap.2 ⟨.tmp t,by simpa using h,rfl⟩)
theorem V4{o}(h:t∈zU o):t∈o.looksAt ops:=by
 unfold zU at h
 split at h
 next c x y ho=>simp at h;subst h;exact ND (by rw[ho];simp[Op.operands])
 .simp at h
 .exact ND (by simpa using G8.1 h)
theorem aA4{o:cA2}{c a:List SV}(h:∀ t∈o.looksAt ops,d7 a t=d7 c t):qI P sp ops.toList o a=qI P sp ops.toList o c:=by
 have hg:DG ops.toList a o.guard=DG ops.toList c o.guard:=by
  unfold DG;cases k:o.guard with
  | none=>rfl
  | some p =>
   have ⟨j,want⟩:=p;simp only;cases r:pY ops.toList j with
   | none=>rfl
   | some oj =>
    simp only;cases hd:oj.dst with
    | none=>rfl
    | some d =>
     simp only;rw[h d ?_];unfold Oper.looksAt;rw[k];rw[yi,rz] at r;simp[r,hd]
 have e:∀(g:Bool)(l:List Nat),(∀ t∈l,t∈o.looksAt ops)->vB g a l=vB g c l:=by
  intro g l
  induction l with
  | nil=>intro _;rfl
  | cons t l m=>intro f;simp only[vB];rw[h t (f t aw),m λs n=>f s (eZ _ n)]
 unfold qI
 rw[hg]
 split
 .rw[Xt λx q=>ZV λt b=>h t (ND (b▸q))]
 next g _=>
  rw[e g _ λt b=>V4 b];have i:∀(l:List Nat),(∀ t∈l,t∈o.looksAt ops)->Iz a l=Iz c l:=by
   intro l
   induction l with
   | nil=>intro _;rfl
   | cons t l m=>intro f;simp only[Iz];rw[h t (f t aw),m λs n=>f s (eZ _ n)]
  rw[i _ λt b=>V4 b];split
  .rfl
  congr 1;exact Xt λx q=>ZV λt b=>by simp only[h t (ND (b▸q))]
 .rfl
theorem bB3{b a v}(h:∀ d,a=cs6 d->t≠d):d7 (mO b a v) t=d7 b t:=by
 cases a with
 | none=>rfl
 | some d=>simp only[mO];rw[JR,I (λhh=>h d rfl hh.1)]
theorem OL{b a F c}(h:oB b a F c):∃ v u,c.sl=mO F.sl a v/\c.h=dM u F.h∧∀ p∈u,p.1∈b.wr:=by
 have e:∀(d:Dl)(x:d.X),∃ v u,(F.app a d x).sl=mO F.sl a v/\(F.app a d x).h=dM u F.h∧∀ p∈u,p.1∈d.wr:=λd x =>
  ⟨d.val x,d.upd x,rfl,rfl,λp hp=>by rw[← Dl.wr_upd d x];exact si hp⟩
 cases b with
 | go d=>obtain⟨x,_,rfl⟩:=h;exact e d x
 | split g d =>
  obtain⟨_,x,_,rfl⟩|⟨_,rfl⟩:=h
  .exact e d x
  .exact⟨.cv undef,[],rfl,rfl,aw⟩
theorem Kd{n}:∀ u b c,n∈u.map (·.1)->dM u b n=dM u c n
 | p::u,b,c,hn=>by
  simp only[dM];by_cases a:n=p.1
  .subst a;simp
  .rw[cq.set_other _ _ a,cq.set_other _ _ a];exact Kd u b c (by simpa[a] using hn)
variable{i j:cA2}
theorem ac6{a:kM}{F f:FS}(hd:∀ n∈BX i.dst,n ∉ j.looksAt ops)(hi:oB a i.dst F f):qI P sp ops.toList j f.sl=qI P sp ops.toList j F.sl:=by
 have ⟨v,u,b,hh,hw⟩:=OL hi
 refine aA4 λt ht=>?_
 rw[b]
 exact bB3 λd c e=>hd d (by simp[BX,c]) (e▸ht)
theorem XW{b a:kM}{d:List Nat}{F c:FS}(hb:∀ n∈b.wr,n ∉ a.wr)(hd:∀ n∈BX i.dst,n ∉ j.looksAt ops)(f:oB b i.dst F c) :
  lh P sp ops j a d c=lh P sp ops j a d F:=by
 have ⟨v,u,hsl,hh,hw⟩:=OL f
 have e:yQ a.wr c.h=yQ a.wr F.h:=a90 λn hn=>by
  rw[hh];refine rq λhm=>?_;grind
 unfold lh
 rw[ac6 hd f,e]
variable{ri:List Nat}
theorem Ti{g c:kM}{l:List Nat}{F m:FS}(q:zI (lh P sp ops i g ri F) (lh P sp ops j c l F))(o:oB g i.dst F m) :
  ((qI P sp ops.toList j m.sl).run m.h=cs6 (c,l)↔(qI P sp ops.toList j F.sl).run F.h=cs6 (c,l)):=by
 rw[ac6 q.d o]
 obtain ha|⟨pre,v,u,k,b,r,s⟩:=q.a
 .have ⟨v,u,hsl,hh,hw⟩:=OL o;have t:∀ n∈l,m.h n=F.h n:=λn f=>by
   rw[hh];refine rq λhm=>?_;obtain⟨p,hp,rfl⟩:=cv1.1 hm;exact ha _ (hw p hp) f
  exact⟨λe=>Q.run_local _ e λn f=>(t n f).symm,λe=>Q.run_local _ e t⟩
 .simp only[lh] at k b r s;subst k;obtain⟨x,_,rfl⟩:=o;refine⟨λ_=>Q.run_local _ r λn f=>(bN9 (b n f)).symm,λ_=>Q.run_local _ s λn f=>?_⟩;exact Kd u _ _ (b n f)
theorem cj9{u v:List (Nat×Nm)}(h:∀ p∈u,∀ q∈v,p.1≠q.1)(c):dM u (dM v c)=dM v (dM u c):=by
 funext n
 by_cases b:n∈u.map (·.1)
 .have a:n ∉ v.map (·.1):=λa=>by
   grind
  rw[rq a];exact Kd u _ _ b
 .rw[rq b];by_cases a:n∈v.map (·.1)
  .exact Kd v _ _ a
  .rw[rq a,rq a,rq b]
theorem b79{b x y v u}(h:∀ d,x=cs6 d->y≠cs6 d):mO (mO b x v) y u=mO (mO b y u) x v:=by
 cases x with
 | none=>rfl
 | some d =>
  cases y with
  | none=>rfl
  | some e =>
   have a:d≠e:=λhe=>h d rfl (he▸rfl);exact List.set_comm _ _ a
theorem cb9{c f:kM}{rj:List Nat}{F S m:FS}(D:zI (lh P sp ops i c ri F) (lh P sp ops j f rj F))(hj:oB f j.dst F S)(hi:oB c i.dst S m) :
  ∃ E,oB c i.dst F E/\oB f j.dst E m:=by
 have n:∀ d,i.dst=cs6 d->j.dst≠cs6 d:=λd t k=>D.e d (by simp[lh,BX,t]) (by simp[lh,BX,k])
 have l:∀ d,j.dst=cs6 d->i.dst≠cs6 d:=λd t k=>n d k t
 have o:∀{r:kM}{a:Option Tmp}{F w:FS},oB r a F w→∃ v u,(∀ p∈u,p.1∈r.wr)/\w=⟨mO F.sl a v,dM u F.h⟩∧∀ G,oB r a G ⟨mO G.sl a v,dM u G.h⟩:=by
  intro r a F w h;cases r with
  | go d=>obtain⟨x,y,rfl⟩:=h;exact⟨d.val x,d.upd x,λp s=>by rw[kM.wr,← Dl.wr_upd d x];exact si s,rfl,λG=>⟨x,y,rfl⟩⟩
  | split g d =>
   obtain⟨z,x,y,rfl⟩|⟨z,rfl⟩:=h
   .exact⟨d.val x,d.upd x,λp s=>by rw[kM.wr,← Dl.wr_upd d x];exact si s,rfl,λG=>.inl ⟨z,x,y,rfl⟩⟩
   .exact⟨.cv undef,[],aw,rfl,λG=>.inr ⟨z,rfl⟩⟩
 obtain⟨H,L,A,rfl,gj⟩:=o hj
 obtain⟨Q,K,B,rfl,gi⟩:=o hi
 refine⟨_,gi F,?_⟩
 have e1:mO (mO F.sl j.dst H) i.dst Q=mO (mO F.sl i.dst Q) j.dst H:=b79 l
 have e2:=cj9 (λp s q hq e=>D.b p.1 (B p s) (e▸A q hq)) F.h
 simp_all
def JX(ops:Array cA2)(listed:Array Bool):Prop:=∀ j o,ops[j]? = cs6 o->listed.getD j ct2=cs8→∀ e∈o.after,cE2 .any e=cs8->listed.getD e.on ct2=cs8
variable{i:Nat}
theorem bN5{a}(f:JX ops a){j}(hj:j∈cC4 .any ops a)(h:xh ops i j):a.getD i ct2=true:=by
 have ⟨hun,oj,hoj,hall⟩:=mem_ready.1 hj
 have key:∀{i k:Nat},xh ops i k->a.getD k ct2=cs8->a.getD i ct2=true:=by
  intro i k h
  induction h with
  | edge b c d g=>intro e;rw[← g];exact f _ _ b e _ c d
  | step b c d _ ih=>intro e;exact ih (f _ _ b e _ c d)
 cases h with
 | edge b c d g =>
  grind
 | step b c d h =>
  grind
theorem bX5{a}(hd:JX ops a)(hi:i∈cC4 .any ops a):JX ops (a.setIfInBounds i cs8):=by
 have ⟨hun,oi,hoi,hall⟩:=mem_ready.1 hi
 have b:∀ k,a.getD k ct2=cs8->(a.setIfInBounds i cs8).getD k ct2=true:=by
  intro k hk;rw[sK] at hk ⊢;grind
 intro j o ho hj e he hb
 by_cases hij:i=j
 .simp_all
 .refine b _ (hd j o ho ?_ e he hb);simp_all
theorem bM3(D:∀ i j,Gc msk i j=cs8->xh ops i j){k:cA2}{o:kM}{r:List Nat}(hi:ops[i]? = cs6 k)(w:o.pre) :
  ∀(e:Nat)(a:Array Bool)(l:ue)(F:FS),JX ops a->i∈cC4 .any ops a->(qI P sp ops.toList k F.sl).run F.h=cs6 (o,r) →
   Nj msk i (lh P sp ops k o r F) l →
   (∀ g,oB o k.dst F g->Bs P sp ops msk K e (a.setIfInBounds i cs8) ((i,lh P sp ops k o r F)::l) g)->Bs P sp ops msk K (e+1) a l F:=by
 intro e
 induction e with
 | zero =>
  intro a l F hd hr hrun hlog H;refine⟨λh=>(by rw[h] at hr;cases hr),λj U=>?_⟩;by_cases m:j=i
  .subst m;unfold ye;grind
  .have ⟨g,s⟩:=ah0 w k.dst F;have:=ready_mono U m;rw[(H g s).1] at this;cases this
 | succ e ih =>
  intro a l F hd hr hrun hlog H;refine⟨λh=>(by rw[h] at hr;cases hr),λj U=>?_⟩;by_cases m:j=i
  .subst m;unfold ye;grind
  .have ⟨hjun,u,E,hall⟩:=mem_ready.1 U;have Hj:∀ g,oB o k.dst F g→∃ c t,(qI P sp ops.toList u g.sl).run g.h=cs6 (c,t)/\c.pre/\Nj msk j (lh P sp ops u c t g) ((i,lh P sp ops k o r F)::l) ∧
     ∀ G,oB c u.dst g G->Bs P sp ops msk K e ((a.setIfInBounds i cs8).setIfInBounds j cs8) ((j,lh P sp ops u c t g)::(i,lh P sp ops k o r F)::l) G:=by
    intro g s;have:=(H g s).2 j (ready_mono U m);unfold ye at this;rw[E] at this;exact this
   have ⟨f,v⟩:=ah0 w k.dst F;have ⟨c,t,Q,R,x,_⟩:=Hj f v;have hnot:Gc msk i j=false:=by
    cases hb:Gc msk i j with
    | false=>rfl
    | true =>
     have h1:=bN5 hd U (D i j hb);have h0:=(mem_ready.1 hr).1;grind
   have y:zI (lh P sp ops k o r F) (lh P sp ops u c t f):=by
    rcases x (i,lh P sp ops k o r F) aw with h|h
    .simp_all
    .exact h
   have S:∀ g,oB o k.dst F g->lh P sp ops u c t g=lh P sp ops u c t F:=λg s=>XW y.b y.d s;rw[S f v] at x;have z:zI (lh P sp ops k o r F) (lh P sp ops u c t F):=by rw[← S f v];exact y
   have q:=(Ti z v).1 Q;unfold ye;rw[E];refine⟨c,t,q,R,λp W=>x p (eZ _ W),λFj A=>?_⟩;have ti:lh P sp ops k o r Fj=lh P sp ops k o r F:=XW (λn hn hm=>z.b n hm hn) z.f A;refine ih (a.setIfInBounds j cs8) _ Fj (bX5 hd U) (ready_mono hr (Ne.symm m)) ((Ti z.symm A).2 hrun) (λp W=>?_) λFji X=>?_
   .rw[ti];obtain rfl|W:=dm.1 W
    .exact .inr z.symm
    .exact hlog p W
   .rw[ti];have ⟨Fi,B,L⟩:=cb9 z A X;have ⟨b,rj',d,hpj',hlj',hK⟩:=Hj Fi B;have e1:cs6 (b,rj')=cs6 (c,t):=by rw[← d,← (Ti z B).2 q]
    obtain⟨rfl,rfl⟩:=e1;have:=hK Fji L;rw[S Fi B] at this;rw[Array.setIfInBounds_comm _ _ m];refine Qq _ _ _ _ _ (λp=>?_) this;simp;exact⟨λh=>by obtain h|h|h:=h <;> simp[h],λh=>by obtain h|h|h:=h <;> simp[h]⟩
end
end Go.SX
