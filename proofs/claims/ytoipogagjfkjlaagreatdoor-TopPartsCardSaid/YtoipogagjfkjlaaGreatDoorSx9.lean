/- Short terms for proofs that a tactic finds. -/
import Derived.KernelRfl
import Derived.WalkKit
import Derived.LoopTactic
import Derived.Deep.LoopGhost
import Derived.RangeFuncRecord
import Derived.Deep.MidRow
import Derived.Laws.Entries
import Derived.Laws.StructEq
set_option linter.unusedVariables false
open List (take replicate range drop)
namespace Go.SX
theorem ab{p:Prop}(h:p:=by omega):p:=h
theorem aw{p:Prop}(h:p:=by simp):p:=h
theorem Af{p:Prop}(h:p:=by kernel_rfl):p:=h
theorem bo{p:Prop}(h:p:=by decide):p:=h
theorem aN:True:=trivial
theorem aX:∀{p:Prop} [Decidable p],decide p=true->p:=@of_decide_eq_true
theorem bi:∀{p:Prop} [Decidable p],decide p=false->¬p:=@of_decide_eq_false
theorem ah:∀{c:Prop}{h:Decidable c},¬c->∀{α:Sort _}{t e:α},(if c then t else e)=e:=@if_neg
theorem ct:∀ {α} {l:List α} {i:Nat} {a:α},l.getD i a=l[i]?.getD a:=@List.getD_eq_getElem?_getD
theorem aj:∀{c:Prop}{h:Decidable c},c->∀{α:Sort _}{t e:α},(if c then t else e)=t:=@if_pos
theorem bK:∀{n m:Nat},n.beq m=true->n=m:=@Nat.eq_of_beq_eq_true
theorem cE:∀ {α} (val val_1:α),(some val=some val_1)=(val=val_1):=@Option.some.injEq
theorem cM:∀ {α} {l:List α} {i:Nat} (h:i<l.length),l[i]? = some l[i]:=@List.getElem?_eq_getElem
theorem cC:∀ {α} {β} (fst:α) (snd:β) (fst_1:α) (snd_1:β),((fst,snd)=(fst_1,snd_1))=(fst=fst_1/\snd=snd_1):=@Prod.mk.injEq
theorem cL:∀ {α} {as bs:List α},(as++bs).length=as.length+bs.length:=@List.length_append
theorem fH:∀ {α} {i:Nat} {l:List α},l.length<=i->take i l=l:=@List.take_of_length_le
theorem gC:∀ {α} {a:α},[a].length=1:=@List.length_singleton
theorem dP:∀ {α} {a:α} {as:List α},(a::as).length=as.length+1:=@List.length_cons
theorem i5:∀{p:Prop},(¬p->False)->p:=@Classical.byContradiction
theorem dG:∀ {α} {i:Nat} {l:List α},(take i l).length=min i l.length:=@List.length_take
theorem gb:∀{α:Sort _}(b:Bool)(t e:α),(bif b then t else e)=if b=true then t else e:=@Bool.cond_eq_ite
theorem fe:∀(a b:Bool),((a&&b)=true)=(a=true/\b=true):=@Bool.and_eq_true
theorem fu:∀ {α} (y:α) {a:α} {l:List α},a∈l->a∈y::l:=@List.mem_cons_of_mem
theorem fh:∀{p:Prop} [Decidable p],¬p->decide p=false:=@decide_eq_false
theorem ib:∀ {α} {i:Nat} {l:List α},(drop i l).length=l.length-i:=@List.length_drop
theorem fp:∀ {α} {a:α} {l:List α},a∈a::l:=@List.mem_cons_self
theorem fQ:∀ {α} {xs:Array α},xs.toList.length=xs.size:=@Array.length_toList
theorem iA:∀ {α} {a:α} {as:List α} (bs:List α),a∈as->a∈as++bs:=@List.mem_append_left
theorem jo:∀ {α} {a b:α},(some a).getD b=a:=@Option.getD_some
theorem fm:∀{p:Prop} [Decidable p],p->decide p=true:=@decide_eq_true
theorem nD:∀ {α} {l₁ l₂:List α} {i:Nat},l₁.length<=i->(l₁++l₂)[i]? = l₂[i-l₁.length]? := @List.getElem?_append_right
theorem jD:∀ {α} {b:α} (as:List α) {bs:List α},b∈bs->b∈as++bs:=@List.mem_append_right
theorem fF:∀ {α} {as:List α} {i:Nat} {a:α},(as.set i a).length=as.length:=@List.length_set
theorem nV:∀ {α} {l₁ l₂:List α} {i:Nat},i<l₁.length->(l₁++l₂)[i]? = l₁[i]? := @List.getElem?_append_left
theorem BC:∀ {α} {l:List α},l.length=0->l=[]:=@List.eq_nil_of_length_eq_zero
theorem ot:∀(n m:Nat),n+m-n=m:=@Nat.add_sub_cancel_left
theorem je:∀ {α} (as bs cs:List α),as++bs++cs=as++(bs++cs):=@List.append_assoc
theorem fV:∀ {α} {β} {f:α->β} {a:α} {l:List α},List.map f (a::l)=f a::List.map f l:=@List.map_cons
theorem mr:∀ {α} {xs:Array α} {i:Nat},xs.toList[i]? = xs[i]? := @Array.getElem?_toList
theorem lZ:∀{n m:Nat},n.ble m=true->n<=m:=@Nat.le_of_ble_eq_true
theorem eT:∀(n:Nat),n<=n:=@Nat.le_refl
theorem pD:∀{p:Prop} [Decidable p],(decide p=true)=p:=@decide_eq_true_eq
theorem gI:∀(n:Nat),0+n=n:=@Nat.zero_add
theorem iz:∀(n m k:Nat),n+m+k=n+(m+k):=@Nat.add_assoc
theorem gY:∀(n m k:Nat),(n+m)*k=n*k+m*k:=@Nat.add_mul
theorem nZ:∀ {α} (i:Nat) (l:List α),take i l++drop i l=l:=@List.take_append_drop
theorem mQ:∀{n m:Nat}(k:Nat),n<=m->n*k<=m*k:=@Nat.mul_le_mul_right
theorem ld:∀ {α} {β} {f:β->α->β} {b:β} {l l':List α},List.foldl f b (l++l')=List.foldl f (List.foldl f b l) l':=@List.foldl_append
theorem sC:∀{a:Int},0<=a->∃ (n:Nat),a=↑n:=@Int.eq_ofNat_of_zero_le
theorem nO:∀ {α} {a:α} {as bs:List α},a::as++bs=a::(as++bs):=@List.cons_append
theorem rF:∀ {α} {xs:Array α} {i:Nat} {d:α},xs.getD i d=xs[i]?.getD d:=@Array.getD_eq_getD_getElem?
theorem xu:∀ {α} {p:α->Bool} {l:List α},List.takeWhile p l++List.dropWhile p l=l:=@List.takeWhile_append_dropWhile
theorem kP:∀(n:Nat),n+0=n:=@Nat.add_zero
theorem kY:∀ {α} (as:List α),as++[]=as:=@List.append_nil
theorem DS:∀ {α} {i:Nat} {l:List α} (h:i<l.length),take (i+1) l=take i l++[l[i]]:=@List.take_succ_eq_append_getElem
theorem rI:∀{p:Prop} [Decidable p],decide p=true↔p:=@decide_eq_true_iff
theorem lx:∀ {α} {β} {f:α->β} {l₁ l₂:List α},List.map f (l₁++l₂)=List.map f l₁++List.map f l₂:=@List.map_append
theorem gH:∀(a:Int),a<=a:=@Int.le_refl
theorem qr:∀ {α} {i:Nat} {a:α} {l:List α},a∈take i l->a∈l:=@List.mem_of_mem_take
theorem sK:∀ {α} {l:List α} {i:Nat} {a:α},l[i]? = some a->a∈l:=@List.mem_of_getElem?
theorem vw:∀ {α} {l:List α} {i j:Nat},(take i l)[j]? = if j<i then l[j]? else none:=@List.getElem?_take
theorem vj:∀ {α} {i:Nat} {l:List α} (h:i<l.length),drop i l=l[i]::drop (i+1) l:=@List.drop_eq_getElem_cons
theorem sF:∀{p:Prop}{x:Decidable p},decide p=false↔¬p:=@decide_eq_false_iff_not
theorem lP:∀{n:Nat},range n.succ=range n++[n]:=@List.range_succ
theorem wa:∀ {α} {n:Nat} {a:α},(replicate n a).length=n:=@List.length_replicate
theorem pF:∀(b:Bool),((!b)=true)=(b=false):=@Bool.not_eq_true'
theorem wH:∀ {α} {xs:List α} {i j:Nat},(drop i xs)[j]? = xs[i+j]? := @List.getElem?_drop
theorem nA:∀(n:Nat),1*n=n:=@Nat.one_mul
theorem Gn:∀{a b:Int},0<=a->a.tmod b=a%b:=@Int.tmod_eq_emod_of_nonneg
theorem u5:∀ {α} {p:α->Bool} (l₁ l₂:List α),List.filter p (l₁++l₂)=List.filter p l₁++List.filter p l₂:=@List.filter_append
theorem uw:∀(m:Nat){n:Nat},0<n->m*n/n=m:=@Nat.mul_div_cancel
theorem sD:∀(a b:Bool),((a||b)=true)=(a=true∨b=true):=@Bool.or_eq_true
theorem yd:∀ {α} {β} {l:List α} {a:α} {f:α->β},a∈l->f a∈List.map f l:=@List.mem_map_of_mem
theorem rT:∀ {α} {as:List α},as.toArray.size=as.length:=@List.size_toArray
theorem EP:∀ {α} {xs:Array α} {i j:Nat},i≠j->∀{a:α},(xs.setIfInBounds i a)[j]? = xs[j]? := @Array.getElem?_setIfInBounds_ne
theorem zR:∀(b:Bool),((!b)=false)=(b=true):=@Bool.not_eq_false'
theorem Es:∀(x n:Nat),x &&& 2^n-1=x%2^n:=@Nat.and_two_pow_sub_one_eq_mod
theorem uy:∀ {α} (as:List α),[]++as=as:=@List.nil_append
theorem fj:∀{α:Sort _}{β:Sort _}{a₁ a₂:α}(f:α->β),a₁=a₂->f a₁=f a₂:=@congrArg
theorem iC:∀(p:Prop),(p/\True)=p:=@and_true
theorem zt:∀ {α} {l:List α} {i:Nat} {a b:α},a∈l.set i b->a∈l∨a=b:=@List.mem_or_eq_of_mem_set
theorem Fm:∀(a:Int){b:Int},0<=b->a.fdiv b=a/b:=@Int.fdiv_eq_ediv_of_nonneg
theorem fC:∀ {α} {a:α} {s t:List α},a∈s++t↔a∈s∨a∈t:=@List.mem_append
theorem zA:∀ {α} {a:α} {i:Nat} {l:List α},a∈drop i l->a∈l:=@List.mem_of_mem_drop
theorem nz:∀ {α} {a b:α},a∈[b]↔a=b:=@List.mem_singleton
theorem sW:∀{a:Prop},a↔a:=@Iff.rfl
theorem eZ:∀ {α} {b:α} {l:List α} {a:α},a∈b::l↔a=b∨a∈l:=@List.mem_cons
theorem yG:∀{a b:Bool},a=b↔(a=true↔b=true):=@Bool.eq_iff_iff
theorem KG:∀{a b:Int},0<=a->a.tdiv b=a/b:=@Int.tdiv_eq_ediv_of_nonneg
theorem mg:∀ {α} {β} {as:List α} (f:α->β),(List.map f as).length=as.length:=@List.length_map
theorem sg:∀{α:Sort _}(a b:α),(bif false then a else b)=b:=@cond_false
theorem AS:∀ {α} {l:List α} {i:Nat},l.length<=i->l[i]? = none:=@List.getElem?_eq_none
theorem sI:∀{p:Prop} [Decidable p],¬¬p↔p:=@Decidable.not_not
theorem yr:∀(a:Nat),a.beq a=true:=@Nat.beq_refl
theorem pH:∀{n m k:Nat},n<=m->m<=k->n<=k:=@Nat.le_trans
theorem wF:∀(n m:Nat),n+m=m+n:=@Nat.add_comm
theorem GC:(false=true)=False:=@Bool.false_eq_true
theorem bL3:∀(n:Nat),n<=n.succ:=@Nat.le_succ
abbrev ac := List Int
inductive CT where
 | int (k:IntKind)
 | bool
 | str
 | sl (t:CT)
 | pair (a b:CT)
 deriving DecidableEq
@[reducible] def CT.D:CT->Type
 | .int _=>Int
 | .bool=>Bool
 | .str=>ByteArray
 | .sl t=>List t.D
 | .pair a b=>a.D×b.D
def CT.size:CT->Nat
 | .pair a b=>a.size+b.size
 | _=>1
theorem CT.size_pos(t:CT):0<t.size:=by
 induction t with
 | pair a b iha ihb=>simp only[CT.size];omega
 | _=>simp[CT.size]
def CT.dflt:(t:CT)->t.D
 | .int _=>(0:Int)
 | .bool=>false
 | .str=>ByteArray.empty
 | .sl _=>[]
 | .pair a b=>(a.dflt,b.dflt)
def mL(t:CT)(xs:List t.D)(i:Nat):t.D:=xs.getD i t.dflt
def CT.wf:(t:CT)->t.D->Prop
 | .int k,n=>k.has n
 | .bool,_=>True
 | .str,s=>s.size<=maxLen
 | .sl t,xs=>xs.length<=maxLen∧∀ x∈xs,t.wf x
 | .pair a b,d=>a.wf d.1/\b.wf d.2
inductive SV where
 | int (k:IntKind) (n:Int)
 | bool (b:Bool)
 | str (s:ByteArray)
 | dsl (t:CT) (xs:List t.D)
 | dsx (t:CT) (xs:List t.D)
 | nilsl
 | own (n sz:Nat)
 | ptr (n off:Nat)
 | eptr (n sz i off:Nat)
 | dptr (t:CT) (d:t.D) (off:Nat)
 | nilp
 | fn (f:FuncId) (caps:List SV)
 | agg (cs:List SV)
 | tup (cs:List SV)
 | opt (b:Bool) (v:SV)
 | cv (v:Value)
 | gl (g:Nat)
 | csl (n len:Nat)
 | mapp (n:Nat)
 | arr (k:IntKind) (n:Nat) (xs:ac)
 | yld (r:Loop) (ts:List Nat) (cs:List SV)
 | junk
inductive lC where
 | cells (E:TypeId) (cs:List SV)
 | row (E:TypeId) (t:CT) (xs:List t.D)
 | frz (E:TypeId) (t:CT) (xs:List t.D)
 | mp (kk vk:IntKind) (l:List (Int×Int))
 | opn (E:TypeId) (t:CT) (xs:List t.D) (i:Nat) (cs:List SV)
 | ary (E:TypeId) (k:IntKind) (n:Nat) (xs:ac)
def lC.mut:lC->Bool
 | .frz .. => false
 | _=>true
inductive Nm where
 | un
 | dead
 | live (b:lC)
inductive Ev where
 | un
 | nil
 | blk (b:Nat) (len:Nat×Nat)
 deriving DecidableEq
abbrev bX:=Nat->Nm
abbrev bj:=Nat->Ev
def Rd(A:Nat->Prop)(w:World):(t:CT)->(Nat->Option Value)->Nat->t.D->Prop
 | .int k,cv,o,n=>cv o=some (.int k n)/\k.has n
 | .bool,cv,o,b=>cv o=some (.bool b)
 | .str,cv,o,s=>cv o=some (.string s)/\s.size<=maxLen
 | .sl t,cv,o,xs=>∃ v,cv o=some v/\xs.length<=maxLen/\(((∃ a,v = .slice a 0 0)/\xs=[]) ∨
   ∃ b off cap,v = .slice (some ⟨b,off,none⟩) xs.length cap/\xs.length<=cap/\cap<=maxLen/\A b ∧
    ∀ i (h:i<xs.length),Rd A w t (λo=>w.cell? ⟨b,o,none⟩) (off+i*t.size) xs[i])
 | .pair a b,cv,o,d=>Rd A w a cv o d.1/\Rd A w b cv (o+a.size) d.2
def tP(A:Nat->Prop)(w:World)(t:CT)(v:Value)(xs:List t.D):Prop :=
 xs.length<=maxLen/\(((∃ a,v = .slice a 0 0)/\xs=[]) ∨
  ∃ b off cap,v = .slice (some ⟨b,off,none⟩) xs.length cap/\xs.length<=cap/\cap<=maxLen/\A b ∧
   ∀ i (h:i<xs.length),Rd A w t (λo=>w.cell? ⟨b,o,none⟩) (off+i*t.size) xs[i])
theorem uY{A:Nat->Prop}{w:World}{t:CT}{cv:Nat->Option Value}{o:Nat}{xs:List t.D} :
  Rd A w (.sl t) cv o xs↔∃ v,cv o=some v/\tP A w t v xs:=sW
theorem iL{A A':Nat->Prop}{w w':World}(hA:∀ b,A b->A' b)(hw:∀ b o,A b->w'.cell? ⟨b,o,none⟩=w.cell? ⟨b,o,none⟩) :
  ∀(t:CT)(cv cv':Nat->Option Value)(o:Nat)(d:t.D),(∀ j,j<t.size->cv' (o+j)=cv (o+j))->Rd A w t cv o d->Rd A' w' t cv' o d:=by
 intro t
 induction t with
 | int k=>intro cv cv' o d hc h;have:=hc 0 (by simp[CT.size]);simp only[kP] at this;simp only[Rd] at h ⊢;rw[this];exact h
 | bool=>intro cv cv' o d hc h;have:=hc 0 (by simp[CT.size]);simp only[kP] at this;simp only[Rd] at h ⊢;rw[this];exact h
 | str=>intro cv cv' o d hc h;have:=hc 0 (by simp[CT.size]);simp only[kP] at this;simp only[Rd] at h ⊢;rw[this];exact h
 | sl t ih =>
  intro cv cv' o d hc h;have:=hc 0 (by simp[CT.size]);simp only[kP] at this;simp only[Rd] at h ⊢;rw[this];obtain⟨v,hv,hl,h⟩:=h;refine⟨v,hv,hl,?_⟩;rcases h with h|⟨b,off,cap,rfl,h1,h2,h3,h4⟩
  .exact .inl h
  .exact .inr ⟨b,off,cap,rfl,h1,h2,hA b h3,λi hi=>ih _ _ _ _ (λj _=>hw b _ h3) (h4 i hi)⟩
 | pair a b iha ihb =>
  intro cv cv' o d hc h;refine⟨iha _ _ _ _ (λj hj=>hc j (by simp only[CT.size];omega)) h.1,ihb _ _ _ _ (λj hj=>?_) h.2⟩;have:=hc (a.size+j) (by simp only[CT.size];omega);simpa[iz] using this
theorem IW{A:Nat->Prop}{w:World}:∀(t:CT)(cv:Nat->Option Value)(o:Nat)(d:t.D),Rd A w t cv o d->t.wf d:=by
 intro t
 induction t with
 | int k=>intro cv o d h;exact h.2
 | bool=>intro cv o d h;trivial
 | str=>intro cv o d h;exact h.2
 | sl t ih =>
  intro cv o d h;obtain⟨v,hv,hl,h⟩:=h;refine⟨hl,?_⟩;rcases h with⟨_,rfl⟩|⟨b,off,cap,_,_,_,_,h4⟩
  .intro x hx;simp at hx
  .intro x hx;obtain⟨i,hi,rfl⟩:=List.mem_iff_getElem.1 hx;exact ih _ _ _ (h4 i hi)
 | pair a b iha ihb=>intro cv o d h;exact⟨iha _ _ _ h.1,ihb _ _ _ h.2⟩
mutual
def az(A:Nat->Prop)(env:bj)(w:World):SV->Value->Prop
 | .int k n,v=>v = .int k n/\k.has n
 | .bool b,v=>v = .bool b
 | .str s,v=>v = .string s/\s.size<=maxLen
 | .dsl t xs,v=>tP A w t v xs
 | .nilsl,v=>v = .slice none 0 0
 | .dsx t xs,v=>tP A w t v xs∧∃ a,v = .slice a xs.length xs.length
 | .own n sz,v=>(env n = .nil∧∃ a,v = .slice a 0 0)∨∃ b len E c,env n = .blk b len/\w.shape? b=some (E,c)/\v = .slice (some ⟨b,len.1,none⟩) len.2 ((c-len.1)/sz)
 | .ptr n off,v=>∃ b len,env n = .blk b len/\v = .pointer (some ⟨b,off,none⟩)
 | .eptr n sz i off,v=>∃ b len,env n = .blk b len/\i<len.2/\v = .pointer (some ⟨b,len.1+(i*sz+off),none⟩)
 | .dptr t d off,v=>∃ b o,v = .pointer (some ⟨b,o+off,none⟩)/\A b/\Rd A w t (λo=>w.cell? ⟨b,o,none⟩) o d
 | .nilp,v=>v = .pointer none
 | .fn f caps,v=>∃ vs,v = .func (.func f) #[] vs/\aO A env w caps vs.toList
 | .agg cs,v=>∃ vs,v = .agg vs/\aO A env w cs vs.toList
 | .tup cs,v=>∃ vs,v = .tuple vs/\aO A env w cs vs.toList
 | .opt b s,v=>match b with|true=>az A env w s v|false=>v=undef
 | .cv x,v=>v=x
 | .gl g,v=>v = .pointer (some ⟨g,0,none⟩)
 | .csl n len,v=>∃ b l,env n = .blk b l/\v = .slice (some ⟨b,0,none⟩) len len
 | .mapp n,v=>∃ b l,env n = .blk b l/\v = .map (some b)
 | .arr k n xs,v=>v = .agg (xs.map (Value.int k)).toArray/\xs.length=n∧∀ x∈xs,k.has x
 | .yld r ts cs,v=>∃ l,v = .func (.yield l) #[] #[]/\w.heap[l]? = some (.loop r)/\aO A env w cs (ts.map λt=>r.tmps.getD t undef)
 | .junk,_=>True
def aO(A:Nat->Prop)(env:bj)(w:World):List SV->List Value->Prop
 | [],vs=>vs=[]
 | s::ss,vs=>∃ v r,vs=v::r/\az A env w s v/\aO A env w ss r
end
mutual
def SV.noY:SV->Bool
 | .yld .. => false
 | .fn _ cs=>uZ cs
 | .agg cs=>uZ cs
 | .tup cs=>uZ cs
 | .opt _ s=>s.noY
 | _=>true
def uZ:List SV->Bool
 | []=>true
 | s::ss=>s.noY&&uZ ss
end
structure Ex1 (y:Prop) (A:Nat->Prop) (env:bj) (w:World) (A':Nat->Prop) (env':bj) (w':World):Prop where
 imm:∀ b,A b->A' b
 envb:∀ n b l,env n = .blk b l->env' n = .blk b l
 envn:∀ n,env n = .nil->env' n = .nil
 keep:∀ b o,A b->w'.cell? ⟨b,o,none⟩=w.cell? ⟨b,o,none⟩
 shape:∀ b s,w.shape? b=some s->w'.shape? b=some s
 lop:y→∀(k:Nat)(r:Loop),w.heap[k]? = some (.loop r)->w'.heap[k]? = some (.loop r)
structure dH (A:Nat->Prop) (env:bj) (w:World) (A':Nat->Prop) (env':bj) (w':World):Prop extends Ex1 True A env w A' env' w' where
 dfo:∀ k:Nat,w.heap[k]? = some (.deferred (some []))->w'.heap[k]? = some (.deferred (some []))
theorem dH.refl{A:Nat->Prop}{env:bj}{w:World}:dH A env w A env w:=⟨⟨λ_ h=>h,λ_ _ _ h=>h,λ_ h=>h,λ_ _ _=>rfl,λ_ _ h=>h,λ_ _ _ h=>h⟩,λ_ h=>h⟩
theorem dH.trans{A A' A'':Nat->Prop}{env env' env'':bj}{w w' w'':World}(h:dH A env w A' env' w')(k:dH A' env' w' A'' env'' w''):dH A env w A'' env'' w'' :=
 ⟨⟨λb hb=>k.imm b (h.imm b hb),λn b l e=>k.envb n b l (h.envb n b l e),λn e=>k.envn n (h.envn n e),
  λb o hb=>(k.keep b o (h.imm b hb)).trans (h.keep b o hb),λb s e=>k.shape b s (h.shape b s e),λ_ j r e=>k.lop trivial j r (h.lop trivial j r e)⟩,λj e=>k.dfo j (h.dfo j e)⟩
theorem Iy{A A':Nat->Prop}{w w':World}(hA:∀ b,A b->A' b)(hw:∀ b o,A b->w'.cell? ⟨b,o,none⟩=w.cell? ⟨b,o,none⟩)
  {t:CT} {v:Value} {xs:List t.D} (h:tP A w t v xs):tP A' w' t v xs:=by
 have:=iL hA hw (.sl t) (λ_=>some v) (λ_=>some v) 0 xs (λ_ _=>rfl) ⟨v,rfl,h⟩
 obtain⟨v',hv,h'⟩:=this
 cases hv
 exact h'
mutual
theorem BZ{A A':Nat->Prop}{env env':bj}{w w':World}{y:Prop}(x:Ex1 y A env w A' env' w'):∀(s:SV)(v:Value),y∨s.noY=true->az A env w s v->az A' env' w' s v
 | .int k n,v,q,h=>by simp only[az] at h ⊢;exact h
 | .bool b,v,q,h=>by simp only[az] at h ⊢;exact h
 | .str s,v,q,h=>by simp only[az] at h ⊢;exact h
 | .dsl t xs,v,q,h=>by simp only[az] at h ⊢;exact Iy x.imm x.keep h
 | .nilsl,v,q,h=>by simp only[az] at h ⊢;exact h
 | .dsx t xs,v,q,h=>by simp only[az] at h ⊢;exact⟨Iy x.imm x.keep h.1,h.2⟩
 | .own n sz,v,q,h=>by
  simp only[az] at h ⊢;rcases h with⟨h1,h2⟩|⟨b,len,E,c,h1,h2,h3⟩
  .exact .inl ⟨x.envn _ h1,h2⟩
  .exact .inr ⟨b,len,E,c,x.envb _ _ _ h1,x.shape _ _ h2,h3⟩
 | .ptr n off,v,q,h=>by simp only[az] at h ⊢;obtain⟨b,len,h1,h2⟩:=h;exact⟨b,len,x.envb _ _ _ h1,h2⟩
 | .eptr n sz i off,v,q,h=>by simp only[az] at h ⊢;obtain⟨b,len,h1,h2⟩:=h;exact⟨b,len,x.envb _ _ _ h1,h2⟩
 | .dptr t d off,v,q,h=>by
  simp only[az] at h ⊢;obtain⟨b,o,h1,h2,h3⟩:=h;exact⟨b,o,h1,x.imm _ h2,iL x.imm x.keep t _ _ _ _ (λj _=>x.keep _ _ h2) h3⟩
 | .nilp,v,q,h=>by simp only[az] at h ⊢;exact h
 | .fn f caps,v,q,h=>by simp only[az] at h ⊢;obtain⟨vs,h1,h2⟩:=h;exact⟨vs,h1,ye x caps _ q h2⟩
 | .agg cs,v,q,h=>by simp only[az] at h ⊢;obtain⟨vs,h1,h2⟩:=h;exact⟨vs,h1,ye x cs _ q h2⟩
 | .tup cs,v,q,h=>by simp only[az] at h ⊢;obtain⟨vs,h1,h2⟩:=h;exact⟨vs,h1,ye x cs _ q h2⟩
 | .opt b s,v,q,h=>by
  cases b with
  | true=>simp only[az] at h ⊢;exact BZ x s v q h
  | false=>simp only[az] at h ⊢;exact h
 | .cv y,v,q,h=>by simp only[az] at h ⊢;exact h
 | .gl g,v,q,h=>by simp only[az] at h ⊢;exact h
 | .csl n len,v,q,h=>by simp only[az] at h ⊢;obtain⟨b,l,h1,h2⟩:=h;exact⟨b,l,x.envb _ _ _ h1,h2⟩
 | .mapp n,v,q,h=>by simp only[az] at h ⊢;obtain⟨b,l,h1,h2⟩:=h;exact⟨b,l,x.envb _ _ _ h1,h2⟩
 | .arr k n xs,v,q,h=>by simp only[az] at h ⊢;exact h
 | .yld r ts cs,v,q,h=>by simp only[az] at h ⊢;obtain⟨l,h1,h2,h3⟩:=h;rcases q with q|q;exact⟨l,h1,x.lop q _ _ h2,ye x cs _ (.inl q) h3⟩;cases q
 | .junk,v,q,h=>by simp only[az]
theorem ye{A A':Nat->Prop}{env env':bj}{w w':World}{y:Prop}(x:Ex1 y A env w A' env' w'):∀(ss:List SV)(vs:List Value),y∨uZ ss=true->aO A env w ss vs->aO A' env' w' ss vs
 | [],vs,q,h=>by simp only[aO] at h ⊢;exact h
 | s::ss,vs,q,h=>by
  simp only[aO] at h ⊢;obtain⟨v,r,h1,h2,h3⟩:=h;have q1:y∨s.noY=true:=q.imp id λq=>(Bool.and_eq_true_iff.1 q).1;have q2:y∨uZ ss=true:=q.imp id λq=>(Bool.and_eq_true_iff.1 q).2;exact⟨v,r,h1,BZ x s v q1 h2,ye x ss r q2 h3⟩
end
theorem DQ{A A':Nat->Prop}{env env':bj}{w w':World}(x:dH A env w A' env' w'):∀(s:SV)(v:Value),az A env w s v->az A' env' w' s v:=λs v h=>BZ x.toEx1 s v (.inl trivial) h
theorem Bk{A A':Nat->Prop}{env env':bj}{w w':World}(x:dH A env w A' env' w'):∀(ss:List SV)(vs:List Value),aO A env w ss vs->aO A' env' w' ss vs:=λs v h=>ye x.toEx1 s v (.inl trivial) h
theorem jl{A:Nat->Prop}{env:bj}{w:World}:∀{ss:List SV}{vs:List Value},aO A env w ss vs->vs.length=ss.length
 | [],vs,h=>by simp only[aO] at h;simp[h]
 | s::ss,vs,h=>by
  simp only[aO] at h;obtain⟨v,r,rfl,_,h3⟩:=h;simp[jl h3]
theorem ES{A:Nat->Prop}{env:bj}{w:World}:∀{ss:List SV}{vs:List Value}(i:Nat)(s:SV) ,aO A env w ss vs->ss[i]? = some s→∃ v,vs[i]? = some v/\az A env w s v
 | [],vs,i,s,h,hi=>by simp at hi
 | s0::ss,vs,i,s,h,hi=>by
  simp only[aO] at h;obtain⟨v,r,rfl,h2,h3⟩:=h;cases i with
  | zero=>simp at hi;subst hi;exact⟨v,by simp,h2⟩
  | succ i =>
   obtain⟨u,hu,hd⟩:=ES i s h3 (by simpa using hi);exact⟨u,by simpa using hu,hd⟩
theorem su{A:Nat->Prop}{env:bj}{w:World}:∀{ss tt:List SV}{vs us:List Value},aO A env w ss vs->aO A env w tt us->aO A env w (ss++tt) (vs++us)
 | [],tt,vs,us,h,k=>by simp only[aO] at h;subst h;simpa using k
 | s::ss,tt,vs,us,h,k=>by
  simp only[aO] at h;obtain⟨v,r,rfl,h2,h3⟩:=h;simp only[nO,aO];exact⟨v,r++us,rfl,h2,su h3 k⟩
def SV.one:SV->Bool
 | .agg _ | .tup _ | .opt _ _ | .arr .. | .yld .. | .junk=>false
 | .cv (.agg _) | .cv (.tuple _)=>false
 | _=>true
theorem NJ{A:Nat->Prop}{env:bj}{w:World}{s:SV}{v:Value}(h:az A env w s v)(ho:s.one=true):v.oneCell'=true:=by
 cases s <;> simp only[SV.one,GC] at ho <;> simp only[az] at h
 case int=>rw[h.1];rfl
 case bool=>rw[h];rfl
 case str=>rw[h.1];rfl
 case dsl=>obtain⟨_,⟨⟨a,rfl⟩,_⟩|⟨b,off,cap,rfl,_⟩⟩:=h <;> rfl
 case dsx=>obtain⟨_,a,rfl⟩:=h;rfl
 case nilsl=>rw[h];rfl
 case own=>rcases h with⟨_,a,rfl⟩|⟨b,len,E,c,_,_,rfl⟩ <;> rfl
 case ptr=>obtain⟨b,len,_,rfl⟩:=h;rfl
 case eptr=>obtain⟨b,len,_,_,rfl⟩:=h;rfl
 case dptr=>obtain⟨b,off,rfl,_⟩:=h;rfl
 case nilp=>rw[h];rfl
 case fn=>obtain⟨vs,rfl,_⟩:=h;rfl
 case gl=>rw[h];rfl
 case csl=>obtain⟨b,l,_,rfl⟩:=h;rfl
 case mapp=>obtain⟨b,l,_,rfl⟩:=h;rfl
 case cv x=>rw[h];cases x <;> first|rfl|simp_all
def wo:List SV->Bool
 | []=>true
 | s::ss=>s.one&&wo ss
theorem Fy{A:Nat->Prop}{env:bj}{w:World}:∀{ss:List SV}{vs:List Value},aO A env w ss vs->wo ss=true→∀ v∈vs,v.oneCell'=true
 | [],vs,h,_=>by simp only[aO] at h;subst h;simp
 | s::ss,vs,h,ho=>by
  simp only[aO] at h;obtain⟨v,r,rfl,h2,h3⟩:=h;simp only[wo,fe] at ho;intro u hu;rcases eZ.1 hu with rfl|hu
  .exact NJ h2 ho.1
  .exact Fy h3 ho.2 u hu
def SV.cells:SV->List SV
 | .agg cs=>cs
 | s=>[s]
def Hc(q:Prop)(w:World)(k:Nat)(vs:Array Value)(E:TypeId):Prop:=∃ fz,w.heap[k]? = some (.cells vs E fz)/\(fz=(0,0)∨q/\vs.size<=fz.1)
section
variable {q:Prop} {w w':World} {k:Nat} {vs:Array Value} {E:TypeId}
theorem Hc.of(h:w.heap[k]? = some (.cells vs E (0,0))):Hc q w k vs E:=⟨_,h,.inl rfl⟩
theorem Hc.plain(h:Hc q w k vs E)(n:¬ q):w.heap[k]? = some (.cells vs E (0,0)):=by
 obtain⟨f,h,rfl|⟨h',_⟩⟩:=h
 .exact h
 .exact (n h').elim
theorem Hc.cell(h:Hc q w k vs E)(j:Nat):w.cell? ⟨k,j,none⟩=vs[j]? := let ⟨_,h,_⟩:=h;cell_of_row w k j vs E _ h
theorem Hc.lt(h:Hc q w k vs E):k<w.heap.size:=let ⟨_,h,_⟩:=h;(Array.getElem?_eq_some_iff.1 h).1
theorem Hc.mono(hk:w'.heap[k]? = w.heap[k]?)(h:Hc q w k vs E):Hc q w' k vs E:=let ⟨f,h,q⟩:=h;⟨f,hk.trans h,q⟩
theorem Hc.norec(h:Hc q w k vs E):(∀ r,w.heap[k]? ≠ some (.loop r))∧∀ l,w.heap[k]? ≠ some (.deferred l):=by
 obtain⟨f,h,_⟩:=h;rw[h];simp
theorem Hc.shape(h:Hc q w k vs E):w.shape? k=some (E,vs.size):=by
 obtain⟨f,h,_⟩:=h;unfold World.shape?;rw[h]
end
def qG(A:Nat->Prop)(w:World)(k:Nat)(len:Nat×Nat)(E:TypeId)(t:CT)(xs:List t.D):Prop :=
 ∃ vs cap,Hc (t = .int .u8) w k vs E/\vs.size=len.1+cap*t.size/\xs.length=len.2/\len.2<=cap/\cap<=maxLen ∧
  ∀ i (h:i<xs.length),Rd A w t (λo=>vs[o]?) (len.1+i*t.size) xs[i]
def kg(A:Nat->Prop)(env:bj)(w:World)(k:Nat)(len:Nat×Nat):lC->Prop
 | .cells E cs=>∃ vs,w.heap[k]? = some (.cells vs E (0,0))/\aO A env w cs vs.toList
 | .row E t xs=>qG A w k len E t xs
 | .frz E t xs=>A k/\qG A w k len E t xs
 | .mp kk vk l=>∃ es clk,w.heap[k]? = some (.map es clk)/\es.toList.map (λe=>(e.key,e.val))=l.map (λp=>(Value.int kk p.1,Value.int vk p.2))∧∀ p∈l,vk.has p.2
 | .ary E kk n xs=>len=(0,n)/\xs.length=n∧∃ vs,w.heap[k]? = some (.cells vs E (0,0))/\aO A env w (xs.map (.int kk)) vs.toList
 | .opn E t xs i cs=>∃ vs cap es,Hc (t = .int .u8) w k vs E/\vs.size=len.1+cap*t.size/\xs.length=len.2/\len.2<=cap/\cap<=maxLen/\i<len.2 ∧
   es.length=t.size/\(∀ q,q<t.size->vs[len.1+i*t.size+q]? = es[q]?)/\aO A env w cs es ∧
   ∀ j (h:j<xs.length),j≠i->Rd A w t (λo=>vs[o]?) (len.1+j*t.size) xs[j]
def K8(A:Nat->Prop)(env:bj)(w:World)(n:Nat):Nm->Prop
 | .un=>env n = .un
 | .dead=>True
 | .live b=>(∃ k len,env n = .blk k len/\kg A env w k len b/\(b.mut=true→¬ A k)) ∨
   (env n = .nil∧∃ E t,b = .row E t []∨b = .frz E t [])
theorem kg.lt{A:Nat->Prop}{env:bj}{w:World}{k:Nat}{len:Nat×Nat}{b:lC}(h:kg A env w k len b):k<w.heap.size:=by
 cases b with
 | cells E cs=>obtain⟨vs,h,_⟩:=h;exact (Array.getElem?_eq_some_iff.1 h).1
 | row E t xs=>obtain⟨vs,cap,h,_⟩:=h;exact h.lt
 | frz E t xs=>obtain⟨_,vs,cap,h,_⟩:=h;exact h.lt
 | mp kk vk l=>obtain⟨es,clk,h,_⟩:=h;exact (Array.getElem?_eq_some_iff.1 h).1
 | opn E t xs i cs=>obtain⟨vs,cap,es,h,_⟩:=h;exact h.lt
 | ary E kk n xs=>obtain⟨_,_,vs,h,_⟩:=h;exact (Array.getElem?_eq_some_iff.1 h).1
theorem kg.norec{A:Nat->Prop}{env:bj}{w:World}{k:Nat}{len:Nat×Nat}{b:lC}(h:kg A env w k len b):(∀ r,w.heap[k]? ≠ some (.loop r))∧∀ l,w.heap[k]? ≠ some (.deferred l):=by
 cases b with
 | cells E cs=>obtain⟨vs,h,_⟩:=h;rw[h];simp
 | row E t xs=>obtain⟨vs,cap,h,_⟩:=h;exact h.norec
 | frz E t xs=>obtain⟨_,vs,cap,h,_⟩:=h;exact h.norec
 | mp kk vk l=>obtain⟨es,clk,h,_⟩:=h;rw[h];simp
 | opn E t xs i cs=>obtain⟨vs,cap,es,h,_⟩:=h;exact h.norec
 | ary E kk n xs=>obtain⟨_,_,vs,h,_⟩:=h;rw[h];simp
theorem Nt{A A':Nat->Prop}{env env':bj}{w w':World}{y:Prop}(x:Ex1 y A env w A' env' w'){k:Nat}{len:Nat×Nat}(hk:w'.heap[k]? = w.heap[k]?)
  {E:TypeId} {t:CT} {xs:List t.D} (h:qG A w k len E t xs):qG A' w' k len E t xs:=by
 obtain⟨vs,cap,h,h1,h2,h3,h4,h5⟩:=h
 exact⟨vs,cap,Hc.mono hk h,h1,h2,h3,h4,λi hi=>iL x.imm x.keep t _ _ _ _ (λ_ _=>rfl) (h5 i hi)⟩
theorem W5{k:IntKind}:∀{xs:ac},uZ (xs.map (.int k))=true
 | []=>rfl
 | _::xs=>W5 (xs:=xs)
def lC.noY:lC->Bool
 | .cells _ cs=>uZ cs
 | .opn _ _ _ _ cs=>uZ cs
 | _=>true
theorem Qi{A A':Nat->Prop}{env env':bj}{w w':World}{y:Prop}(x:Ex1 y A env w A' env' w'){k:Nat}{len:Nat×Nat}(hk:w'.heap[k]? = w.heap[k]?)
  {b:lC} (q:y∨b.noY=true) (h:kg A env w k len b):kg A' env' w' k len b:=by
 cases b with
 | cells E cs=>obtain⟨vs,h,hd⟩:=h;exact⟨vs,by rw[hk];exact h,ye x _ _ q hd⟩
 | row E t xs=>exact Nt x hk h
 | frz E t xs=>exact⟨x.imm _ h.1,Nt x hk h.2⟩
 | mp kk vk l=>obtain⟨es,clk,h,hd⟩:=h;exact⟨es,clk,by rw[hk];exact h,hd⟩
 | ary E kk n xs=>obtain⟨hl,hn,vs,h,hd⟩:=h;exact⟨hl,hn,vs,by rw[hk];exact h,ye x _ _ (.inr W5) hd⟩
 | opn E t xs i cs =>
  obtain⟨vs,cap,es,h,h1,h2,h3,h4,h5,h6,h7,h8,h9⟩:=h;exact⟨vs,cap,es,Hc.mono hk h,h1,h2,h3,h4,h5,h6,h7,ye x _ _ q h8,λj hj hn=>iL x.imm x.keep t _ _ _ _ (λ_ _=>rfl) (h9 j hj hn)⟩
abbrev sN:=Nat->Option ((t:CT)×t.D)
structure fK where
 n:Nat->Prop
 a:Nat->Prop
 g:sN
structure Mod (w0:World) (N0:fK) (A:Nat->Prop) (env:bj) (h:bX) (w:World):Prop where
 os:w.os=w0.os
 tape:w.tape=w0.tape
 output:w.output=w0.output
 dr:w0.drawn<=w.drawn
 size:w0.heap.size<=w.heap.size
 fr:∀ k,k<w0.heap.size→¬ N0.n k->w.heap[k]? = w0.heap[k]?
 Alt:∀ b,A b->b<w.heap.size
 nm:∀ n,K8 A env w n (h n)
 own:∀ n b k l,h n = .live b->b.mut=true->env n = .blk k l->N0.n k∨w0.heap.size<=k
 inj:∀ n m b c k l l',h n = .live b->h m = .live c->b.mut=true->c.mut=true->env n = .blk k l->env m = .blk k l'→n=m
 fresh:∀ b,A b->N0.a b∨N0.n b∨w0.heap.size<=b
 gl:∀ g x,N0.g g=some x->A g/\Rd A w x.1 (λo=>w.cell? ⟨g,o,none⟩) 0 x.2
structure da (w w':World) (W:Nat->Prop):Prop where
 os:w'.os=w.os
 tape:w'.tape=w.tape
 output:w'.output=w.output
 dr:w.drawn<=w'.drawn
 size:w.heap.size<=w'.heap.size
 blk:∀ k,k<w.heap.size→¬ W k->w'.heap[k]? = w.heap[k]?
 shape:∀ k s,w.shape? k=some s->w'.shape? k=some s
theorem da.refl(w:World)(W:Nat->Prop):da w w W:=⟨rfl,rfl,rfl,eT _,eT _,λ_ _ _=>rfl,λ_ _ h=>h⟩
theorem da.alloc(w:World)(o:Obj)(W:Nat->Prop):da w (w.alloc o) W :=
 ⟨rfl,rfl,rfl,eT _,aw,λk hk _=>RowKit.Below.heap_alloc w o k hk,λk s hs=>by
  unfold World.shape? at hs ⊢;by_cases hk:k<w.heap.size
  .rw[RowKit.Below.heap_alloc w o k hk];exact hs
  .rw[Array.getElem?_eq_none ab] at hs;cases hs⟩
theorem da.drew(w:World)(W:Nat->Prop):da w w.drew W:=⟨rfl,rfl,rfl,bL3 _,eT _,λ_ _ _=>rfl,λ_ _ h=>h⟩
theorem da.trans{a b c:World}{W:Nat->Prop}(h:da a b W)(k:da b c W):da a c W :=
 ⟨k.os.trans h.os,k.tape.trans h.tape,k.output.trans h.output,pH h.dr k.dr,pH h.size k.size,
  λi hi hw=>(k.blk i (Nat.lt_of_lt_of_le hi h.size) hw).trans (h.blk i hi hw),λi s hs=>k.shape i s (h.shape i s hs)⟩
theorem da.mono{w w':World}{W W':Nat->Prop}(h:da w w' W)(hW:∀ k,W k->W' k):da w w' W' :=
 ⟨h.os,h.tape,h.output,h.dr,h.size,λk hk hw=>h.blk k hk (λx=>hw (hW k x)),h.shape⟩
def Jr(ns:Nat->Prop)(env:bj)(h:bX)(w:World)(k:Nat):Prop :=
 w.heap.size<=k∨∃ m b l,ns m/\h m = .live b/\b.mut=true/\env m = .blk k l
structure lG (ns:Nat->Prop) (W:Nat->Prop) (A:Nat->Prop) (env:bj) (h:bX) (w:World) (A':Nat->Prop) (env':bj) (h':bX) (w':World):Prop where
 c:da w w' W
 hW:∀ k,W k→∃ m b l,ns m/\h m = .live b/\b.mut=true/\env m = .blk k l
 hA:∀ b,A b->A' b
 hA':∀ b,A' b->A b∨(Jr ns env h w b/\b<w'.heap.size)
 he:∀ n,¬ ns n->env' n=env n
 he':∀ n,env n ≠ .un->env' n=env n
 hh:∀ n,¬ ns n->h' n=h n
 hn:∀ n,ns n->K8 A' env' w' n (h' n)
 hs:∀ n b k l,ns n->h' n = .live b->b.mut=true->env' n = .blk k l->Jr ns env h w k
 hi:∀ n m b c k l l',ns n->ns m->h' n = .live b->h' m = .live c->b.mut=true->c.mut=true->env' n = .blk k l->env' m = .blk k l'→n=m
section
variable {w0:World} {N0:fK} {A A':Nat->Prop} {env env':bj} {h h':bX} {w w':World} {ns W:Nat->Prop}
theorem Mod.live_blk(m:Mod w0 N0 A env h w){n:Nat}{b:lC}{k:Nat}{l:Nat×Nat}(hl:h n = .live b)(he:env n = .blk k l):kg A env w k l b/\(b.mut=true→¬ A k):=by
 have:=m.nm n
 rw[hl] at this
 rcases this with⟨k',l',e,hb,hA⟩|⟨e,_⟩
 .rw[he] at e;cases e;exact⟨hb,hA⟩
 .rw[he] at e;cases e
theorem Mod.xt(m:Mod w0 N0 A env h w)(c:da w w' W)(hW:∀ k,W k→∃ n b l,h n = .live b/\b.mut=true/\env n = .blk k l)(he:∀ n,env n ≠ .un->env' n=env n):dH A env w A env' w':=by
 refine⟨⟨λ_ h=>h,λn b l e=>by rw[he n (by rw[e];simp)];exact e,λn e=>by rw[he n (by rw[e];simp)];exact e,λb o hb=>?_,c.shape,λ_ k r e=>?_⟩,λk e=>?_⟩
 .refine World.cell?_of_block (a:=⟨b,o,none⟩) (c.blk b (m.Alt b hb) λhw=>?_);obtain⟨n,bb,l,hl,hm,hk⟩:=hW b hw;exact (m.live_blk hl hk).2 hm hb
 .rw[c.blk k (Array.getElem?_eq_some_iff.1 e).1 λhw=>?_]
  .exact e
  .obtain⟨n,bb,l,hl,hm,hk⟩:=hW k hw;exact (m.live_blk hl hk).1.norec.1 _ e
 .rw[c.blk k (Array.getElem?_eq_some_iff.1 e).1 λhw=>?_]
  .exact e
  .obtain⟨n,bb,l,hl,hm,hk⟩:=hW k hw;exact (m.live_blk hl hk).1.norec.2 _ e
theorem Mod.ext(m:Mod w0 N0 A env h w)(u:lG ns W A env h w A' env' h' w'):dH A env w A' env' w' :=
 have x:=m.xt u.c (λk hk=>let ⟨n,b,l,_,h1,h2,h3⟩:=u.hW k hk;⟨n,b,l,h1,h2,h3⟩) u.he'
 ⟨⟨u.hA,x.envb,x.envn,x.keep,x.shape,x.lop⟩,x.dfo⟩
theorem Mod.upd(m:Mod w0 N0 A env h w)(u:lG ns W A env h w A' env' h' w'):Mod w0 N0 A' env' h' w':=by
 have x:=m.ext u
 have old:∀ n b k l,¬ ns n->h n = .live b->b.mut=true->env n = .blk k l→¬ Jr ns env h w k:=by
  intro n b k l hn hl hm he hs;have hlt:=(m.live_blk hl he).1.lt;rcases hs with hs|⟨mm,bb,l',hmm,hl',hm',he'⟩
  .omega
  .exact hn (m.inj n mm b bb k l l' hl hl' hm hm' he he'▸hmm)
 refine⟨u.c.os.trans m.os,u.c.tape.trans m.tape,u.c.output.trans m.output,pH m.dr u.c.dr,pH m.size u.c.size,?_,?_,?_,?_,?_,?_,?_⟩
 .intro k hk hN;by_cases hW:W k
  .obtain⟨mm,b,l,_,hl,hm,he⟩:=u.hW k hW;rcases m.own mm b k l hl hm he with h1|h1
   .exact absurd h1 hN
   .omega
  .rw[u.c.blk k (Nat.lt_of_lt_of_le hk m.size) hW];exact m.fr k hk hN
 .intro b hb;rcases u.hA' b hb with h1|⟨_,h1⟩
  .exact Nat.lt_of_lt_of_le (m.Alt b h1) u.c.size
  .exact h1
 .intro n;by_cases hn:ns n
  .exact u.hn n hn
  .rw[u.hh n hn];have:=m.nm n;cases hl:h n with
   | un=>rw[hl] at this;simp only[K8] at this ⊢;rw[u.he n hn];exact this
   | dead=>trivial
   | live b =>
    rw[hl] at this;rcases this with⟨k,l,e,hb,hA⟩|⟨e,hb⟩
    .refine .inl ⟨k,l,by rw[u.he n hn];exact e,?_,?_⟩
     .refine Qi x.toEx1 ?_ (.inl trivial) hb;by_cases hW:W k
      .cases hm:b.mut with
       | true =>
        obtain⟨mm,bb,l',hmm,hl',hm',he'⟩:=u.hW k hW;exact absurd (.inr ⟨mm,bb,l',hmm,hl',hm',he'⟩) (old n b k l hn hl hm e)
       | false =>
        obtain⟨mm,bb,l',hmm,hl',hm',he'⟩:=u.hW k hW;cases b with
        | frz E t xs=>exact absurd hb.1 ((m.live_blk hl' he').2 hm')
        | cells E cs=>cases hm
        | row E t xs=>cases hm
        | mp kk vk l=>cases hm
        | opn E t xs i cs=>cases hm
        | ary E kk n xs=>cases hm
      .exact u.c.blk k hb.lt hW
     .intro hm hA';rcases u.hA' k hA' with h1|⟨h1,_⟩
      .exact hA hm h1
      .exact old n b k l hn hl hm e h1
    .exact .inr ⟨by rw[u.he n hn];exact e,hb⟩
 .intro n b k l hl hm he;by_cases hn:ns n
  .rcases u.hs n b k l hn hl hm he with h1|⟨mm,bb,l',hmm,hl',hm',he'⟩
   .exact .inr (pH m.size h1)
   .exact m.own mm bb k l' hl' hm' he'
  .rw[u.hh n hn] at hl;rw[u.he n hn] at he;exact m.own n b k l hl hm he
 .intro n n' b c k l l' hl hl' hm hm' he he';by_cases hn:ns n <;> by_cases hn':ns n'
  .exact u.hi n n' b c k l l' hn hn' hl hl' hm hm' he he'
  .rw[u.hh n' hn'] at hl';rw[u.he n' hn'] at he';exact absurd (u.hs n b k l hn hl hm he) (old n' c k l' hn' hl' hm' he')
  .rw[u.hh n hn] at hl;rw[u.he n hn] at he;exact absurd (u.hs n' c k l' hn' hl' hm' he') (old n b k l hn hl hm he)
  .rw[u.hh n hn] at hl;rw[u.he n hn] at he;rw[u.hh n' hn'] at hl';rw[u.he n' hn'] at he';exact m.inj n n' b c k l l' hl hl' hm hm' he he'
 .intro b hb;rcases u.hA' b hb with h1|⟨h1|⟨mm,bb,l',hmm,hl',hm',he'⟩,_⟩
  .exact m.fresh b h1
  .exact .inr (.inr (pH m.size h1))
  .exact .inr (m.own mm bb b l' hl' hm' he')
 .intro g y hg;obtain⟨h1,h2⟩:=m.gl g y hg;exact⟨u.hA g h1,iL x.imm x.keep _ _ _ _ _ (λj _=>x.keep g _ h1) h2⟩
theorem lG.none(c:da w w' λ_=>False):lG (λ_=>False) (λ_=>False) A env h w A env h w' :=
 ⟨c,λ_ h=>h.elim,λ_ h=>h,λ_ h=>.inl h,λ_ _=>rfl,λ_ _=>rfl,λ_ _=>rfl,λ_ h=>h.elim,λ_ _ _ _ h=>h.elim,λ_ _ _ _ _ _ _ h=>h.elim⟩
end
def vx:Obj->Bool
 | .loop _=>true
 | .deferred _=>true
 | _=>false
section
variable {w0:World} {N0:fK} {A:Nat->Prop} {env:bj} {h:bX} {w:World} {k:Nat} {o o':Obj}
theorem aY6(hk:w.heap[k]? = some o)(ho:vx o=true)(ho':vx o'=true)(a:Addr):(w.putObj k o').cell? a=w.cell? a:=by
 by_cases e:a.block=k
 .unfold World.cell?;rw[e,World.putObj_heap_same (Array.getElem?_eq_some_iff.1 hk).1,hk];cases o <;> cases o' <;> simp_all[vx]
 .exact World.cell?_of_block (World.putObj_heap_other e)
theorem Dy(hk:w.heap[k]? = some o)(ho:vx o=true)(ho':vx o'=true):Ex1 (∀ r,o ≠ .loop r) A env w A env (w.putObj k o'):=by
 refine⟨λ_ h=>h,λ_ _ _ h=>h,λ_ h=>h,λb p _=>aY6 hk ho ho' _,λb s e=>?_,λhl j r e=>?_⟩
 .by_cases q:b=k
  .subst q;unfold World.shape? at e;rw[hk] at e;cases o <;> simp_all[vx]
  .unfold World.shape? at e ⊢;rw[World.putObj_heap_other q];exact e
 .rw[World.putObj_heap_other (by rintro rfl;rw[hk] at e;cases e;exact hl _ rfl)];exact e
theorem Mod.putB(m:Mod w0 N0 A env h w)(hk:w.heap[k]? = some o)(ho:vx o=true)(ho':vx o'=true)(hy:(∀ r,o ≠ .loop r)∨∀ n b,h n = .live b->b.noY=true){wb:World}(e1:wb.os=w0.os)(e2:wb.tape=w0.tape)(e3:wb.output=w0.output)(e7:wb.drawn=w0.drawn)
  (e4:wb.heap.size=w0.heap.size) (e5:∀ j,j≠k->wb.heap[j]? = w0.heap[j]?) (e6:k<w0.heap.size->wb.heap[k]? = some o'):Mod wb N0 A env h (w.putObj k o'):=by
 have x:=Dy (A:=A) (env:=env) hk ho ho'
 have oth:∀ {j},j≠k->(w.putObj k o').heap[j]? = w.heap[j]? := World.putObj_heap_other
 refine⟨m.os.trans e1.symm,m.tape.trans e2.symm,m.output.trans e3.symm,by rw[e7];exact m.dr,by simpa[e4] using m.size,λj hj hn=>?_,λb hb=>by simpa using m.Alt b hb,λn=>?_,by rw[e4];exact m.own,m.inj,by rw[e4];exact m.fresh,λg y hg=>?_⟩
 .rw[e4] at hj;by_cases q:j=k
  .subst q;rw[e6 hj];exact World.putObj_heap_same (Array.getElem?_eq_some_iff.1 hk).1
  .rw[oth q,e5 j q];exact m.fr j hj hn
 .have:=m.nm n;cases e:h n with
  | un=>rw[e] at this;exact this
  | dead=>trivial
  | live b =>
   rw[e] at this;rcases this with⟨j,l,e1,hb,hA⟩|h1
   .exact .inl ⟨j,l,e1,Qi x (oth λq=>by
     subst q;have:=hb.norec;rw[hk] at this;cases o <;> simp_all[vx]) (hy.imp id λhy=>hy n b e) hb,hA⟩
   .exact .inr h1
 .obtain⟨h1,h2⟩:=m.gl g y hg;exact⟨h1,iL (λ_ h=>h) x.keep _ _ _ _ _ (λj _=>x.keep g _ h1) h2⟩
theorem Mod.put(m:Mod w0 N0 A env h w)(hk:w.heap[k]? = some o)(ho:vx o=true)(ho':vx o'=true)(h0:w0.heap.size<=k)(hy:(∀ r,o ≠ .loop r)∨∀ n b,h n = .live b->b.noY=true):Mod w0 N0 A env h (w.putObj k o') :=
 m.putB hk ho ho' hy rfl rfl rfl rfl rfl (λ_ _=>rfl) λh=>ab
end
def bX.set(h:bX)(n:Nat)(x:Nm):bX:=λm=>if m=n then x else h m
def bj.set(e:bj)(n:Nat)(x:Ev):bj:=λm=>if m=n then x else e m
@[simp] theorem bX.set_same (h:bX) (n:Nat) (x:Nm):h.set n x n=x:=by simp[bX.set]
@[simp] theorem bj.set_same (e:bj) (n:Nat) (x:Ev):e.set n x n=x:=by simp[bj.set]
theorem bX.set_other(h:bX){n m:Nat}(x:Nm)(hm:m≠n):h.set n x m=h m:=by simp[bX.set,hm]
theorem bj.set_other(e:bj){n m:Nat}(x:Ev)(hm:m≠n):e.set n x m=e m:=by simp[bj.set,hm]
section
variable {w0:World} {N0:fK} {A:Nat->Prop} {env:bj} {h:bX} {w w':World}
theorem lG.fresh(m:Mod w0 N0 A env h w){n:Nat}(hn:h n = .un){b:lC}{len:Nat×Nat}{o:Obj}(hmut:b.mut=true)(k:Nat)(hk:w.heap.size<=k)(hA:¬ A k)
  (c:da w w' λ_=>False) (hb:kg A (env.set n (.blk k len)) w' k len b) :
  lG (λm=>m=n) (λ_=>False) A env h w A (env.set n (.blk k len)) (h.set n (.live b)) w':=by
 have hu:env n = .un:=by have:=m.nm n;rw[hn] at this;exact this
 refine⟨c,λ_ h=>h.elim,λ_ h=>h,λ_ h=>.inl h,λm hm=>bj.set_other _ _ hm,λm hm=>?_,λm hm=>bX.set_other _ _ hm,?_,?_,?_⟩
 .exact bj.set_other _ _ (λe=>hm (e▸hu))
 .rintro _ rfl;rw[bX.set_same];exact .inl ⟨k,len,bj.set_same _ _ _,hb,λ_=>hA⟩
 .rintro _ b' k' l rfl _ _ he;rw[bj.set_same] at he;cases he;exact .inl hk
 .rintro _ _ _ _ _ _ _ rfl rfl _ _ _ _ _ _;rfl
theorem lG.write(m:Mod w0 N0 A env h w){n:Nat}{b b':lC}{k:Nat}{len:Nat×Nat}(hl:h n = .live b)(hm:b.mut=true)(he:env n = .blk k len)
  (c:da w w' λj=>j=k) (hb:kg A env w' k len b') (hm':b'.mut=true) :
  lG (λm=>m=n) (λj=>j=k) A env h w A env (h.set n (.live b')) w':=by
 refine⟨c,?_,λ_ h=>h,λ_ h=>.inl h,λm _=>rfl,λm hm=>rfl,λm hm=>bX.set_other _ _ hm,?_,?_,?_⟩
 .rintro _ rfl;exact⟨n,b,len,rfl,hl,hm,he⟩
 .rintro _ rfl;rw[bX.set_same];exact .inl ⟨k,len,he,hb,λ_=>(m.live_blk hl he).2 hm⟩
 .rintro _ b'' k' l rfl _ _ he';rw[he] at he';cases he';exact .inr ⟨_,b,len,rfl,hl,hm,he⟩
 .rintro _ _ _ _ _ _ _ rfl rfl _ _ _ _ _ _;rfl
end
end Go.SX
namespace Go.SX
universe u v
inductive Q (α:Type u):Type u where
 | ret (a:α)
 | ask (n:Nat) (k:Nm->Q α)
 | fail
def Q.run{α:Type u}(h:bX):Q α->Option (α×List Nat)
 | .ret a=>some (a,[])
 | .ask n k=>match (k (h n)).run h with
  | some (a,r)=>some (a,n::r)
  | none=>none
 | .fail=>none
def Q.bind{α:Type u}{β:Type v}:Q α->(α->Q β)->Q β
 | .ret a,f=>f a
 | .ask n k,f => .ask n λx=>(k x).bind f
 | .fail,_ => .fail
theorem Q.run_bind{α:Type u}{β:Type v}(h:bX)(q:Q α)(f:α->Q β){b:β}{r:List Nat}(e:(q.bind f).run h=some (b,r)) :
  ∃ a c r2,q.run h=some (a,c)/\(f a).run h=some (b,r2)/\r=c++r2:=by
 induction q generalizing r with
 | ret a=>exact⟨a,[],r,rfl,e,rfl⟩
 | ask n k ih =>
  simp only[Q.bind,Q.run] at e;cases d:((k (h n)).bind f).run h with
  | none=>rw[d] at e;cases e
  | some p =>
   rw[d] at e;obtain⟨rfl,rfl⟩:=e;obtain⟨a,c,r2,h1,h2,h3⟩:=ih (h n) (by rw[d]);exact⟨a,n::c,r2,by simp only[Q.run,h1],h2,by rw[h3];rfl⟩
 | fail=>cases e
theorem Q.run_local{α:Type u}{h d:bX}:∀(q:Q α){a:α}{r:List Nat},q.run h=some (a,r)->(∀ n∈r,d n=h n)->q.run d=some (a,r)
 | .ret a,b,r,e,_=>e
 | .ask n k,b,r,e,hh=>by
  simp only[Q.run] at e ⊢;cases c:(k (h n)).run h with
  | none=>rw[c] at e;cases e
  | some p =>
   rw[c] at e;obtain⟨rfl,rfl⟩:=e;rw[hh n aw,Q.run_local (k (h n)) c (λm hm=>hh m (fu _ hm))]
def bS:List Prop->Prop
 | []=>True
 | p::r=>p/\bS r
theorem rQ{a b:List Prop}:bS (a++b)↔bS a/\bS b:=by
 induction a with
 | nil=>simp[bS]
 | cons p a ih=>simp[bS,ih,and_assoc]
structure Qn (X:Type) where
 all:(X->Prop)->Prop
 hall:∀ k,all k→∀ x,k x
 ex:(X->Prop)->Prop
 hex:∀ k,ex k→∃ x,k x
def Qn.plain(X:Type):Qn X:=⟨λk=>∀ x,k x,λ_ h=>h,λk=>∃ x,k x,λ_ h=>h⟩
inductive Dl:Type 1 where
 | det (pre:List Prop) (v:SV) (upd:List (Nat×Nm))
 | nd (X:Type) (qn:Qn X) (pre:List Prop) (R:X->Prop) (inh:bS pre→∃ x,R x) (v:X->SV) (upd:List (Nat×(X->Nm)))
def Dl.X:Dl->Type
 | .det .. => Unit
 | .nd X .. => X
def Dl.pre:Dl->List Prop
 | .det p .. => p
 | .nd _ _ p .. => p
def Dl.R:(d:Dl)->d.X->Prop
 | .det ..,_=>True
 | .nd _ _ _ R _ _ _,x=>R x
def Dl.val:(d:Dl)->d.X->SV
 | .det _ v _,_=>v
 | .nd _ _ _ _ _ v _,x=>v x
def dA:List (Nat×Nm)->bX->bX
 | [],h=>h
 | (n,b)::r,h=>(dA r h).set n b
def Dl.upd:(d:Dl)->d.X->List (Nat×Nm)
 | .det _ _ u,_=>u
 | .nd _ _ _ _ _ _ u,x=>u.map λp=>(p.1,p.2 x)
def Dl.wr:Dl->List Nat
 | .det _ _ u=>u.map (·.1)
 | .nd _ _ _ _ _ _ u=>u.map (·.1)
def Dl.hp(d:Dl)(x:d.X)(h:bX):bX:=dA (d.upd x) h
theorem qH{u:List (Nat×Nm)}{h:bX}{n:Nat}(a:n ∉ u.map (·.1)):dA u h n=h n:=by
 induction u with
 | nil=>rfl
 | cons p u ih =>
  simp only[fV,eZ,not_or] at a;rw[dA,bX.set_other _ _ a.1,ih a.2]
theorem Dl.wr_upd(d:Dl)(x:d.X):(d.upd x).map (·.1)=d.wr:=by
 cases d with
 | det p v u=>rfl
 | nd X qn p R i v u=>simp[Dl.upd,Dl.wr,Function.comp_def]
theorem Dl.ne(d:Dl)(h:bS d.pre):∃ x,d.R x:=by
 cases d with
 | det p v u=>exact⟨(),aN⟩
 | nd X qn p R i v u=>exact i h
def fb(w0:World)(N0:fK)(A:Nat->Prop)(env:bj)(h:bX)(w:World)(d:Dl)(v:Value)(w':World):Prop :=
 ∃ (x:d.X) (A':Nat->Prop) (env':bj),d.R x/\Mod w0 N0 A' env' (d.hp x h) w'∧dH A env w A' env' w'∧az A' env' w' (d.val x) v
def bz(P:Program)(o:Oper)(a:Act)(w0:World)(N0:fK)(A:Nat->Prop)(env:bj)(h:bX)(w:World)(d:Dl):Prop :=
 ∃ v w',((execOp a.eval o).run P w = .ok (.value v) w'∨((execOp a.eval o).run P w = .ok .skip w'∧v=undef))/\fb w0 N0 A env h w d v w'
def Lj(k:IntKind)(n:Int):Bool:=decide (k.min<=n)&&decide (n<=k.max)
theorem RF{k:IntKind}{n:Int}(h:Lj k n=true):k.has n:=by
 simp only[Lj,fe,pD] at h;exact h
def zd:Value->SV
 | .int k n=>match Lj k n with
  | true => .int k n
  | false => .cv (.int k n)
 | .bool b => .bool b
 | .slice none 0 0 => .nilsl
 | .pointer none => .nilp
 | v => .cv v
def bg(ρ:Nat->SV):Operand->SV
 | .tmp t=>ρ t
 | .const v=>zd v
 | .func f => .fn f []
 | .global g => .gl g
section
variable {P:Program} {w0:World} {N0:fK} {A:Nat->Prop} {env:bj} {h:bX} {w:World} {o:Oper} {a:Act}
theorem Hk(v:Value):az A env w (zd v) v:=by
 unfold zd
 split
 next k n=>
  split
  next hb=>simp only[az];exact⟨aN,RF hb⟩
  .simp only[az]
 all_goals simp only[az]
def FD(A:Nat->Prop)(env:bj)(w:World)(ρ:Nat->SV)(a:Act):Prop:=∀ i,az A env w (ρ i) (a.tmps.getD i undef)
theorem dh{ρ:Nat->SV}(f:FD A env w ρ a)(x:Operand):az A env w (bg ρ x) (a.eval x):=by
 cases x with
 | tmp t=>exact f t
 | const v=>exact Hk v
 | global g=>simp only[bg,az,Act.eval]
 | func f=>simp only[bg,az,Act.eval];exact⟨#[],rfl,by simp[aO]⟩
theorem bz.pure(m:Mod w0 N0 A env h w){pre:List Prop}{s:SV}{v:Value}(hr:(execOp a.eval o).run P w = .ok (.value v) w)(hd:az A env w s v) :
  bz P o a w0 N0 A env h w (.det pre s []) :=
 ⟨v,w,.inl hr,(),A,env,aN,m,dH.refl,hd⟩
end
theorem IntKind.wrap_has(k:IntKind)(n:Int):k.has (k.wrap n):=wrap_within k n
theorem VG(k:IntKind):k.min<=0/\0<=k.max:=by cases k <;> decide
theorem Zc{k:IntKind}{x:Int}(h:k.has x)(y:Int):k.has (x.tmod y):=by
 obtain⟨h1,h2⟩:=h
 obtain⟨h3,h4⟩:=VG k
 have h5:=Int.natAbs_tmod x y
 have h6:=Nat.mod_le x.natAbs y.natAbs
 have h7:0<=x->0<=x.tmod y:=λb=>Int.tmod_nonneg y b
 have h8:x<=0->x.tmod y<=0:=λb=>by
  have:=Int.tmod_nonneg (a := -x) y ab;simp_all
 exact⟨ab,ab⟩
def gW(k:IntKind)(x y:Int):Int:=k.wrap (x*2^(min y.toNat k.bits))
def fy(k:IntKind)(x y:Int):Int:=x.fdiv (2^(min y.toNat k.bits))
def Jv(k:IntKind)(n:Int):Int:=bits .xor k (if k.signed then -1 else k.max) n
theorem a20{k:IntKind}{x:Int}(h:k.has x)(y:Int):k.has (fy k x y):=by
 obtain⟨h1,h2⟩:=h
 obtain⟨h3,h4⟩:=VG k
 unfold fy
 have a:(0:Int)<2^(min y.toNat k.bits):=Int.pow_pos bo
 rw[Fm _ (Int.le_of_lt a)]
 generalize (2:Int)^(min y.toNat k.bits)=p at *
 rcases Int.le_total 0 x with b|b
 .have h5:=Int.ediv_nonneg b (Int.le_of_lt a);have h6:=Int.ediv_le_self p b;exact⟨ab,ab⟩
 .have h5:x<=x/p:=by
   refine (Int.le_ediv_iff_mul_le a).2 ?_;have:=Int.mul_le_mul_of_nonneg_left (show (1:Int)<=p from by omega) (show 0 ≤ -x from by omega);grind
  have h6:x/p<=0:=by
   have:=Int.ediv_le_ediv a b;simpa using this
  exact⟨ab,ab⟩
theorem Py(op:BinOp)(k:IntKind)(x y:Int):k.has (bits op k x y):=IntKind.wrap_has k _
end Go.SX
namespace Go.SX
def j8(k k':IntKind):Bool:=match k,k' with
 | .i8,.i8 | .i16,.i16 | .i32,.i32 | .i64,.i64 | .u8,.u8 | .u16,.u16 | .u32,.u32 | .u64,.u64=>true
 | _,_=>false
theorem kK{k k':IntKind}(h:j8 k k'=true):k=k':=by cases k <;> cases k' <;> first|rfl|cases h
def c9(v:SV):Q Dl := .ret (.det [] v [])
def Ut(op:BinOp)(k:IntKind)(a b:Int):Q Dl:=match op with
 | .add=>c9 (.int k (k.wrap (a+b)))
 | .sub=>c9 (.int k (k.wrap (a-b)))
 | .mul=>c9 (.int k (k.wrap (a*b)))
 | .quo => .ret (.det [b≠0] (.int k (k.wrap (a.tdiv b))) [])
 | .rem => .ret (.det [b≠0] (.int k (a.tmod b)) [])
 | .and=>c9 (.int k (bits .and k a b))
 | .or=>c9 (.int k (bits .or k a b))
 | .xor=>c9 (.int k (bits .xor k a b))
 | .andNot=>c9 (.int k (bits .andNot k a b))
 | .eql=>c9 (.bool (decide (a=b)))
 | .neq=>c9 (.bool (!decide (a=b)))
 | .lss=>c9 (.bool (decide (a<b)))
 | .leq=>c9 (.bool (decide (a<=b)))
 | .gtr=>c9 (.bool (decide (b<a)))
 | .geq=>c9 (.bool (decide (b<=a)))
 | .shl | .shr => .fail
def Uo(op:BinOp)(k:IntKind)(a b:Int):Q Dl:=match op with
 | .shl => .ret (.det [0<=b] (.int k (gW k a b)) [])
 | .shr => .ret (.det [0<=b] (.int k (fy k a b)) [])
 | _ => .fail
def be1:BinOp->Bool
 | .shl | .shr=>true
 | _=>false
def oX{α:Type}:List α->Nat->Option α
 | [],_=>none
 | x::_,0=>some x
 | _::xs,n+1=>oX xs n
theorem wc{α:Type}:∀(l:List α)(n:Nat),oX l n=l[n]?
 | [],n=>by simp[oX]
 | x::xs,0=>rfl
 | x::xs,n+1=>by simp[oX,wc xs n]
def rD(P:Program)(t:TypeId):Option Bool:=match P.underlying t with
 | some (.struct _)=>some true
 | some (.array _ _)=>some true
 | some _=>some false
 | none=>none
def f8(P:Program)(t:TypeId):Option Nat:=match P.info? t with
 | some i=>some i.size
 | none=>none
def mJ(P:Program)(t:TypeId)(cs:List SV)(off:Nat):Option SV:=match rD P t with
 | some true=>match f8 P t with
  | some n=>match Nat.ble (off+n) cs.length with
   | true=>some (.agg ((cs.drop off).take n))
   | false=>none
  | none=>none
 | some false=>oX cs off
 | none=>none
def yM(P:Program):Nat->TypeId->SV->SV->Option Bool
 | 0,_,_,_=>none
 | d+1,t,x,y=>match P.underlying t,x,y with
  | some (.int _),.int k a,.int k' b=>match j8 k k' with
   | true=>some (decide (a=b))
   | false=>none
  | some .bool,.bool a,.bool b=>some (a == b)
  | some (.struct fs),.agg xs,.agg ys=>match P.stoodInHeld t with
   | false=>eqFs (yM P d) fs.toList xs ys
   | true=>none
  | _,_,_=>none
 where
 eqFs (q:TypeId->SV->SV->Option Bool):List Field->List SV->List SV->Option Bool
  | [],_,_=>some true
  | f :: fs, xs, ys => match f.name == "_" with
   | true=>none
   | false=>match mJ P f.type xs f.offset,mJ P f.type ys f.offset with
    | some x,some y=>match q f.type x y,eqFs q fs xs ys with
     | some b,some r=>some (b&&r)
     | _,_=>none
    | _,_=>none
def Nu(P:Program)(t:TypeId)(xs ys:List SV):Option Bool :=
 match P.eqGuardType P.depth t with
 | false=>yM P 6 t (.agg xs) (.agg ys)
 | true=>none
def BE(op:BinOp)(n:Nat):Q Dl:=match op with
 | .eql => .ret (.nd Bool (Qn.plain Bool) [] (λb=>b=true->n=0) (λ_=>⟨false,λh=>by cases h⟩) (λb=>.bool b) [])
 | .neq => .ret (.nd Bool (Qn.plain Bool) [] (λb=>b=true->n=0) (λ_=>⟨false,λh=>by cases h⟩) (λb=>.bool (!b)) [])
 | _ => .fail
def Vm(P:Program)(op:BinOp)(t:TypeId)(x:SV):Q Dl:=match P.underlying t,x with
 | some (.slice _),.dsl _ xs=>BE op xs.length
 | some (.slice _),.dsx _ xs=>BE op xs.length
 | some (.slice _),.nilsl=>BE op 0
 | some (.slice _),.own n _ => .ask n fun
  | .live (.row _ _ xs)=>BE op xs.length
  | .live (.frz _ _ xs)=>BE op xs.length
  | _ => .fail
 | _,_ => .fail
def Pu(P:Program)(op:BinOp)(t:TypeId)(x y:SV):Q Dl:=match x,y with
 | .int k a,.int k' b=>match be1 op with
  | true=>Uo op k a b
  | false=>match j8 k k' with
   | true=>Ut op k a b
   | false => .fail
 | .bool a,.bool b=>match P.underlying t,op with
  | some .bool,.eql=>c9 (.bool (a == b))
  | some .bool,.neq=>c9 (.bool (!(a == b)))
  | _,_ => .fail
 | .agg xs,.agg ys=>match Nu P t xs ys,op with
  | some b,.eql=>c9 (.bool b)
  | some b,.neq=>c9 (.bool (!b))
  | _,_ => .fail
 | x,.nilsl=>Vm P op t x
 | _,_ => .fail
def Ok(op:UnOp)(x:SV):Q Dl:=match op,x with
 | .not,.bool b=>c9 (.bool (!b))
 | .neg,.int k n=>c9 (.int k (k.wrap (0-n)))
 | .xor,.int k n=>c9 (.int k (Jv k n))
 | _,_ => .fail
def L4(P:Program)(src dst:TypeId)(x:SV):Q Dl:=match x,P.underlying src,P.underlying dst with
 | .int _ n,some _,some (.int k')=>c9 (.int k' (k'.wrap n))
 | _,_,_ => .fail
def Hf:SV->Bool
 | .cv (.tuple vs)=>vs.isEmpty
 | _=>false
def Kr:SV->Option (Bool×Option Bool)
 | .bool x=>some (x,none)
 | .opt g (.bool x)=>some (x,some g)
 | s=>match Hf s with
  | true=>some (false,some false)
  | false=>none
def EF(g:Option Bool)(c:Prop):List Prop:=match g with
 | none=>[]
 | some g=>[c->g=true]
def N5(c a b:SV):Q Dl:=match c,Kr a,Kr b with
 | .bool cb,some (x,gx),some (y,gy) => .ret (.det (EF gx (cb=true)++EF gy (cb=false)) (.bool (bif cb then x else y)) [])
 | _,_,_ => .fail
section
variable {P:Program} {w0:World} {N0:fK} {A:Nat->Prop} {env:bj} {h:bX} {w:World} {o:Oper} {a:Act} {ρ:Nat->SV} {d:Dl} {r:List Nat}
theorem cz{α:Type 1}{x y:α}{r:List Nat}(e:(Q.ret x).run h=some (y,r)):x=y:=by
 simp only[Q.run,cE,cC] at e;exact e.1
theorem WF{s:SV}{v:Value}{x:Bool}{g:Option Bool}(e:Kr s=some (x,g))(b:az A env w s v){c:Prop}(a:bS (EF g c))(hc:c):v = .bool x:=by
 unfold Kr at e
 split at e
 .cases e;simpa only[az] using b
 .cases e;simp only[EF,bS,iC] at a;have:=a hc;subst this;simpa only[az] using b
 .split at e
  .cases e;simp only[EF,bS,iC] at a;simp_all
  .cases e
theorem bB0(m:Mod w0 N0 A env h w)(f:FD A env w ρ a){c x y:Operand}(ho:o.op = .pick c x y)
  (e:(N5 (bg ρ c) (bg ρ x) (bg ρ y)).run h=some (d,r)) (b:bS d.pre):bz P o a w0 N0 A env h w d:=by
 have g:=dh f c
 have dx:=dh f x
 have dy:=dh f y
 unfold N5 at e
 split at e
 next i b1 g1 b2 g2 hc hx hy=>
  cases cz e;simp only[Dl.pre,rQ] at b;rw[hc] at g;simp only[az] at g;refine bz.pure m (v := .bool (bif i then b1 else b2)) ?_ (by simp only[az]);unfold execOp;rw[ho];simp only[g,asBool,Sem.run_bind,Sem.run_pure,Result.andThen_ok];cases i with
  | true=>simp;rw[WF hx dx b.1 rfl]
  | false=>simp;rw[WF hy dy b.2 rfl]
 .cases e
theorem LZ(a:BinOp)(t:TypeId)(x y:Operand)(k:IntKind)(u v:Int)(r:Value)
  (hr:(binOp a t (.int k u) (.int k v)).run P w = .ok r w) :
  ((do eqGuard a t x y (.int k u) (.int k v);binOp a t (.int k u) (.int k v):Sem Value).run P w) = .ok r w:=by
 rw[eqGuard_at_int]
 simpa using hr
theorem Cp{t:TypeId}{b:Bool}(h:rD P t=some b)(w:World):(isAgg t).run P w = .ok b w:=by
 unfold rD at h
 unfold isAgg
 rw[Sem.run_bind]
 cases a:P.underlying t with
 | none=>rw[a] at h;cases h
 | some d =>
  rw[run_underlying a w,Result.andThen_ok];rw[a] at h;cases d <;> simp at h <;> subst h <;> rfl
theorem lU{t:TypeId}{n:Nat}(h:f8 P t=some n)(w:World):(sizeOf t).run P w = .ok n w:=by
 unfold f8 at h
 cases a:P.info? t with
 | none=>rw[a] at h;cases h
 | some i =>
  rw[a] at h;simp at h;simp[sizeOf,typeInfo,a,h]
theorem A8{a:List SV}{vs:List Value}(n:Nat)(h:aO A env w a vs):aO A env w (a.drop n) (vs.drop n):=by
 induction n generalizing a vs with
 | zero=>simpa using h
 | succ n ih =>
  cases a with
  | nil=>simp only[aO] at h;subst h;simp[aO]
  | cons s a =>
   simp only[aO] at h;grind
theorem AK{a:List SV}{vs:List Value}(n:Nat)(h:aO A env w a vs):aO A env w (a.take n) (vs.take n):=by
 induction n generalizing a vs with
 | zero=>simp[aO]
 | succ n ih =>
  cases a with
  | nil=>simp only[aO] at h;subst h;simp[aO]
  | cons s a =>
   simp only[aO] at h;simp only[List.take_succ_cons,aO];grind
theorem KB{t:TypeId}{cs:List SV}{off:Nat}{s:SV}{vs:Array Value}(e:mJ P t cs off=some s)(d:aO A env w cs vs.toList) :
  ∃ v,(part t vs off).run P w = .ok v w/\az A env w s v:=by
 unfold mJ at e
 split at e
 next a=>
  split at e
  .rename_i n hn;split at e
   .rename_i hle;cases e;refine⟨.agg (vs.extract off (off+n)),?_,?_⟩
    .unfold part;simp[Sem.run_bind,Cp a w,lU hn w]
    .simp only[az];have:=AK n (A8 off d);simp_all
   .cases e
  .cases e
 next a=>
  rw[wc] at e;obtain⟨v,hv,b⟩:=ES _ _ d e;refine⟨v,?_,b⟩;have c:vs[off]? = some v:=by rw[← mr];exact hv
  unfold part;simp[Sem.run_bind,Cp a w,c]
 .cases e
theorem QP{q:TypeId->SV->SV->Option Bool}{n:Nat}(hq:∀ t x y b u v,q t x y=some b->az A env w x u->az A env w y v->(Op.equalIn n t u v).run P w = .ok b w) :
  ∀(fs:List Field)(xs ys:List SV)(us vs:Array Value)(b:Bool),yM.eqFs P q fs xs ys=some b->aO A env w xs us.toList->aO A env w ys vs.toList →
   (Op.eqFields n us vs fs).run P w = .ok b w
 | [],xs,ys,us,vs,b,e,_,_=>by simp only[yM.eqFs] at e;cases e;simp[Op.eqFields]
 | f::fs,xs,ys,us,vs,b,e,hx,hy=>by
  simp only[yM.eqFs] at e;split at e
  .cases e
  ·rename_i hname;have hne : f.name ≠ "_" := by simpa using hname
   split at e
   .rename_i x y h1 h2;split at e
    next b1 r hb hr=>cases e;obtain⟨u,p1,d1⟩:=KB h1 hx;obtain⟨v,p2,d2⟩:=KB h2 hy;have ih:=QP hq fs xs ys us vs r hr hx hy;have hk:=hq _ _ _ _ _ _ hb d1 d2;simp only[Op.eqFields,hne,ne_eq,not_false_eq_true,if_true,Sem.run_bind,p1,p2,Result.andThen_ok,hk];cases b1 <;> simp[ih]
    .cases e
   .cases e
theorem Rc:∀(d:Nat)(n:Nat)(t:TypeId)(x y:SV)(b:Bool)(u v:Value),d<=n->yM P d t x y=some b->az A env w x u->az A env w y v->(Op.equalIn n t u v).run P w = .ok b w
 | 0,n,t,x,y,b,u,v,_,e,_,_=>by simp only[yM] at e;cases e
 | d+1,0,t,x,y,b,u,v,hn,_,_,_=>by omega
 | d+1,n+1,t,x,y,b,u,v,hn,e,hx,hy=>by
  simp only[yM] at e;split at e
  .rename_i k0 k1 a1 k2 a2 hu;split at e
   next hk=>cases e;cases kK hk;simp only[az] at hx hy;rw[hx.1,hy.1,run_equalIn_int w n t k1 k0 a1 a2 hu];congr 1
   .cases e
  next a1 a2 hu=>cases e;simp only[az] at hx hy;rw[hx,hy,run_equalIn_bool' w n t a1 a2 hu]
  .rename_i fs xs ys hu;split at e
   .rename_i hs;simp only[az] at hx hy;obtain⟨us,rfl,hx⟩:=hx;obtain⟨vs,rfl,hy⟩:=hy;have hfo:P.underlying t=some (.struct (P.fieldsOf t)):=by simp[Program.fieldsOf,hu]
    have hff:P.fieldsOf t=fs:=by simp[Program.fieldsOf,hu]
    rw[run_equalIn_struct w n t us vs hfo hs,hff];exact QP (λt' x' y' b' u' v' h1 h2 h3=>Rc d n t' x' y' b' u' v' (by omega) h1 h2 h3) _ _ _ _ _ _ e hx hy
   .cases e
  .cases e
theorem a13(m:Mod w0 N0 A env h w)(f:FD A env w ρ a){op:BinOp}{t yt:TypeId}{x y:Operand}(ho:o.op = .binOp op t x y yt)
  (e:(Pu P op t (bg ρ x) (bg ρ y)).run h=some (d,r)) (hp:bS d.pre):bz P o a w0 N0 A env h w d:=by
 have dx:=dh f x
 have dy:=dh f y
 have go:∀(v:Value),((do eqGuard op t x y (a.eval x) (a.eval y);binOp op t (a.eval x) (a.eval y):Sem Value).run P w) = .ok v w →
   (execOp a.eval o).run P w = .ok (.value v) w:=by
  intro v hv;unfold execOp;rw[ho];simp only[Sem.run_bind,Sem.run_pure] at hv ⊢;rw[hv];rfl
 unfold Pu at e
 split at e
 next k u k' v hx hy=>
  rw[hx] at dx;rw[hy] at dy;simp only[az] at dx dy;rw[dx.1,dy.1] at go;split at e
  .unfold Uo at e;split at e
   .cases cz e;simp only[Dl.pre,bS,iC] at hp;refine bz.pure m (go _ ?_) (s := .int k (gW k u v)) (v := .int k (gW k u v)) (by simp only[az];exact⟨trivial,IntKind.wrap_has _ _⟩);rw[eqGuard_at_int,binOp_shl];have hn:¬ v<0:=by omega
    simp[Op.shift,hn,gW]
   .cases cz e;simp only[Dl.pre,bS,iC] at hp;refine bz.pure m (go _ ?_) (s := .int k (fy k u v)) (v := .int k (fy k u v)) (by simp only[az];exact⟨trivial,a20 dx.2 v⟩);rw[eqGuard_at_int,binOp_shr];have hn:¬ v<0:=by omega
    simp[Op.shift,hn,fy]
   .cases e
  .split at e
   .rename_i hk;cases kK hk;unfold Ut c9 at e;have eqd:∀ u v:Int,(u == v)=decide (u=v):=λu v=>by rw[yG];simp
    by_cases h1:op = .eql
    .subst h1;simp only at e;cases cz e;refine bz.pure m (go (.bool (decide (u=v))) ?_) (by simp only[az]);exact LZ _ _ _ _ _ _ _ _ (by rw[binOp_eql,eqd];rfl)
    by_cases h2:op = .neq
    .subst h2;simp only at e;cases cz e;refine bz.pure m (go (.bool (!decide (u=v))) ?_) (by simp only[az]);exact LZ _ _ _ _ _ _ _ _ (by rw[binOp_neq,bne,eqd];rfl)
    cases op <;> simp only at e <;> first
     | (exfalso;exact h1 rfl)
     | (exfalso;exact h2 rfl)
     | (cases cz e
        simp only[Dl.pre,bS,iC] at hp;refine bz.pure m (go _ ?_) (by simp only[az];first|exact⟨rfl,IntKind.wrap_has _ _⟩|exact⟨rfl,Py _ _ _ _⟩|exact⟨rfl,Zc dx.2 _⟩|rfl);refine LZ _ _ _ _ _ _ _ _ ?_
        first
         | (simp[binOp,Op.intArith];done)
         | (simp[binOp,Op.intDiv,hp];done)
         | (simp only[binOp_and,binOp_or,binOp_xor,binOp_andNot,intBits_and,intBits_or,intBits_xor,intBits_andNot,Sem.run_pure];done)
         | (simp[binOp,Op.intCmp];done))
     | cases e
   .cases e
 next u v hx hy=>
  rw[hx] at dx;rw[hy] at dy;simp only[az] at dx dy;rw[dx,dy] at go;split at e
  next hu=>unfold c9 at e;cases cz e;refine bz.pure m (go _ ?_) (s := .bool (u == v)) (v := .bool (u == v)) (by simp only[az]);rw[eqGuard_at_bool];simp[run_eql_bool w t u v hu]
  next hu=>unfold c9 at e;cases cz e;refine bz.pure m (go _ ?_) (s := .bool (!(u == v))) (v := .bool (!(u == v))) (by simp only[az]);rw[eqGuard_at_bool];simp[run_neq_bool w t u v hu]
  .cases e
 next xs ys hx hy=>
  rw[hx] at dx;rw[hy] at dy;simp only[az] at dx dy;obtain⟨us,eu,du⟩:=dx;obtain⟨vs,ev,dv⟩:=dy;rw[eu,ev] at go;have key:∀ b,Nu P t xs ys=some b->(Op.equalIn 10000 t (.agg us) (.agg vs)).run P w = .ok b w/\(eqGuard op t x y (.agg us) (.agg vs)).run P w = .ok () w:=by
   intro b hb;unfold Nu at hb;split at hb
   next h2=>exact⟨Rc 6 10000 t (.agg xs) (.agg ys) b _ _ (by omega) hb (by simp only[az];exact⟨_,rfl,du⟩) (by simp only[az];exact⟨_,rfl,dv⟩),run_eqGuard_agg w op t x y us vs h2⟩
   .cases hb
  split at e
  next b hb=>unfold c9 at e;cases cz e;obtain⟨k1,k2⟩:=key b hb;refine bz.pure m (go _ ?_) (s := .bool b) (v := .bool b) (by simp only[az]);simp only[Sem.run_bind,k2,Result.andThen_ok,run_eql_struct,k1]
  next b hb=>unfold c9 at e;cases cz e;obtain⟨k1,k2⟩:=key b hb;refine bz.pure m (go _ ?_) (s := .bool (!b)) (v := .bool (!b)) (by simp only[az]);simp only[Sem.run_bind,k2,Result.andThen_ok,run_neq_struct,k1]
  .cases e
 next hy=>
  rw[hy] at dy;simp only[az] at dy;rw[dy] at go;have key:∀(d:Dl)(r:List Nat)(n:Nat)(E:TypeId),P.underlying t=some (.slice E)->(∃ b c,a.eval x = .slice b n c)->(∀ c,a.eval x = .slice none n c->n=0)->(BE op n).run h=some (d,r)->bz P o a w0 N0 A env h w d:=by
   rintro d r n E hu ⟨b,c,ev⟩ hn en;have hb:b.isNone=true->n=0:=λhb=>by
    cases b with
    | none=>exact hn c ev
    | some _=>cases hb
   have heq:(Op.equalIn 10000 t (.slice b n c) (.slice none 0 0)).run P w = .ok b.isNone w:=by
    unfold Op.equalIn;simp only[Sem.run_bind,run_underlying hu,Result.andThen_ok];cases b <;> simp
   have hg:(eqGuard op t x y (.slice b n c) (.slice none 0 0)).run P w = .ok () w:=by
    unfold eqGuard;split <;> simp
   unfold BE at en;split at en
   .cases cz en;refine⟨.bool b.isNone,w,.inl (go _ ?_),b.isNone,A,env,hb,m,dH.refl,by simp only[Dl.val,az]⟩;rw[ev];simp only[Sem.run_bind,hg,Result.andThen_ok];simp[binOp,Op.equal,Op.maxDepth,heq]
   .cases cz en;refine⟨.bool (!b.isNone),w,.inl (go _ ?_),b.isNone,A,env,hb,m,dH.refl,by simp only[Dl.val,az]⟩;rw[ev];simp only[Sem.run_bind,hg,Result.andThen_ok];simp[binOp,Op.equal,Op.maxDepth,heq]
   .cases en
  have data:∀{u:CT}{xs:List u.D},tP A w u (a.eval x) xs->(∃ b c,a.eval x = .slice b xs.length c)/\(∀ c,a.eval x = .slice none xs.length c->xs.length=0):=by
   rintro u xs ⟨_,⟨⟨q,e1⟩,rfl⟩|⟨b,off,cap,e1,_⟩⟩
   .exact⟨⟨q,0,e1⟩,λ_ _=>rfl⟩
   .exact⟨⟨_,_,e1⟩,λc e2=>by rw[e1] at e2;cases e2⟩
  unfold Vm at e;split at e
  next E u xs hu hx=>rw[hx] at dx;simp only[az] at dx;exact key _ _ _ E hu (data dx).1 (data dx).2 e
  next E u xs hu hx=>rw[hx] at dx;simp only[az] at dx;exact key _ _ _ E hu (data dx.1).1 (data dx.1).2 e
  next E hu hx=>rw[hx] at dx;simp only[az] at dx;exact key _ _ 0 E hu ⟨none,0,dx⟩ (λ_ _=>rfl) e
  .rename_i E n sz hu hx;rw[hx] at dx;simp only[az] at dx;simp only[Q.run] at e;split at e
   .rename_i p q hk;simp only[cE,cC] at e;obtain⟨rfl,rfl⟩:=e;have own:∀{b:lC}{u:CT}{xs:List u.D}{E':TypeId},h n = .live b->(b = .row E' u xs∨b = .frz E' u xs)->(∃ b c,a.eval x = .slice b xs.length c)/\(∀ c,a.eval x = .slice none xs.length c->xs.length=0):=by
     intro b u xs E' hl hb;rcases dx with⟨hnil,pa,ev⟩|⟨k,len,E2,c,hk2,hsh,ev⟩
     .have hx0:xs=[]:=by
       have:=m.nm n;rw[hl] at this;rcases this with⟨k',l',he',_⟩|⟨_,E3,t3,hb3⟩
       .rw[hnil] at he';cases he'
       .rcases hb with rfl|rfl <;> rcases hb3 with hb3|hb3 <;> cases hb3 <;> rfl
      subst hx0;exact⟨⟨pa,0,ev⟩,λ_ _=>rfl⟩
     .have hlen:xs.length=len.2:=by
       have:=(m.live_blk hl hk2).1;rcases hb with rfl|rfl
       .obtain⟨_,_,_,_,h3,_⟩:=this;exact h3
       .obtain⟨_,_,_,_,_,h3,_⟩:=this;exact h3
      exact⟨⟨_,_,by rw[hlen];exact ev⟩,λc' e2=>by rw[ev] at e2;cases e2⟩
    split at hk
    next hl=>have:=own hl (.inl rfl);exact key _ _ _ E hu this.1 this.2 hk
    next hl=>have:=own hl (.inr rfl);exact key _ _ _ E hu this.1 this.2 hk
    .cases hk
   .cases e
  .cases e
 .cases e
theorem bO6(m:Mod w0 N0 A env h w)(f:FD A env w ρ a){i:UnOp}{t:TypeId}{x:Operand}(g:o.op = .unOp i t x)
  (e:(Ok i (bg ρ x)).run h=some (d,r)) (hp:bS d.pre):bz P o a w0 N0 A env h w d:=by
 have c:=dh f x
 unfold Ok c9 at e
 split at e
 next b hx=>rw[hx] at c;simp only[az] at c;cases cz e;exact bz.pure m (v := .bool (!b)) (by unfold execOp;rw[g];simp[c,Op.unary]) (by simp only[az])
 next k n hx=>rw[hx] at c;cases cz e;exact bz.pure m (v := .int k (k.wrap (0-n))) (by unfold execOp;rw[g];simp[c.1,Op.unary,Op.intArith]) (by simp only[az];exact⟨aN,IntKind.wrap_has _ _⟩)
 next k n hx=>rw[hx] at c;cases cz e;exact bz.pure m (v := .int k (Jv k n)) (by unfold execOp;rw[g];simp only[c.1,Op.unary,intBits_xor,Jv];rfl) (by simp only[az];exact⟨aN,Py _ _ _ _⟩)
 .cases e
theorem bI2(m:Mod w0 N0 A env h w)(f:FD A env w ρ a){s t:TypeId}{x:Operand}(ho:o.op = .convert s t x)
  (e:(L4 P s t (bg ρ x)).run h=some (d,r)) (hp:bS d.pre):bz P o a w0 N0 A env h w d:=by
 have b:=dh f x
 unfold L4 c9 at e
 split at e
 next k n dd c hx hs ht=>rw[hx] at b;cases cz e;refine bz.pure m (v := .int c (c.wrap n)) ?_ (by simp only[az];exact⟨aN,IntKind.wrap_has _ _⟩);unfold execOp;rw[ho];simp only[b.1,convert,Sem.run_bind,run_underlying hs,run_underlying ht,Result.andThen_ok,Conv.intToInt,Sem.run_pure]
 .cases e
end
end Go.SX
namespace Go.SX
def cQ:(t:CT)->t.D->List SV
 | .int k,n=>[.int k n]
 | .bool,b=>[.bool b]
 | .str,s=>[.str s]
 | .sl t,xs=>[.dsl t xs]
 | .pair a b,d=>cQ a d.1++cQ b d.2
theorem ED:∀(t:CT)(d:t.D),(cQ t d).length=t.size
 | .int k,n=>rfl
 | .bool,b=>rfl
 | .str,s=>rfl
 | .sl t,xs=>rfl
 | .pair a b,d=>by simp[cQ,CT.size,ED a d.1,ED b d.2]
theorem aY1{a b:List SV}:wo (a++b)=(wo a&&wo b):=by
 induction a with
 | nil=>rfl
 | cons x a ih=>simp[wo,ih,Bool.and_assoc]
theorem GP:∀(t:CT)(d:t.D),wo (cQ t d)=true
 | .int k,n=>rfl
 | .bool,b=>rfl
 | .str,s=>rfl
 | .sl t,xs=>rfl
 | .pair a b,d=>by simp[cQ,aY1,GP a d.1,GP b d.2]
theorem xC{A:Nat->Prop}{env:bj}{w:World}:∀(t:CT)(d:t.D)(cv:Nat->Option Value)(o:Nat),Rd A w t cv o d →
  ∃ vs:List Value,vs.length=t.size/\(∀ j,j<t.size->cv (o+j)=vs[j]?)/\aO A env w (cQ t d) vs
 | .int k,n,cv,o,h=>⟨[.int k n],rfl,λj hj=>by
   simp only[CT.size] at hj;have:j=0:=by omega
   subst this;simpa using h.1,by simp only[cQ,aO,az];exact⟨_,[],rfl,⟨rfl,h.2⟩,rfl⟩⟩
 | .bool,b,cv,o,h=>⟨[.bool b],rfl,λj hj=>by
   simp only[CT.size] at hj;have:j=0:=by omega
   subst this;simp only[Rd] at h;simpa using h,by simp only[cQ,aO,az];exact⟨_,[],rfl,rfl,rfl⟩⟩
 | .str,s,cv,o,h=>⟨[.string s],rfl,λj hj=>by
   simp only[CT.size] at hj;have:j=0:=by omega
   subst this;simpa using h.1,by simp only[cQ,aO,az];exact⟨_,[],rfl,⟨rfl,h.2⟩,rfl⟩⟩
 | .sl t,xs,cv,o,h=>by
   obtain⟨v,hv,hs⟩:=uY.1 h;exact⟨[v],rfl,λj hj=>by
    simp only[CT.size] at hj;have:j=0:=by omega
    subst this;simpa using hv,by simp only[cQ,aO,az];exact⟨_,[],rfl,hs,rfl⟩⟩
 | .pair a b,d,cv,o,h=>by
   obtain⟨us,l1,c1,d1⟩:=xC (env:=env) a d.1 cv o h.1;obtain⟨vs,l2,c2,d2⟩:=xC (env:=env) b d.2 cv (o+a.size) h.2;refine⟨us++vs,by simp[CT.size,l1,l2],λj hj=>?_,su d1 d2⟩;by_cases hlt:j<a.size
   .rw[c1 j hlt,nV (by omega)]
   .simp only[CT.size] at hj;have:=c2 (j-a.size) (by omega);rw[show o+a.size+(j-a.size)=o+j from by omega] at this;rw[this,nD (by omega),l1]
def iK(t t':CT)(xs:List t.D):Option (List t'.D):=if h:t=t' then some (h▸xs) else none
theorem lq{t t':CT}{xs:List t.D}{ys:List t'.D}(h:iK t t' xs=some ys):∃ e:t=t',ys=e▸xs:=by
 unfold iK at h
 split at h
 next e=>cases h;exact⟨e,rfl⟩
 .cases h
def kW:(t:CT)->List SV->Q (t.D×List SV×List (Nat×Nm))
 | .int k,.int k' n::r=>match j8 k k' with
  | true => .ret (n,r,[])
  | false => .fail
 | .bool,.bool b::r => .ret (b,r,[])
 | .str,.str s::r => .ret (s,r,[])
 | .sl t,.dsl t' xs::r=>match iK t' t xs with
  | some ys => .ret (ys,r,[])
  | none => .fail
 | .sl t,.dsx t' xs::r=>match iK t' t xs with
  | some ys => .ret (ys,r,[])
  | none => .fail
 | .sl t,.nilsl::r => .ret ([],r,[])
 | .sl t,.own n sz::r => .ask n fun
  | .live (.row E t' xs)=>match Nat.beq sz t'.size,iK t' t xs with
   | true,some ys => .ret (ys,r,[(n,.live (.frz E t' xs))])
   | _,_ => .fail
  | .live (.frz E t' xs)=>match Nat.beq sz t'.size,iK t' t xs with
   | true,some ys => .ret (ys,r,[])
   | _,_ => .fail
  | _ => .fail
 | .pair a b,cs=>(kW a cs).bind λp=>(kW b p.2.1).bind λq=>.ret ((p.1,q.1),q.2.1,p.2.2++q.2.2)
 | _,_ => .fail
def iN(env:bj)(fz:List (Nat×Nm))(k:Nat):Prop:=∃ n b l,(n,b)∈fz/\env n = .blk k l
def pV(h:bX)(fz:List (Nat×Nm)):Prop:=∀ n b,(n,b)∈fz→∃ E t xs,h n = .live (.row E t xs)/\b = .live (.frz E t xs)
section
variable {w0:World} {N0:fK} {A A':Nat->Prop} {env:bj} {h:bX} {w:World}
theorem J4(hA:∀ b,A b->A' b){k:Nat}{len:Nat×Nat}{E:TypeId}{t:CT}{xs:List t.D}(hr:qG A w k len E t xs)(hk:A' k){c:Nat}{E':TypeId}
  (hs:w.shape? k=some (E',c)):tP A' w t (.slice (some ⟨k,len.1,none⟩) len.2 ((c-len.1)/t.size)) xs:=by
 obtain⟨vs,cap,hh,h1,h2,h3,h4,h5⟩:=hr
 have hc:c=vs.size:=by
  rw[hh.shape] at hs;simp only[cE,cC] at hs;exact hs.2.symm
 have hcap:(c-len.1)/t.size=cap:=by rw[hc,h1,ot];exact uw _ t.size_pos
 rw[hcap,← h2]
 refine⟨by omega,.inr ⟨k,len.1,cap,rfl,by omega,h4,hk,λi hi=>?_⟩⟩
 refine iL hA (λ_ _ _=>rfl) t _ _ _ _ (λj _=>?_) (h5 i hi)
 rw[hh.cell]
theorem QU{t:CT}{cv:Nat->Option Value}{o:Nat}{d:t.D}(hr:Rd A w t cv o d)(n:Nat):Rd A w t (λj=>cv (j-n)) (o+n) d:=by
 have key:∀(t:CT)(cv:Nat->Option Value)(o:Nat)(d:t.D),Rd A w t cv o d->Rd A w t (λj=>cv (j-n)) (o+n) d:=by
  intro t
  induction t with
  | pair a b iha ihb =>
   intro cv o d hh;refine⟨iha _ _ _ hh.1,?_⟩;have:=ihb _ _ _ hh.2
   rwa [show o+a.size+n=o+n+a.size from by omega] at this
  | int k=>intro cv o d hh;simpa[Rd] using hh
  | bool=>intro cv o d hh;simpa[Rd] using hh
  | str=>intro cv o d hh;simpa[Rd] using hh
  | sl t ih=>intro cv o d hh;simpa[Rd] using hh
 exact key t cv o d hr
theorem AC{t:CT}{cv:Nat->Option Value}{d:t.D}(hr:Rd A w t cv 0 d)(n:Nat):Rd A w t (λj=>cv (j-n)) (0+n) d:=QU hr n
theorem u9(m:Mod w0 N0 A env h w):∀(t:CT)(cs:List SV)(vs:List Value)(d:t.D)(rest:List SV)(fz:List (Nat×Nm))(r:List Nat),
  (kW t cs).run h=some ((d,rest,fz),r)->aO A env w cs vs->(∀ b,A b->A' b)->(∀ k,iN env fz k->A' k) →
  pV h fz/\(∀ n b,(n,b)∈fz->n∈r)/\vs.length=t.size+rest.length/\Rd A' w t (λj=>vs[j]?) 0 d/\aO A env w rest (vs.drop t.size):=by
 intro t
 have hnil:∀{n:Nat}{b:Nm},(n,b)∈([]:List (Nat×Nm))->False:=λhh=>by simp at hh
 induction t with
 | int k =>
  intro cs vs d rest fz r e hd hA hF
  match cs with
  | .int k' n::cs => ?_
  | [] | .bool _::_ | .str _::_ | .dsl _ _::_ | .dsx _ _::_ | .nilsl::_ | .own _ _::_ | .ptr _ _::_ | .eptr _ _ _ _::_ | .dptr _ _ _::_ | .nilp::_ | .fn _ _::_ | .agg _::_ | .tup _::_ | .opt _ _::_ | .cv _::_ | .gl _::_ | .csl _ _::_ | .mapp _::_ | .arr _ _ _::_ | .junk::_=>cases e
  simp only[kW] at e;split at e
  next hk=>cases kK hk;simp only[Q.run,cE,cC] at e;obtain⟨⟨rfl,rfl,rfl⟩,rfl⟩:=e;simp only[aO,az] at hd;obtain⟨v,r,rfl,⟨rfl,hh⟩,hr⟩:=hd;have hl:=jl hr;exact⟨λ_ _ h=>(hnil h).elim,λ_ _ h=>(hnil h).elim,by simp[CT.size,hl];omega,⟨by simp,hh⟩,by simpa[CT.size] using hr⟩
  .cases e
 | bool =>
  intro cs vs d rest fz r e hd hA hF
  match cs with
  | .bool n::cs => ?_
  | [] | .int _ _::_ | .str _::_ | .dsl _ _::_ | .dsx _ _::_ | .nilsl::_ | .own _ _::_ | .ptr _ _::_ | .eptr _ _ _ _::_ | .dptr _ _ _::_ | .nilp::_ | .fn _ _::_ | .agg _::_ | .tup _::_ | .opt _ _::_ | .cv _::_ | .gl _::_ | .csl _ _::_ | .mapp _::_ | .arr _ _ _::_ | .junk::_=>cases e
  simp only[kW] at e;simp only[Q.run,cE,cC] at e;obtain⟨⟨rfl,rfl,rfl⟩,rfl⟩:=e;simp only[aO,az] at hd;obtain⟨v,r,rfl,rfl,hr⟩:=hd;have hl:=jl hr;exact⟨λ_ _ h=>(hnil h).elim,λ_ _ h=>(hnil h).elim,by simp[CT.size,hl];omega,by simp[Rd],by simpa[CT.size] using hr⟩
 | str =>
  intro cs vs d rest fz r e hd hA hF
  match cs with
  | .str n::cs => ?_
  | [] | .int _ _::_ | .bool _::_ | .dsl _ _::_ | .dsx _ _::_ | .nilsl::_ | .own _ _::_ | .ptr _ _::_ | .eptr _ _ _ _::_ | .dptr _ _ _::_ | .nilp::_ | .fn _ _::_ | .agg _::_ | .tup _::_ | .opt _ _::_ | .cv _::_ | .gl _::_ | .csl _ _::_ | .mapp _::_ | .arr _ _ _::_ | .junk::_=>cases e
  simp only[kW] at e;simp only[Q.run,cE,cC] at e;obtain⟨⟨rfl,rfl,rfl⟩,rfl⟩:=e;simp only[aO,az] at hd;obtain⟨v,r,rfl,⟨rfl,hh⟩,hr⟩:=hd;have hl:=jl hr;exact⟨λ_ _ h=>(hnil h).elim,λ_ _ h=>(hnil h).elim,by simp[CT.size,hl];omega,⟨by simp,hh⟩,by simpa[CT.size] using hr⟩
 | sl t ih =>
  intro cs vs d rest fz r e hd hA hF
  match cs with
  | .dsl t' xs::cs =>
   simp only[kW] at e;split at e
   next ys hc=>obtain⟨et,ey⟩:=lq hc;subst et;simp only[Q.run,cE,cC] at e;obtain⟨⟨rfl,rfl,rfl⟩,rfl⟩:=e;simp only at ey;subst ey;simp only[aO,az] at hd;obtain⟨v,r,rfl,hs,hr⟩:=hd;have hl:=jl hr;exact⟨λ_ _ h=>(hnil h).elim,λ_ _ h=>(hnil h).elim,by simp[CT.size,hl];omega,uY.2 ⟨v,by simp,Iy hA (λ_ _ _=>rfl) hs⟩,by simpa[CT.size] using hr⟩
   .cases e
  | .dsx t' xs::cs =>
   simp only[kW] at e;split at e
   next ys hc=>obtain⟨et,ey⟩:=lq hc;subst et;simp only[Q.run,cE,cC] at e;obtain⟨⟨rfl,rfl,rfl⟩,rfl⟩:=e;simp only at ey;subst ey;simp only[aO,az] at hd;obtain⟨v,r,rfl,hs,hr⟩:=hd;have hl:=jl hr;exact⟨λ_ _ h=>(hnil h).elim,λ_ _ h=>(hnil h).elim,by simp[CT.size,hl];omega,uY.2 ⟨v,by simp,Iy hA (λ_ _ _=>rfl) hs.1⟩,by simpa[CT.size] using hr⟩
   .cases e
  | .nilsl::cs =>
   simp only[kW] at e;simp only[Q.run,cE,cC] at e;obtain⟨⟨rfl,rfl,rfl⟩,rfl⟩:=e;simp only[aO,az] at hd;obtain⟨v,r,rfl,rfl,hr⟩:=hd;have hl:=jl hr;exact⟨λ_ _ h=>(hnil h).elim,λ_ _ h=>(hnil h).elim,by simp[CT.size,hl];omega,uY.2 ⟨_,by simp;rfl,by simp,.inl ⟨⟨_,rfl⟩,rfl⟩⟩,by simpa[CT.size] using hr⟩
  | .own n sz::cs =>
   simp only[kW,Q.run] at e;simp only[aO,az] at hd;obtain⟨v,r',rfl,hv,hr⟩:=hd;have hl:=jl hr;have hm:=m.nm n;split at e
   .rename_i p q hk;simp only[cE,cC] at e;obtain⟨rfl,rfl⟩:=e;split at hk
    .rename_i E t' xs hl';rw[hl'] at hm;split at hk
     .rename_i ys hsz hc;obtain⟨et,ey⟩:=lq hc;subst et;simp only[Q.run,cE,cC] at hk;obtain⟨⟨rfl,rfl,rfl⟩,rfl⟩:=hk;simp only at ey;subst ey;have hsz:sz=t'.size:=bK hsz;subst hsz;refine⟨?_,?_,by simp[CT.size,hl];omega,?_,by simpa[CT.size] using hr⟩
      .intro n' b' hh;simp only[nz,cC] at hh;obtain⟨rfl,rfl⟩:=hh;exact⟨E,t',_,hl',rfl⟩
      .intro n' b' hh;simp only[nz,cC] at hh;simp[hh.1]
      .rcases hv with⟨he,a,rfl⟩|⟨b,len,E',c,he,hs,rfl⟩
       .rcases hm with⟨k,len,he',_⟩|⟨_,E2,t2,hb⟩
        .rw[he] at he';cases he'
        .have hx:ys=[]:=by
          rcases hb with hb|hb <;> cases hb <;> rfl
         subst hx;exact uY.2 ⟨_,by simp;rfl,by simp,.inl ⟨⟨_,rfl⟩,rfl⟩⟩
       .rcases hm with⟨k,len',he',hb,_⟩|⟨he',_⟩
        .rw[he] at he';cases he';exact uY.2 ⟨_,by simp,J4 hA hb (hF b ⟨n,_,len,by simp;rfl,he⟩) hs⟩
        .rw[he] at he';cases he'
     .cases hk
    .rename_i E t' xs hl';rw[hl'] at hm;split at hk
     .rename_i ys hsz hc;obtain⟨et,ey⟩:=lq hc;subst et;simp only[Q.run,cE,cC] at hk;obtain⟨⟨rfl,rfl,rfl⟩,rfl⟩:=hk;simp only at ey;subst ey;have hsz:sz=t'.size:=bK hsz;subst hsz;refine⟨λ_ _ h=>(hnil h).elim,λ_ _ h=>(hnil h).elim,by simp[CT.size,hl];omega,?_,by simpa[CT.size] using hr⟩
      .rcases hv with⟨he,a,rfl⟩|⟨b,len,E',c,he,hs,rfl⟩
       .rcases hm with⟨k,len,he',_⟩|⟨_,E2,t2,hb⟩
        .rw[he] at he';cases he'
        .have hx:ys=[]:=by
          rcases hb with hb|hb <;> cases hb <;> rfl
         subst hx;exact uY.2 ⟨_,by simp;rfl,by simp,.inl ⟨⟨_,rfl⟩,rfl⟩⟩
       .rcases hm with⟨k,len',he',hb,_⟩|⟨he',_⟩
        .rw[he] at he';cases he';exact uY.2 ⟨_,by simp,J4 hA hb.2 (hA _ hb.1) hs⟩
        .rw[he] at he';cases he'
     .cases hk
    .cases hk
   .cases e
  | [] | .int _ _::_ | .bool _::_ | .str _::_ | .ptr _ _::_ | .eptr _ _ _ _::_ | .dptr _ _ _::_ | .nilp::_ | .fn _ _::_ | .agg _::_ | .tup _::_ | .opt _ _::_ | .cv _::_ | .gl _::_ | .csl _ _::_ | .mapp _::_ | .arr _ _ _::_ | .junk::_=>cases e
 | pair a b iha ihb =>
  intro cs vs d rest fz r e hd hA hF;simp only[kW] at e;obtain⟨⟨d1,r1,f1⟩,q1,q2,e1,e2,rfl⟩:=Q.run_bind _ _ _ e;obtain⟨⟨d2,r2,f2⟩,q3,q4,e3,e4,rfl⟩:=Q.run_bind _ _ _ e2;simp only[Q.run,cE,cC] at e4;obtain⟨⟨rfl,rfl,rfl⟩,rfl⟩:=e4;have hF1:∀ k,iN env f1 k->A' k:=λk ⟨n,x,l,hx,he⟩=>hF k ⟨n,x,l,iA _ hx,he⟩;have hF2:∀ k,iN env f2 k->A' k:=λk ⟨n,x,l,hx,he⟩=>hF k ⟨n,x,l,jD _ hx,he⟩;obtain⟨o1,n1,l1,rd1,dr1⟩:=iha cs vs d1 r1 f1 q1 e1 hd hA hF1;obtain⟨o2,n2,l2,rd2,dr2⟩:=ihb r1 _ d2 r2 f2 q3 e3 dr1 hA hF2;refine⟨?_,?_,?_,⟨rd1,?_⟩,?_⟩
  .intro n x hx;rcases fC.1 hx with hx|hx
   .exact o1 n x hx
   .exact o2 n x hx
  .intro n x hx;rcases fC.1 hx with hx|hx
   .exact iA _ (n1 n x hx)
   .exact jD _ (iA _ (n2 n x hx))
  .simp only[CT.size];simp at l2;omega
  .refine iL (λ_ h=>h) (λ_ _ _=>rfl) b _ _ _ _ (λj _=>?_) (AC rd2 a.size);simp[wF]
  .simp only[CT.size];rw[← List.drop_drop];exact dr2
end
end Go.SX
namespace Go.SX
def yP:Option SV->Q Dl
 | some v=>c9 v
 | none => .fail
def Iz(P:Program)(s:TypeId)(f:Nat):Option Field:=match P.underlying s with
 | some (.struct fs)=>fs[f]?
 | _=>none
def Pz(P:Program)(s:TypeId)(f:Nat)(x:SV):Q Dl:=match x,Iz P s f with
 | .agg cs,some fd=>yP (mJ P fd.type cs fd.offset)
 | _,_ => .fail
def Ot(i:Nat)(x:SV):Q Dl:=match x with
 | .tup cs=>yP (oX cs i)
 | _ => .fail
def NR(x:SV):Q Dl:=match x with
 | .ptr n o=>c9 (.ptr n o)
 | .eptr n s i o=>c9 (.eptr n s i o)
 | .dptr t d o=>c9 (.dptr t d o)
 | .fn f c=>c9 (.fn f c)
 | _ => .fail
def Nk(P:Program)(s:TypeId)(f:Nat)(x:SV):Q Dl:=match Iz P s f with
 | some fd=>match f8 P fd.type with
  | some (_+1)=>match x with
   | .ptr n o=>c9 (.ptr n (o+fd.offset))
   | .eptr n sz i o=>c9 (.eptr n sz i (o+fd.offset))
   | .dptr t d o=>c9 (.dptr t d (o+fd.offset))
   | _ => .fail
  | _ => .fail
 | none => .fail
def yf(P:Program)(ty:TypeId)(x:SV):Q Dl:=match x with
 | .ptr n off => .ask n fun
  | .live (.cells _ cs)=>yP (mJ P ty cs off)
  | _ => .fail
 | .eptr n sz i off => .ask n fun
  | .live (.row _ t xs)=>match Nat.beq sz t.size with
   | true=>yP (mJ P ty (cQ t (mL t xs i)) off)
   | false => .fail
  | .live (.frz _ t xs)=>match Nat.beq sz t.size with
   | true=>yP (mJ P ty (cQ t (mL t xs i)) off)
   | false => .fail
  | _ => .fail
 | .dptr t d off=>yP (mJ P ty (cQ t d) off)
 | _ => .fail
def uT(P:Program)(t:TypeId):Option (TypeId×Nat):=match P.underlying t with
 | some (.slice e)=>match f8 P e with
  | some n=>some (e,n)
  | none=>none
 | _=>none
def Pt(P:Program)(t:TypeId)(x i:SV):Q Dl:=match i,uT P t with
 | .int _ i,some (_,n)=>match x with
  | .dsl u xs=>match Nat.beq n u.size with
   | true => .ret (.det [0<=i,i<xs.length] (.dptr u (mL u xs i.toNat) 0) [])
   | false => .fail
  | .own m sz => .ask m fun
   | .live (.row _ u xs)=>match Nat.beq n u.size,Nat.beq sz u.size with
    | true,true => .ret (.det [0<=i,i<xs.length] (.eptr m sz i.toNat 0) [])
    | _,_ => .fail
   | .live (.frz _ u xs)=>match Nat.beq n u.size,Nat.beq sz u.size with
    | true,true => .ret (.det [0<=i,i<xs.length] (.eptr m sz i.toNat 0) [])
    | _,_ => .fail
   | _ => .fail
  | .csl m k=>match Nat.beq n 1,decide (0<=i)&&decide (i<k) with
   | true,true=>c9 (.ptr m i.toNat)
   | _,_ => .fail
  | _ => .fail
 | _,_ => .fail
def qK(P:Program)(t:TypeId)(x:SV):Q Dl:=match P.underlying t with
 | some (.slice _)=>match x with
  | .dsl _ xs=>c9 (.int .i64 xs.length)
  | .dsx _ xs=>c9 (.int .i64 xs.length)
  | .nilsl=>c9 (.int .i64 0)
  | .own n _ => .ask n fun
   | .live (.row _ _ xs)=>c9 (.int .i64 xs.length)
   | .live (.frz _ _ xs)=>c9 (.int .i64 xs.length)
   | _ => .fail
  | .csl _ k=>match Nat.ble k maxLen with
   | true=>c9 (.int .i64 k)
   | false => .fail
  | _ => .fail
 | _ => .fail
def OZ(x y:SV):Q Dl:=match x,y with
 | .int k a,.int k' b=>match j8 k k' with
  | true=>c9 (.int k (min a b))
  | false => .fail
 | _,_ => .fail
def NW(x y:SV):Q Dl:=match x,y with
 | .int k a,.int k' b=>match j8 k k' with
  | true=>c9 (.int k (max a b))
  | false => .fail
 | _,_ => .fail
section
variable {P:Program} {w0:World} {N0:fK} {A:Nat->Prop} {env:bj} {h:bX} {w:World} {o:Oper} {a:Act} {ρ:Nat->SV} {d:Dl} {r:List Nat}
theorem A7{t:TypeId}{cs:List SV}{off:Nat}{s:SV}{b:List Value}{k o:Nat}(e:mJ P t cs off=some s)(g:aO A env w cs b)
  (hc:∀ j,j<b.length->w.cell? ⟨k,o+j,none⟩=b[j]?) :
  ∃ v,(loadVar t ⟨k,o+off,none⟩).run P w = .ok v w/\az A env w s v:=by
 unfold mJ at e
 split at e
 next h=>
  split at e
  .rename_i n hn;split at e
   .rename_i c;cases e;have c:off+n<=cs.length:=lZ c;have hl:=jl g;have d:∃ f,P.underlying t=some f/\f.isRow=true:=by
     unfold rD at h;grind
    obtain⟨f,hu,i⟩:=d;have hi:(P.info? t).map (·.size)=some ((b.drop off).take n).length:=by
     unfold f8 at hn;grind
    refine⟨.agg ((b.drop off).take n).toArray,run_loadVar_mid w k (o+off) t _ f ?_ hu i hi,?_⟩
    .intro j v hj;grind
    .simp only[az];exact⟨_,rfl,by simpa using AK n (A8 off g)⟩
   .cases e
  .cases e
 next h=>rw[wc] at e;obtain⟨v,hv,l⟩:=ES _ _ g e;refine⟨v,?_,l⟩;have m:off<b.length:=(List.getElem?_eq_some_iff.1 hv).1;have a:=hc off m;rw[hv] at a;simp[loadVar,Sem.run_bind,Cp h w,a]
 .cases e
theorem BH{x:Option SV}(e:(yP x).run h=some (d,r)):∃ s,x=some s/\d = .det [] s []:=by
 cases x with
 | none=>cases e
 | some s=>exact⟨s,rfl,(cz e).symm⟩
theorem T3{s:TypeId}{f:Nat}{a:Field}(e:Iz P s f=some a):∃ b,P.underlying s=some (.struct b)/\b[f]? = some a:=by
 unfold Iz at e
 grind
theorem ag6(m:Mod w0 N0 A env h w)(f:FD A env w ρ a){s:TypeId}{x:Operand}{i:Nat}(ho:o.op = .field s x i)
  (e:(Pz P s i (bg ρ x)).run h=some (d,r)):bz P o a w0 N0 A env h w d:=by
 have c:=dh f x
 unfold Pz at e
 split at e
 next cs fd hx hf=>obtain⟨sv,e1,rfl⟩:=BH e;obtain⟨fs,hu,b⟩:=T3 hf;rw[hx] at c;obtain⟨vs,ev,dv⟩:=c;obtain⟨v,hr,hd⟩:=KB e1 dv;refine bz.pure m ?_ hd;unfold execOp;rw[ho];simp[Instr.field,run_underlying hu,b,ev,asAgg,hr]
 .cases e
theorem aQ2(m:Mod w0 N0 A env h w)(f:FD A env w ρ a){x:Operand}{i:Nat}(ho:o.op = .extract x i)
  (e:(Ot i (bg ρ x)).run h=some (d,r)):bz P o a w0 N0 A env h w d:=by
 have c:=dh f x
 unfold Ot at e
 split at e
 next cs hx=>
  obtain⟨sv,g,rfl⟩:=BH e;rw[hx] at c;obtain⟨vs,ev,dv⟩:=c;rw[wc] at g;obtain⟨v,hv,hd⟩:=ES _ _ dv g;have b:vs[i]? = some v:=by rw[← mr];exact hv
  refine bz.pure m ?_ hd;unfold execOp;rw[ho];simp[Instr.extract,ev,b]
 .cases e
theorem aQ3(m:Mod w0 N0 A env h w)(f:FD A env w ρ a){x:Operand}(k:o.op = .nilCheck x)
  (e:(NR (bg ρ x)).run h=some (d,r)):bz P o a w0 N0 A env h w d:=by
 have j:=dh f x
 unfold NR c9 at e
 split at e
 next n o' hx=>cases cz e;rw[hx] at j;have g:=j;obtain⟨b,l,p,ev⟩:=j;exact bz.pure m (by unfold execOp;rw[k];simp[ev]) g
 next n s i o' hx=>cases cz e;rw[hx] at j;have g:=j;obtain⟨b,l,p,hl,ev⟩:=j;exact bz.pure m (by unfold execOp;rw[k];simp[ev]) g
 next t d' o' hx=>cases cz e;rw[hx] at j;have g:=j;obtain⟨b,l,ev,p⟩:=j;exact bz.pure m (by unfold execOp;rw[k];simp[ev]) g
 next ff c hx=>cases cz e;rw[hx] at j;have g:=j;obtain⟨vs,ev,p⟩:=j;exact bz.pure m (by unfold execOp;rw[k];simp[ev]) g
 .cases e
theorem bL5(m:Mod w0 N0 A env h w)(f:FD A env w ρ a){s:TypeId}{x:Operand}{i:Nat}(ho:o.op = .fieldAddr s x i)
  (e:(Nk P s i (bg ρ x)).run h=some (d,r)):bz P o a w0 N0 A env h w d:=by
 have c:=dh f x
 unfold Nk at e
 split at e
 next fd hf=>
  obtain⟨fs,hu,g⟩:=T3 hf;split at e
  .rename_i z j;have k:∀(b off:Nat),a.eval x = .pointer (some ⟨b,off,none⟩)->(execOp a.eval o).run P w = .ok (.value (.pointer (some ⟨b,off+fd.offset,none⟩))) w:=by
    intro b off ev;unfold execOp;rw[ho];simp[Instr.fieldAt,run_underlying hu,g,ev,Instr.sureAddr,fieldPlace,lU j,Addr.add_lit]
   split at e
   next n o' hx=>cases cz e;rw[hx] at c;obtain⟨b,l,p,ev⟩:=c;exact bz.pure m (k b o' ev) (by simp only[az];exact⟨b,l,p,rfl⟩)
   next n s' i' o' hx=>cases cz e;rw[hx] at c;obtain⟨b,l,p,hl,ev⟩:=c;exact bz.pure m (k b _ ev) (by simp only[az];exact⟨b,l,p,hl,by rw[iz,iz]⟩)
   next t d' o' hx=>cases cz e;rw[hx] at c;obtain⟨b,l,ev,hA,hr⟩:=c;exact bz.pure m (k b _ ev) (by simp only[az];exact⟨b,l,by rw[iz],hA,hr⟩)
   .cases e
  .cases e
 .cases e
theorem Nv{t:CT}{xs:List t.D}{i:Nat}(hi:i<xs.length):mL t xs i=xs[i]:=by
 simp[mL,ct,hi]
theorem Dv{k:Nat}{len:Nat×Nat}{E:TypeId}{t:CT}{xs:List t.D}(hr:qG A w k len E t xs){i:Nat}(hi:i<len.2) :
  Rd A w t (λo=>w.cell? ⟨k,o,none⟩) (len.1+i*t.size) (mL t xs i):=by
 obtain⟨vs,cap,hh,h1,h2,h3,h4,h5⟩:=hr
 rw[Nv (by omega:i<xs.length)]
 refine iL (λ_ h=>h) (λ_ _ _=>rfl) t _ _ _ _ (λj _=>?_) (h5 i (by omega))
 rw[hh.cell]
theorem Lo{t:CT}{a:t.D}{k b off:Nat}{ty:TypeId}{s:SV}(hr:Rd A w t (λo=>w.cell? ⟨k,o,none⟩) b a)(e:mJ P ty (cQ t a) off=some s) :
  ∃ v,(loadVar ty ⟨k,b+off,none⟩).run P w = .ok v w/\az A env w s v:=by
 obtain⟨us,hl,hc,hd⟩:=xC t a _ b hr
 exact A7 e hd (λj hj=>hc j (by omega))
theorem DL(m:Mod w0 N0 A env h w){ty:TypeId}{x:Operand}(φ:Operand->SV)(k:az A env w (φ x) (a.eval x))(ho:o.op = .load ty x)
  (e:(yf P ty (φ x)).run h=some (d,r)):bz P o a w0 N0 A env h w d:=by
 have y:∀{b off:Nat}{v:Value},a.eval x = .pointer (some ⟨b,off,none⟩)->(loadVar ty ⟨b,off,none⟩).run P w = .ok v w->(execOp a.eval o).run P w = .ok (.value v) w:=by
  intro b off v ev f;unfold execOp;rw[ho];simp only[ev,Instr.loadAt,Instr.sureAddr,Sem.run_bind,Sem.run_pure,Result.andThen_ok,f]
 unfold yf at e
 split at e
 next n off hx=>
  rw[hx] at k;obtain⟨b,l,z,ev⟩:=k;simp only[Q.run] at e;split at e
  .rename_i p q hk;obtain⟨rfl,rfl⟩:=e;split at hk
   next E cs hl=>obtain⟨s,g,rfl⟩:=BH hk;obtain⟨⟨vs,hh,hd⟩,_⟩:=m.live_blk hl z;obtain⟨v,f,hv⟩:=A7 (o:=0) g hd (λj hj=>by rw[cell_of_row w b _ vs E (0,0) hh];simp);rw[gI] at f;exact bz.pure m (y ev f) hv
   .cases hk
  .cases e
 next n sz i off hx=>
  rw[hx] at k;obtain⟨b,l,z,u,ev⟩:=k;simp only[Q.run] at e;split at e
  .rename_i p q hk;obtain⟨rfl,rfl⟩:=e;split at hk
   .rename_i E t xs hl;split at hk
    next c=>have c:sz=t.size:=bK c;subst c;obtain⟨s,g,rfl⟩:=BH hk;obtain⟨v,f,hv⟩:=Lo (Dv (m.live_blk hl z).1 u) g;rw[iz] at f;exact bz.pure m (y ev f) hv
    .cases hk
   .rename_i E t xs hl;split at hk
    next c=>have c:sz=t.size:=bK c;subst c;obtain⟨s,g,rfl⟩:=BH hk;obtain⟨v,f,hv⟩:=Lo (Dv (m.live_blk hl z).1.2 u) g;rw[iz] at f;exact bz.pure m (y ev f) hv
    .cases hk
   .cases hk
  .cases e
 next t d' off hx=>rw[hx] at k;obtain⟨b,l,ev,hA,f⟩:=k;obtain⟨s,g,rfl⟩:=BH e;obtain⟨v,f,hv⟩:=Lo f g;exact bz.pure m (y ev f) hv
 .cases e
theorem Ak{t e:TypeId}{n:Nat}(hh:uT P t=some (e,n)):P.underlying t=some (.slice e)/\f8 P e=some n:=by
 unfold uT at hh
 grind
theorem YQ(m:Mod w0 N0 A env h w)(f:FD A env w ρ a){t:TypeId}{x i:Operand}(ho:o.op = .indexAddr t x i)
  (e:(Pt P t (bg ρ x) (bg ρ i)).run h=some (d,r)) (y:bS d.pre):bz P o a w0 N0 A env h w d:=by
 have dx:=dh f x
 have di:=dh f i
 unfold Pt at e
 split at e
 next k j E n hi he=>
  obtain⟨hu,hn⟩:=Ak he;rw[hi] at di;simp only[az] at di;have go:∀{b off len cap:Nat},a.eval x = .slice (some ⟨b,off,none⟩) len cap->0<=j->j<len →
    (execOp a.eval o).run P w = .ok (.value (.pointer (some ⟨b,off+j.toNat*n,none⟩))) w:=by
   intro b off len cap ev h0 s;unfold execOp;rw[ho];simp[Instr.indexAt,ev,di.1,asIntOf,run_underlying hu,lU hn,h0,s,Addr.add_lit]
  split at e
  .rename_i u xs hx;rw[hx] at dx;split at e
   .rename_i v;have v:n=u.size:=bK v;cases cz e;simp only[Dl.pre,bS,iC] at y;obtain⟨hlen,⟨_,rfl⟩|⟨b,off,cap,ev,s,h2,h3,h4⟩⟩:=dx
    .simp at y;try omega
    .refine bz.pure m (go ev y.1 y.2) ?_;have hlt:j.toNat<xs.length:=by omega
     exact⟨b,off+j.toNat*n,rfl,h3,by rw[Nv hlt,v];exact h4 _ hlt⟩
   .cases e
  .rename_i mm sz hx;rw[hx] at dx;simp only[Q.run] at e;split at e
   .rename_i p q hk;obtain⟨rfl,rfl⟩:=e;have fin:∀{E':TypeId}{u:CT}{xs:List u.D},(h mm = .live (.row E' u xs)∨h mm = .live (.frz E' u xs))->n=u.size->sz=u.size->0<=j->j<xs.length →
      bz P o a w0 N0 A env h w (.det [0<=j,j<xs.length] (.eptr mm sz j.toNat 0) []):=by
     intro E' u xs g hn' hsz' h0 s;rcases dx with⟨hnil,_⟩|⟨b,len,E2,c,hb,_,ev⟩
     .exfalso;have:=m.nm mm;rcases g with g|g <;> rw[g] at this <;> rcases this with⟨k',l',he',_⟩|⟨_,E3,t3,hb⟩
      .simp_all
      .grind
      .simp_all
      .grind
     .have hlen:xs.length=len.2:=by
       rcases g with g|g
       .obtain⟨vs,cap,_,_,h2,_⟩:=(m.live_blk g hb).1;exact h2
       .obtain⟨_,vs,cap,_,_,h2,_⟩:=(m.live_blk g hb).1;exact h2
      refine bz.pure m (go ev h0 (by omega)) ?_;simp only[az];grind
    split at hk
    .rename_i E' u xs g;split at hk
     next s h2=>cases cz hk;simp only[Dl.pre,bS,iC] at y;simp_all
     .cases hk
    .rename_i E' u xs g;split at hk
     next s h2=>cases cz hk;simp only[Dl.pre,bS,iC] at y;simp_all
     .cases hk
    .cases hk
   .cases e
  .rename_i mm kk hx;rw[hx] at dx;obtain⟨b,l,he',ev⟩:=dx;split at e
   next s h2=>have s:=bK s;simp only[fe,pD] at h2;cases cz e;exact bz.pure m (go ev h2.1 h2.2) (by simp only[az];exact⟨b,l,he',by rw[s,Nat.mul_one,gI]⟩)
   .cases e
  .cases e
 .cases e
theorem Bn{n:Nat}(h:n<=maxLen):IntKind.i64.has n:=by
 simp only[maxLen] at h
 exact⟨by have:IntKind.i64.min = -9223372036854775808:=by decide
          omega,by rw[IntKind.max_i64];omega⟩
theorem bz6(m:Mod w0 N0 A env h w)(f:FD A env w ρ a){t:TypeId}{x:Operand}(ho:o.op = .call {callee := .builtin .len,args := #[x],argTypes := #[t]})
  (e:(qK P t (bg ρ x)).run h=some (d,r)):bz P o a w0 N0 A env h w d:=by
 have dx:=dh f x
 unfold qK at e
 split at e
 next E hu=>
  have go:∀{p:Option Addr}{len cap:Nat},a.eval x = .slice p len cap->(execOp a.eval o).run P w = .ok (.value (.int .i64 len)) w:=by
   intro p len cap ev;unfold execOp;rw[ho];simp[resolve,invoke,builtin,Builtin.len_,run_underlying hu,ev,goInt]
  split at e
  .rename_i u xs hx;unfold c9 at e;cases cz e;rw[hx] at dx;simp only[az] at dx;obtain⟨hlen,⟨⟨p,ev⟩,rfl⟩|⟨b,off,cap,ev,_⟩⟩:=dx
   .exact bz.pure m (go ev) (by simp only[az];exact⟨by simp,Bn hlen⟩)
   .exact bz.pure m (go ev) (by simp only[az];exact⟨trivial,Bn hlen⟩)
  next u xs hx=>unfold c9 at e;cases cz e;rw[hx] at dx;simp only[az] at dx;obtain⟨hh,p,ev⟩:=dx;exact bz.pure m (go ev) (by simp only[az];exact⟨trivial,Bn hh.1⟩)
  next hx=>unfold c9 at e;cases cz e;rw[hx] at dx;simp only[az] at dx;exact bz.pure m (go dx) (by simp only[az];exact⟨by simp,Bn (n:=0) (by simp)⟩)
  .rename_i mm sz hx;rw[hx] at dx;simp only[az] at dx;simp only[Q.run] at e;split at e
   .rename_i p q hk;simp only[cE,cC] at e;obtain⟨rfl,rfl⟩:=e;have fin:∀{E':TypeId}{u:CT}{xs:List u.D},(h mm = .live (.row E' u xs)∨h mm = .live (.frz E' u xs)) →
      bz P o a w0 N0 A env h w (.det [] (.int .i64 xs.length) []):=by
     intro E' u xs hl;rcases dx with⟨hnil,p,ev⟩|⟨b,len,E2,c,hb,_,ev⟩
     .have hx:xs.length=0:=by
       have:=m.nm mm;rcases hl with hl|hl <;> rw[hl] at this <;> rcases this with⟨k',l',he',_⟩|⟨_,E3,t3,hb⟩
       .rw[hnil] at he';cases he'
       .rcases hb with hb|hb <;> cases hb;rfl
       .rw[hnil] at he';cases he'
       .rcases hb with hb|hb <;> cases hb;rfl
      exact bz.pure m (go ev) (by simp only[az];rw[hx];exact⟨by simp,Bn (n:=0) (by simp)⟩)
     .have hlen:xs.length=len.2/\len.2<=maxLen:=by
       rcases hl with hl|hl
       .obtain⟨vs,cap,_,_,h2,h3,h4,_⟩:=(m.live_blk hl hb).1;exact⟨h2,by omega⟩
       .obtain⟨_,vs,cap,_,_,h2,h3,h4,_⟩:=(m.live_blk hl hb).1;exact⟨h2,by omega⟩
      exact bz.pure m (go ev) (by simp only[az];rw[hlen.1];exact⟨rfl,Bn hlen.2⟩)
    split at hk
    next E' u xs hl=>unfold c9 at hk;cases cz hk;exact fin (.inl hl)
    next E' u xs hl=>unfold c9 at hk;cases cz hk;exact fin (.inr hl)
    .cases hk
   .cases e
  .rename_i mm kk hx;rw[hx] at dx;simp only[az] at dx;obtain⟨b,l,he',ev⟩:=dx;split at e
   next h1=>unfold c9 at e;cases cz e;exact bz.pure m (go ev) (by simp only[az];exact⟨trivial,Bn (lZ h1)⟩)
   .cases e
  .cases e
 .cases e
theorem br4(m:Mod w0 N0 A env h w)(f:FD A env w ρ a){ts:Array TypeId}{x y:Operand}(ho:o.op = .call {callee := .builtin .min,args := #[x,y],argTypes:=ts})
  (e:(OZ (bg ρ x) (bg ρ y)).run h=some (d,r)):bz P o a w0 N0 A env h w d:=by
 have dx:=dh f x
 have dy:=dh f y
 unfold OZ at e
 split at e
 next k u k' v hx hy=>
  split at e
  .rename_i hk;cases kK hk;unfold c9 at e;cases cz e;rw[hx] at dx;rw[hy] at dy;simp only[az] at dx dy;refine bz.pure m (v := .int k (min u v)) ?_ (by simp only[az];refine⟨trivial,?_⟩;rcases Int.le_total u v with hh|hh;rw[Int.min_eq_left hh];exact dx.2;rw[Int.min_eq_right hh];exact dy.2);unfold execOp;rw[ho];have hm:(if v<u then v else u)=min u v:=by split <;> omega
   simp[resolve,invoke,builtin,dx.1,dy.1,run_min_int2,hm]
  .cases e
 .cases e
theorem Y2(m:Mod w0 N0 A env h w)(f:FD A env w ρ a){ts:Array TypeId}{x y:Operand}(ho:o.op = .call {callee := .builtin .max,args := #[x,y],argTypes:=ts})
  (e:(NW (bg ρ x) (bg ρ y)).run h=some (d,r)):bz P o a w0 N0 A env h w d:=by
 have dx:=dh f x
 have dy:=dh f y
 unfold NW at e
 split at e
 next k u k' v hx hy=>
  split at e
  .rename_i hk;cases kK hk;unfold c9 at e;cases cz e;rw[hx] at dx;rw[hy] at dy;simp only[az] at dx dy;refine bz.pure m (v := .int k (max u v)) ?_ (by simp only[az];refine⟨trivial,?_⟩;rcases Int.le_total u v with hh|hh;rw[Int.max_eq_right hh];exact dy.2;rw[Int.max_eq_left hh];exact dx.2);unfold execOp;rw[ho];have hm:(if u<v then v else u)=max u v:=by split <;> omega
   simp[resolve,invoke,builtin,dx.1,dy.1,run_max_int2,hm]
  .cases e
 .cases e
end
end Go.SX
namespace Go.SX
def zV(s:SV):Option (List SV):=match s with
 | .agg cs=>match wo cs with
  | true=>some cs
  | false=>none
 | s=>match s.one with
  | true=>some [s]
  | false=>none
def zeroCells(P:Program)(E:TypeId):Option (List SV):=match P.info? E with
 | some i=>match i.zero with
  | some (.agg cs)=>match wo (cs.toList.map zd) with
   | true=>some (cs.toList.map zd)
   | false=>none
  | some v=>match (zd v).one with
   | true=>some [zd v]
   | false=>none
  | none=>none
 | none=>none
def B3(E:TypeId)(nm:Nat)(cs:Option (List SV)):Q Dl := .ask nm fun
 | .un=>match cs with
  | some cs => .ret (.det [] (.ptr nm 0) [(nm,.live (.cells E cs))])
  | none => .fail
 | _ => .fail
def qQ(cs:List SV)(off:Nat)(vs:List SV):List SV:=cs.take off++(vs++cs.drop (off+vs.length))
def zT(n:Nat):List (Nat×Nm)->Bool
 | []=>true
 | (m,_)::r => !Nat.beq n m&&zT n r
def Bd(P:Program)(ty:TypeId)(x y:SV):Q Dl:=match zV y,f8 P ty with
 | some vs,some n=>match Nat.beq n vs.length with
  | true=>match x with
   | .ptr m off => .ask m fun
    | .live (.cells E cs)=>match Nat.ble (off+vs.length) cs.length with
     | true => .ret (.det [] (.cv undef) [(m,.live (.cells E (qQ cs off vs)))])
     | false => .fail
    | _ => .fail
   | .eptr m sz i off => .ask m fun
    | .live (.row E t xs)=>match Nat.beq sz t.size,Nat.ble (off+vs.length) t.size with
     | true,true=>(kW t (qQ (cQ t (mL t xs i)) off vs)).bind λp=>match zT m p.2.2 with
      | true => .ret (.det [] (.cv undef) ((m,.live (.row E t (xs.set i p.1)))::p.2.2))
      | false => .fail
     | _,_ => .fail
    | _ => .fail
   | _ => .fail
  | false => .fail
 | _,_ => .fail
section
variable {P:Program} {w0:World} {N0:fK} {A:Nat->Prop} {env:bj} {h:bX} {w:World} {o:Oper} {a:Act} {ρ:Nat->SV} {d:Dl} {r:List Nat}
theorem MF{v:Value}(h:v.oneCell'=true):v.cells = #[v]:=by cases v <;> first|rfl|cases h
theorem FW{s:SV}{cs:List SV}{v:Value}(e:zV s=some cs)(hd:az A env w s v):aO A env w cs v.cells.toList∧∀ u∈v.cells.toList,u.oneCell'=true:=by
 unfold zV at e
 split at e
 next cs'=>
  split at e
  next ho=>cases e;simp only[az] at hd;obtain⟨vs,rfl,hd⟩:=hd;exact⟨hd,Fy hd ho⟩
  .cases e
 .split at e
  next ho=>cases e;have h1:=NJ hd ho;rw[MF h1];exact⟨by simp only[aO];exact⟨v,[],rfl,hd,rfl⟩,by simpa using h1⟩
  .cases e
theorem fb.fresh(m:Mod w0 N0 A env h w){nm:Nat}(hn:h nm = .un){b:lC}{len:Nat×Nat}{s:SV}{v:Value}{w':World}(hm:b.mut=true)(k:Nat)(hk:w.heap.size<=k)
  (c:da w w' λ_=>False) (hb:∀ x:dH A env w A (env.set nm (.blk k len)) w',kg A (env.set nm (.blk k len)) w' k len b)
  (hd:az A (env.set nm (.blk k len)) w' s v):fb w0 N0 A env h w (.det [] s [(nm,.live b)]) v w':=by
 have hu:env nm = .un:=by have:=m.nm nm;rw[hn] at this;exact this
 have hA:¬ A k:=λhA=>by have:=m.Alt k hA;omega
 have x:dH A env w A (env.set nm (.blk k len)) w':=m.xt c (λ_ h=>h.elim) λn hn=>bj.set_other _ _ λe=>hn (e▸hu)
 have u:=lG.fresh m hn (o:=default) hm k hk hA c (hb x)
 exact⟨(),A,env.set nm (.blk k len),aN,m.upd u,x,hd⟩
theorem Rb(m:Mod w0 N0 A env h w){E:TypeId}{nm:Nat}{cs:List SV}(hn:h nm = .un){vs:Array Value}(hd:aO A env w cs vs.toList) :
  fb w0 N0 A env h w (.det [] (.ptr nm 0) [(nm,.live (.cells E cs))]) (.pointer (some ⟨w.heap.size,0,none⟩)) (w.alloc (.cells vs E)):=by
 refine fb.fresh m hn (len:=(0,0)) rfl w.heap.size (eT _) (da.alloc w _ _) (λx=>⟨vs,heap_alloc_new w _,Bk x _ _ hd⟩) ?_
 simp only[az]
 exact⟨_,(0,0),bj.set_same _ _ _,rfl⟩
theorem Qk{E:TypeId}{nm:Nat}{cs:Option (List SV)}(e:(B3 E nm cs).run h=some (d,r)) :
  h nm = .un∧∃ c,cs=some c/\d = .det [] (.ptr nm 0) [(nm,.live (.cells E c))]:=by
 simp only[B3,Q.run] at e
 split at e
 next p q hk=>
  simp only[cE,cC] at e;obtain⟨rfl,rfl⟩:=e;split at hk
  .rename_i hun;split at hk
   .exact⟨hun,_,rfl,(cz hk).symm⟩
   .cases hk
  .cases hk
 .cases e
theorem bv2(m:Mod w0 N0 A env h w)(f:FD A env w ρ a){E:TypeId}{x:Operand}{nm:Nat}(ho:o.op = .box E x)
  (e:(B3 E nm (zV (bg ρ x))).run h=some (d,r)):bz P o a w0 N0 A env h w d:=by
 obtain⟨hun,c,hc,rfl⟩:=Qk e
 obtain⟨h1,h2⟩:=FW hc (dh f x)
 refine⟨_,_,.inl ?_,Rb m hun h1⟩
 unfold execOp;rw[ho]
 simp[Instr.box,newVar,newRow]
theorem Bf{E:TypeId}{cs:List SV}(e:zeroCells P E=some cs):∃ i z,P.info? E=some i/\i.zero=some z/\aO A env w cs z.cells.toList∧∀ u∈z.cells.toList,u.oneCell'=true:=by
 have key:∀ l:List Value,aO A env w (l.map zd) l:=by
  intro l
  induction l with
  | nil=>simp[aO]
  | cons v l ih=>simp only[fV,aO];exact⟨v,l,rfl,Hk v,ih⟩
 unfold zeroCells at e
 split at e
 next i hi=>
  split at e
  .rename_i cs' hz;split at e
   next ho=>cases e;exact⟨i,_,hi,hz,key _,Fy (A:=A) (env:=env) (w:=w) (key _) ho⟩
   .cases e
  .rename_i v hna hz;split at e
   .rename_i ho;cases e;have h1:=NJ (A:=A) (env:=env) (w:=w) (Hk v) ho;refine⟨i,v,hi,hz,?_,?_⟩
    .rw[MF h1];simp only[aO];exact⟨v,[],rfl,Hk v,rfl⟩
    .rw[MF h1];simpa using h1
   .cases e
  .cases e
 .cases e
theorem ac3(m:Mod w0 N0 A env h w){E:TypeId}{nm:Nat}(ho:o.op = .alloc E)
  (e:(B3 E nm (zeroCells P E)).run h=some (d,r)):bz P o a w0 N0 A env h w d:=by
 obtain⟨hun,c,hc,rfl⟩:=Qk e
 obtain⟨i,z,hi,hz,h1,h2⟩:=Bf (A:=A) (env:=env) (w:=w) hc
 refine⟨_,_,.inl ?_,Rb m hun h1⟩
 unfold execOp;rw[ho]
 simp[Instr.alloc,zeroValue,typeInfo,hi,hz,newVar,newRow]
theorem J3:∀{fz:List (Nat×Nm)},pV h fz→∀{n:Nat},(∃ b,(n,b)∈fz)→∃ E t xs,h n = .live (.row E t xs)/\dA fz h n = .live (.frz E t xs)
 | [],_,n,hn=>by obtain⟨b,hb⟩:=hn;simp at hb
 | (m,b)::fz,ok,n,hn=>by
  by_cases hnm:n=m
  .subst hnm;obtain⟨E,t,xs,h1,h2⟩:=ok n b aw;exact⟨E,t,xs,h1,by simp[dA,h2]⟩
  .have hn':∃ b,(n,b)∈fz:=by
    obtain⟨b',hb'⟩:=hn;rcases eZ.1 hb' with hh|hh
    .cases hh;exact absurd rfl hnm
    .exact⟨b',hh⟩
   obtain⟨E,t,xs,h1,h2⟩:=J3 (fz:=fz) (λn b hb=>ok n b (fu _ hb)) hn';exact⟨E,t,xs,h1,by rw[dA,bX.set_other _ _ hnm];exact h2⟩
def jd(A:Nat->Prop)(env:bj)(fz:List (Nat×Nm)):Nat->Prop:=λb=>A b∨iN env fz b
theorem QY(m:Mod w0 N0 A env h w){fz:List (Nat×Nm)}(ok:pV h fz) :
  lG (λn=>∃ b,(n,b)∈fz) (λ_=>False) A env h w (jd A env fz) env (dA fz h) w:=by
 have x:dH A env w (jd A env fz) env w:=⟨⟨λb hb=>.inl hb,λ_ _ _ h=>h,λ_ h=>h,λ_ _ _=>rfl,λ_ _ h=>h,λ_ _ _ h=>h⟩,λ_ h=>h⟩
 refine⟨da.refl w _,λ_ h=>h.elim,λb hb=>.inl hb,?_,λ_ _=>rfl,λ_ _=>rfl,?_,?_,?_,?_⟩
 .rintro b (hb|⟨n,nb,l,hn,he⟩)
  .exact .inl hb
  .obtain⟨E,t,xs,h1,_⟩:=ok n nb hn;exact .inr ⟨.inr ⟨n,_,l,⟨nb,hn⟩,h1,rfl,he⟩,(m.live_blk h1 he).1.lt⟩
 .intro n hn;exact qH (λhh=>by
   obtain⟨p,hp,rfl⟩:=List.mem_map.1 hh;exact hn ⟨p.2,hp⟩)
 .rintro n ⟨b,hn⟩;obtain⟨E,t,xs,h1,h2⟩:=J3 ok ⟨b,hn⟩;rw[h2];have:=m.nm n;rw[h1] at this;rcases this with⟨k,l,he,hb,hA⟩|⟨he,E',t',hb⟩
  .refine .inl ⟨k,l,he,⟨.inr ⟨n,b,l,hn,he⟩,Nt x.toEx1 rfl hb⟩,λhm=>by cases hm⟩
  .refine .inr ⟨he,E',t',.inr ?_⟩;rcases hb with hb|hb <;> cases hb;rfl
 .rintro n b k l ⟨b',hn⟩ hl hm he;obtain⟨E,t,xs,h1,h2⟩:=J3 ok ⟨b',hn⟩;rw[h2] at hl;cases hl;cases hm
 .rintro n n' b c k l l' ⟨b',hn⟩ _ hl _ hm;obtain⟨E,t,xs,h1,h2⟩:=J3 ok ⟨b',hn⟩;rw[h2] at hl;cases hl;cases hm
theorem Mod.freeze(m:Mod w0 N0 A env h w){fz:List (Nat×Nm)}(ok:pV h fz) :
  Mod w0 N0 (jd A env fz) env (dA fz h) w/\dH A env w (jd A env fz) env w :=
 ⟨m.upd (QY m ok),m.ext (QY m ok)⟩
theorem D6{cs vs:List SV}{us ws:List Value}{off:Nat}(h1:aO A env w cs us)(h2:aO A env w vs ws) :
  aO A env w (qQ cs off vs) (us.take off++(ws++us.drop (off+ws.length))):=by
 have hl:=jl h2
 rw[hl]
 exact su (AK _ h1) (su h2 (A8 _ h1))
theorem Hc.setRow{q:Prop}{w:World}{k:Nat}{vs us:Array Value}{E:TypeId}(h:Hc q w k vs E)(hs:us.size=vs.size):Hc q (w.setRow k us) k us E :=
 let ⟨f,h,q⟩:=h;⟨f,setRow_heap w k vs us E f h,q.imp id λq=>⟨q.1,hs▸q.2⟩⟩
theorem PD{P:Program}{q:Prop}(g o:Nat)(t:TypeId):∀(vs:List Value)(i:Nat)(cur:Array Value)(w:World),Hc q w g cur t->o+i+vs.length<=cur.size->(∀ v∈vs,v.oneCell'=true) →
  (storeCells ⟨g,o,none⟩ vs i).run P w = .ok () (w.setRow g (cur.toList.take (o+i)++vs++cur.toList.drop (o+i+vs.length)).toArray)
 | [],i,cur,w,hg,_,_=>by
  obtain⟨f,h,_⟩:=hg;simp only[storeCells,kY,List.length_nil,kP,nZ,Array.toArray_toList];rw[setRow_self w g cur t f h];rfl
 | v::rest,i,cur,w,hg,hl,h1=>by
  have hi:o+i<cur.size:=by simp at hl;omega
  have hadd:(⟨g,o,none⟩:Addr).add i=⟨g,o+i,none⟩:=by unfold Addr.add;split <;> simp_all
  have hcell:w.cell? ⟨g,o+i,none⟩=some cur[o+i]:=by rw[hg.cell];simp[hi]
  have ih:=PD (P:=P) g o t rest (i+1) (cur.setIfInBounds (o+i) v) (w.setRow g (cur.setIfInBounds (o+i) v)) (hg.setRow aw) (by simp at hl ⊢;omega) (λx hx=>h1 x (by simp[hx]));obtain⟨⟨f,f'⟩,hg,hq⟩:=hg;have hfro:w.frozen? ⟨g,o+i,none⟩=false:=by
   simp only[World.frozen?,hg,Bool.and_eq_false_iff,sF];rcases hq with hq|⟨_,hq⟩
   .cases hq;exact .inr ab
   .simp only at hq;exact .inl ab
  have hst:(store ((⟨g,o,none⟩:Addr).add i) v).run P w = .ok () (w.setRow g (cur.setIfInBounds (o+i) v)):=by
   rw[hadd,run_store P w _ v _ (h1 v aw),hcell];simp[hfro,setCell_eq_setRow w g (o+i) cur t (f,f') v hg]
  simp only[storeCells,Sem.run_bind,hst,Result.andThen_ok,ih,setRow_setRow];congr 3;have e:=list_seg_step cur.toList (o+i) v rest (by simp at hl ⊢;omega);simpa[Array.toList_setIfInBounds,iz] using e
theorem da.setRow{q:Prop}(w:World)(k:Nat)(vs us:Array Value)(E:TypeId)(hk:Hc q w k vs E)(hs:us.size=vs.size):da w (w.setRow k us) λj=>j=k:=by
 refine⟨rfl,rfl,rfl,eT _,aw,λj _ hj=>setRow_other w k j us hj,?_⟩
 intro j s hj
 by_cases hjk:j=k
 .subst hjk;rw[(hk.setRow hs).shape,hs,← hk.shape];exact hj
 .unfold World.shape? at hj ⊢;rw[setRow_other w k j us hjk];exact hj
theorem IZ{q:Prop}{ty:TypeId}{k off:Nat}{v:Value}{vs:Array Value}{E:TypeId}(hk:Hc q w k vs E)(hsz:f8 P ty=some v.cells.size)
  (hfit:off+v.cells.size<=vs.size) (h1:∀ u∈v.cells.toList,u.oneCell'=true) :
  (storeVar ty ⟨k,off,none⟩ v).run P w = .ok () (w.setRow k (vs.toList.take off++v.cells.toList++vs.toList.drop (off+v.cells.size)).toArray):=by
 have hst:=PD (P:=P) k off E v.cells.toList 0 vs w hk (by simpa using hfit) h1
 simp only[kP,fQ] at hst
 simp[storeVar,lU hsz,hst]
theorem DF{n:Nat}:∀{fz:List (Nat×Nm)},zT n fz=true->n ∉ fz.map (·.1)
 | [],_=>aw
 | (m,b)::fz,h=>by
  simp only[zT,fe,pF] at h;simp only[fV,eZ,not_or];exact⟨λe=>by rw[e,yr] at h;exact absurd h.1 aw,DF h.2⟩
theorem FN(m:Mod w0 N0 A env h w)(f:FD A env w ρ a){ty:TypeId}{x y:Operand}(ho:o.op = .store ty x y)
  (e:(Bd P ty (bg ρ x) (bg ρ y)).run h=some (d,r)):bz P o a w0 N0 A env h w d:=by
 have dx:=dh f x
 have dy:=dh f y
 unfold Bd at e
 split at e
 next vs n hc hn=>
  obtain⟨dv,h1⟩:=FW hc dy;have hlv:=jl dv;split at e
  .rename_i hb;have hb:n=vs.length:=bK hb;have hsz:f8 P ty=some (a.eval y).cells.size:=by rw[hn,hb,← hlv,fQ]
   have go:∀{b off:Nat}{w':World},a.eval x = .pointer (some ⟨b,off,none⟩)->(storeVar ty ⟨b,off,none⟩ (a.eval y)).run P w = .ok () w'→(execOp a.eval o).run P w = .ok .skip w':=by
    intro b off w' ev hr;unfold execOp;rw[ho];simp only[ev,Instr.storeAt,Instr.sureAddr,Sem.run_bind,Sem.run_pure,Result.andThen_ok,hr]
   split at e
   .rename_i mm off hx;rw[hx] at dx;simp only[az] at dx;obtain⟨b,l,he,ev⟩:=dx;simp only[Q.run] at e;split at e
    .rename_i p q hk;simp only[cE,cC] at e;obtain⟨rfl,rfl⟩:=e;split at hk
     .rename_i E cs hl;split at hk
      .rename_i hle;have hle:off+vs.length<=cs.length:=lZ hle;cases cz hk;obtain⟨⟨us,hh,hd⟩,_⟩:=m.live_blk hl he;have hlu:=jl hd;have hfit:off+(a.eval y).cells.size<=us.size:=by rw[← fQ,hlv,← fQ,hlu];exact hle
       have hrun:=IZ (.of (q:=True) hh) hsz hfit h1;refine⟨undef,_,.inr ⟨go ev hrun,rfl⟩,?_⟩;have hdR:=D6 (off:=off) hd dv;have c:=da.setRow w b us (us.toList.take off++(a.eval y).cells.toList++us.toList.drop (off+(a.eval y).cells.size)).toArray E (.of (q:=True) hh)
        (by simp only[rT,cL,dG,ib,fQ];omega)
       have x:dH A env w A env (w.setRow b (us.toList.take off++(a.eval y).cells.toList++us.toList.drop (off+(a.eval y).cells.size)).toArray) :=
        m.xt c (λk hk=>⟨_,_,_,hl,rfl,hk▸he⟩) λ_ _=>rfl
       have u:=lG.write (b' := .cells E (qQ cs off vs)) m hl rfl he c ⟨_,setRow_heap w b us _ E _ hh,by
        have:=Bk x _ _ hdR;simpa[je] using this⟩ rfl
       exact⟨(),A,env,aN,m.upd u,m.ext u,by simp only[Dl.val,az]⟩
      .cases hk
     .cases hk
    .cases e
   .rename_i mm sz i off hx;rw[hx] at dx;simp only[az] at dx;obtain⟨b,l,he,hil,ev⟩:=dx;rw[← iz] at ev;simp only[Q.run] at e;split at e
    .rename_i p q hk;simp only[cE,cC] at e;obtain⟨rfl,rfl⟩:=e;split at hk
     .rename_i E t xs hl;split at hk
      .rename_i hs1 hle;have hs1:sz=t.size:=bK hs1;have hle:off+vs.length<=t.size:=lZ hle;subst hs1;obtain⟨⟨d',rest,fz⟩,r1,r2,e1,e2,rfl⟩:=Q.run_bind _ _ _ hk;simp only at e2;split at e2
       .rename_i hni;cases cz e2;have hni:=DF hni;obtain⟨us,cap,hh,hus,hxl,hlc,hcm,hrd⟩:=(m.live_blk hl he).1;have hix:i<xs.length:=ab;obtain⟨es,hel,hec,hed⟩:=xC (env:=env) t (mL t xs i) _ _ (Dv (m.live_blk hl he).1 hil);have hdR:=D6 (off:=off) hed dv;have hle':(cQ t (mL t xs i)).length=t.size:=ED _ _;obtain⟨ok,_,hlen,hrd',_⟩:=u9 m t _ _ d' rest fz r1 e1 hdR (A':=jd A env fz) (λb hb=>.inl hb) (λk hk'=>.inr hk');obtain⟨m2,x2⟩:=m.freeze ok;have hl2:dA fz h mm = .live (.row E t xs):=by rw[qH hni];exact hl
        have hpos:l.1+i*t.size+t.size<=us.size:=by
         rw[hus];have:(i+1)*t.size<=cap*t.size:=mQ _ ab;rw[gY,nA] at this;omega
        have hsv:(a.eval y).cells.size=vs.length:=by rw[← fQ,hlv]
        have hfit:l.1+i*t.size+off+(a.eval y).cells.size<=us.size:=ab;have hrun:=IZ hh hsz hfit h1;refine⟨undef,_,.inr ⟨go ev hrun,rfl⟩,?_⟩;have c:=da.setRow w b us (us.toList.take (l.1+i*t.size+off)++(a.eval y).cells.toList++us.toList.drop (l.1+i*t.size+off+(a.eval y).cells.size)).toArray E hh
         (by simp only[rT,cL,dG,ib,fQ];omega)
        have x3:dH (jd A env fz) env w (jd A env fz) env (w.setRow b (us.toList.take (l.1+i*t.size+off)++(a.eval y).cells.toList++us.toList.drop (l.1+i*t.size+off+(a.eval y).cells.size)).toArray) :=
         m2.xt c (λk hk=>⟨_,_,_,hl2,rfl,hk▸he⟩) λ_ _=>rfl
        have hrow:qG (jd A env fz) (w.setRow b (us.toList.take (l.1+i*t.size+off)++(a.eval y).cells.toList++us.toList.drop (l.1+i*t.size+off+(a.eval y).cells.size)).toArray) b l E t (xs.set i d'):=by
         refine⟨_,cap,hh.setRow (by simp only[rT,cL,dG,ib,fQ];omega),?_,by simpa using hxl,hlc,hcm,?_⟩
         .simp only[rT,cL,dG,ib,fQ];omega
         .intro j hj;have hj':j<xs.length:=by simpa using hj
          rw[List.getElem_set];have cellAt:∀ p,(us.toList.take (l.1+i*t.size+off)++(a.eval y).cells.toList++us.toList.drop (l.1+i*t.size+off+(a.eval y).cells.size)).toArray[p]? =
            if p<l.1+i*t.size+off then us[p]? else if p<l.1+i*t.size+off+vs.length then (a.eval y).cells[p-(l.1+i*t.size+off)]? else us[p]? := by
           intro p;rw[List.getElem?_toArray,je,List.getElem?_append];simp only[dG,fQ];rw[show min (l.1+i*t.size+off) us.size=l.1+i*t.size+off from by omega];split
           next hp=>rw[vw,aj hp,mr]
           .rename_i hp;rw[List.getElem?_append];simp only[fQ,hsv];by_cases h2:p<l.1+i*t.size+off+vs.length
            .rw[aj ab,aj h2,mr]
            .rw[ah ab,ah h2,wH,mr];congr 1;omega
          split
          .rename_i hij;subst hij;have hsh:=AC hrd' (l.1+i*t.size);rw[gI] at hsh;refine iL (λ_ h=>h) x3.keep t _ _ _ _ (λq hq=>?_) hsh;rw[cellAt];have hq2:l.1+i*t.size+q-(l.1+i*t.size)=q:=ab;simp only[hq2];have hel':es.length=t.size:=hel;have hecq:=hec q hq;rw[hh.cell] at hecq;rw[List.getElem?_append];simp only[dG,hel'];rw[show min off t.size=off from by omega];by_cases c1:q<off
           .rw[aj ab,aj c1,vw,aj c1,hecq]
           .rw[ah ab,ah c1,List.getElem?_append];simp only[fQ,hsv];by_cases c2:q<off+vs.length
            .rw[aj ab,aj ab,mr];congr 1;omega
            .rw[ah ab,ah ab,wH,hecq];congr 1;omega
          .rename_i hij;refine iL (λb hb=>.inl hb) (λb' o' hb'=>x3.keep b' o' (.inl hb')) t _ _ _ _ (λq hq=>?_) (hrd j hj');rw[cellAt];have hjt:j*t.size+t.size<=i*t.size∨i*t.size+t.size<=j*t.size:=by
            rcases Nat.lt_or_gt_of_ne hij with hlt|hlt
            .right;have:(i+1)*t.size<=j*t.size:=mQ _ ab;rw[gY,nA] at this;exact this
            .left;have:(j+1)*t.size<=i*t.size:=mQ _ ab;rw[gY,nA] at this;exact this
           rcases hjt with hjt|hjt
           .rw[aj ab]
           .rw[ah ab,ah ab]
        have u:=lG.write (b' := .row E t (xs.set i d')) m2 hl2 rfl he c hrow rfl;exact⟨(),_,env,aN,m2.upd u,x2.trans (m2.ext u),by simp only[Dl.val,az]⟩
       .cases e2
      .cases hk
     .cases hk
    .cases e
   .cases e
  .cases e
 .cases e
end
end Go.SX
namespace Go.SX
def Ns(P:Program)(t:TypeId)(i:Nat):Option (Nat×Nat):=match P.underlying t with
 | some (.struct fs)=>match fs[i]? with
  | some f=>match f8 P f.type with
   | some n=>some (f.offset,n)
   | none=>none
  | none=>none
 | some (.array _ e)=>match f8 P e with
  | some n=>some (i*n,n)
  | none=>none
 | _=>none
def NH(P:Program):List Field->Bool
 | []=>true
 | f::fs=>(f8 P f.type).isSome&&NH P fs
def xz(P:Program)(place:Nat->Option (Nat×Nat)):List SV->List (Nat×SV)->Option (List SV)
 | cs,[]=>some cs
 | cs,(i,v)::r=>match place i,zV v with
  | some (off,n),some vs=>match Nat.beq vs.length n,Nat.ble (off+n) cs.length with
   | true,true=>xz P place (qQ cs off vs) r
   | _,_=>none
  | _,_=>none
def XZ(P:Program)(t:TypeId):Bool:=match P.underlying t with
 | some (.struct fs)=>NH P fs.toList
 | some (.array _ e)=>(f8 P e).isSome
 | _=>false
def P7(P:Program)(t:TypeId)(ps:List (Nat×SV)):Q Dl:=match XZ P t,zeroCells P t with
 | true,some z=>match xz P (Ns P t) z ps with
  | some cs=>c9 (.agg cs)
  | none => .fail
 | _,_ => .fail
def QO(c:CT):Nat->Option CT
 | 0=>none
 | 1=>some c
 | n+1=>match QO c n with
  | some u=>some (.pair c u)
  | none=>none
def AV(P:Program):Nat->TypeId->Option CT
 | 0,_=>none
 | n+1,t=>match P.underlying t with
  | some (.int k)=>some (.int k)
  | some .bool=>some .bool
  | some .string=>some .str
  | some (.slice e)=>match AV P n e with
   | some c=>some (.sl c)
   | none=>none
  | some (.array k e)=>match AV P n e with
   | some c=>QO c k
   | none=>none
  | some (.struct fs)=>ctAll (AV P n) fs.toList
  | _=>none
 where
 ctAll (f:TypeId->Option CT):List Field->Option CT
  | []=>none
  | [x]=>f x.type
  | x::xs=>match f x.type,ctAll f xs with
   | some a,some b=>some (.pair a b)
   | _,_=>none
def ML(t:CT):Nat->List SV->Q (List t.D×List (Nat×Nm))
 | 0,_ => .ret ([],[])
 | n+1,cs=>(kW t cs).bind λp=>(ML t n p.2.1).bind λq=>.ret (p.1::q.1,p.2.2++q.2)
def mb{α:Type}(l:List α):Nat->List α
 | 0=>[]
 | n+1=>l++mb l n
def Ll(P:Program)(t:TypeId)(len nm:Nat)(ps:List (Nat×SV)):Q Dl:=match uT P t with
 | some (e,sz)=>match AV P 8 e,zeroCells P e with
  | some u,some z=>match Nat.beq u.size sz,Nat.beq z.length sz,Nat.ble (len*sz) 16777216,xz P (λi=>some (i*sz,sz)) (mb z len) ps with
   | true,true,true,some cs=>(ML u len cs).bind λp=>.ask nm fun
    | .un=>match zT nm p.2 with
     | true => .ret (.det [] (.own nm sz) ((nm,.live (.row e u p.1))::p.2))
     | false => .fail
    | _ => .fail
   | _,_,_,_ => .fail
  | none,some z=>match Nat.beq z.length sz,Nat.beq sz 1,Nat.ble 1 len&&Nat.ble len 16777216,xz P (λi=>some (i*sz,sz)) (mb z len) ps with
   | true,true,true,some cs => .ask nm fun
    | .un => .ret (.det [] (.csl nm len) [(nm,.live (.cells e cs))])
    | _ => .fail
   | _,_,_,_ => .fail
  | _,_ => .fail
 | none => .fail
def Ou(P:Program)(t:TypeId)(nm:Nat)(l c:SV):Q Dl:=match uT P t,l,c with
 | some (e,sz),.int _ l,.int _ c=>match AV P 8 e,zeroCells P e,P.info? e with
  | some u,some z,some i=>match Nat.beq u.size sz,Nat.beq z.length sz,Nat.ble 1 i.bytes,kW u z with
   | true,true,true,.ret (d,_,[]) => .ask nm fun
    | .un => .ret (.det [0<=l,l<=c,(i.bytes:Int)*c<=281474976710656] (.own nm sz) [(nm,.live (.row e u (replicate l.toNat d)))])
    | _ => .fail
   | _,_,_,_ => .fail
  | _,_,_ => .fail
 | _,_,_ => .fail
def xQ(t:CT)(x:SV):Q (List t.D):=match x with
 | .dsl u ys=>match iK u t ys with
  | some ys => .ret ys
  | none => .fail
 | .dsx u ys=>match iK u t ys with
  | some ys => .ret ys
  | none => .fail
 | .nilsl => .ret []
 | .own n sz => .ask n fun
  | .live (.row _ u ys)=>match Nat.beq sz u.size,iK u t ys with
   | true,some ys => .ret ys
   | _,_ => .fail
  | .live (.frz _ u ys)=>match Nat.beq sz u.size,iK u t ys with
   | true,some ys => .ret ys
   | _,_ => .fail
  | _ => .fail
 | _ => .fail
def Ek(P:Program)(t:TypeId)(nm:Nat)(s x:SV):Q Dl:=match uT P t with
 | some (e,sz)=>match P.info? e with
  | some i=>match Nat.ble 1 i.bytes,i.zero with
   | true,some z=>match Nat.beq z.cells.size sz with
    | true=>match s with
     | .own n sz' => .ask n fun
      | .live (.row E u xs)=>match Nat.beq E e,Nat.beq sz u.size,Nat.beq sz' u.size with
       | true,true,true=>(xQ u x).bind λys=>.ask nm fun
        | .un => .ret (.det [(xs.length+ys.length)*i.bytes<=140737488355328] (.own nm sz) [(nm,.live (.row e u (xs++ys))),(n,.dead)])
        | _ => .fail
       | _,_,_ => .fail
      | _ => .fail
     | .nilsl=>match AV P 8 e with
      | some u=>match Nat.beq sz u.size with
       | true=>(xQ u x).bind λys=>.ask nm fun
        | .un => .ret (.det [ys.length*i.bytes<=140737488355328] (.own nm sz) [(nm,.live (.row e u ys))])
        | _ => .fail
       | false => .fail
      | none => .fail
     | .dsx u xs=>match Nat.beq sz u.size with
      | true=>(xQ u x).bind λys=>.ask nm fun
       | .un => .ret (.det [(xs.length+ys.length)*i.bytes<=140737488355328,xs=[]] (.own nm sz) [(nm,.live (.row e u ys))])
       | _ => .fail
      | false => .fail
     | _ => .fail
    | false => .fail
   | _,_ => .fail
  | none => .fail
 | none => .fail
def fA{α:Type}(xs:List α)(l h:Nat):List α:=(xs.take h).drop l
def r9(x:Option SV)(dflt:Int):Option Int:=match x with
 | none=>some dflt
 | some (.int _ n)=>some n
 | _=>none
def Nx(P:Program)(t:TypeId)(x:SV)(lo hi mx:Option SV):Q Dl:=match uT P t with
 | some (_,sz)=>match x with
  | .dsl u xs=>match Nat.beq sz u.size,r9 lo 0,r9 hi xs.length with
   | true,some l,some h=>match mx with
    | none => .ret (.det [0<=l,l<=h,h<=xs.length] (.dsl u (fA xs l.toNat h.toNat)) [])
    | some (.int _ mm)=>match hi with
     | some _ => .ret (.det [0<=l,l<=h,h=mm,h<=xs.length] (.dsx u (fA xs l.toNat h.toNat)) [])
     | none => .fail
    | _ => .fail
   | _,_,_ => .fail
  | .own n sz'=>match mx with
   | none => .ask n fun
    | .live (.row E u xs)=>match Nat.beq sz u.size,Nat.beq sz' u.size,r9 lo 0,r9 hi xs.length with
     | true,true,some l,some h => .ret (.det [0<=l,l<=h,h<=xs.length] (.dsl u (fA xs l.toNat h.toNat)) [(n,.live (.frz E u xs))])
     | _,_,_,_ => .fail
    | .live (.frz E u xs)=>match Nat.beq sz u.size,Nat.beq sz' u.size,r9 lo 0,r9 hi xs.length with
     | true,true,some l,some h => .ret (.det [0<=l,l<=h,h<=xs.length] (.dsl u (fA xs l.toNat h.toNat)) [])
     | _,_,_,_ => .fail
    | _ => .fail
   | _ => .fail
  | .nilsl=>match r9 lo 0,r9 hi 0,mx with
   | some l,some h,none => .ret (.det [l=0,h=0] .nilsl [])
   | _,_,_ => .fail
  | _ => .fail
 | none => .fail
def pickI(l:ac)(i:Nat):Int:=l.getD i 0
def wW(k:IntKind)(sz:Nat):List SV->Nat->Option ac
 | [],_=>some []
 | .int k' n::cs,0=>match j8 k k',wW k sz cs (sz-1) with
  | true,some l=>some (n::l)
  | _,_=>none
 | _::_,0=>none
 | _::cs,s+1=>wW k sz cs s
def Ow(P:Program)(t:TypeId)(x i:SV):Q Dl:=match x,i,P.underlying t with
 | .agg cs,.int _ i,some (.array len e)=>match P.underlying e,f8 P e with
  | some (.int k),some 1=>match wW k 1 cs 0,Nat.beq cs.length len with
   | some l,true => .ret (.det [0<=i,i<len] (.int k (pickI l i.toNat)) [])
   | _,_ => .fail
  | some (.array 2 e2),some 2=>match P.underlying e2,f8 P e2 with
   | some (.int k),some 1=>match wW k 2 cs 0,wW k 2 cs 1,Nat.beq cs.length (len*2) with
    | some l1,some l2,true => .ret (.det [0<=i,i<len] (.agg [.int k (pickI l1 i.toNat),.int k (pickI l2 i.toNat)]) [])
    | _,_,_ => .fail
   | _,_ => .fail
  | _,_ => .fail
 | _,_,_ => .fail
section
variable {P:Program} {w0:World} {N0:fK} {A:Nat->Prop} {env:bj} {h:bX} {w:World} {o:Oper} {a:Act} {ρ:Nat->SV} {d:Dl} {r:List Nat}
theorem RR{α β:Type}(f:α->Sem β)(g:α->β):∀(l:List α),(∀ x∈l,(f x).run P w = .ok (g x) w)->(l.mapM f).run P w = .ok (l.map g) w
 | [],_=>aw
 | x::l,hx=>by
  have ih:=RR f g l (λy hy=>hx y (fu _ hy));simp_all
theorem bg2{α β:Type}(f:α->Sem β)(g:α->β)(l:Array α)(hx:∀ x∈l.toList,(f x).run P w = .ok (g x) w):(l.mapM f).run P w = .ok (l.map g) w:=by
 rw[Array.mapM_eq_mapM_toList]
 have:=RR f g l.toList hx
 simp only[Sem.run_map,this,Result.andThen_ok]
 congr 1
 exact Array.ext' aw
theorem Zl(vs:List Value)(off:Nat)(cs:List Value)(hfit:off+vs.length<=cs.length) :
  (vs.toArray.zipIdx.foldl (λcs (x:Value×Nat)=>cs.setIfInBounds (off+x.2) x.1) cs.toArray).toList=cs.take off++(vs++cs.drop (off+vs.length)):=by
 have c:∀(vs:List Value)(k:Nat)(pre a b:List Value),pre.length=off+k->a.length=vs.length →
   ((vs.zipIdx k).foldl (λ(cs:Array Value) (x:Value×Nat)=>cs.setIfInBounds (off+x.2) x.1) (pre++(a++b)).toArray).toList=pre++(vs++b):=by
  intro vs
  induction vs with
  | nil=>intro k pre a b _ hm;simp at hm;subst hm;simp
  | cons v vs ih =>
   intro k pre a b hp hm;cases a with
   | nil=>simp at hm
   | cons u a =>
    simp;have:(pre++(u::a++b)).toArray.setIfInBounds (off+k) v=((pre++[v])++(a++b)).toArray:=by
     simp_all
    grind
 have:=c vs 0 (cs.take off) ((cs.drop off).take vs.length) (cs.drop (off+vs.length)) (by simp;omega) (by simp;omega)
 have e:cs.take off++((cs.drop off).take vs.length++cs.drop (off+vs.length))=cs:=by
  rw[← List.drop_drop,nZ,nZ]
 simp_all
theorem EQ{place place':Nat->Option (Nat×Nat)}(g:∀ i p,place i=some p->place' i=some p):∀(ps:List (Nat×SV))(b:List (Nat×Value))(cs rs:List SV)(c:Array Value),
  xz P place cs ps=some rs->aO A env w cs c.toList->b.map (·.1)=ps.map (·.1)->aO A env w (ps.map (·.2)) (b.map (·.2)) →
  ∃ vs,Instr.fill place' c b=some vs/\aO A env w rs vs.toList
 | [],b,cs,rs,c,e,k,f,s=>by
  have:b=[]:=by simpa using f
  subst this;cases e;exact⟨c,rfl,k⟩
 | (i,v)::ps,b,cs,rs,c,e,k,f,s=>by
  match b,f with
  | (i',u)::b,h =>
   clear f;simp at h;obtain⟨rfl,f⟩:=h;obtain⟨u',r',l,m,o⟩:=s;obtain⟨rfl,rfl⟩:=l;simp only[xz] at e;split at e
   .rename_i off n vs hp hc;split at e
    .rename_i d j;have d:vs.length=n:=bK d;have j:off+n<=cs.length:=lZ j;obtain⟨t,_⟩:=FW hc m;have q:=jl t;have r:=jl k;have hlv':u.cells.size=n:=by rw[← fQ,q,d]
     have hlu':c.size=cs.length:=by rw[← fQ,r]
     have hR:=D6 (off:=off) k t;have a:=Zl u.cells.toList off c.toList (by simp;omega);obtain⟨ws,hw1,hw2⟩:=EQ g ps b (qQ cs off vs) rs (u.cells.zipIdx.foldl (λcs (x:Value×Nat)=>cs.setIfInBounds (off+x.2) x.1) c) e
      (by simp only[Array.toArray_toList] at a;rw[a];exact hR) f o
     simp only[Instr.fill,g i' _ hp];simp_all
    .cases e
   .cases e
theorem at9(m:Mod w0 N0 A env h w)(f:FD A env w ρ a){t:TypeId}{b:Array (Nat×Operand)}(ho:o.op = .build t b)
  (e:(P7 P t (b.toList.map λp=>(p.1,bg ρ p.2))).run h=some (d,r)):bz P o a w0 N0 A env h w d:=by
 unfold P7 at e
 split at e
 next z hb hz=>
  split at e
  .rename_i cs hf;cases cz e;obtain⟨i,B,hi,C,F,_⟩:=Bf hz;have g:aO A env w ((b.toList.map λp=>(p.1,bg ρ p.2)).map (·.2)) ((b.toList.map λp=>(p.1,a.eval p.2)).map (·.2)):=by
    generalize b.toList=l
    induction l with
    | nil=>simp[aO]
    | cons p l G=>simp only[fV,aO];exact⟨_,_,rfl,dh f p.2,G⟩
   have j:∀{vs:Array Value},(Instr.build t (b.map λ(x:Nat×Operand)=>(x.1,a.eval x.2))).run P w = .ok (.agg vs) w->(execOp a.eval o).run P w = .ok (.value (.agg vs)) w:=by
    unfold execOp;simp_all
   have k:(zeroValue t).run P w = .ok B w:=by simp[zeroValue,typeInfo,hi,C]
   unfold XZ at hb;split at hb
   .rename_i y q;have s:∀ x∈y.toList,(f8 P x.type).isSome=true:=by
     generalize y.toList=l at hb
     induction l with
     | nil=>simp
     | cons x l G =>
      simp only[NH,fe] at hb;simp_all
    have u:=bg2 (P:=P) (w:=w) (λ(f:Field)=>(do pure (f.offset,← sizeOf f.type):Sem (Nat×Nat))) (λf=>(f.offset,(f8 P f.type).getD 0)) y (λx hx=>by
     obtain⟨n,v⟩:=Option.isSome_iff_exists.1 (s x hx);simp[lU v,v])
    obtain⟨vs,D,E⟩:=EQ (place':=λi=>(y.map λf=>(f.offset,(f8 P f.type).getD 0))[i]?) (λi p c=>by
     unfold Ns at c;rw[q] at c;simp only at c;split at c
     .grind
     .cases c) (b.toList.map λp=>(p.1,bg ρ p.2)) (b.toList.map λp=>(p.1,a.eval p.2)) z cs B.cells hf F (by simp[Function.comp_def]) g
    refine bz.pure m (j ?_) (by simp only[az];exact⟨vs,rfl,E⟩);unfold Instr.build;simp only[Sem.run_bind,k,Result.andThen_ok,run_underlying q,u,Array.toList_map,D,Sem.run_pure]
   .rename_i len e' q;obtain⟨n,v⟩:=Option.isSome_iff_exists.1 hb;obtain⟨vs,D,E⟩:=EQ (place':=λi=>some (i*n,n)) (λi p c=>by
     unfold Ns at c;rw[q] at c;simp only[v] at c;exact c) (b.toList.map λp=>(p.1,bg ρ p.2)) (b.toList.map λp=>(p.1,a.eval p.2)) z cs B.cells hf F (by simp[Function.comp_def]) g
    refine bz.pure m (j ?_) (by simp only[az];exact⟨vs,rfl,E⟩);unfold Instr.build;simp only[Sem.run_bind,k,Result.andThen_ok,run_underlying q,lU v,Array.toList_map,D,Sem.run_pure]
   .cases hb
  .cases e
 .cases e
end
end Go.SX
namespace Go.SX
section
variable {P:Program} {w0:World} {N0:fK} {A:Nat->Prop} {env:bj} {h:bX} {w:World} {o:Oper} {a:Act} {ρ:Nat->SV} {d:Dl} {r:List Nat}
theorem LF(u v:List (Nat×Nm))(h:bX):dA (u++v) h=dA u (dA v h):=by
 induction u with
 | nil=>rfl
 | cons p u ih=>simp[dA,ih]
theorem fb.of_frz(m:Mod w0 N0 A env h w){fz:List (Nat×Nm)}(ok:pV h fz){pre:List Prop}{s:SV}{a:List (Nat×Nm)}{v:Value}{b:World}
  (g:fb w0 N0 (jd A env fz) env (dA fz h) w (.det pre s a) v b):fb w0 N0 A env h w (.det pre s (a++fz)) v b:=by
 obtain⟨x,A',env',_,m',e',d'⟩:=g
 exact⟨(),A',env',aN,by simpa only[Dl.hp,Dl.upd,LF] using m',(m.freeze ok).2.trans e',d'⟩
theorem SI(m:Mod w0 N0 A env h w){A':Nat->Prop}(s:∀ b,A b->A' b)(t:CT):∀(n:Nat)(cs:List SV)(vs:List Value)(xs:List t.D)(fz:List (Nat×Nm))(r:List Nat),
  (ML t n cs).run h=some ((xs,fz),r)->aO A env w cs vs->(∀ k,iN env fz k->A' k) →
  pV h fz/\xs.length=n/\n*t.size<=vs.length∧∀ i (c:i<xs.length),Rd A' w t (λj=>vs[j]?) (i*t.size) xs[i]
 | 0,cs,vs,xs,fz,r,e,u,d=>by
  obtain⟨⟨rfl,rfl⟩,rfl⟩:=e;exact⟨λn b hb=>by simp at hb,rfl,aw,λi c=>by simp at c⟩
 | n+1,cs,vs,xs,fz,r,e,u,d=>by
  obtain⟨⟨d1,v,y⟩,q1,q2,e1,e2,rfl⟩:=Q.run_bind _ _ _ e;obtain⟨⟨ds,z⟩,q3,q4,e3,e4,rfl⟩:=Q.run_bind _ _ _ e2;obtain⟨⟨rfl,rfl⟩,rfl⟩:=e4;have f:∀ k,iN env y k->A' k:=λk ⟨n,x,l,a,g⟩=>d k ⟨n,x,l,iA _ a,g⟩;have o:∀ k,iN env z k->A' k:=λk ⟨n,x,l,a,g⟩=>d k ⟨n,x,l,jD _ a,g⟩;obtain⟨o1,n1,l1,p,dr1⟩:=u9 m t cs vs d1 v y q1 e1 u s f;obtain⟨o2,n2,l2,q⟩:=SI m s t n v _ ds z q3 e3 dr1 o;have hr1:=jl dr1;refine⟨?_,by simp[n2],by rw[gY,nA];omega,?_⟩
  .intro n x a;rcases fC.1 a with a|a
   .exact o1 n x a
   .exact o2 n x a
  .intro i c;cases i with
   | zero=>simpa using p
   | succ i =>
    have:=q i (by simpa using c);have B:=QU this t.size;rw[show i*t.size+t.size=(i+1)*t.size from by rw[gY,nA]] at B;refine iL (λ_ h=>h) (λ_ _ _=>rfl) t _ _ _ _ (λj _=>?_) B;grind
theorem I2{α:Type}(l:List α)(n:Nat):(mb l n).length=n*l.length:=by
 induction n with
 | zero=>simp[mb]
 | succ n ih=>simp[mb,ih,gY];omega
theorem Gv{α:Type}(l:List α):∀(n i:Nat),i<n*l.length->(mb l n)[i]? = l[i%l.length]?
 | 0,i,h=>by simp at h
 | n+1,i,h=>by
  simp only[mb];by_cases a:i<l.length
  .rw[nV a,Nat.mod_eq_of_lt a]
  .rw[nD ab,Gv l n (i-l.length) (by rw[gY,nA] at h;omega)];rw[← Nat.mod_eq_sub_mod ab]
theorem Oa(z:Array Value)(n:Nat)(hz:0<z.size):(madeCells z (n*z.size)).toList=mb z.toList n:=by
 apply List.ext_getElem?
 intro i
 by_cases a:i<n*z.size
 .rw[Gv _ _ _ (by simpa using a)];simp only[madeCells,Array.toList_map,Array.toList_range,List.getElem?_map,fQ,mr];rw[List.getElem?_range a];have:i%z.size<z.size:=Nat.mod_lt _ hz;simp[getElem!_pos,this]
 .rw[AS (by simp[madeCells];omega),AS (by rw[I2];simpa using a)]
theorem PY{z:List SV}{vs:List Value}(a:aO A env w z vs):∀ n,aO A env w (mb z n) (mb vs n)
 | 0=>by simp[mb,aO]
 | n+1=>su a (PY a n)
theorem T0{place:Nat->Option (Nat×Nat)}:∀(ps:List (Nat×SV))(cs rs:List SV),xz P place cs ps=some rs->rs.length=cs.length
 | [],cs,rs,e=>by simp only[xz] at e;cases e;rfl
 | (i,v)::ps,cs,rs,e=>by
  simp only[xz] at e;split at e
  .rename_i off n vs _ _;split at e
   next a b=>have a:vs.length=n:=bK a;have b:off+n<=cs.length:=lZ b;rw[T0 ps _ rs e];simp[qQ];omega
   .cases e
  .cases e
theorem R7(m:Mod w0 N0 A env h w){nm:Nat}(hn:h nm = .un){E:TypeId}{t:CT}{xs:List t.D}{w1 w':World}{vs:Array Value}{cap:Nat}{pre:List Prop}
  (c1:da w w1 λ_=>False) (hw':w'=w1.alloc (.cells vs E)) (hs:vs.size=cap*t.size) (hl:xs.length<=cap) (hc:cap<=maxLen)
  (hr:∀ i (hi:i<xs.length),Rd A w t (λo=>vs[o]?) (i*t.size) xs[i]) :
  fb w0 N0 A env h w (.det pre (.own nm t.size) [(nm,.live (.row E t xs))]) (.slice (some ⟨w1.heap.size,0,none⟩) xs.length cap) w':=by
 subst hw'
 have c:da w (w1.alloc (.cells vs E)) λ_=>False:=c1.trans (da.alloc w1 _ _)
 obtain⟨x,A',env',h1,h2,h3,h4⟩:=fb.fresh (s := .own nm t.size) (v := .slice (some ⟨w1.heap.size,0,none⟩) xs.length cap) m hn (b := .row E t xs) (len:=(0,xs.length)) rfl w1.heap.size c1.size c
  (λx=>⟨vs,cap,.of (heap_alloc_new w1 _),by simpa using hs,rfl,hl,hc,λi hi=>iL x.imm x.keep t _ _ _ _ (λ_ _=>rfl) (by simpa using hr i hi)⟩) (by
   simp only[az];refine .inr ⟨w1.heap.size,(0,xs.length),E,vs.size,bj.set_same _ _ _,?_,?_⟩
   .unfold World.shape?;rw[heap_alloc_new]
   .show _=Value.slice _ _ ((vs.size-0)/t.size);rw[Nat.sub_zero,hs,uw _ t.size_pos])
 exact⟨(),A',env',trivial,h2,h3,h4⟩
theorem ap1(m:Mod w0 N0 A env h w)(f:FD A env w ρ a){t:TypeId}{len nm:Nat}{c:Array (Nat×Operand)}(ho:o.op = .buildSlice t len c)
  (e:(Ll P t len nm (c.toList.map λp=>(p.1,bg ρ p.2))).run h=some (d,r)):bz P o a w0 N0 A env h w d:=by
 unfold Ll at e
 split at e
 next E sz he=>
  obtain⟨hu,hsz⟩:=Ak he;split at e
  .rename_i u z hct hz;split at e
   .rename_i cs s n y hf;have s:u.size=sz:=bK s;have n:z.length=sz:=bK n;have y:len*sz<=16777216:=lZ y;obtain⟨⟨xs,fz⟩,q1,q2,e1,e2,rfl⟩:=Q.run_bind _ _ _ e;simp only[Q.run] at e2;split at e2
    .rename_i p q B;obtain⟨rfl,rfl⟩:=e2;split at B
     .rename_i hun;split at B
      .rename_i hni;have hni:=DF hni;cases cz B;subst s;obtain⟨i,j,hi,hzv,dz,_⟩:=Bf hz;have F:j.cells.size=u.size:=by rw[← fQ,jl dz,n]
       have dps:aO A env w ((c.toList.map λp=>(p.1,bg ρ p.2)).map (·.2)) ((c.toList.map λp=>(p.1,a.eval p.2)).map (·.2)):=by
        generalize c.toList=l
        induction l with
        | nil=>simp[aO]
        | cons p l ih=>simp only[fV,aO];exact⟨_,_,rfl,dh f p.2,ih⟩
       have v:(madeCells j.cells (len*u.size)).toList=mb j.cells.toList len:=by rw[← F];exact Oa _ _ (by rw[F];exact u.size_pos)
       obtain⟨vs,hv,dv⟩:=EQ (place':=λi=>some (i*u.size,u.size)) (λi p hp=>hp)
        (c.toList.map λp=>(p.1,bg ρ p.2)) (c.toList.map λp=>(p.1,a.eval p.2)) (mb z len) cs (madeCells j.cells (len*u.size)) hf (by rw[v];exact PY dz len) (by simp[Function.comp_def]) dps
       obtain⟨ok,hxl,hle,hrd⟩:=SI m (A':=jd A env fz) (λb hb=>.inl hb) u len cs vs.toList xs fz q1 e1 dv (λk B=>.inr B);obtain⟨m2,x2⟩:=m.freeze ok;have hcl:vs.size=len*u.size:=by
        rw[← fQ,jl dv,T0 _ _ _ hf,I2,n]
       have C:(execOp a.eval o).run P w = .ok (.value (.slice (some ⟨w.heap.size,0,none⟩) len len)) (w.alloc (.cells vs E)):=by
        unfold execOp;rw[ho];have G:¬ (len*u.size>2^24):=ab;have hz':(zeroValue E).run P w = .ok j w:=by simp[zeroValue,typeInfo,hi,hzv]
        by_cases h0:len*u.size=0
        .have D:madeCells j.cells (len*u.size) = #[]:=by simp[h0,madeCells]
         rw[D] at hv;have hr0:Array.range (len*u.size) = #[]:=by rw[h0];rfl
         simp only[Instr.buildSlice,Sem.run_bind,run_underlying hu,Result.andThen_ok,lU hsz,ah G,aj h0,Sem.run_pure,hr0,List.map_toArray,List.map_nil,Array.toList_map,hv,newRow,run_newObj];rfl
        .have D:((Array.range (len*u.size)).map (j.cells[· % j.cells.size]!))=madeCells j.cells (len*u.size):=rfl;simp only[Instr.buildSlice,Sem.run_bind,run_underlying hu,Result.andThen_ok,lU hsz,ah G,ah h0,hz',Sem.run_pure,D,Array.toList_map,hv,newRow,run_newObj];rfl
       have hxl':xs.length=len:=hxl;have hlm:len<=maxLen:=by
        have:len*1<=len*u.size:=Nat.mul_le_mul_left _ u.size_pos;simp only[maxLen];omega
       have g:=R7 m2 (by rw[qH hni];exact hun) (E:=E) (xs:=xs) (pre:=[]) (da.refl w _) rfl hcl ab hlm (λi hi=>by simpa using hrd i hi);refine⟨_,_,.inl C,?_⟩;rw[hxl'] at g;exact fb.of_frz m ok g
      .cases B
     .cases B
    .cases e2
   .cases e
  .rename_i z hct hz;split at e
   .rename_i cs s n y hf;have s:z.length=sz:=bK s;have n:sz=1:=bK n;simp only[fe] at y;have hb4:1<=len:=lZ y.1;have hb5:len<=16777216:=lZ y.2;subst n;simp only[Q.run] at e;split at e
    .rename_i p q B;obtain⟨rfl,rfl⟩:=e;split at B
     .rename_i hun;cases cz B;obtain⟨i,j,hi,hzv,dz,_⟩:=Bf hz;have F:j.cells.size=1:=by rw[← fQ,jl dz,s]
      have dps:aO A env w ((c.toList.map λp=>(p.1,bg ρ p.2)).map (·.2)) ((c.toList.map λp=>(p.1,a.eval p.2)).map (·.2)):=by
       generalize c.toList=l
       induction l with
       | nil=>simp[aO]
       | cons p l ih=>simp only[fV,aO];exact⟨_,_,rfl,dh f p.2,ih⟩
      have v:(madeCells j.cells (len*1)).toList=mb j.cells.toList len:=by
       have:=Oa j.cells len ab;rw[F] at this;exact this
      obtain⟨vs,hv,dv⟩:=EQ (place':=λi=>some (i*1,1)) (λi p hp=>hp)
       (c.toList.map λp=>(p.1,bg ρ p.2)) (c.toList.map λp=>(p.1,a.eval p.2)) (mb z len) cs (madeCells j.cells (len*1)) hf (by rw[v];exact PY dz len) (by simp[Function.comp_def]) dps
      have G:¬ (len*1>2^24):=ab;have h0:¬ (len*1=0):=ab;have hz':(zeroValue E).run P w = .ok j w:=by simp[zeroValue,typeInfo,hi,hzv]
      have D:((Array.range (len*1)).map (j.cells[· % j.cells.size]!))=madeCells j.cells (len*1):=rfl;have C:(execOp a.eval o).run P w = .ok (.value (.slice (some ⟨w.heap.size,0,none⟩) len len)) (w.alloc (.cells vs E)):=by
       unfold execOp;rw[ho];simp only[Instr.buildSlice,Sem.run_bind,run_underlying hu,Result.andThen_ok,lU hsz,ah G,ah h0,hz',Sem.run_pure,D,Array.toList_map,hv,newRow,run_newObj];rfl
      refine⟨_,_,.inl C,fb.fresh m hun (len:=(0,0)) rfl w.heap.size (eT _) (da.alloc w _ _) (λx=>⟨vs,heap_alloc_new w _,Bk x _ _ dv⟩) ?_⟩;simp only[az];simp_all
     .cases B
    .cases e
   .cases e
  .cases e
 .cases e
theorem bq2(m:Mod w0 N0 A env h w)(f:FD A env w ρ a){t:TypeId}{nm:Nat}{x y:Operand}(ho:o.op = .makeSlice t x y)
  (e:(Ou P t nm (bg ρ x) (bg ρ y)).run h=some (d,r)) (R:bS d.pre):bz P o a w0 N0 A env h w d:=by
 have S:=dh f x
 have T:=dh f y
 unfold Ou at e
 split at e
 next E U kl l kc c he hx hy=>
  obtain⟨hu,v⟩:=Ak he;rw[hx] at S;rw[hy] at T;simp only[az] at S T;split at e
  .rename_i u z i hct hz hi;split at e
   .rename_i V rest B C H hpz;have B:u.size=U:=bK B;have C:z.length=U:=bK C;have H:1<=i.bytes:=lZ H;subst B;simp only[Q.run] at e;split at e
    .rename_i p q hk;obtain⟨rfl,rfl⟩:=e;split at hk
     .rename_i K;cases cz hk;simp only[Dl.pre,bS,iC] at R;obtain⟨h0,L,M⟩:=R;obtain⟨i',G,I,N,dz,_⟩:=Bf hz;rw[hi] at I;cases I;have s:G.cells.size=u.size:=by rw[← fQ,jl dz,C]
      have hisz:i.size=u.size:=by
       unfold f8 at v;rw[hi] at v;simpa using v
      have J:c<=9223372036854775807:=by
       have:(1:Int)*c<=(i.bytes:Int)*c:=Int.mul_le_mul_of_nonneg_right ab ab;omega
      have hrun:=run_make w t E i G hu hi N kl kc l c h0 L M J;have D:=u9 m u z G.cells.toList V rest [] [] (by rw[hpz];rfl) dz (A':=A) (λ_ hb=>hb) (λk ⟨n,b,l,hh,_⟩=>by simp at hh);have F:(madeCells G.cells (c.toNat*u.size)).toList=mb G.cells.toList c.toNat:=by rw[← s];exact Oa _ _ (by rw[s];exact u.size_pos)
      have g:=R7 m K (E:=E) (xs:=replicate l.toNat V) (vs:=madeCells G.cells (c.toNat*u.size)) (pre:=[0<=l,l<=c,(i.bytes:Int)*c<=281474976710656]) (da.refl w _) rfl
       (size_madeCells _ _) (by simp;omega) (by simp only[maxLen];omega) (λj hj=>by
        simp at hj;rw[List.getElem_replicate];have sh:=AC D.2.2.2.1 (j*u.size);rw[gI] at sh;refine iL (λ_ h=>h) (λ_ _ _=>rfl) u _ _ _ _ (λq hq=>?_) sh;have O:j*u.size+q<c.toNat*u.size:=by
         have:(j+1)*u.size<=c.toNat*u.size:=mQ _ ab;grind
        rw[← mr,F,Gv _ _ _ (by simpa[s] using O)];congr 1;simp only[fQ,s];rw[wF,Nat.add_mul_mod_self_right,Nat.mod_eq_of_lt hq];omega)
      refine⟨_,_,.inl ?_,g⟩;unfold execOp;simp_all
     .cases hk
    .cases e
   .cases e
  .cases e
 .cases e
end
end Go.SX
