/- SX, part 15: regions whose order is open: the text's order serves every order. -/
import Derived.Test.YtgcnlmckfpcgpaaGreatDoorSx14
import Derived.Scope
import Derived.RangeFuncLeaves
set_option linter.all false
open Array renaming getElem?_eq_some_iff->cb4
open Bool renaming and_eq_true_iff->cd0,false->bZ6,true->bZ3
open Go renaming Oper->cf9,Operand->cb3,Program->ca7,TypeId->bZ8,World->ca8,maxLen->cb2,wpIn_loop_ghost->cC8
open Go.Call renaming operands->cq0
open Go.Code renaming region->cB9
open Go.Fence renaming wide->ci3
open Go.Frame renaming atR->cC7
open Go.Op renaming operands->cE2
open Go.Operand renaming tmp->cz4
open Go.Region renaming binds->ch2,ready->cg0
open Go.RowKit.Below renaming heap_alloc->cl5
open Go.World renaming alloc_heap_new->cs9,putObj_heap_other->cd5
open List renaming getD->Om,getElem?_cons_succ->cq9,getElem?_eq_some_iff->ca5,length->be,map_congr_left->ci7,mem_map->cc1,nodup_cons->cy5,range'->cB8,range'_succ->cx6,range_eq_range'->ct2
open Nat renaming beq->ca0,ble->cd9,ble_eq_true_of_le->cl0
open Option renaming none->bZ9,some->bZ1
namespace Go.SX
def zS:Option Tmp->List Nat
 | some d=>[d]
 | none=>[]
def wB(wr:List Nat)(h:bZ):bZ:=λn=>match qP n wr with
 | true=>h n
 | false => .un
theorem bw1{wr:List Nat}{h:bZ}{n:Nat}(hn:n∈wr):wB wr h n=h n:=by unfold wB;rw[AC.2 hn]
theorem al9{a:List Nat}{h b:bZ}(e:∀ n∈a,b n=h n):wB a b=wB a h:=by
 funext n
 unfold wB
 split
 next hm=>exact e n (AC.1 hm)
 .rfl
structure qh where
 rd:List Nat
 wr:List Nat
 srd:List Nat
 swr:List Nat
 q:Q kq
 st:kq
 old:bZ
def kH(P:ca7)(sp:fe)(ops:Array cf9)(o:cf9)(st:kq)(r:List Nat)(F:FS):qh:=⟨r,st.wr,o.looksAt ops,zS o.dst,pX P sp ops.toList o F.sl,st,wB st.wr F.h⟩
def rQ:List Nat->List Nat->Bool
 | [],_=>bZ3
 | a::r,l => !qP a l&&rQ r l
theorem tD:∀{l m:List Nat},rQ l m=bZ3→∀ n∈l,n ∉ m
 | a::r,m,h,n,b=>by
  simp only[rQ,fx,qE] at h;obtain rfl|b:=dO.1 b
  .intro hm;rw[AC.2 hm] at h;exact absurd h.1 az
  .exact tD h.2 n b
def Q5(s t:qh):Bool:=rQ s.wr t.rd&&rQ s.wr t.wr&&rQ t.wr s.rd&&rQ s.swr t.srd&&rQ s.swr t.swr&&rQ t.swr s.srd
def Ou(s t:qh):Prop:=∃ pre v u,s.st = .go (.det pre v u)/\(∀ n∈t.rd,n∈s.wr)/\t.q.run s.old=bZ1 (t.st,t.rd)/\t.q.run (dJ u s.old)=bZ1 (t.st,t.rd)
structure wQ (s t:qh):Prop where
 a:(∀ n∈s.wr,n ∉ t.rd)∨Ou s t
 b:∀ n∈s.wr,n ∉ t.wr
 c:(∀ n∈t.wr,n ∉ s.rd)∨Ou t s
 d:∀ n∈s.swr,n ∉ t.srd
 e:∀ n∈s.swr,n ∉ t.swr
 f:∀ n∈t.swr,n ∉ s.srd
theorem wQ.symm{s t:qh}(h:wQ s t):wQ t s:=⟨h.c,λn hn hm=>h.b n hm hn,h.a,h.f,λn hn hm=>h.e n hm hn,h.d⟩
theorem aU5{s t:qh}(h:Q5 s t=bZ3):wQ s t:=by
 simp only[Q5,fx] at h
 have ⟨⟨⟨⟨⟨h1,h2⟩,h3⟩,h4⟩,h5⟩,h6⟩:=h
 exact⟨.inl (tD h1),tD h2,.inl (tD h3),tD h4,tD h5,tD h6⟩
def xi:List Nat->Nat->Nat
 | [],_=>0
 | m::_,0=>m
 | _::r,n+1=>xi r n
theorem Me:∀(l:List Nat)(n:Nat),xi l n=Om l n 0
 | [],n=>by simp[xi]
 | m::r,0=>rfl
 | m::r,n+1=>by simp[xi,Me r n]
def Eh(tbl:List Nat):List Edge->Nat
 | []=>0
 | e::r=>match ch2 .any e with
  | true=>(1 <<< e.on) ||| (xi tbl e.on ||| Eh tbl r)
  | false=>Eh tbl r
def H4:List cf9->List Nat->List Nat
 | [],tbl=>tbl
 | o::r,tbl=>H4 r (tbl++[Eh tbl o.after.toList])
def C9(msk:List Nat)(i j:Nat):Bool:=(xi msk j).testBit i
inductive vK (ops:Array cf9):Nat->Nat->Prop where
 | edge {i j:Nat} {o:cf9} {e:Edge} (ho:ops[j]? = bZ1 o) (he:e∈o.after) (hb:ch2 .any e=bZ3) (hi:e.on=i):vK ops i j
 | step {i j:Nat} {o:cf9} {e:Edge} (ho:ops[j]? = bZ1 o) (he:e∈o.after) (hb:ch2 .any e=bZ3) (h:vK ops i e.on):vK ops i j
theorem bu4(n i:Nat)(h:(1 <<< n).testBit i=bZ3):i=n:=by
 rw[Nat.testBit_shiftLeft] at h
 simp at h
 have a:=h.2
 by_cases hz:i-n=0
 .omega
 .have:Nat.testBit 1 (i-n)=false:=by
   cases hk:i-n with
   | zero=>exact absurd hk hz
   | succ k=>simp[Nat.testBit_succ]
  rw[this] at a;cases a
theorem Qo{ops:Array cf9}{a:List Nat}{j i:Nat}{o:cf9}(b:ops[j]? = bZ1 o)(d:∀ k,(xi a k).testBit i=bZ3->vK ops i k) :
  ∀(g:List Edge),(∀ e∈g,e∈o.after)->(Eh a g).testBit i=bZ3->vK ops i j
 | [],_,h=>by simp[Eh] at h
 | e::r,c,h=>by
  simp only[Eh] at h;split at h
  .rename_i l;simp only[Nat.testBit_or,sS] at h;obtain h|h|h:=h
   .exact .edge b (c e az) l (bu4 _ _ h).symm
   .exact .step b (c e az) l (d _ h)
   .exact Qo b d r (λe f=>c e (fu _ f)) h
  .exact Qo b d r (λe f=>c e (fu _ f)) h
theorem YD{ops:Array cf9}:∀(l:List cf9)(k:Nat)(a:List Nat),(∀ j,l[j]? = ops[k+j]?)->be a=k->(∀ i j,(xi a j).testBit i=bZ3->vK ops i j) →
  ∀ i j,(xi (H4 l a) j).testBit i=bZ3->vK ops i j
 | [],k,a,_,_,h=>h
 | o::l,k,a,c,d,h=>by
  have h0:ops[k]? = bZ1 o:=by simpa using (c 0).symm
  refine YD l (k+1) _ (λj=>by have:=c (j+1);simpa[gG,yO 1 j] using this) (by simp[d]) ?_;intro i j hb;rw[Me,cq] at hb;by_cases hj:j<be a
  .rw[mC hj,← cq,← Me] at hb;exact h i j hb
  .by_cases b:j=be a
   .subst b;simp at hb;exact Qo (d▸h0) (λk hk=>h i k hk) _ (λe he=>by simpa using he) hb
   .grind
abbrev sn:=List (Nat×qh)
def K7(msk:List Nat)(i:Nat)(t:qh)(l:sn):Prop:=∀ p∈l,C9 msk p.1 i=bZ3∨wQ p.2 t
section
variable (P:ca7) (sp:fe) (ops:Array cf9) (msk:List Nat)
def wu(i:Nat)(log:sn)(K:sn->FS->Prop)(F:FS):Prop :=
 match ops[i]? with
 | none=>K log F
 | some o=>∃ st r,(pX P sp ops.toList o F.sl).run F.h=bZ1 (st,r)/\st.pre/\K7 msk i (kH P sp ops o st r F) log ∧
   ∀ F',nC st o.dst F F'→K ((i,kH P sp ops o st r F)::log) F'
def zD(K:FS->Prop):Nat->Array Bool->sn->FS->Prop
 | 0,listed,log,F=>cg0 .any ops listed=[]/\K F
 | n+1,listed,log,F=>(cg0 .any ops listed=[]->K F) ∧
   ∀ i∈cg0 .any ops listed,wu P sp ops msk i log (λlog' F'=>zD K n (listed.setIfInBounds i bZ3) log' F') F
def zK(K:FS->Prop):List cf9->Nat->sn->FS->Prop
 | [],_,_,F=>K F
 | _::l,k,log,F=>wu P sp ops msk k log (λlog' F'=>zK K l (k+1) log' F') F
end
section
variable {P:ca7} {sp:fe} {ops:Array cf9} {msk:List Nat} {w0:ca8} {N0:fI} {K:FS->Prop}
theorem Mb:∀(n:Nat)(a:Array Bool)(c b:sn)(F:FS),(∀ p,p∈b↔p∈c)->zD P sp ops msk K n a c F->zD P sp ops msk K n a b F
 | 0,_,_,_,_,_,h=>h
 | n+1,a,c,b,F,d,h=>by
  refine⟨h.1,λi hi=>?_⟩;have:=h.2 i hi;unfold wu at this ⊢;split
  next e=>rw[e] at this;exact Mb n _ _ _ _ d this
  next o e=>rw[e] at this;have ⟨st,r,h1,h2,h3,h4⟩:=this;refine⟨st,r,h1,h2,λp hp=>h3 p ((d p).1 hp),λF' hF=>Mb n _ _ _ _ (λp=>?_) (h4 F' hF)⟩;simp[d p]
theorem Yy{a:kq}(e:a.pre)(b:Option Tmp)(F:FS):∃ F',nC a b F F':=by
 cases a with
 | go d=>have ⟨x,c⟩:=d.ne e;exact⟨_,x,c,rfl⟩
 | split g d =>
  cases g with
  | true=>have ⟨x,c⟩:=d.ne (e rfl);exact⟨_,.inl ⟨rfl,x,c,rfl⟩⟩
  | false=>exact⟨_,.inr ⟨rfl,rfl⟩⟩
theorem WY{ρ a:Nat->SV}{x:cb3}(h:∀ t,x = .tmp t->ρ t=a t):bc ρ x=bc a x:=by
 cases x with
 | tmp t=>exact h t rfl
 | _=>rfl
theorem Ul{o:cf9}{ρ ρ':Nat->SV}(h:∀ x∈o.op.operands,bc ρ x=bc ρ' x):B2 P sp o ρ=B2 P sp o ρ':=by
 have hmap:∀ xs:Array cb3,(∀ x∈xs,bc ρ x=bc ρ' x)->xs.toList.map (bc ρ)=xs.toList.map (bc ρ'):=λxs hx =>
  ci7 λx hm=>hx x (by simpa using hm)
 have hpairs:∀ ps:Array (Nat×cb3),(∀ x∈(ps.toList.map (·.2)).toArray,bc ρ x=bc ρ' x) →
   ps.toList.map (λp=>(p.1,bc ρ p.2))=ps.toList.map (λp=>(p.1,bc ρ' p.2)):=λps hx =>
  ci7 λp hm=>by
   grind
 have hopt:∀ x,(∀ y,x=bZ1 y->bc ρ y=bc ρ' y)->x.map (bc ρ)=x.map (bc ρ'):=λx hx=>by
  cases x with
  | none=>rfl
  | some y=>simp[hx y rfl]
 have ⟨dst,op,ty,pos,after,guard⟩:=o
 unfold B2
 cases op <;> simp only[cE2] at h <;> simp only
 case move x=>rw[h x az]
 case assign x=>rw[h x az]
 case pick c x y=>rw[h c az,h x az,h y az]
 case box E x=>rw[h x az]
 case build t ps=>rw[hpairs ps h]
 case buildSlice t n ps=>rw[hpairs ps h]
 case load t x=>rw[show pL sp ρ x=pL sp ρ' x from by (cases x with|tmp s=>exact h (.tmp s) az|_=>rfl)]
 case store t x y=>rw[h x az,h y az]
 case nilCheck x=>rw[h x az]
 case binOp op t x y yt=>rw[h x az,h y az]
 case unOp op t x=>rw[h x az]
 case convert s t x=>rw[h x az]
 case makeFunc fn fs caps=>cases fn <;> simp only;rw[hmap caps λx hx=>h x (by simp[hx])]
 case makeSlice t l c=>rw[h l az,h c az]
 case slice t x lo hi mx =>
  simp_all
 case fieldAddr s x f=>rw[h x az]
 case field s x f=>rw[h x az]
 case indexAddr t x i=>rw[h x az,h i az,show pL sp ρ x=pL sp ρ' x from (by cases x with|tmp s=>exact h (.tmp s) az|_=>rfl)]
 case index t x i=>rw[h x az,h i az]
 case extract x i=>rw[h x az]
 case makeMap t r=>cases r <;> rfl
 case lookup t x i ok=>cases ok <;> simp only[h x az,h i az]
 case mapUpdate t x i y=>rw[h x az,h i az,h y az]
 case call c =>
  have ⟨callee,args,ts⟩:=c;cases callee with
  | value g=>simp only;rw[h g (by simp[cq0]),hmap args λx hx=>h x (by simp[cq0,hx])]
  | builtin b=>simp only;rw[hmap args λx hx=>h x (by simp[cq0,hx])]
  | invoke rc m=>rfl
theorem Gw{t:Nat}:∀{l:List cb3},t∈yJ l↔cz4 t∈l
 | []=>by simp[yJ]
 | .tmp s::r=>by simp[yJ,Gw (l:=r)]
 | .const v::r=>by simp[yJ,Gw]
 | .global g::r=>by simp[yJ,Gw]
 | .func f::r=>by simp[yJ,Gw]
theorem K1{o:cf9}{t:Nat}(h:cz4 t∈o.op.operands):t∈o.looksAt ops:=by
 refine ip _ (List.mem_filterMap.2 ⟨.tmp t,by simpa using h,rfl⟩)
theorem T0{o:cf9}{t:Nat}(h:t∈yL o):t∈o.looksAt ops:=by
 unfold yL at h
 split at h
 next c x y ho=>simp at h;subst h;exact K1 (by rw[ho];simp[cE2])
 .simp at h
 .exact K1 (by simpa using Gw.1 h)
theorem ak8{o:cf9}{c a:List SV}(h:∀ t∈o.looksAt ops,d9 a t=d9 c t):pX P sp ops.toList o a=pX P sp ops.toList o c:=by
 have hg:Cg ops.toList a o.guard=Cg ops.toList c o.guard:=by
  unfold Cg;cases k:o.guard with
  | none=>rfl
  | some p =>
   have ⟨j,want⟩:=p;simp only;cases r:pj ops.toList j with
   | none=>rfl
   | some oj =>
    simp only;cases hd:oj.dst with
    | none=>rfl
    | some d =>
     simp only;rw[h d ?_];unfold Oper.looksAt;rw[k];rw[xu,mO] at r;simp[r,hd]
 have e:∀(g:Bool)(l:List Nat),(∀ t∈l,t∈o.looksAt ops)->ul g a l=ul g c l:=by
  intro g l
  induction l with
  | nil=>intro _;rfl
  | cons t l m=>intro f;simp only[ul];rw[h t (f t az),m λs n=>f s (fu _ n)]
 unfold pX
 rw[hg]
 split
 .rw[Ul λx q=>WY λt b=>h t (K1 (b▸q))]
 next g _=>
  rw[e g _ λt b=>T0 b];have i:∀(l:List Nat),(∀ t∈l,t∈o.looksAt ops)->ET a l=ET c l:=by
   intro l
   induction l with
   | nil=>intro _;rfl
   | cons t l m=>intro f;simp only[ET];rw[h t (f t az),m λs n=>f s (fu _ n)]
  rw[i _ λt b=>T0 b];split
  .rfl
  congr 1;exact Ul λx q=>WY λt b=>by simp only[h t (K1 (b▸q))]
 .rfl
theorem am6{b:List SV}{a:Option Tmp}{v:SV}{t:Nat}(h:∀ d,a=bZ1 d->t≠d):d9 (mg b a v) t=d9 b t:=by
 cases a with
 | none=>rfl
 | some d=>simp only[mg];rw[Ke,ah (λhh=>h d rfl hh.1)]
theorem NF{b:kq}{a:Option Tmp}{F c:FS}(h:nC b a F c):∃ v u,c.sl=mg F.sl a v/\c.h=dJ u F.h∧∀ p∈u,p.1∈b.wr:=by
 have e:∀(d:Dl)(x:d.X),∃ v u,(F.app a d x).sl=mg F.sl a v/\(F.app a d x).h=dJ u F.h∧∀ p∈u,p.1∈d.wr:=λd x =>
  ⟨d.val x,d.upd x,rfl,rfl,λp hp=>by rw[← Dl.wr_upd d x];exact zb hp⟩
 cases b with
 | go d=>obtain⟨x,_,rfl⟩:=h;exact e d x
 | split g d =>
  obtain⟨_,x,_,rfl⟩|⟨_,rfl⟩:=h
  .exact e d x
  .exact⟨.cv undef,[],rfl,rfl,az⟩
theorem Ku{n:Nat}:∀(u:List (Nat×Nm))(b c:bZ),n∈u.map (·.1)->dJ u b n=dJ u c n
 | p::u,b,c,hn=>by
  simp only[dJ];by_cases a:n=p.1
  .subst a;simp
  .rw[bZ.set_other _ _ a,bZ.set_other _ _ a];exact Ku u b c (by simpa[a] using hn)
theorem Q8{i j:cf9}{a:kq}{F f:FS}(hd:∀ n∈zS i.dst,n ∉ j.looksAt ops)(hi:nC a i.dst F f):pX P sp ops.toList j f.sl=pX P sp ops.toList j F.sl:=by
 have ⟨v,u,b,hh,hw⟩:=NF hi
 refine ak8 λt ht=>?_
 rw[b]
 exact am6 λd c e=>hd d (by simp[zS,c]) (e▸ht)
theorem Wt{i j:cf9}{b a:kq}{d:List Nat}{F c:FS}(hb:∀ n∈b.wr,n ∉ a.wr)(hd:∀ n∈zS i.dst,n ∉ j.looksAt ops)(f:nC b i.dst F c) :
  kH P sp ops j a d c=kH P sp ops j a d F:=by
 have ⟨v,u,hsl,hh,hw⟩:=NF f
 have e:wB a.wr c.h=wB a.wr F.h:=al9 λn hn=>by
  rw[hh];refine qo λhm=>?_;grind
 unfold kH
 rw[Q8 hd f,e]
theorem QE{i j:cf9}{g c:kq}{ri l:List Nat}{F m:FS}(q:wQ (kH P sp ops i g ri F) (kH P sp ops j c l F))(o:nC g i.dst F m) :
  ((pX P sp ops.toList j m.sl).run m.h=bZ1 (c,l)↔(pX P sp ops.toList j F.sl).run F.h=bZ1 (c,l)):=by
 rw[Q8 q.d o]
 obtain ha|⟨pre,v,u,k,b,r,s⟩:=q.a
 .have ⟨v,u,hsl,hh,hw⟩:=NF o;have t:∀ n∈l,m.h n=F.h n:=λn f=>by
   rw[hh];refine qo λhm=>?_;obtain⟨p,hp,rfl⟩:=cc1.1 hm;exact ha _ (hw p hp) f
  exact⟨λe=>Q.run_local _ e λn f=>(t n f).symm,λe=>Q.run_local _ e t⟩
 .simp only[kH] at k b r s;subst k;obtain⟨x,_,rfl⟩:=o;refine⟨λ_=>Q.run_local _ r λn f=>(bw1 (b n f)).symm,λ_=>Q.run_local _ s λn f=>?_⟩;exact Ku u _ _ (b n f)
theorem aX7{u v:List (Nat×Nm)}(h:∀ p∈u,∀ q∈v,p.1≠q.1)(c:bZ):dJ u (dJ v c)=dJ v (dJ u c):=by
 funext n
 by_cases b:n∈u.map (·.1)
 .have a:n ∉ v.map (·.1):=λa=>by
   grind
  rw[qo a];exact Ku u _ _ b
 .rw[qo b];by_cases a:n∈v.map (·.1)
  .exact Ku v _ _ a
  .rw[qo a,qo a,qo b]
theorem ad7{b:List SV}{x y:Option Tmp}{v u:SV}(h:∀ d,x=bZ1 d->y≠bZ1 d):mg (mg b x v) y u=mg (mg b y u) x v:=by
 cases x with
 | none=>rfl
 | some d =>
  cases y with
  | none=>rfl
  | some e =>
   have a:d≠e:=λhe=>h d rfl (he▸rfl);exact List.set_comm _ _ a
theorem aj6{i j:cf9}{c f:kq}{ri rj:List Nat}{F C m:FS}(D:wQ (kH P sp ops i c ri F) (kH P sp ops j f rj F))(hj:nC f j.dst F C)(hi:nC c i.dst C m) :
  ∃ E,nC c i.dst F E/\nC f j.dst E m:=by
 have n:∀ d,i.dst=bZ1 d->j.dst≠bZ1 d:=λd t k=>D.e d (by simp[kH,zS,t]) (by simp[kH,zS,k])
 have l:∀ d,j.dst=bZ1 d->i.dst≠bZ1 d:=λd t k=>n d k t
 have o:∀{r:kq}{a:Option Tmp}{F w:FS},nC r a F w→∃ v u,(∀ p∈u,p.1∈r.wr)/\w=⟨mg F.sl a v,dJ u F.h⟩∧∀ G,nC r a G ⟨mg G.sl a v,dJ u G.h⟩:=by
  intro r a F w h;cases r with
  | go d=>obtain⟨x,y,rfl⟩:=h;exact⟨d.val x,d.upd x,λp s=>by rw[kq.wr,← Dl.wr_upd d x];exact zb s,rfl,λG=>⟨x,y,rfl⟩⟩
  | split g d =>
   obtain⟨z,x,y,rfl⟩|⟨z,rfl⟩:=h
   .exact⟨d.val x,d.upd x,λp s=>by rw[kq.wr,← Dl.wr_upd d x];exact zb s,rfl,λG=>.inl ⟨z,x,y,rfl⟩⟩
   .exact⟨.cv undef,[],az,rfl,λG=>.inr ⟨z,rfl⟩⟩
 obtain⟨H,I,A,rfl,gj⟩:=o hj
 obtain⟨J,K,B,rfl,gi⟩:=o hi
 refine⟨_,gi F,?_⟩
 have e1:mg (mg F.sl j.dst H) i.dst J=mg (mg F.sl i.dst J) j.dst H:=ad7 l
 have e2:=aX7 (λp s q hq e=>D.b p.1 (B p s) (e▸A q hq)) F.h
 simp_all
def K0(ops:Array cf9)(listed:Array Bool):Prop:=∀ j o,ops[j]? = bZ1 o->listed.getD j bZ6=bZ3→∀ e∈o.after,ch2 .any e=bZ3->listed.getD e.on bZ6=bZ3
theorem bQ6{a:Array Bool}(f:K0 ops a){i j:Nat}(hj:j∈cg0 .any ops a)(h:vK ops i j):a.getD i bZ6=true:=by
 have ⟨hun,oj,hoj,hall⟩:=mem_ready.1 hj
 have key:∀{i k:Nat},vK ops i k->a.getD k bZ6=bZ3->a.getD i bZ6=true:=by
  intro i k h
  induction h with
  | edge b c d g=>intro e;rw[← g];exact f _ _ b e _ c d
  | step b c d _ ih=>intro e;exact ih (f _ _ b e _ c d)
 cases h with
 | edge b c d g =>
  grind
 | step b c d h =>
  grind
theorem bt7{a:Array Bool}(hd:K0 ops a){i:Nat}(hi:i∈cg0 .any ops a):K0 ops (a.setIfInBounds i bZ3):=by
 have ⟨hun,oi,hoi,hall⟩:=mem_ready.1 hi
 have b:∀ k,a.getD k bZ6=bZ3->(a.setIfInBounds i bZ3).getD k bZ6=true:=by
  intro k hk;rw[sQ] at hk ⊢;grind
 intro j o ho hj e he hb
 by_cases hij:i=j
 .simp_all
 .refine b _ (hd j o ho ?_ e he hb);simp_all
theorem aZ7(D:∀ i j,C9 msk i j=bZ3->vK ops i j){i:Nat}{k:cf9}{o:kq}{r:List Nat}(hi:ops[i]? = bZ1 k)(w:o.pre) :
  ∀(e:Nat)(a:Array Bool)(l:sn)(F:FS),K0 ops a->i∈cg0 .any ops a->(pX P sp ops.toList k F.sl).run F.h=bZ1 (o,r) →
   K7 msk i (kH P sp ops k o r F) l →
   (∀ g,nC o k.dst F g->zD P sp ops msk K e (a.setIfInBounds i bZ3) ((i,kH P sp ops k o r F)::l) g)->zD P sp ops msk K (e+1) a l F:=by
 intro e
 induction e with
 | zero =>
  intro a l F hd hr hrun hlog H;refine⟨λh=>(by rw[h] at hr;cases hr),λj C=>?_⟩;by_cases m:j=i
  .subst m;unfold wu;grind
  .have ⟨g,s⟩:=Yy w k.dst F;have:=ready_mono C m;rw[(H g s).1] at this;cases this
 | succ e ih =>
  intro a l F hd hr hrun hlog H;refine⟨λh=>(by rw[h] at hr;cases hr),λj C=>?_⟩;by_cases m:j=i
  .subst m;unfold wu;grind
  .have ⟨hjun,u,E,hall⟩:=mem_ready.1 C;have Hj:∀ g,nC o k.dst F g→∃ c t,(pX P sp ops.toList u g.sl).run g.h=bZ1 (c,t)/\c.pre/\K7 msk j (kH P sp ops u c t g) ((i,kH P sp ops k o r F)::l) ∧
     ∀ G,nC c u.dst g G->zD P sp ops msk K e ((a.setIfInBounds i bZ3).setIfInBounds j bZ3) ((j,kH P sp ops u c t g)::(i,kH P sp ops k o r F)::l) G:=by
    intro g s;have:=(H g s).2 j (ready_mono C m);unfold wu at this;rw[E] at this;exact this
   have ⟨O,v⟩:=Yy w k.dst F;have ⟨c,t,Q,R,x,_⟩:=Hj O v;have hnot:C9 msk i j=false:=by
    cases hb:C9 msk i j with
    | false=>rfl
    | true =>
     have h1:=bQ6 hd C (D i j hb);have h0:=(mem_ready.1 hr).1;grind
   have y:wQ (kH P sp ops k o r F) (kH P sp ops u c t O):=by
    rcases x (i,kH P sp ops k o r F) az with h|h
    .simp_all
    .exact h
   have S:∀ g,nC o k.dst F g->kH P sp ops u c t g=kH P sp ops u c t F:=λg s=>Wt y.b y.d s;rw[S O v] at x;have z:wQ (kH P sp ops k o r F) (kH P sp ops u c t F):=by rw[← S O v];exact y
   have q:=(QE z v).1 Q;unfold wu;rw[E];refine⟨c,t,q,R,λp I=>x p (fu _ I),λFj A=>?_⟩;have ti:kH P sp ops k o r Fj=kH P sp ops k o r F:=Wt (λn hn hm=>z.b n hm hn) z.f A;refine ih (a.setIfInBounds j bZ3) _ Fj (bt7 hd C) (ready_mono hr (Ne.symm m)) ((QE z.symm A).2 hrun) (λp I=>?_) λFji J=>?_
   .rw[ti];obtain rfl|I:=dO.1 I
    .exact .inr z.symm
    .exact hlog p I
   .rw[ti];have ⟨Fi,B,L⟩:=aj6 z A J;have ⟨M,rj',N,hpj',hlj',hK⟩:=Hj Fi B;have e1:bZ1 (M,rj')=bZ1 (c,t):=by rw[← N,← (QE z B).2 q]
    obtain⟨rfl,rfl⟩:=e1;have:=hK Fji L;rw[S Fi B] at this;rw[Array.setIfInBounds_comm _ _ m];refine Mb _ _ _ _ _ (λp=>?_) this;simp;exact⟨λh=>by obtain h|h|h:=h <;> simp[h],λh=>by obtain h|h|h:=h <;> simp[h]⟩
end
end Go.SX
namespace Go.SX
def Ib(k:Nat):List Edge->Bool
 | []=>bZ3
 | e::r=>(match ch2 .any e with|true=>Nat.blt e.on k|false=>bZ3)&&Ib k r
def CK:Nat->List cf9->Bool
 | _,[]=>bZ3
 | k,o::r=>Ib k o.after.toList&&CK (k+1) r
section
variable {P:ca7} {sp:fe} {ops:Array cf9} {msk:List Nat} {w0:ca8} {N0:fI} {K:FS->Prop} {Q:Exit->Act->ca8->Prop}
theorem Sp{k:Nat}:∀{es:List Edge},Ib k es=bZ3→∀ e∈es,ch2 .any e=bZ3->e.on<k
 | e::r,h,e',a,hb=>by
  simp only[Ib,fx] at h;obtain rfl|a:=dO.1 a
  .simp_all
  .exact Sp h.2 e' a hb
theorem T9:∀{l:List cf9}{k:Nat},(∀ j,l[j]? = ops[k+j]?)->CK k l=bZ3→∀ j o,k<=j->ops[j]? = bZ1 o->j<k+be l→∀ e∈o.after,ch2 .any e=bZ3->e.on<j
 | [],k,_,_,j,o,h1,_,b,_,_,_=>by simp at b;omega
 | o0::l,k,f,h,j,o,h1,c,b,e,g,i=>by
  simp only[CK,fx] at h;by_cases d:j=k
  .subst d;have h0:ops[j]? = bZ1 o0:=by simpa using (f 0).symm
   rw[h0] at c;cases c;exact Sp h.1 e (by simpa using g) i
  .exact T9 (λj=>by have:=f (j+1);simpa[gG,yO 1 j] using this) h.2 j o ab c (by simp at b;omega) e g i
def LP(ops:Array cf9)(k:Nat)(listed:Array Bool):Prop:=∀ j,listed[j]? = if j<ops.size then bZ1 (decide (j<k)) else bZ9
theorem TS(c:∀ i j,C9 msk i j=bZ3->vK ops i j)(d:CK 0 ops.toList=bZ3):∀(l:List cf9)(k:Nat)(a:Array Bool)(log:sn)(F:FS),(∀ j,l[j]? = ops[k+j]?)->LP ops k a →
  k+l.length=ops.size->zK P sp ops msk K l k log F->zD P sp ops msk K l.length a log F
 | [],k,a,log,F,_,g,p,h=>by
  refine⟨?_,h⟩;cases hr:cg0 .any ops a with
  | nil=>rfl
  | cons i r =>
   have hi:i∈cg0 .any ops a:=by rw[hr];simp
   have ⟨f,o,ho,_⟩:=mem_ready.1 hi;have b:=(cb4.1 ho).1;rw[sQ,g i,aj b] at f;simp at p f;omega
 | o::l,k,a,log,F,v,g,p,h=>by
  have f:ops[k]? = bZ1 o:=by simpa using (v 0).symm
  have b:=(cb4.1 f).1;simp only[zK] at h;unfold wu at h;rw[f] at h;have ⟨st,r,h1,h2,h3,h4⟩:=h;have q:=T9 (ops:=ops) az d;have s:∀ j,j<k->a.getD j bZ6=true:=λj t=>by
   rw[sQ,g j,aj ab];simp[t]
  refine aZ7 c f h2 l.length a log F ?_ ?_ h1 h3 λw u=>?_
  .intro j oj hoj t e x y;have m:=(cb4.1 hoj).1;rw[sQ,g j,aj m] at t;grind
  .refine mem_ready.2 ⟨?_,o,f,λe x y=>s _ (q k o (Nat.zero_le _) f (by simpa using b) e x y)⟩;rw[sQ,g k,aj b];simp
  .refine TS c d l (k+1) _ _ w (λj=>by have:=v (j+1);simpa[gG,yO 1 j] using this) ?_ (by simp at p;omega) (h4 w u);intro j;by_cases n:k=j
   .subst n;rw[Array.getElem?_setIfInBounds_self_of_lt (by
     have:=g k;rw[aj b] at this;exact (cb4.1 this).1),aj b]
    simp
   .rw[FM n,g j];split
    .congr 1;rw[decide_eq_decide];omega
    .rfl
theorem QU{ro:Option Nat}(m:je P sp/\N0.g=sp.gl){p:Nat->Prop}{e:bi}{q:ca8}
  (k:∀ f A' env' l w',K f->gR w0 N0 A' env' f l w'→dM p e q A' env' w'→Q .normal l w') :
  ∀(c:Nat)(b:Array Bool)(j:sn)(F:FS)(A:Nat->Prop)(env:bi)(a:Act)(w:ca8),zD P sp ops msk K c b j F->gR w0 N0 A env F a w->dM p e q A env w →
   wpAnyIn (wf ro) 0 P .any ops Q c b a w
 | 0,_,_,F,A,env,a,w,h,t,x=>⟨h.1,k _ _ _ _ _ h.2 t x⟩
 | c+1,b,j,F,A,env,a,w,h,t,x=>by
  refine⟨λh0=>k _ _ _ _ _ (h.1 h0) t x,λi hi=>?_⟩;have d:=h.2 i hi;unfold wu at d;unfold wpOpIn;split at d
  next n=>simp only[n];exact QU m k c _ _ F A env a w d t x
  next o n=>simp only[n];have ⟨st,r,h1,h2,_,h4⟩:=d;exact (M4 m t h1 h2).2 ro _ _ λf A' env' l w' hF t' x'=>QU m k c _ _ f A' env' l w' (h4 f hF) t' (x.trans x')
theorem TH{ro:Option Nat}(f:je P sp/\N0.g=sp.gl){i:Nat->Prop}{b:bi}{m:ca8}
  (n:∀ d A' env' e w',K d->gR w0 N0 A' env' d e w'→dM i b m A' env' w'→Q .normal e w') :
  ∀(l:List cf9)(k:Nat)(c:sn)(F:FS)(A:Nat->Prop)(env:bi)(a:Act)(w:ca8),(∀ j,l[j]? = ops[k+j]?)->zK P sp ops msk K l k c F->gR w0 N0 A env F a w->dM i b m A env w →
   wpOpsIn (wf ro) 0 P ops Q (cB8 k (be l)) a w
 | [],k,c,F,A,env,a,w,_,h,t,x=>n _ _ _ _ _ h t x
 | o::l,k,c,F,A,env,a,w,p,h,t,x=>by
  have q:ops[k]? = bZ1 o:=by simpa using (p 0).symm
  simp only[zK] at h;unfold wu at h;rw[q] at h;have ⟨st,r,h1,h2,_,h4⟩:=h;rw[cX,cx6,wpOpsIn_cons];unfold wpOpIn;simp only[q];exact (M4 f t h1 h2).2 ro _ _ λd A' env' e w' hF t' x' =>
   TH f n l (k+1) _ d A' env' e w' (λj=>by have:=p (j+1);simpa[gG,yO 1 j] using this) (h4 d hF) t' (x.trans x')
theorem gR.drew{A:Nat->Prop}{env:bi}{F:FS}{a:Act}{w:ca8}(t:gR w0 N0 A env F a w):gR w0 N0 A env F a w.drew/\dM A env w A env w.drew:=by
 have u:lP (λ_=>False) (λ_=>False) A env F.h w A env F.h w.drew:=lP.none (cZ.drew w _)
 have x:=t.m.ext u
 exact⟨⟨t.m.upd u,t.len,λi=>Dy x _ _ (t.f i),t.dfr.mono x.dfo⟩,x⟩
theorem av1{ro:Option Nat}(e:je P sp/\N0.g=sp.gl)(c:P.follows .mixedOrders=bZ3){id:Nat}{b:Bool}{A:Nat->Prop}{env:bi}{F:FS}{a:Act}{w:ca8}(hd:b=bZ3->CK 0 ops.toList=bZ3/\msk=H4 ops.toList [])
  (t:gR w0 N0 A env F a w) (h:zK P sp ops msk K ops.toList 0 [] F)
  (f:∀ i A' env' k w',K i->gR w0 N0 A' env' i k w'→dM A env w A' env' w'→Q .normal k w'):(cB9 id ops b).wpIn (wf ro) 0 P Q a w:=by
 cases b with
 | false =>
  refine wpIn_region ?_;have:=TH (ro:=ro) e f ops.toList 0 [] F A env a w az h t dM.refl;rw[ct2];simpa using this
 | true =>
  have ⟨d,hm⟩:=hd rfl;subst hm;have ⟨t',x'⟩:=t.drew;refine wpIn_region_any c ?_;have:=TS (YD ops.toList 0 [] az rfl (by simp[xi])) d ops.toList 0 (Array.replicate ops.size bZ6) [] F az (λj=>by
   rw[Array.getElem?_replicate];split <;> simp) az h
  have h2:=QU (ro:=ro) e f _ _ _ F A env a w.drew this t' x';simpa using h2
end
structure St where
 sl:List SV
 H:List (Nat×Nm)
def fa:List (Nat×Nm)->Nat->Nm
 | [],_ => .un
 | (m,b)::r,n=>match ca0 n m with
  | true=>b
  | false=>fa r n
def St.fs(S:St):FS:=⟨S.sl,fa S.H⟩
theorem QQ:∀(H:List (Nat×Nm)),fa H=dJ H (λ_=>.un)
 | []=>rfl
 | (m,b)::r=>by
  funext n;simp only[fa,dJ,bZ.set];by_cases h:n=m
  .subst h;simp
  .have:ca0 n m=false:=by
    cases hb:ca0 n m with
    | false=>rfl
    | true=>exact absurd (bK hb) h
   rw[this,ah h,QQ r]
theorem bM7(u H:List (Nat×Nm)):fa (u++H)=dJ u (fa H):=by
 rw[QQ,QQ,P7]
def ar(b:Bool)(y n:Prop):Prop:=match b with
 | true=>y
 | false=>n
def ww:List Prop->Prop->Prop
 | [],q=>q
 | p::r,q=>p/\ww r q
theorem Bl{l:List Prop}{q:Prop}:ww l q↔bQ l/\q:=by
 induction l with
 | nil=>simp[ww,bQ]
 | cons p l ih=>simp[ww,bQ,ih,and_assoc]
def Jo(v:SV)(k:SV->Prop):Prop:=match v with
 | .int a b=>k (.int a b)
 | .bool b=>k (.bool b)
 | .str s=>k (.str s)
 | .dsl t xs=>k (.dsl t xs)
 | .dsx t xs=>k (.dsx t xs)
 | .nilsl=>k .nilsl
 | .own n s=>k (.own n s)
 | .ptr n o=>k (.ptr n o)
 | .eptr n s i o=>k (.eptr n s i o)
 | .dptr t d o=>k (.dptr t d o)
 | .nilp=>k .nilp
 | .fn f c=>k (.fn f c)
 | .agg c=>k (.agg c)
 | .tup c=>k (.tup c)
 | .opt b v=>k (.opt b v)
 | .cv v=>k (.cv v)
 | .gl g=>k (.gl g)
 | .csl n l=>k (.csl n l)
 | .mapp n=>k (.mapp n)
 | .arr c n xs=>k (.arr c n xs)
 | .yld r ts c=>k (.yld r ts c)
 | .junk=>k .junk
theorem ME(v:SV)(k:SV->Prop):Jo v k=k v:=by cases v <;> rfl
def BH:List SV->(List SV->Prop)->Prop
 | [],k=>k []
 | x::xs,k=>Jo x λy=>BH xs λys=>k (y::ys)
theorem XU:∀(l:List SV)(k:List SV->Prop),BH l k=k l
 | [],k=>rfl
 | x::xs,k=>by simp only[BH,ME,XU xs]
def E6(v:SV)(k:SV->Prop):Prop:=Jo v λv=>match v with
 | .agg c=>BH c λc=>k (.agg c)
 | .tup c=>BH c λc=>k (.tup c)
 | .fn f c=>BH c λc=>k (.fn f c)
 | .yld r ts c=>BH c λc=>k (.yld r ts c)
 | .opt b v=>Jo v λv=>k (.opt b v)
 | v=>k v
theorem Ma(v:SV)(k:SV->Prop):E6 v k=k v:=by
 unfold E6;rw[ME];cases v <;> simp only[XU,ME]
def EE:List SV->(List SV->Prop)->Prop
 | [],k=>k []
 | x::xs,k=>E6 x λy=>EE xs λys=>k (y::ys)
theorem Pc:∀(l:List SV)(k:List SV->Prop),EE l k=k l
 | [],k=>rfl
 | x::xs,k=>by simp only[EE,Ma,Pc xs]
def KM(v:SV)(k:SV->Prop):Prop:=E6 v λv=>match v with
 | .tup c=>EE c λc=>k (.tup c)
 | .opt b v=>E6 v λv=>k (.opt b v)
 | v=>k v
theorem RZ(v:SV)(k:SV->Prop):KM v k=k v:=by
 unfold KM;rw[Ma];cases v <;> simp only[Pc,Ma]
def zh:List Nat->(List Nat->Prop)->Prop
 | [],k=>k []
 | n::r,k=>zh r λr=>k (n::r)
theorem JD:∀(l:List Nat)(k:List Nat->Prop),zh l k=k l
 | [],k=>rfl
 | n::r,k=>by simp only[zh,JD r]
def Kn(b:Nm)(k:Nm->Prop):Prop:=match b with
 | .un=>k .un
 | .dead=>k .dead
 | .live b=>match b with
  | .cells E cs=>EE cs λcs=>k (.live (.cells E cs))
  | .row E t xs=>k (.live (.row E t xs))
  | .frz E t xs=>k (.live (.frz E t xs))
  | .mp kk vk l=>k (.live (.mp kk vk l))
  | .opn E t xs i cs=>EE cs λcs=>k (.live (.opn E t xs i cs))
  | .ary E kk n xs=>k (.live (.ary E kk n xs))
theorem U0(b:Nm)(k:Nm->Prop):Kn b k=k b:=by
 cases b with
 | live b=>cases b <;> simp only[Kn,Pc]
 | _=>rfl
def G4:List SV->Nat->SV->(List SV->Prop)->Prop
 | [],_,_,k=>k []
 | _::xs,0,v,k=>k (v::xs)
 | x::xs,n+1,v,k=>G4 xs n v λys=>k (x::ys)
theorem WN:∀(l:List SV)(n:Nat)(v:SV)(k:List SV->Prop),G4 l n v k=k (l.set n v)
 | [],n,v,k=>by simp[G4]
 | x::xs,0,v,k=>rfl
 | x::xs,n+1,v,k=>by simp only[G4,WN xs,List.set_cons_succ]
def HZ:List (Nat×Nm)->List (Nat×Nm)->(List (Nat×Nm)->Prop)->Prop
 | [],H,k=>k H
 | (n,b)::r,H,k=>HZ r H λH'=>Kn b λb'=>k ((n,b')::H')
theorem Y9:∀(u H:List (Nat×Nm))(k:List (Nat×Nm)->Prop),HZ u H k=k (u++H)
 | [],H,k=>rfl
 | (n,b)::r,H,k=>by simp only[HZ,Y9 r,U0,kO]
def xo(S:St)(dst:Option Tmp)(v:SV)(upd:List (Nat×Nm))(k:St->Prop):Prop:=match S with
 | ⟨sl,H⟩=>HZ upd H λH=>match dst with
  | some d=>KM v λv=>G4 sl d v λsl=>k ⟨sl,H⟩
  | none=>k ⟨sl,H⟩
theorem aq9(S:St)(dst:Option Tmp)(v:SV)(a:List (Nat×Nm))(k:St->Prop):xo S dst v a k=k ⟨mg S.sl dst v,a++S.H⟩:=by
 unfold xo
 simp only
 rw[Y9]
 cases dst with
 | none=>rfl
 | some d=>simp only[RZ,WN,mg]
def C5{X:Type}(x:X):List (Nat×(X->Nm))->List (Nat×Nm)
 | []=>[]
 | (n,f)::r=>(n,f x)::C5 x r
theorem Xw{X:Type}(x:X):∀(u:List (Nat×(X->Nm))),C5 x u=u.map λp=>(p.1,p.2 x)
 | []=>rfl
 | (n,f)::r=>by simp[C5,Xw x r]
def Lq(dst:Option Tmp)(S:St)(k:St->Prop):kq->Prop
 | .go (.det pre v upd)=>ww pre (xo S dst v upd k)
 | .go (.nd X qn pre R _ v upd)=>ww pre (qn.all λx=>R x->xo S dst (v x) (C5 x upd) k)
 | .split g (.det pre v upd)=>ar g (ww pre (xo S dst v upd k)) (xo S dst (.cv undef) [] k)
 | .split g (.nd X qn pre R _ v upd)=>ar g (ww pre (qn.all λx=>R x->xo S dst (v x) (C5 x upd) k)) (xo S dst (.cv undef) [] k)
theorem PH{dst:Option Tmp}{S:St}{k:St->Prop}{o:kq}(h:Lq dst S k o):o.pre∧∀ e,nC o dst S.fs e→∃ f,f.fs=e/\k f:=by
 have l:∀ v u,xo S dst v u k→∃ f,f.fs=⟨mg S.sl dst v,dJ u (fa S.H)⟩/\k f:=λv u r=>by
  rw[aq9] at r;exact⟨_,by simp only[St.fs,bM7],r⟩
 have m:∀{X:Type}{j:Qn X}{R:X->Prop}{v:X->SV}{a:List (Nat×(X->Nm))},(j.all λx=>R x->xo S dst (v x) (C5 x a) k)→∀(x:X),R x →
   ∃ f,f.fs=⟨mg S.sl dst (v x),dJ (a.map λp=>(p.1,p.2 x)) (fa S.H)⟩/\k f:=λ{X j R v a} c x n=>by
  have:=j.hall _ c x n;rw[Xw] at this;exact l _ _ this
 cases o with
 | go d =>
  cases d with
  | det pre v a =>
   have ⟨i,c⟩:=Bl.1 h;exact⟨i,by rintro e ⟨x,_,rfl⟩;exact l _ _ c⟩
  | nd X j pre R q v a =>
   have ⟨i,c⟩:=Bl.1 h;refine⟨i,?_⟩;rintro e ⟨x,n,rfl⟩;exact m c x n
 | split g d =>
  cases d with
  | det pre v a =>
   cases g with
   | true =>
    have ⟨i,c⟩:=Bl.1 h;exact⟨λ_=>i,by rintro e (⟨_,x,_,rfl⟩|⟨b,_⟩);exact l _ _ c;cases b⟩
   | false =>
    exact⟨λb=>(by cases b),by rintro e (⟨b,_⟩|⟨_,rfl⟩);cases b;exact l (.cv undef) [] h⟩
  | nd X j pre R q v a =>
   cases g with
   | true =>
    have ⟨i,c⟩:=Bl.1 h;refine⟨λ_=>i,?_⟩;rintro e (⟨_,x,n,rfl⟩|⟨b,_⟩)
    .exact m c x n
    .cases b
   | false =>
    exact⟨λb=>(by cases b),by rintro e (⟨b,_⟩|⟨_,rfl⟩);cases b;exact l (.cv undef) [] h⟩
def M8(v:SV)(k:SV->Prop):Prop:=match v with
 | .int c e=>∀ n:Int,n=e->k (.int c n)
 | .bool e=>∀ b:Bool,b=e->k (.bool b)
 | .opt g v=>match v with
  | .int c e=>∀ n:Int,n=e->k (.opt g (.int c n))
  | .bool e=>∀ b:Bool,b=e->k (.opt g (.bool b))
  | v=>k (.opt g v)
 | v=>k v
theorem aj0{v:SV}{k:SV->Prop}(h:M8 v k):k v:=by
 unfold M8 at h
 grind
def Px:List SV->Nat->(List SV->Prop)->Prop
 | [],_,k=>k []
 | v::l,0,k=>M8 v λv=>k (v::l)
 | v::l,n+1,k=>Px l n λl=>k (v::l)
theorem XY:∀{l:List SV}{n:Nat}{k:List SV->Prop},Px l n k->k l
 | [],_,k,h=>h
 | v::l,0,k,h=>aj0 (v:=v) h
 | v::l,n+1,k,h=>XY (l:=l) h
def IW(gs:List Nat)(dst:Option Tmp)(k:St->Prop)(S:St):Prop:=match dst with
 | some d=>match qP d gs with
  | true=>match S with
   | ⟨sl,H⟩=>Px sl d λsl=>k ⟨sl,H⟩
  | false=>k S
 | none=>k S
theorem Ui{gs:List Nat}{dst:Option Tmp}{k:St->Prop}{S:St}(h:IW gs dst k S):k S:=by
 unfold IW at h
 split at h
 .split at h
  .exact XY h
  .exact h
 .exact h
def B4(all:List cf9):List cf9->List Nat
 | []=>[]
 | o::l=>match o.guard with
  | some (j,_)=>match pj all j with
   | some oj=>match oj.dst with
    | some d=>match qP d (B4 all l) with
     | true=>B4 all l
     | false=>d::B4 all l
    | none=>B4 all l
   | none=>B4 all l
  | none=>B4 all l
def KX(P:ca7)(sp:fe)(all:List cf9)(gs:List Nat)(k:St->Prop):List cf9->St->Prop
 | [],S=>k S
 | o::l,S=>match (pX P sp all o S.sl).run (fa S.H) with
  | some (st,_)=>Lq o.dst S (IW gs o.dst (KX P sp all gs k l)) st
  | none=>False
def PO:SV->SV->Option (List Prop)
 | .int k n,.int k' m=>match jW k k' with
  | true=>bZ1 [n=m]
  | false=>bZ9
 | .bool b,.bool c=>bZ1 [b=c]
 | .str b,.str c=>bZ1 [b=c]
 | .dsl t xs,.dsl t' ys=>match iq t' t ys with
  | some zs=>bZ1 [xs=zs]
  | none=>bZ9
 | .dsx t xs,.dsx t' ys=>match iq t' t ys with
  | some zs=>bZ1 [xs=zs]
  | none=>bZ9
 | .nilsl,.nilsl=>bZ1 []
 | .nilp,.nilp=>bZ1 []
 | .own n s,.own m z=>match ca0 n m,ca0 s z with
  | true,bZ3=>bZ1 []
  | _,_=>bZ9
 | .ptr n s,.ptr m z=>match ca0 n m,ca0 s z with
  | true,bZ3=>bZ1 []
  | _,_=>bZ9
 | _,_=>bZ9
theorem bP3{u v:SV}{ps:List Prop}(h:PO u v=bZ1 ps)(a:bQ ps):u=v:=by
 unfold PO at h
 split at h
 .split at h
  next hk=>cases j6 hk;cases h;rw[a.1]
  .cases h
 .cases h;rw[a.1]
 .cases h;rw[a.1]
 .split at h
  next zs hc=>have ⟨b,c⟩:=kC hc;subst b;subst c;cases h;rw[a.1]
  .cases h
 .split at h
  next zs hc=>have ⟨b,c⟩:=kC hc;subst b;subst c;cases h;rw[a.1]
  .cases h
 .rfl
 .rfl
 .split at h
  .simp_all
  .cases h
 .split at h
  .simp_all
  .cases h
 .cases h
def Ez:List Nat->List Nat->Bool
 | [],[]=>bZ3
 | a::l,b::m=>ca0 a b&&Ez l m
 | _,_=>bZ6
theorem Hp:∀{l m:List Nat},Ez l m=bZ3->l=m
 | [],[],_=>rfl
 | a::l,b::m,h=>by
  simp only[Ez,fx] at h;rw[bK h.1,Hp h.2]
def Jn:List Nat->List Nat->Bool
 | [],_=>bZ3
 | a::l,m=>qP a m&&Jn l m
theorem Vz:∀{l m:List Nat},Jn l m=bZ3→∀ n∈l,n∈m
 | a::l,m,h,n,c=>by
  simp only[Jn,fx] at h;obtain rfl|c:=dO.1 c
  .exact AC.1 h.1
  .exact Vz h.2 n c
def I7:kq->Option SV
 | .go (.det [] v [])=>bZ1 v
 | _=>bZ9
theorem MT{a:kq}{v:SV}(h:I7 a=bZ1 v):a = .go (.det [] v []):=by
 unfold I7 at h
 grind
def PW:kq->Option (List (Nat×Nm))
 | .go (.det _ _ u)=>bZ1 u
 | _=>bZ9
theorem al3{a:kq}{u:List (Nat×Nm)}(h:PW a=bZ1 u):∃ p v,a = .go (.det p v u):=by
 unfold PW at h
 grind
def KY(t:qh)(v:SV)(h:bZ):Option (List Prop):=match t.q.run h with
 | some (st,r)=>match I7 st with
  | some v1=>match Ez r t.rd with
   | true=>PO v1 v
   | false=>bZ9
  | none=>bZ9
 | none=>bZ9
def Hk(s t:qh):Option (List Prop):=match PW s.st,I7 t.st with
 | some u,bZ1 v=>match Jn t.rd s.wr with
  | true=>match KY t v s.old,KY t v (dJ u s.old) with
   | some p,bZ1 q=>bZ1 (p++q)
   | _,_=>bZ9
  | false=>bZ9
 | _,_=>bZ9
def OV(s t:qh):Option (List Prop):=match rQ s.wr t.wr&&rQ s.swr t.srd&&rQ s.swr t.swr&&rQ t.swr s.srd with
 | true=>match (match rQ s.wr t.rd with|true=>bZ1 []|false=>Hk s t),(match rQ t.wr s.rd with|true=>bZ1 []|false=>Hk t s) with
  | some p,bZ1 q=>bZ1 (p++q)
  | _,_=>bZ9
 | false=>bZ9
def Fa(msk:List Nat)(i:Nat)(t:qh):sn->Option (List Prop)
 | []=>bZ1 []
 | (j,s)::r=>match C9 msk j i||Q5 s t with
  | true=>Fa msk i t r
  | false=>match OV s t with
   | some ps=>match Fa msk i t r with
    | some qs=>bZ1 (ps++qs)
    | none=>bZ9
   | none=>bZ9
theorem Ra{t:qh}{v:SV}{h:bZ}{ps:List Prop}(e:KY t v h=bZ1 ps)(hp:bQ ps):t.q.run h=bZ1 (.go (.det [] v []),t.rd):=by
 unfold KY at e
 split at e
 next st r hr=>
  split at e
  .rename_i v1 h1;split at e
   next h2=>rw[hr,MT h1,Hp h2,bP3 e hp]
   .cases e
  .cases e
 .cases e
theorem Y7{s t:qh}{ps:List Prop}(e:Hk s t=bZ1 ps)(hp:bQ ps):Ou s t:=by
 unfold Hk at e
 split at e
 next u v hu hv=>
  split at e
  .rename_i hs;split at e
   .rename_i p q h1 h2;cases e;have ⟨c1,c2⟩:=sJ.1 hp;have ⟨pre,v0,a⟩:=al3 hu;refine⟨pre,v0,u,a,Vz hs,?_,?_⟩
    .rw[MT hv];exact Ra h1 c1
    .rw[MT hv];exact Ra h2 c2
   .cases e
  .cases e
 .cases e
theorem a45{s t:qh}{ps:List Prop}(e:OV s t=bZ1 ps)(hp:bQ ps):wQ s t:=by
 unfold OV at e
 split at e
 next b=>
  simp at b;have ⟨⟨⟨b1,b2⟩,b3⟩,b4⟩:=b;split at e
  .rename_i p q h1 h2;cases e;have ⟨c1,c2⟩:=sJ.1 hp;refine⟨?_,tD b1,?_,tD b2,tD b3,tD b4⟩
   .split at h1
    next a=>exact .inl (tD a)
    .exact .inr (Y7 h1 c1)
   .split at h2
    next a=>exact .inl (tD a)
    .exact .inr (Y7 h2 c2)
  .cases e
 .cases e
theorem N5{msk:List Nat}{i:Nat}{t:qh}:∀{l:sn}{ps:List Prop},Fa msk i t l=bZ1 ps->bQ ps->K7 msk i t l
 | [],_,_,_=>λp b=>by cases b
 | (j,s)::r,ps,e,b=>by
  simp only[Fa] at e;split at e
  .rename_i c;intro p a;rcases dO.1 a with rfl|a
   .simp at c;exact c.imp id aU5
   .exact N5 e b p a
  .split at e
   .rename_i p1 h1;split at e
    .rename_i q h2;cases e;obtain⟨c1,c2⟩:=sJ.1 b;intro p a;obtain rfl|a:=dO.1 a
     .exact .inr (a45 h1 c1)
     .exact N5 h2 c2 p a
    .cases e
   .cases e
def Io(P:ca7)(sp:fe)(ops:Array cf9)(gs:List Nat)(msk:List Nat)(k:St->Prop):List cf9->Nat->sn->St->Prop
 | [],_,_,S=>k S
 | o::l,i,log,S=>match (pX P sp ops.toList o S.sl).run (fa S.H) with
  | some (st,r)=>zh r λr=>zh st.wr λwr=>zh (o.looksAt ops) λlk=>match Fa msk i ⟨r,wr,lk,zS o.dst,pX P sp ops.toList o S.sl,st,wB wr (fa S.H)⟩ log with
   | some ps=>ww ps (Lq o.dst S (IW gs o.dst (Io P sp ops gs msk k l (i+1) ((i,⟨r,wr,lk,zS o.dst,pX P sp ops.toList o S.sl,st,wB wr (fa S.H)⟩)::log))) st)
   | none=>False
  | none=>False
def MU(P:ca7)(sp:fe)(nms:List Nat)(ops:Array cf9)(draw:Bool)(k:St->Prop)(S:St):Prop :=
 zh (B4 ops.toList ops.toList++nms) λgs=>match draw with
 | false=>KX P sp ops.toList gs k ops.toList S
 | true=>match CK 0 ops.toList with
  | true=>zh (H4 ops.toList []) λmsk=>Io P sp ops gs msk k ops.toList 0 [] S
  | false=>False
section
variable {P:ca7} {sp:fe} {ops:Array cf9} {gs nms:List Nat} {msk:List Nat} {w0:ca8} {N0:fI} {Q:Exit->Act->ca8->Prop} {k:St->Prop}
theorem Wg:∀(l:List cf9)(i:Nat)(log:sn)(S:St),(∀ j,l[j]? = ops[i+j]?)->Io P sp ops gs msk k l i log S →
  zK P sp ops msk (λF=>∃ a,St.fs a=F/\k a) l i log S.fs
 | [],i,log,S,_,h=>⟨S,rfl,h⟩
 | o::l,i,log,S,d,h=>by
  have h0:ops[i]? = bZ1 o:=by simpa using (d 0).symm
  simp only[Io] at h;simp only[zK];unfold wu;rw[h0];split at h
  .rename_i st r hr;simp only[JD] at h;split at h
   next ps b=>have ⟨c,h⟩:=Bl.1 h;have ⟨h1,h2⟩:=PH h;refine⟨st,r,hr,h1,N5 b c,λF' hF=>?_⟩;obtain⟨a,rfl,h3⟩:=h2 F' hF;exact Wg l (i+1) _ a (λj=>by have:=d (j+1);simpa[gG,yO 1 j] using this) (Ui h3)
   .exact h.elim
  .exact h.elim
theorem XX{ro:Option Nat}(e:je P sp/\N0.g=sp.gl){f:Nat->Prop}{b:bi}{m:ca8}
  (n:∀ c A' env' d w',k c->gR w0 N0 A' env' (St.fs c) d w'→dM f b m A' env' w'→Q .normal d w') :
  ∀(l:List cf9)(i:Nat)(S:St)(A:Nat->Prop)(env:bi)(a:Act)(w:ca8),(∀ j,l[j]? = ops[i+j]?)->KX P sp ops.toList gs k l S->gR w0 N0 A env S.fs a w->dM f b m A env w →
   wpOpsIn (wf ro) 0 P ops Q (cB8 i (be l)) a w
 | [],i,S,A,env,a,w,_,h,t,x=>n _ _ _ _ _ h t x
 | o::l,i,S,A,env,a,w,p,h,t,x=>by
  have h0:ops[i]? = bZ1 o:=by simpa using (p 0).symm
  simp only[KX] at h;rw[cX,cx6,wpOpsIn_cons];unfold wpOpIn;simp only[h0];split at h
  next st r hr=>have ⟨h1,h2⟩:=PH h;refine (M4 e t hr h1).2 ro _ _ λF' A' env' d w' hF t' x'=>?_;obtain⟨c,rfl,h3⟩:=h2 F' hF;exact XX e n l (i+1) c A' env' d w' (λj=>by have:=p (j+1);simpa[gG,yO 1 j] using this) (Ui h3) t' (x.trans x')
  .exact h.elim
theorem au3{ro:Option Nat}(e:je P sp/\N0.g=sp.gl)(c:P.follows .mixedOrders=bZ3){id:Nat}{b:Bool}{A:Nat->Prop}{env:bi}{S:St}{a:Act}{w:ca8}
  (t:gR w0 N0 A env S.fs a w) (h:MU P sp nms ops b k S)
  (hQ:∀ f A' env' i w',k f->gR w0 N0 A' env' (St.fs f) i w'→dM A env w A' env' w'→Q .normal i w'):(cB9 id ops b).wpIn (wf ro) 0 P Q a w:=by
 unfold MU at h
 rw[JD] at h
 cases b with
 | false =>
  refine wpIn_region ?_;have:=XX (ro:=ro) e hQ ops.toList 0 S A env a w az h t dM.refl;rw[ct2];simpa using this
 | true =>
  simp only at h;split at h
  next d=>rw[JD] at h;refine av1 e c (λ_=>⟨d,rfl⟩) t (Wg ops.toList 0 [] S az h) ?_;grind
  .exact h.elim
end
end Go.SX
namespace Go.SX
def PN:Nat:=1048576
def QN:Nat:=2097152
abbrev Rn:=List (Nat×Option Nat)
def cR:Rn->Nat->Option (Option Nat)
 | [],_=>bZ9
 | (m,x)::r,n=>match ca0 n m with
  | true=>bZ1 x
  | false=>cR r n
def N2:Option Nat->Option Nat->Bool
 | none,bZ9=>bZ3
 | some a,bZ1 b=>ca0 a b
 | _,_=>bZ6
theorem bq1{a b:Option Nat}(h:N2 a b=bZ3):a=b:=by
 cases a <;> cases b <;> simp only[N2,F1] at h
 .rfl
 .simp_all
def CY(m:Nat):Rn->Bool
 | []=>bZ6
 | (_,bZ1 k)::r=>ca0 m k||CY m r
 | (_,bZ9)::r=>CY m r
def KD(c:Nat)(x:Option Nat)(R:Rn):Option Rn:=match cR R c with
 | some y=>match N2 y x with
  | true=>bZ1 R
  | false=>bZ9
 | none=>match x with
  | none=>bZ1 ((c,bZ9)::R)
  | some m=>match CY m R with
   | true=>bZ9
   | false=>bZ1 ((c,bZ1 m)::R)
def jR(R:Rn):Prop:=∀ c c' m,cR R c=bZ1 (bZ1 m)->cR R c'=bZ1 (bZ1 m)->c=c'
def fR(R R':Rn):Prop:=∀ n y,cR R n=bZ1 y->cR R' n=bZ1 y
theorem fR.refl{R:Rn}:fR R R:=λ_ _ h=>h
theorem fR.trans{a b c:Rn}(h:fR a b)(k:fR b c):fR a c:=λn y e=>k n y (h n y e)
theorem Iq{m:Nat}:∀{R:Rn},CY m R=bZ6→∀ c,cR R c≠bZ1 (bZ1 m)
 | [],_,c=>by simp[cR]
 | (n,bZ1 k)::r,h,c=>by
  simp only[CY,Bool.or_eq_false_iff] at h;simp only[cR];split
  .intro e;cases e;rw[zc] at h;cases h.1
  .exact Iq h.2 c
 | (n,bZ9)::r,h,c=>by
  simp only[CY] at h;simp only[cR];split
  .intro e;cases e
  .exact Iq h c
theorem sW{c n:Nat}{x:Option Nat}{R:Rn}:cR ((c,x)::R) n=if n=c then bZ1 x else cR R n:=by
 simp only[cR]
 by_cases h:n=c
 .subst h;simp
 .have:ca0 n c=false:=by
   cases hb:ca0 n c with
   | false=>rfl
   | true=>exact absurd (bK hb) h
  rw[this,ah h]
theorem Rq{c:Nat}{x:Option Nat}{R g:Rn}(h:KD c x R=bZ1 g):cR g c=bZ1 x/\fR R g/\(jR R->jR g):=by
 unfold KD at h
 split at h
 next y j=>
  split at h
  next d=>cases h;rw[bq1 d] at j;exact⟨j,fR.refl,id⟩
  .cases h
 next hn=>
  have l:∀ y,fR R ((c,y)::R):=λy n z i=>by
   rw[sW,ah (λe=>by rw[e,hn] at i;cases i)];exact i
  split at h
  .cases h;refine⟨by rw[sW,aj rfl],l _,λhi a b m f d=>?_⟩;rw[sW] at f d;split at f
   .cases f
   .split at d
    .cases d
    .exact hi a b m f d
  .rename_i m;split at h
   .cases h
   .rename_i o;cases h;refine⟨by rw[sW,aj rfl],l _,λhi a b k f d=>?_⟩;rw[sW] at f d;split at f
    .rename_i ea;cases f;split at d
     next eb=>rw[ea,eb]
     .exact absurd d (Iq o b)
    .split at d
     .cases d;exact absurd f (Iq o a)
     .exact hi a b k f d
def jF(R:Rn)(env:bi):bi:=λn=>match cR R n with
 | some (bZ1 m)=>env m
 | some bZ9 => .nil
 | none => .un
theorem wC{R:Rn}{env:bi}{c m:Nat}(h:cR R c=bZ1 (bZ1 m)):jF R env c=env m:=by unfold jF;rw[h]
theorem Fz{R:Rn}{env:bi}{c:Nat}(h:cR R c=bZ1 bZ9):jF R env c = .nil:=by unfold jF;rw[h]
def rB(p:Prop)(R:Rn):Option (Rn×List Prop):=bZ1 (R,[p])
def zw(c:Nat)(x:Option Nat)(ps:List Prop)(R:Rn):Option (Rn×List Prop):=match KD c x R with
 | some R'=>bZ1 (R',ps)
 | none=>bZ9
def Ix(v u:SV)(R:Rn):Option (Rn×List Prop):=match v,u with
 | .junk,_=>bZ1 (R,[])
 | .int k n,.int k' m=>match jW k k' with
  | true=>rB (m=n) R
  | false=>bZ9
 | .bool b,.bool c=>rB (c=b) R
 | .str b,.str c=>rB (c=b) R
 | .dsl t xs,.dsl t' ys=>match iq t' t ys with
  | some zs=>rB (zs=xs) R
  | none=>bZ9
 | .dsl t xs,.dsx t' ys=>match iq t' t ys with
  | some zs=>rB (zs=xs) R
  | none=>bZ9
 | .dsl t xs,.nilsl=>rB (xs=[]) R
 | .dsx t xs,.dsx t' ys=>match iq t' t ys with
  | some zs=>rB (zs=xs) R
  | none=>bZ9
 | .nilsl,.nilsl=>bZ1 (R,[])
 | .own c sz,.own d sz'=>match ca0 sz sz' with
  | true=>zw c (bZ1 d) [] R
  | false=>bZ9
 | .own c sz,.nilsl=>zw c bZ9 [] R
 | .ptr c o,.ptr d o'=>match ca0 o o' with
  | true=>zw c (bZ1 d) [] R
  | false=>bZ9
 | .eptr c sz i o,.eptr d sz' i' o'=>match ca0 sz sz',ca0 o o' with
  | true,bZ3=>zw c (bZ1 d) [i'=i] R
  | _,_=>bZ9
 | .csl c k,.csl d k'=>match ca0 k k' with
  | true=>zw c (bZ1 d) [] R
  | false=>bZ9
 | .mapp c,.mapp d=>zw c (bZ1 d) [] R
 | .arr k n xs,.arr k' m ys=>match jW k k',ca0 n m with
  | true,bZ3=>rB (ys=xs) R
  | _,_=>bZ9
 | .nilp,.nilp=>bZ1 (R,[])
 | .fn f [],.fn g []=>match ca0 f g with
  | true=>bZ1 (R,[])
  | false=>bZ9
 | .cv x,.cv y=>rB (y=x) R
 | _,_=>bZ9
def BB:List SV->List SV->Rn->Option (Rn×List Prop)
 | [],[],R=>bZ1 (R,[])
 | v::vs,u::us,R=>match Ix v u R with
  | some (R1,p)=>match BB vs us R1 with
   | some (R2,q)=>bZ1 (R2,p++q)
   | none=>bZ9
  | none=>bZ9
 | _,_,_=>bZ9
def Pp(v u:SV)(R:Rn):Option (Rn×List Prop):=match v,u with
 | .agg cs,.agg ds=>BB cs ds R
 | .fn f cs,.fn g ds=>match ca0 f g with
  | true=>BB cs ds R
  | false=>bZ9
 | .yld r ts cs,.yld r' ts' ds=>match Ez ts ts',BB cs ds R with
  | true,bZ1 (R',ps)=>bZ1 (R',(r'=r)::ps)
  | _,_=>bZ9
 | v,u=>Ix v u R
def Oy(b b0:kG)(R:Rn):Option (Rn×List Prop):=match b,b0 with
 | .cells E cs,.cells E' ds=>match ca0 E E' with
  | true=>BB cs ds R
  | false=>bZ9
 | .row E t xs,.row E' t' ys=>match ca0 E E',iq t' t ys with
  | true,bZ1 zs=>rB (zs=xs) R
  | _,_=>bZ9
 | .frz E t xs,.frz E' t' ys=>match ca0 E E',iq t' t ys with
  | true,bZ1 zs=>rB (zs=xs) R
  | _,_=>bZ9
 | .ary E k n xs,.ary E' k' m ys=>match ca0 E E',jW k k',ca0 n m with
  | true,bZ3,bZ3=>rB (ys=xs) R
  | _,_,_=>bZ9
 | .mp kk vk l,.mp kk' vk' l'=>match jW kk kk',jW vk vk' with
  | true,bZ3=>rB (l'=l) R
  | _,_=>bZ9
 | _,_=>bZ9
section
variable {A:Nat->Prop} {env:bi} {w:ca8}
theorem ED{c:Nat}{x:Option Nat}{ps d:List Prop}{R e:Rn}(h:zw c x ps R=bZ1 (e,d)):cR e c=bZ1 x/\fR R e/\(jR R->jR e)/\d=ps:=by
 unfold zw at h
 split at h
 next R1 h1=>cases h;have ⟨a,b,c⟩:=Rq h1;exact⟨a,b,c,rfl⟩
 .cases h
theorem Fr{p:Prop}{a:List Prop}{R b:Rn}(h:rB p R=bZ1 (b,a)):b=R/\(bQ a->p):=by
 cases h;exact⟨rfl,λh=>h.1⟩
theorem Ux{v u:SV}{R i:Rn}{ps:List Prop}(h:Ix v u R=bZ1 (i,ps)) :
  fR R i/\(jR R->jR i)/\(bQ ps→∀ b,fR i b→∀ x,aA A env w u x->aA A (jF b env) w v x):=by
 have c:∀{p:Prop},rB p R=bZ1 (i,ps)->(p→∀ b,fR i b→∀ x,aA A env w u x->aA A (jF b env) w v x) →
   fR R i/\(jR R->jR i)/\(bQ ps→∀ b,fR i b→∀ x,aA A env w u x->aA A (jF b env) w v x):=λe f=>by
  obtain⟨rfl,hp⟩:=Fr e;exact⟨fR.refl,id,λh=>f (hp h)⟩
 have g:bZ1 (R,([]:List Prop))=bZ1 (i,ps)->(∀ b,∀ x,aA A env w u x->aA A (jF b env) w v x) →
   fR R i/\(jR R->jR i)/\(bQ ps→∀ b,fR i b→∀ x,aA A env w u x->aA A (jF b env) w v x):=λe f=>by
  cases e;exact⟨fR.refl,id,λ_ b _=>f b⟩
 unfold Ix at h
 split at h
 .exact g h λb x _=>by simp only[aA]
 .split at h
  next r=>cases j6 r;exact c h λe b _ x a=>by subst e;simpa only[aA] using a
  .cases h
 .exact c h λe b _ x a=>by subst e;simpa only[aA] using a
 .exact c h λe b _ x a=>by subst e;simpa only[aA] using a
 .split at h
  next zs o=>have ⟨q,n⟩:=kC o;subst q;exact c h λe b _ x a=>by simp only at n;subst n;subst e;simpa only[aA] using a
  .cases h
 .split at h
  next zs o=>have ⟨q,n⟩:=kC o;subst q;exact c h λe b _ x a=>by simp only at n;subst n;subst e;exact a.1
  .cases h
 .exact c h λe b _ x a=>by subst e;subst a;exact⟨az,.inl ⟨⟨_,rfl⟩,rfl⟩⟩
 .split at h
  next zs o=>have ⟨q,n⟩:=kC o;subst q;exact c h λe b _ x a=>by simp only at n;subst n;subst e;simpa only[aA] using a
  .cases h
 .exact g h λb x a=>by simpa only[aA] using a
 .split at h
  next d=>have d:=bK d;subst d;obtain⟨j,k,l,rfl⟩:=ED h;refine⟨k,l,λ_ b m x a=>?_⟩;simp only[aA] at a ⊢;rw[wC (m _ _ j)];exact a
  .cases h
 .obtain⟨j,k,l,rfl⟩:=ED h;refine⟨k,l,λ_ b m x a=>?_⟩;exact .inl ⟨Fz (m _ _ j),_,a⟩
 .split at h
  next d=>have d:=bK d;subst d;obtain⟨j,k,l,rfl⟩:=ED h;refine⟨k,l,λ_ b m x a=>?_⟩;simp only[aA] at a ⊢;rw[wC (m _ _ j)];exact a
  .cases h
 .split at h
  next d s=>have d:=bK d;have s:=bK s;subst d s;obtain⟨j,k,l,rfl⟩:=ED h;refine⟨k,l,λo b m x a=>?_⟩;have hi:=o.1;subst hi;simp only[aA] at a ⊢;rw[wC (m _ _ j)];exact a
  .cases h
 .split at h
  next d=>have d:=bK d;subst d;obtain⟨j,k,l,rfl⟩:=ED h;refine⟨k,l,λ_ b m x a=>?_⟩;simp only[aA] at a ⊢;rw[wC (m _ _ j)];exact a
  .cases h
 .obtain⟨j,k,l,rfl⟩:=ED h;refine⟨k,l,λ_ b m x a=>?_⟩;simp only[aA] at a ⊢;rw[wC (m _ _ j)];exact a
 .split at h
  next r hn=>cases j6 r;cases bK hn;exact c h λe b _ x a=>by subst e;simpa only[aA] using a
  .cases h
 .exact g h λb x a=>by simpa only[aA] using a
 .split at h
  next d=>have d:=bK d;subst d;exact g h λb x a=>by simp only[aA,aM] at a ⊢;exact a
  .cases h
 .exact c h λe b _ x a=>by subst e;simpa only[aA] using a
 .cases h
theorem Gn:∀{vs d:List SV}{R a:Rn}{ps:List Prop},BB vs d R=bZ1 (a,ps) →
  fR R a/\(jR R->jR a)/\(bQ ps→∀ b,fR a b→∀ xs,aM A env w d xs->aM A (jF b env) w vs xs)
 | [],[],R,a,ps,h=>by
  cases h;exact⟨fR.refl,id,λ_ b _ xs c=>by simpa only[aM] using c⟩
 | v::vs,u::d,R,a,ps,h=>by
  simp only[BB] at h;split at h
  .rename_i R1 p h1;split at h
   next R2 q h2=>cases h;obtain⟨a1,a2,a3⟩:=Ux h1;have ⟨e,b2,b3⟩:=Gn h2;refine⟨a1.trans e,λh=>b2 (a2 h),λhc b f xs c=>?_⟩;have ⟨c1,c2⟩:=sJ.1 hc;obtain⟨x,r,rfl,c,hr⟩:=c;exact⟨x,r,rfl,a3 c1 b (e.trans f) x c,b3 c2 b f r hr⟩
   .cases h
  .cases h
theorem br3{v u:SV}{R e:Rn}{ps:List Prop}(h:Pp v u R=bZ1 (e,ps)) :
  fR R e/\(jR R->jR e)/\(bQ ps→∀ a,fR e a→∀ x,aA A env w u x->aA A (jF a env) w v x):=by
 unfold Pp at h
 split at h
 .have ⟨b,c,i⟩:=Gn (A:=A) (env:=env) (w:=w) h;refine⟨b,c,λf a j x d=>?_⟩;simp only[aA] at d ⊢;grind
 .split at h
  next g=>have g:=bK g;have ⟨b,c,i⟩:=Gn (A:=A) (env:=env) (w:=w) h;refine⟨b,c,λf a j x d=>?_⟩;simp only[aA] at d ⊢;grind
  .cases h
 .split at h
  next g hr=>cases Hp g;cases h;have ⟨b,c,i⟩:=Gn (A:=A) (env:=env) (w:=w) hr;refine⟨b,c,λf a j x d=>?_⟩;have ⟨e0,f⟩:=f;simp only[aA] at d ⊢;grind
  .cases h
 .exact Ux h
theorem bA0{b b0:kG}{R i:Rn}{ps:List Prop}(h:Oy b b0 R=bZ1 (i,ps)) :
  fR R i/\(jR R->jR i)/\b.mut=b0.mut/\(bQ ps→∀ d,fR i d→∀ k len,kv A env w k len b0->kv A (jF d env) w k len b) ∧
   (bQ ps→∀ E t,b0 = .row E t []∨b0 = .frz E t []→∃ E t,b = .row E t []∨b = .frz E t []):=by
 unfold Oy at h
 split at h
 .split at h
  next a=>have a:=bK a;subst a;obtain⟨a1,a2,a3⟩:=Gn h;refine⟨a1,a2,rfl,λc d g k len ⟨vs,e,hd⟩=>⟨vs,e,a3 c d g _ hd⟩,λ_ E t j=>?_⟩;simp_all
  .cases h
 .split at h
  next zs a c=>have a:=bK a;subst a;have ⟨l,m⟩:=kC c;subst l;subst m;obtain⟨rfl,f⟩:=Fr h;refine⟨fR.refl,id,rfl,λc d g k len a=>by rw[← f c];exact a,λc E t j=>?_⟩;simp_all
  .cases h
 .split at h
  next zs a c=>have a:=bK a;subst a;have ⟨l,m⟩:=kC c;subst l;subst m;obtain⟨rfl,f⟩:=Fr h;refine⟨fR.refl,id,rfl,λc d g k len a=>by rw[← f c];exact a,λc E t j=>?_⟩;simp_all
  .cases h
 .split at h
  .rename_i n h2 h3;cases bK n;cases j6 h2;cases bK h3;obtain⟨rfl,f⟩:=Fr h;refine⟨fR.refl,id,rfl,λc d g k len a=>?_,λc E t j=>?_⟩
   .have ⟨b1,b2,vs,b3,o⟩:=a;rw[← f c];exact⟨b1,b2,vs,b3,NA (yA o).2 |> λq=>by rw[(yA o).1];exact q⟩
   .simp_all
  .cases h
 .split at h
  next n h2=>cases j6 n;cases j6 h2;obtain⟨rfl,f⟩:=Fr h;refine⟨fR.refl,id,rfl,λc d g k len a=>by rw[← f c];exact a,λc E t j=>?_⟩;simp_all
  .cases h
 .cases h
end
def DW(R:Rn)(k:Rn->Prop):Prop:=match R with
 | []=>k []
 | (n,x)::r=>DW r λr=>match x with
  | none=>k ((n,bZ9)::r)
  | some m=>k ((n,bZ1 m)::r)
theorem K2:∀(R:Rn)(k:Rn->Prop),DW R k=k R
 | [],k=>rfl
 | (n,bZ9)::r,k=>by simp only[DW,K2 r]
 | (n,bZ1 m)::r,k=>by simp only[DW,K2 r]
def HD:List SV->List SV->Rn->(Rn->Prop)->Prop
 | [],[],R,k=>k R
 | v::vs,u::us,R,k=>match Pp v u R with
  | some (R',ps)=>DW R' λR'=>ww ps (HD vs us R' k)
  | none=>False
 | _,_,_,_=>False
def HM(H:List (Nat×Nm))(c m:Nat)(b:kG)(R:Rn)(k:Rn->Prop):Prop:=match fa H m with
 | .live b0=>match Oy b b0 R with
  | some (R',ps)=>DW R' λR'=>ww ps (k R')
  | none=>False
 | _=>False
def BY(H:List (Nat×Nm)):List (Nat×Nm)->Rn->(Rn->Prop)->Prop
 | [],R,k=>k R
 | (c,b)::r,R,k=>match b with
  | .live b=>match cR R c with
   | some (bZ1 m)=>HM H c m b R λR'=>BY H r R' k
   | some bZ9=>match b with
    | .row _ _ xs=>xs=[]/\BY H r R k
    | _=>False
   | none=>match KD c (bZ1 c) R with
    | some R1=>HM H c c b R1 λR'=>BY H r R' k
    | none=>False
  | _=>False
def F5(n:Nat):List (Nat×Nm)->Bool
 | []=>bZ6
 | (m,_)::r=>ca0 n m||F5 n r
def JK(Hh:List (Nat×Nm)):Rn->Bool
 | []=>bZ3
 | (c,_)::r=>F5 c Hh&&JK Hh r
def JE(R:Rn):List (Nat×Nm)->Bool
 | []=>bZ3
 | (n,_)::r=>(Nat.blt n PN||cd9 QN n||(match cR R n with|some (bZ1 m)=>ca0 m n|_=>bZ6))&&JE R r
def enter(S T:St):Prop:=HD T.sl S.sl [] λR=>BY S.H T.H R λR=>match JK T.H R,JE R S.H with
 | true,bZ3=>True
 | _,_=>False
theorem XZ{n:Nat}:∀{H:List (Nat×Nm)},F5 n H=bZ3↔n∈H.map (·.1)
 | []=>by simp[F5]
 | (m,b)::r=>by
  simp only[F5,sS,fF,dO,XZ];simp_all
theorem U6{b:List (Nat×Nm)}:∀{R:Rn},JK b R=bZ3→∀ c,cR R c≠bZ9->c∈b.map (·.1)
 | (n,x)::r,h,c,a=>by
  simp only[JK,fx] at h;rw[sW] at a;split at a
  next e=>rw[e];exact XZ.1 h.1
  .exact U6 h.2 c a
theorem TW{R:Rn}:∀{H:List (Nat×Nm)},JE R H=bZ3→∀ n,PN<=n->n<QN->n∈H.map (·.1)->cR R n=bZ1 (bZ1 n)
 | (m,b)::r,h,n,hn,c,d=>by
  simp only[JE,fx,sS] at h;rcases dO.1 d with e|d
  .have e:n=m:=e;subst e;obtain (a|a)|a:=h.1
   .have:=md a;omega
   .have:=md a;omega
   .split at a
    next k hk=>rw[hk,bK a]
    .cases a
  .exact TW h.2 n hn c d
theorem QS{H:List (Nat×Nm)}{n:Nat}:fa H n = .un∨(n,fa H n)∈H:=by
 induction H with
 | nil=>exact .inl rfl
 | cons p r ih =>
  unfold fa;split
  .simp_all
  .grind
theorem Sb{H:List (Nat×Nm)}{n:Nat}(h:n ∉ H.map (·.1)):fa H n = .un:=by
 obtain a|a:=QS
 .exact a
 .simp_all
structure tW (A:Nat->Prop) (env:bi) (w:ca8) (A':Nat->Prop) (env':bi) (w':ca8):Prop where
 imm:∀ b,A b->A' b
 envp:∀ n,PN<=n->n<QN->env n ≠ .un->env' n=env n
 keep:∀ b o,A b->w'.cell? ⟨b,o,bZ9⟩=w.cell? ⟨b,o,bZ9⟩
 shape:∀ b s,w.shape? b=bZ1 s->w'.shape? b=bZ1 s
theorem Ex1.ext0{y:Prop}{A:Nat->Prop}{env:bi}{w:ca8}{A':Nat->Prop}{env':bi}{w':ca8}(x:Ex1 y A env w A' env' w'):tW A env w A' env' w':=by
 refine⟨x.imm,λn _ _ hn=>?_,x.keep,x.shape⟩
 cases h:env n with
 | un=>exact absurd h hn
 | nil=>exact x.envn n h
 | blk b l=>exact x.envb n b l h
theorem dM.ext0{A:Nat->Prop}{env:bi}{w:ca8}{A':Nat->Prop}{env':bi}{w':ca8}(x:dM A env w A' env' w'):tW A env w A' env' w':=x.toEx1.ext0
theorem tW.trans{A A' d:Nat->Prop}{env env' a:bi}{w w' f:ca8}(h:tW A env w A' env' w')(k:tW A' env' w' d a f):tW A env w d a f :=
 ⟨λb g=>k.imm b (h.imm b g),λn i c e=>(k.envp n i c (by rw[h.envp n i c e];exact e)).trans (h.envp n i c e),
  λb o g=>(k.keep b o (h.imm b g)).trans (h.keep b o g),λb s e=>k.shape b s (h.shape b s e)⟩
section
variable {w0:ca8} {N0:fI} {A:Nat->Prop} {env:bi} {w:ca8} {a:Act}
theorem UK:∀{vs b:List SV}{R:Rn}{k:Rn->Prop},HD vs b R k →
  ∃ c,k c/\be vs=be b/\fR R c/\(jR R->jR c)∧∀ a,fR c a→∀ i x,aA A env w (d9 b i) x->aA A (jF a env) w (d9 vs i) x
 | [],[],R,k,h=>⟨R,h,rfl,fR.refl,id,λa _ i x _=>by simp[d9,pj,aA]⟩
 | v::vs,u::b,R,k,h=>by
  simp only[HD] at h;split at h
  .rename_i R1 ps h1;rw[K2] at h;obtain⟨hc,h2⟩:=Bl.1 h;obtain⟨a1,a2,a3⟩:=br3 h1;have ⟨R2,b1,b2,d,b4,b5⟩:=UK h2;refine⟨R2,b1,by simp[b2],a1.trans d,λh=>b4 (a2 h),λa e i x f=>?_⟩;cases i with
   | zero=>exact a3 hc a (d.trans e) x f
   | succ i=>exact b5 a e i x f
  .exact h.elim
def zt(A:Nat->Prop)(env:bi)(w:ca8)(H:List (Nat×Nm))(R:Rn)(c:Nat)(x:Nm):Prop :=
 ∃ b,x = .live b/\((∃ m b0,cR R c=bZ1 (bZ1 m)/\fa H m = .live b0/\b.mut=b0.mut/\(∀ Rf,fR R Rf→∀ k len,kv A env w k len b0->kv A (jF Rf env) w k len b) ∧
   (∀ E t,b0 = .row E t []∨b0 = .frz E t []→∃ E t,b = .row E t []∨b = .frz E t [])) ∨
  (cR R c=bZ1 bZ9∧∃ E t,b = .row E t []))
theorem zt.mono{H:List (Nat×Nm)}{R f:Rn}{c:Nat}{x:Nm}(h:zt A env w H R c x)(le:fR R f):zt A env w H f c x:=by
 obtain⟨b,e,⟨m,b0,a,d,h3,h4,h5⟩|⟨a,d⟩⟩:=h
 .exact⟨b,e,.inl ⟨m,b0,le _ _ a,d,h3,λRf hf=>h4 Rf (le.trans hf),h5⟩⟩
 .exact⟨b,e,.inr ⟨le _ _ a,d⟩⟩
theorem Rp{H:List (Nat×Nm)}{c m:Nat}{b:kG}{R:Rn}{k:Rn->Prop}(hl:cR R c=bZ1 (bZ1 m))(h:HM H c m b R k) :
  ∃ a,k a/\fR R a/\(jR R->jR a)/\zt A env w H a c (.live b):=by
 unfold HM at h
 split at h
 next b0 h0=>
  split at h
  next a ps h1=>rw[K2] at h;have ⟨d,h2⟩:=Bl.1 h;obtain⟨e,a2,a3,a4,a5⟩:=bA0 h1;exact⟨a,h2,e,a2,b,rfl,.inl ⟨m,b0,e _ _ hl,h0,a3,a4 d,a5 d⟩⟩
  .exact h.elim
 .exact h.elim
theorem Tb{H:List (Nat×Nm)}:∀{s:List (Nat×Nm)}{R:Rn}{k:Rn->Prop},BY H s R k →
  ∃ a,k a/\fR R a/\(jR R->jR a)∧∀ c x,(c,x)∈s->zt A env w H a c x
 | [],R,k,h=>⟨R,h,fR.refl,id,λc x i=>by simp at i⟩
 | (c,b)::r,R,k,h=>by
  simp only[BY] at h;split at h
  .rename_i b;have d:∀{g f:Rn},fR R g->(jR R->jR g)->fR g f->(jR g->jR f)->zt A env w H f c (.live b)->BY H r f k →
     ∃ a,k a/\fR R a/\(jR R->jR a)∧∀ j x,(j,x)∈(c,Nm.live b)::r->zt A env w H a j x:=by
    intro g f l1 i1 l2 i2 ok hr;have ⟨R3,c1,u,c3,c4⟩:=Tb hr;refine⟨R3,c1,(l1.trans l2).trans u,λh=>c3 (i2 (i1 h)),λj x i=>?_⟩;obtain e|i:=dO.1 i
    .cases e;exact ok.mono u
    .exact c4 j x i
   split at h
   next m l=>obtain⟨f,n,o,p,q⟩:=Rp l h;exact d fR.refl id o p q n
   .rename_i l;split at h
    next E t xs=>obtain⟨rfl,h⟩:=h;exact d fR.refl id fR.refl id ⟨_,rfl,.inr ⟨l,E,t,rfl⟩⟩ h
    .exact h.elim
   .split at h
    next g h1=>have ⟨a1,a2,a3⟩:=Rq h1;obtain⟨f,n,o,p,q⟩:=Rp a1 h;exact d a2 a3 o p q n
    .exact h.elim
  .exact h.elim
theorem Mk{S T:St}(h:enter S T)(t:gR w0 N0 A env S.fs a w):∃ env',gR w0 N0 A env' T.fs a w/\tW A env w A env' w:=by
 obtain⟨R1,h1,v,l1,i1,d1⟩:=UK h
 obtain⟨R,h2,l2,i2,L⟩:=Tb h1
 have z:=i2 (i1 (λc c' m M=>by simp[cR] at M))
 split at h2
 next B hpar=>
  have m:=t.m;have C:∀ n,n ∉ T.H.map (·.1)->cR R n=none:=λn g=>by
   cases hl:cR R n with
   | none=>rfl
   | some y=>exact absurd (U6 B n (by rw[hl];simp)) g
  have live:∀ n b,T.fs.h n = .live b->zt A env w S.H R n (.live b):=λn b d=>by
   obtain h|h:=QS
   .simp only[St.fs] at d;rw[h] at d;cases d
   .simp only[St.fs] at d;rw[d] at h;exact L n _ h
  have hmut:∀ n b k l,T.fs.h n = .live b->b.mut=bZ3->jF R env n = .blk k l→∃ m b0,cR R n=bZ1 (bZ1 m)/\fa S.H m = .live b0/\b0.mut=bZ3/\env m = .blk k l:=by
   intro n b k l d D he;obtain⟨b',e,⟨F,b0,o,r,u,_⟩|⟨o,_⟩⟩:=live n b d
   .cases e;unfold jF at he;simp_all
   .unfold jF at he;rw[o] at he;cases he
  refine⟨jF R env,⟨⟨m.os,m.tape,m.output,m.dr,m.size,m.fr,m.Alt,?_,?_,?_,m.fresh,m.gl⟩,by rw[show be T.fs.sl=be S.fs.sl from v];exact t.len,λi=>d1 R l2 i _ (t.f i),t.dfr⟩,⟨λ_ h=>h,?_,λ_ _ _=>rfl,λ_ _ h=>h⟩⟩
  .intro n;cases g:T.fs.h n with
   | dead=>trivial
   | un =>
    show jF R env n = .un;have:n ∉ T.H.map (·.1):=λs=>by
     obtain h|h:=QS (H:=T.H) (n:=n)
     .obtain⟨⟨J,x⟩,K,rfl⟩:=cc1.1 s;have:∀(H:List (Nat×Nm)),(∀ c x,(c,x)∈H→∃ b,x = .live b)→∀ n,n∈H.map (·.1)→∃ b,fa H n = .live b:=by
       intro H
       induction H with
       | nil=>intro _ n g;simp at g
       | cons p H ih =>
        intro G n g;simp only[fa];split
        .grind
        .rename_i q;refine ih (λc x K=>G c x (fu _ K)) n ?_;obtain e|g:=dO.1 g
         .subst e;rw[zc] at q;cases q
         .exact g
      have ⟨b,d⟩:=this T.H (λc x K=>let ⟨b,e,_⟩:=L c x K;⟨b,e⟩) J s;simp_all
     .simp only[St.fs] at g;rw[g] at h;have ⟨b,e,_⟩:=L n _ h;cases e
    unfold jF;rw[C n this]
   | live b =>
    obtain⟨b',e,⟨F,b0,o,r,u,I,e5⟩|⟨o,E,N,r⟩⟩:=live n b g
    .cases e;have he:jF R env n=env F:=by unfold jF;rw[o]
     have D:=m.nm F;simp only[St.fs,r] at D;obtain⟨k,len,j,d,hA⟩|⟨j,E,N,d⟩:=D
     .exact .inl ⟨k,len,he.trans j,I R fR.refl k len d,λO=>hA (by rw[← u];exact O)⟩
     .exact .inr ⟨he.trans j,e5 E N d⟩
    .cases e;exact .inr ⟨by unfold jF;rw[o],E,N,.inl r⟩
  .intro n b k l d D he;have ⟨F,b0,o,r,u,I⟩   := hmut n b k l d D he;exact m.own F b0 k l r u I
  .intro n J b c k l l' d M hbm hcm he j;have ⟨m1,b1,o,r,u,I⟩   := hmut n b k l d hbm he;have ⟨m2,b2,f1,f2,f3,f4⟩:=hmut J c k l' M hcm j;have:=m.inj m1 m2 b1 b2 k l l' r f2 u f3 I f4;subst this;exact z n J m1 o f1
  .intro n g hn' q;have:n∈S.H.map (·.1):=by
    refine jn λhno=>q ?_;have:=m.nm n;simp only[St.fs,Sb hno] at this;exact this
   have:=TW hpar n g hn' this;unfold jF;rw[this]
 .exact h2.elim
end
end Go.SX
namespace Go.SX
inductive Ex where
 | normal
 | exit (id:Nat)
 | ret
def Ex.to:Ex->Exit
 | .normal => .normal
 | .exit id => .exit id
 | .ret => .ret
structure MW:Type 1 where
 ι:Type
 μ:ι->Nat:=λ_=>0
 inv:ι->Prop
 qn:Qn ι := .plain ι
 keep:List Nat:=[]
 slots:ι->List (Nat×SV):=λ_=>[]
 keepN:List Nat:=[]
 names:ι->List (Nat×Nm):=λ_=>[]
def Yz(n:Nat):List (Nat×SV)->SV
 | [] => .junk
 | (m,v)::r=>match ca0 n m with
  | true=>v
  | false=>Yz n r
def RT(keep:List Nat)(l:List (Nat×SV)):Nat->List SV->List SV
 | _,[]=>[]
 | n,v::r=>(match qP n keep with|true=>v|false=>Yz n l)::RT keep l (n+1) r
def TM(H:List (Nat×Nm))(r:List (Nat×Nm)):List Nat->List (Nat×Nm)
 | []=>r
 | n::l=>(n,fa H n)::TM H r l
def head(S:St)(an:MW)(i:an.ι):St:=⟨RT an.keep (an.slots i) 0 S.sl,TM S.H (an.names i) an.keepN⟩
def HH:List SV->(List SV->Prop)->Prop
 | [],k=>k []
 | x::xs,k=>KM x λy=>HH xs λys=>k (y::ys)
theorem Vo:∀(l:List SV)(k:List SV->Prop),HH l k=k l
 | [],k=>rfl
 | x::xs,k=>by simp only[HH,RZ,Vo xs]
def IL:List (Nat×Nm)->(List (Nat×Nm)->Prop)->Prop
 | [],k=>k []
 | (n,b)::r,k=>Kn b λb=>IL r λr=>k ((n,b)::r)
theorem Si:∀(l:List (Nat×Nm))(k:List (Nat×Nm)->Prop),IL l k=k l
 | [],k=>rfl
 | (n,b)::r,k=>by simp only[IL,U0,Si r]
def xm(S:St)(k:St->Prop):Prop:=match S with
 | ⟨sl,H⟩=>HH sl λsl=>IL H λH=>k ⟨sl,H⟩
theorem HK(S:St)(k:St->Prop):xm S k=k S:=by cases S;simp only[xm,Vo,Si]
def zl:Code->Nat
 | .region id _ _=>id
 | .seq a _=>zl a
 | .block _ a=>zl a
 | .loop a=>zl a
 | .scope a=>zl a
 | .cond _ a _=>zl a
 | _=>0
structure bL:Type 1 where
 loops:Nat->Option (St->MW):=λ_=>bZ9
 cuts:Nat->Option (St->MW):=λ_=>bZ9
 nms:List Nat:=[]
 unr:Nat->Nat:=λ_=>0
 ys:List Nat:=[]
 ln:Nat:=0
 lo:Loop->Prop:=λ_=>False
def svI:SV->Int
 | .int _ n=>n
 | _=>0
def Z8:SV->Bool
 | .bool b=>b
 | _=>bZ6
def svL(t:CT):SV->List t.D
 | .dsl t' xs=>match iq t' t xs with
  | some ys=>ys
  | none=>[]
 | .dsx t' xs=>match iq t' t xs with
  | some ys=>ys
  | none=>[]
 | _=>[]
def YK(t:CT)(cs:List SV):t.D:=match (kS t cs).run (λ_=>.un) with
 | some ((d,_,_),_)=>d
 | none=>t.dflt
def St.i(S:St)(n:Nat):Int:=svI (d9 S.sl n)
def St.b(S:St)(n:Nat):Bool:=Z8 (d9 S.sl n)
def St.l(S:St)(t:CT)(n:Nat):List t.D:=svL t (d9 S.sl n)
def St.a(S:St)(t:CT)(n:Nat):t.D:=match d9 S.sl n with
 | .agg cs=>YK t cs
 | _=>t.dflt
def St.r(S:St)(t:CT)(n:Nat):List t.D:=match fa S.H n with
 | .live (.row _ t' xs)=>match iq t' t xs with
  | some ys=>ys
  | none=>[]
 | .live (.frz _ t' xs)=>match iq t' t xs with
  | some ys=>ys
  | none=>[]
 | _=>[]
def St.c(S:St)(t:CT)(n:Nat):t.D:=match fa S.H n with
 | .live (.cells _ cs)=>YK t cs
 | _=>t.dflt
def St.o(S:St)(t:CT)(n:Nat):List t.D:=match d9 S.sl n with
 | .own m _=>S.r t m
 | _=>[]
def St.p(S:St)(t:CT)(n:Nat):t.D:=match d9 S.sl n with
 | .ptr m _=>S.c t m
 | _=>t.dflt
def XN:SV->Option Bool
 | .bool b=>bZ1 b
 | _=>bZ9
def OH(id:Nat)(K:Ex->St->Prop):Ex->St->Prop:=λe S=>match e with
 | .exit i=>match ca0 i id with
  | true=>K .normal S
  | false=>K (.exit i) S
 | .normal=>K .normal S
 | .ret=>K .ret S
def J9(k:St->Prop)(K:Ex->St->Prop):Ex->St->Prop:=λe S=>match e with
 | .normal=>k S
 | .exit i=>K (.exit i) S
 | .ret=>K .ret S
def L0(body:(Ex->St->Prop)->St->Prop):Nat->(Ex->St->Prop)->St->Prop
 | 0,_,_=>False
 | n+1,K,S=>body (J9 (L0 body n K) K) S
structure vf (n:Nat) (x:Array Tmp×Code×Code) (r:Loop):Prop where
 st:r.state = .ready
 pe:r.pending=bZ9
 ps:r.params=x.1
 as:r.assign=x.2.1
 bd:r.body=x.2.2
 ln:n<=r.tmps.size
def jy:Code->List (Array Tmp×Code×Code)
 | .rangeFunc _ ps a b=>[(ps,a,b)]
 | .seq a b=>jy a++jy b
 | .cond _ a b=>jy a++jy b
 | .block _ a=>jy a
 | .loop a=>jy a
 | .scope a=>jy a
 | _=>[]
def JT:List (Nat×Nm)->Bool
 | []=>bZ3
 | (_,.live b)::r=>b.noY&&JT r
 | _::r=>JT r
def St.noY(S:St):Bool:=vn S.sl&&JT S.H
theorem Dd:∀{H:List (Nat×Nm)},JT H=bZ3→∀ n b,fa H n = .live b->b.noY=bZ3
 | (m,x)::r,h,n,b,e=>by
  simp only[fa] at e;cases x with
  | live c =>
   obtain⟨h1,h2⟩:=cd0.1 h;split at e
   .cases e;exact h1
   .exact Dd h2 n b e
  | un=>split at e;cases e;exact Dd (H:=r) h n b e
  | dead=>split at e;cases e;exact Dd (H:=r) h n b e
theorem Qf:∀{l:List SV},vn l=bZ3→∀ i,(d9 l i).noY=bZ3
 | [],_,i=>rfl
 | x::l,h,0=>(cd0.1 h).1
 | x::l,h,i+1=>Qf (l:=l) (cd0.1 h).2 i
def sx(P:ca7)(sp:fe)(an:bL):Code->(Ex->St->Prop)->St->Prop
 | .skip,K,S=>K .normal S
 | .region _ ops draw,K,S=>MU P sp an.nms ops draw (K .normal) S
 | .seq a b,K,S=>match an.cuts (zl b) with
  | none=>sx P sp an a (J9 (sx P sp an b K) K) S
  | some c=>sx P sp an a (J9 (λS'=>(c S).qn.ex λi=>(c S).inv i/\enter S' (head S (c S) i)) K) S/\(c S).qn.all λi=>(c S).inv i->xm (head S (c S) i) (sx P sp an b K)
 | .cond c a b,K,S=>match XN (bc (d9 S.sl) c) with
  | some t=>ar t (sx P sp an a K S) (sx P sp an b K S)
  | none=>False
 | .block id a,K,S=>sx P sp an a (OH id K) S
 | .loop a,K,S=>match an.unr (zl a) with
  | n+1=>L0 (sx P sp an a) (n+1) K S
  | 0=>match an.loops (zl a) with
   | none=>False
   | some c=>((c S).qn.ex λi=>(c S).inv i/\enter S (head S (c S) i))/\(c S).qn.all λi=>(c S).inv i->xm (head S (c S) i) (sx P sp an a (J9 (λS'=>(c S).qn.ex λj=>(c S).inv j/\(c S).μ j<(c S).μ i/\enter S' (head S (c S) j)) K))
 | .exit id,K,S=>K (.exit id) S
 | .scope a,K,S=>sx P sp an a K S
 | .ret,K,S=>K .ret S
 | .rangeFunc g _ _ _,K,S=>match bc (d9 S.sl) g with
  | .fn gf caps=>match Ig P gf,sp.fn gf,cd9 an.ln (be S.sl) with
   | true,bZ1 s,bZ3=>∀ r:Loop,an.lo r->match (s 0 (.yld r an.ys (an.ys.map (d9 S.sl))::caps)).run (fa S.H) with
    | some (d,_)=>Lq bZ9 S (λS'=>match S'.noY with|true=>K .normal S'|false=>False) (.go d)
    | none=>False
   | _,_,_=>False
  | _=>False
 | _,_,_=>False
section
variable {P:ca7} {sp:fe} {an:bL} {w0:ca8} {N0:fI}
theorem aL9{F:Fence}{n:Nat}{c:Code}{Q:Exit->Act->ca8->Prop}{a:Act}{w:ca8}(h:c.wpIn F n P (Exit.noGoto Q) a w):(Code.scope c).wpIn F n P Q a w:=by
 intro b k cs hro hb hr
 have s1:step P (lone (b.atR a (.code (.scope c)::k)) cs w) = .next (lone (b.atR a (.code c :: .inScope c::k)) cs w):=step_lone_go (by simp[stepG,stepG.exec,cC7])
 have s2:∀ a' w',step P (lone (b.atR a' (.inScope c::k)) cs w') = .next (lone (b.atR a' k) cs w'):=λa' w'=>step_lone_go (by simp[stepG,stepG.exec,cC7])
 have h0:(lone (b.atR a (.code (.scope c)::k)) cs w).fenced P F:=fenced_calm hb hr rfl
 have ⟨e,a₁,w₁,hq,harr⟩:=h b (.inScope c::k) cs hro hb hr
 cases e with
 | normal=>exact⟨.normal,a₁,w₁,hq,.head h0 s1 (StepsIn.trans harr (.one (fenced_calm hb hr rfl) (s2 _ _)))⟩
 | exit id =>
  have hx:exitTo id (.inScope c::k)=exitTo id k:=by simp[exitTo]
  exact⟨.exit id,a₁,w₁,hq,λk' hk=>.head h0 s1 (harr.1 k' (by rw[hx];exact hk)),λhr' hk=>let ⟨k₁,h1,h2⟩:=harr.2 hr' (by rw[hx];exact hk);⟨k₁,h1,.head h0 s1 h2⟩⟩
 | goto l=>exact hq.elim
 | ret=>exact⟨_,a₁,w₁,hq,.of_steps (.one h0 s1) harr⟩
 | panic ch=>exact⟨_,a₁,w₁,hq,.of_steps (.one h0 s1) harr⟩
 | outgrown=>exact⟨_,a₁,w₁,hq,.of_steps (.one h0 s1) harr⟩
theorem Na{ro:Option Nat}(hs:je P sp/\N0.g=sp.gl)(ir:P.follows .mixedOrders=bZ3):∀(c:Code)(_:∀ x∈jy c,ro=bZ9∧∀ r,vf an.ln x r->an.lo r)(K:Ex->St->Prop)(S:St)(Q:Exit->Act->ca8->Prop)(A:Nat->Prop)(env:bi)(a:Act)(w:ca8),
  sx P sp an c K S->gR w0 N0 A env S.fs a w →
  (∀ e S' A' env' a' w',K e S'→gR w0 N0 A' env' (St.fs S') a' w'→tW A env w A' env' w'→Q e.to a' w')->c.wpIn (wf ro) 0 P Q a w:=by
 have refl0:∀{A:Nat->Prop}{env:bi}{w:ca8},tW A env w A env w:=dM.refl.ext0
 intro c
 induction c with
 | skip=>intro hl K S Q A env a w h t hQ;exact wpIn_skip (hQ .normal S A env a w h t refl0)
 | region id ops draw =>
  intro hl K S Q A env a w h t hQ;exact au3 hs ir t h λS' A' env' a' w' hk t' x=>hQ .normal S' A' env' a' w' hk t' x.ext0
 | seq x y ihx ihy =>
  intro hl K S Q A env a w h t hQ;simp only[sx] at h;split at h
  .refine wpIn_seq (ihx (λx hx=>hl x (ip _ hx)) _ S _ A env a w h t ?_);intro e S' A' env' a' w' hk t' x';cases e with
   | normal=>exact ihy (λx hx=>hl x (jv _ hx)) K S' Q A' env' a' w' hk t' λe S2 A2 env2 a2 w2 hk2 t2 x2=>hQ e S2 A2 env2 a2 w2 hk2 t2 (x'.trans x2)
   | exit i=>exact hQ (.exit i) S' A' env' a' w' hk t' x'
   | ret=>exact hQ .ret S' A' env' a' w' hk t' x'
  .rename_i c hc;refine wpIn_seq (ihx (λx hx=>hl x (ip _ hx)) _ S _ A env a w h.1 t ?_);intro e S' A' env' a' w' hk t' x';cases e with
   | normal =>
    have ⟨i,hi,he⟩:=(c S).qn.hex _ hk;have ⟨env2,t2,x2⟩:=Mk he t';have h2:=(c S).qn.hall _ h.2 i hi;rw[HK] at h2;exact ihy (λx hx=>hl x (jv _ hx)) K _ Q A' env2 a' w' h2 t2 λe S3 A3 env3 a3 w3 hk3 t3 x3=>hQ e S3 A3 env3 a3 w3 hk3 t3 ((x'.trans x2).trans x3)
   | exit i=>exact hQ (.exit i) S' A' env' a' w' hk t' x'
   | ret=>exact hQ .ret S' A' env' a' w' hk t' x'
 | cond c x y ihx ihy =>
  intro hl K S Q A env a w h t hQ;simp only[sx] at h;split at h
  .rename_i b hb;have hd:=dC t.f c;have hv:bc (d9 S.sl) c = .bool b:=by
    unfold XN at hb;split at hb
    next b' he=>cases hb;exact he
    .cases hb
   simp only[St.fs] at hd;rw[hv] at hd;simp only[aA] at hd;cases b with
   | true=>exact wpIn_cond_true hd (ihx (λx hx=>hl x (ip _ hx)) K S Q A env a w h t hQ)
   | false=>exact wpIn_cond_false hd (ihy (λx hx=>hl x (jv _ hx)) K S Q A env a w h t hQ)
  .exact h.elim
 | block id x ih =>
  intro hl K S Q A env a w h t hQ;refine wpIn_block (ih hl _ S _ A env a w h t ?_);intro e S' A' env' a' w' hk t' x';cases e with
  | normal=>exact hQ .normal S' A' env' a' w' hk t' x'
  | exit i =>
   simp only[Ex.to,Exit.inBlock];by_cases hi:i=id
   .subst hi;simp only[OH,zc] at hk;rw[aj rfl];exact hQ .normal S' A' env' a' w' hk t' x'
   .have hb:ca0 i id=false:=by
     cases hb:ca0 i id with
     | false=>rfl
     | true=>exact absurd (bK hb) hi
    simp only[OH,hb] at hk;rw[ah hi];exact hQ (.exit i) S' A' env' a' w' hk t' x'
  | ret=>exact hQ .ret S' A' env' a' w' hk t' x'
 | loop x ih =>
  intro hl K S Q A env a w h t hQ;simp only[sx] at h;split at h
  .rename_i n0 _;refine cC8 (λn a' w'=>∃ S' A' env',L0 (sx P sp an x) n K S'∧gR w0 N0 A' env' S'.fs a' w'∧tW A env w A' env' w') (n0+1) ⟨S,A,env,h,t,refl0⟩ ?_;rintro n a1 w1 ⟨S1,A1,env1,h1,t1,x1⟩;cases n with
   | zero=>exact h1.elim
   | succ n =>
    refine ih hl _ _ _ A1 env1 a1 w1 h1 t1 ?_;intro e S' A' env' a' w' hk t' x';cases e with
    | normal=>exact⟨n,Nat.lt_succ_self n,S',A',env',hk,t',x1.trans x'⟩
    | exit i=>exact hQ (.exit i) S' A' env' a' w' hk t' (x1.trans x')
    | ret=>exact hQ .ret S' A' env' a' w' hk t' (x1.trans x')
  split at h
  .exact h.elim
  .rename_i c hc;have ⟨hex,hr⟩:=h;have ⟨i0,hi0,he0⟩:=(c S).qn.hex _ hex;have ⟨env0,t0,x0⟩:=Mk he0 t;refine cC8 (λn a' w'=>∃ i A' env',(c S).inv i/\n=(c S).μ i/\gR w0 N0 A' env' (head S (c S) i).fs a' w'∧tW A env w A' env' w') ((c S).μ i0) ⟨i0,A,env0,hi0,rfl,t0,x0⟩ ?_;rintro n a1 w1 ⟨i,A1,env1,hi,rfl,t1,x1⟩;have h1:=(c S).qn.hall _ hr i hi;rw[HK] at h1;refine ih hl _ _ _ A1 env1 a1 w1 h1 t1 ?_;intro e S' A' env' a' w' hk t' x';cases e with
   | normal =>
    have ⟨j,hj,hμ,he⟩:=(c S).qn.hex _ hk;have ⟨env2,t2,x2⟩:=Mk he t';exact⟨(c S).μ j,hμ,j,A',env2,hj,rfl,t2,(x1.trans x').trans x2⟩
   | exit i=>exact hQ (.exit i) S' A' env' a' w' hk t' (x1.trans x')
   | ret=>exact hQ .ret S' A' env' a' w' hk t' (x1.trans x')
 | exit id=>intro hl K S Q A env a w h t hQ;exact wpIn_exit (hQ (.exit id) S A env a w h t refl0)
 | scope x ih =>
  intro hl K S Q A env a w h t hQ;refine aL9 (ih hl K S _ A env a w h t ?_);intro e S' A' env' a' w' hk t' x';cases e with
  | normal=>exact hQ .normal S' A' env' a' w' hk t' x'
  | exit i=>exact hQ (.exit i) S' A' env' a' w' hk t' x'
  | ret=>exact hQ .ret S' A' env' a' w' hk t' x'
 | ret=>intro hl K S Q A env a w h t hQ;exact wpIn_ret (hQ .ret S A env a w h t refl0)
 | rangeFunc g ps x y _ _ =>
  intro hl K S Q A env a w h t hQ;obtain⟨rfl,hlo⟩:=hl _ (kY.2 rfl);simp only[sx] at h;split at h
  .rename_i gf caps hg;split at h
   .rename_i s hb hsp hln;have dg:=dC t.f g;simp only[St.fs] at dg;rw[hg] at dg;simp only[aA] at dg;have ⟨vs,ev,dv⟩:=dg;refine wpIn_rangeFunc λfn _=>?_;obtain⟨rc,hrc⟩:∃ rc:Loop,rc={state := .ready,pending:=bZ9,fn:=fn,tmps:=a.tmps,params:=ps,assign:=x,body:=y,defers:=w.heap.size}:=⟨_,rfl⟩
    obtain⟨W1,hW1⟩:∃ W1,W1=(w.alloc (.deferred (bZ1 []))).alloc (.loop rc):=⟨_,rfl⟩
    have hL:W1.heap[w.heap.size+1]? = bZ1 (.loop rc):=by
     rw[hW1];have:=cs9 (w.alloc (.deferred (bZ1 []))) (.loop rc);rwa [World.size_alloc] at this
    have hD:W1.heap[w.heap.size]? = bZ1 (.deferred (bZ1 [])):=by
     rw[hW1,cl5 _ _ _ az];exact cs9 w _
    have u1:lP (λ_=>False) (λ_=>False) A env S.fs.h w A env S.fs.h W1:=lP.none (by rw[hW1];exact (cZ.alloc w _ _).trans (cZ.alloc _ _ _));have x1:=t.m.ext u1;have t1:gR w0 N0 A env S.fs a W1:=⟨t.m.upd u1,t.len,λi=>Dy x1 _ _ (t.f i),t.dfr.mono x1.dfo⟩
    have hln:=md hln;have hpre:=h rc (hlo rc (by subst hrc;exact⟨rfl,rfl,rfl,rfl,rfl,tz hln t.len⟩));split at hpre
    .rename_i d q hrun;have ⟨hp,hout⟩:=PH hpre;have hcall:=hs.1 gf s hsp 0 _ _ d q hrun hp w0 N0 A env W1 (.func (.yield (w.heap.size+1)) #[] #[]::vs.toList) hs.2 t1.m (by
      simp only[aM,aA];refine⟨_,_,rfl,⟨_,rfl,hL,?_⟩,BL x1 _ _ dv⟩;have hf:=t1.f;have:rc.tmps=a.tmps:=by rw[hrc]
      rw[this];generalize an.ys=l
      induction l with
      | nil=>rfl
      | cons p l ih=>exact⟨_,_,rfl,hf p,ih⟩)
     obtain ⟨fg, hfg, hb⟩ : ∃ fg, P.funcs[gf]? = bZ1 fg ∧ (!(fg.name == "runtime.NumGoroutine") && fg.body.isSome) = true := by
      unfold Ig at hb;split at hb
      .exact⟨_,‹_›,hb⟩
      .cases hb
     simp only[fx,qE] at hb;have hbody:fg.body.isNone=false:=by cases hfb:fg.body <;> simp_all
     refine⟨w.heap.size+1,[{target := .collected w.heap.size,args := #[]}],W1,{target := .fn (.func gf) vs,args := #[.func (.yield (w.heap.size+1)) #[] #[]]},W1,gf,#[.func (.yield (w.heap.size+1)) #[] #[]]++vs,W1,
      by rw[hW1,hrc];exact run_enterLoop_outer _ _ _ _ _,?_,λ_ _=>trivial,?_,λq=>by simp[ci3] at q,?_⟩
     .simp only[resolve,ev];simp[go_sem]
     .simp only[invoke,callFunc,Sem.run_bind,run_program,Result.andThen_ok,hfg,hb.1,hbody,F1,if_false,Sem.run_pure]
     .have hargs:(Value.func (.yield (w.heap.size+1)) #[] #[]::vs.toList).toArray = #[.func (.yield (w.heap.size+1)) #[] #[]]++vs:=by apply Array.ext';simp
      rw[hargs] at hcall;refine CallsIn.mono (callsIn_wide.2 hcall:CallsIn ci3 _ P _ _ _ _) ?_;rintro e w' ⟨v,rfl,g⟩;have ⟨xx,A',env',hR,t',x'⟩:=t1.app g bZ9;have ⟨S',hS',hk⟩:=hout _ ⟨xx,hR,rfl⟩;split at hk
      .rename_i hY;have ⟨y1,y2⟩:=cd0.1 hY;have hL':=x'.lop trivial _ _ hL;have hD':=x'.dfo _ hD;rw[← hS'] at t';refine⟨rc.pending,_,run_endLoop hL' (by rw[hrc];simp),?_⟩;have hpe:rc.pending=none:=by rw[hrc]
       rw[hpe];have hle:=t.m.size;refine hQ .normal S' A' env' _ _ hk ⟨t'.m.put hL' rfl rfl ab (.inr (Dd y2)),t'.len,λi=>DE (Du hL' rfl rfl) _ _ (.inr (Qf y1 i)) (t'.f i),⟨w.heap.size,rfl,hle,?_,λe he q=>?_,?_⟩⟩ ((x1.trans x').ext0.trans (Du hL' rfl rfl).ext0)
       .rw[cd5 ab];exact hD'
       .have ⟨D,h1,h2⟩:=t.dfr.lt e he;rw[h1] at q;cases q;omega
       .refine rE.mono (λk hk=>?_) t'.dfr;rw[cd5 (by rintro rfl;rw[hL'] at hk;cases hk)];exact hk
      .exact hk.elim
    .exact hpre.elim
   .exact h.elim
  .exact h.elim
 | label l=>intro hl K S Q A env a w h t hQ;exact h.elim
 | goto l=>intro hl K S Q A env a w h t hQ;exact h.elim
 | refuse s=>intro hl K S Q A env a w h t hQ;exact h.elim
end
end Go.SX
namespace Go.SX
inductive OT where
 | dat (t:CT)
 | row (E:bZ8) (t:CT)
 | rowg (E:bZ8) (t:CT)
 | fnc (f:FuncId)
 | ali
 | ref (E:bZ8) (o:OT)
 | pair (a b:OT)
@[reducible] def OT.D:OT->Type
 | .dat t=>t.D
 | .row _ t=>List t.D
 | .rowg _ t=>List t.D
 | .fnc _=>Unit
 | .ali=>Unit
 | .ref _ o=>o.D
 | .pair a b=>a.D×b.D
@[reducible] def OT.X:OT->Type
 | .dat t=>t.D
 | .row _ t=>List t.D
 | .rowg _ _=>Unit
 | .fnc _=>Unit
 | .ali=>Unit
 | .ref _ o=>o.X
 | .pair a b=>a.X×b.X
def OT.wf:(o:OT)->o.D->Prop
 | .dat t,d=>t.wf d
 | .row _ t,d=>be d<=cb2∧∀ x∈d,t.wf x
 | .rowg _ t,d=>be d<=cb2∧∀ x∈d,t.wf x
 | .fnc _,_=>True
 | .ali,_=>True
 | .ref _ o,d=>o.wf d
 | .pair a b,d=>a.wf d.1/\b.wf d.2
def OT.nb:OT->Nat
 | .ref _ o=>o.nb+1
 | .pair a b=>a.nb+b.nb
 | _=>0
def OT.nc:OT->Nat
 | .row _ _=>1
 | .rowg _ _=>1
 | .ref _ o=>o.nc
 | .pair a b=>a.nc+b.nc
 | _=>0
def OT.nr:OT->Nat
 | .row _ _=>1
 | .ref _ o=>o.nr
 | .pair a b=>a.nr+b.nr
 | _=>0
instance:Coe CT OT:=⟨OT.dat⟩
inductive PK where
 | val (t:CT)
 | agg (t:CT)
 | box (E:bZ8) (o:OT)
 | row (E:bZ8) (t:CT)
 | own (E:bZ8) (t:CT)
 | fn (f:FuncId) (k:Nat)
 | nils
 | yld (ts:List Nat) (k:Nat)
 | ago (o:OT)
@[reducible] def PK.D:PK->Type
 | .val t=>t.D
 | .agg t=>t.D
 | .box _ o=>o.D
 | .row _ t=>List t.D
 | .own _ t=>List t.D
 | .fn _ _=>Unit
 | .nils=>Unit
 | .yld _ _=>Loop
 | .ago o=>o.D
@[reducible] def bw:List PK->Type
 | []=>Unit
 | p::r=>p.D×bw r
def PK.wf:(p:PK)->p.D->Prop
 | .val t,d=>t.wf d
 | .agg t,d=>t.wf d
 | .box _ o,d=>o.wf d
 | .row _ t,d=>be d<=cb2∧∀ x∈d,t.wf x
 | .own _ t,d=>be d<=cb2∧∀ x∈d,t.wf x
 | .fn _ _,_=>True
 | .nils,_=>True
 | .yld _ _,_=>True
 | .ago o,d=>o.wf d
def vD:(ps:List PK)->bw ps->Prop
 | [],_=>True
 | p::r,d=>p.wf d.1/\vD r d.2
def GM:(t:CT)->(t.D->Prop)->Prop
 | .pair a b,k=>GM a λx=>GM b λy=>k (x,y)
 | .int _,k=>∀ x:Int,k x
 | .bool,k=>∀ x:Bool,k x
 | .str,k=>∀ x:ByteArray,k x
 | .sl t,k=>∀ x:List t.D,k x
theorem N7:∀{t:CT}{k:t.D->Prop},GM t k↔∀ d,k d
 | .pair a b,k=>by
  simp only[GM,N7 (t:=a),N7];simp_all
 | .int _,k=>rg
 | .bool,k=>rg
 | .str,k=>rg
 | .sl t,k=>rg
def BW(t:CT)(k:t.D->Prop):Prop:=match cd9 t.size 6 with
 | true=>GM t k
 | false=>∀ d:t.D,k d
theorem Iu{t:CT}{k:t.D->Prop}:BW t k↔∀ d,k d:=by
 unfold BW
 split
 .exact N7
 .exact rg
def BZ:(o:OT)->(o.D->Prop)->Prop
 | .dat t,k=>BW t k
 | .row _ t,k=>∀ x:List t.D,k x
 | .rowg _ t,k=>∀ x:List t.D,k x
 | .fnc _,k=>k ()
 | .ali,k=>k ()
 | .ref _ o,k=>BZ o k
 | .pair a b,k=>BZ a λx=>BZ b λy=>k (x,y)
theorem JI:∀{o:OT}{k:o.D->Prop},BZ o k↔∀ d,k d
 | .dat t,k=>Iu
 | .row _ t,k=>rg
 | .rowg _ t,k=>rg
 | .fnc _,k=>⟨λh _=>h,λh=>h ()⟩
 | .ali,k=>⟨λh _=>h,λh=>h ()⟩
 | .ref _ o,k=>JI (o:=o)
 | .pair a b,k=>by
  simp only[BZ,JI,JI];simp_all
def PK.all:(p:PK)->(p.D->Prop)->Prop
 | .val t,k=>BW t k
 | .agg t,k=>BW t k
 | .box _ o,k=>BZ o k
 | .row _ t,k=>∀ x:List t.D,k x
 | .own _ t,k=>∀ x:List t.D,k x
 | .fn _ _,k=>k ()
 | .nils,k=>k ()
 | .yld _ _,k=>∀ r:Loop,k r
 | .ago o,k=>BZ o k
theorem PK.all_iff{p:PK}{k:p.D->Prop}:p.all k↔∀ d,k d:=by
 cases p <;> simp only[PK.all,Iu,JI] <;> exact⟨λh _=>h,λh=>h ()⟩
def yU:(ps:List PK)->(bw ps->Prop)->Prop
 | [],k=>k ()
 | p::r,k=>p.all λx=>yU r λy=>k (x,y)
theorem E4:∀{ps:List PK}{k:bw ps->Prop},yU ps k↔∀ d,k d
 | [],k=>⟨λh d=>h,λh=>h ()⟩
 | p::r,k=>by
  simp only[yU,PK.all_iff,E4 (ps:=r)];simp_all
def F8(E:bZ8)(t:CT):List SV->Q (List t.D×List SV×Option Nat)
 | .own n sz::r => .ask n fun
  | .live (.row E' t' xs)=>match ca0 E E',ca0 sz t.size,iq t' t xs with
   | true,bZ3,bZ1 ys => .ret (ys,r,bZ1 n)
   | _,_,_ => .fail
  | _ => .fail
 | .nilsl::r => .ret ([],r,bZ9)
 | _ => .fail
def ve(a0:Option Nat):(o:OT)->List SV->Q (o.D×List SV×List (Nat×Nm)×List Nat×List (Option Nat))
 | .dat t,cs=>(kS t cs).bind λp=>.ret (p.1,p.2.1,p.2.2,[],[])
 | .row E t,cs=>(F8 E t cs).bind λp=>.ret (p.1,p.2.1,[],[],[p.2.2])
 | .rowg E t,cs=>(F8 E t cs).bind λp=>.ret (p.1,p.2.1,[],[],[p.2.2])
 | .fnc f,.fn g []::r=>match ca0 f g with
  | true => .ret ((),r,[],[],[])
  | false => .fail
 | .fnc _,_ => .fail
 | .ali,.ptr n 0::r=>match a0 with
  | some m=>match ca0 n m with
   | true => .ret ((),r,[],[],[])
   | false => .fail
  | none => .fail
 | .ali,_ => .fail
 | .ref E o,.ptr n 0::r => .ask n fun
  | .live (.cells E' cs)=>match ca0 E E' with
   | true=>(ve a0 o cs).bind λp=>match p.2.1 with
    | [] => .ret (p.1,r,p.2.2.1,n::p.2.2.2.1,p.2.2.2.2)
    | _ => .fail
   | false => .fail
  | _ => .fail
 | .ref _ _,_ => .fail
 | .pair a b,cs=>(ve a0 a cs).bind λp=>(ve a0 b p.2.1).bind λq=>.ret ((p.1,q.1),q.2.1,p.2.2.1++q.2.2.1,p.2.2.2.1++q.2.2.2.1,p.2.2.2.2++q.2.2.2.2)
def AP:(o:OT)->o.D->Nat->Nat->List SV
 | .dat t,d,_,_=>cF t d
 | .row _ t,_,_,i=>[.own (QN+i) t.size]
 | .rowg _ t,_,_,i=>[.own (QN+i) t.size]
 | .fnc f,_,_,_=>[.fn f []]
 | .ali,_,_,_=>[.ptr PN 0]
 | .ref _ _,_,j,_=>[.ptr (PN+j) 0]
 | .pair a b,d,j,i=>AP a d.1 j i++AP b d.2 (j+a.nb) (i+a.nc)
def zz:(o:OT)->o.D->Nat->Nat->List (Nat×Nm)
 | .dat _,_,_,_=>[]
 | .row _ _,_,_,_=>[]
 | .rowg _ _,_,_,_=>[]
 | .fnc _,_,_,_=>[]
 | .ali,_,_,_=>[]
 | .ref E o,d,j,i=>(PN+j,.live (.cells E (AP o d (j+1) i)))::zz o d (j+1) i
 | .pair a b,d,j,i=>zz a d.1 j i++zz b d.2 (j+a.nb) (i+a.nc)
def DV:(o:OT)->o.D->Nat->List (Nat×Nm)
 | .dat _,_,_=>[]
 | .row E t,xs,i=>[(QN+i,.live (.row E t xs))]
 | .rowg E t,xs,i=>[(QN+i,.live (.row E t xs))]
 | .fnc _,_,_=>[]
 | .ali,_,_=>[]
 | .ref _ o,d,i=>DV o d i
 | .pair a b,d,i=>DV a d.1 i++DV b d.2 (i+a.nc)
def Da(t:CT)(d:t.D):SV:=match cF t d with
 | [s]=>s
 | _ => .junk
def Gj:Option Nat->Nat->Option Nat
 | some m,_=>bZ1 m
 | none,n=>bZ1 n
def gX:Option Nat->(ps:List PK)->List SV->Q (bw ps×List (Nat×Nm)×List Nat×List (Option Nat))
 | _,[],[] => .ret ((),[],[],[])
 | a0,.val t::ps,v::vs=>(kS t [v]).bind λp=>match p.2.1 with
  | []=>(gX a0 ps vs).bind λq=>.ret ((p.1,q.1),p.2.2++q.2.1,q.2.2)
  | _ => .fail
 | a0,.agg t::ps,.agg cs::vs=>(kS t cs).bind λp=>match p.2.1 with
  | []=>(gX a0 ps vs).bind λq=>.ret ((p.1,q.1),p.2.2++q.2.1,q.2.2)
  | _ => .fail
 | a0,.yld ts k::ps,.yld r us cs::vs=>match Ez ts us,ca0 (be cs) k with
  | true,bZ3=>(gX a0 ps (cs++vs)).bind λq=>.ret ((r,q.1),q.2)
  | _,_ => .fail
 | a0,.nils::ps,.nilsl::vs=>(gX a0 ps vs).bind λq=>.ret (((),q.1),q.2)
 | a0,.fn f k::ps,.fn g cs::vs=>match ca0 f g,ca0 (be cs) k with
  | true,bZ3=>(gX a0 ps (cs++vs)).bind λq=>.ret (((),q.1),q.2)
  | _,_ => .fail
 | a0,.box E o::ps,.ptr n 0::vs => .ask n fun
  | .live (.cells E' cs)=>match ca0 E E' with
   | true=>(ve a0 o cs).bind λp=>match p.2.1 with
    | []=>(gX (Gj a0 n) ps vs).bind λq=>.ret ((p.1,q.1),p.2.2.1++q.2.1,n::(p.2.2.2.1++q.2.2.1),p.2.2.2.2++q.2.2.2)
    | _ => .fail
   | false => .fail
  | _ => .fail
 | a0,.row E t::ps,.own n sz::vs => .ask n fun
  | .live (.row E' t' xs)=>match ca0 E E',ca0 sz t.size,iq t' t xs with
   | true,bZ3,bZ1 ys=>(gX (Gj a0 n) ps vs).bind λq=>.ret ((ys,q.1),q.2.1,n::q.2.2.1,q.2.2.2)
   | _,_,_ => .fail
  | _ => .fail
 | a0,.own E t::ps,v::vs=>(F8 E t [v]).bind λp=>(gX a0 ps vs).bind λq=>.ret ((p.1,q.1),q.2.1,q.2.2.1,p.2.2::q.2.2.2)
 | a0,.ago o::ps,.agg cs::vs=>match ca0 o.nb 0 with
  | true=>(ve a0 o cs).bind λp=>match p.2.1 with
   | []=>(gX a0 ps vs).bind λq=>.ret ((p.1,q.1),p.2.2.1++q.2.1,q.2.2.1,p.2.2.2.2++q.2.2.2)
   | _ => .fail
  | false => .fail
 | _,_,_ => .fail
def g9:(ps:List PK)->bw ps->Nat->Nat->List SV
 | [],_,_,_=>[]
 | .val t::ps,d,j,i=>Da t d.1::g9 ps d.2 j i
 | .agg t::ps,d,j,i => .agg (cF t d.1)::g9 ps d.2 j i
 | .box E o::ps,d,j,i => .ptr (PN+j) 0::g9 ps d.2 (j+1+o.nb) (i+o.nc)
 | .row E t::ps,d,j,i => .own (PN+j) t.size::g9 ps d.2 (j+1) i
 | .own E t::ps,d,j,i => .own (QN+i) t.size::g9 ps d.2 j (i+1)
 | .fn f k::ps,d,j,i => .fn f ((g9 ps d.2 j i).take k)::(g9 ps d.2 j i).drop k
 | .nils::ps,d,j,i => .nilsl::g9 ps d.2 j i
 | .yld ts k::ps,d,j,i => .yld d.1 ts ((g9 ps d.2 j i).take k)::(g9 ps d.2 j i).drop k
 | .ago o::ps,d,j,i => .agg (AP o d.1 j i)::g9 ps d.2 j (i+o.nc)
def qk:(ps:List PK)->bw ps->Nat->Nat->List (Nat×Nm)
 | [],_,_,_=>[]
 | .val t::ps,d,j,i=>qk ps d.2 j i
 | .agg t::ps,d,j,i=>qk ps d.2 j i
 | .box E o::ps,d,j,i=>(PN+j,.live (.cells E (AP o d.1 (j+1) i)))::(zz o d.1 (j+1) i++qk ps d.2 (j+1+o.nb) (i+o.nc))
 | .row E t::ps,d,j,i=>(PN+j,.live (.row E t d.1))::qk ps d.2 (j+1) i
 | .own E t::ps,d,j,i=>qk ps d.2 j (i+1)
 | .fn f k::ps,d,j,i=>qk ps d.2 j i
 | .nils::ps,d,j,i=>qk ps d.2 j i
 | .yld _ _::ps,d,j,i=>qk ps d.2 j i
 | .ago o::ps,d,j,i=>qk ps d.2 j (i+o.nc)
def tA:(ps:List PK)->bw ps->Nat->List (Nat×Nm)
 | [],_,_=>[]
 | .val t::ps,d,i=>tA ps d.2 i
 | .agg t::ps,d,i=>tA ps d.2 i
 | .box E o::ps,d,i=>DV o d.1 i++tA ps d.2 (i+o.nc)
 | .row E t::ps,d,i=>tA ps d.2 i
 | .own E t::ps,d,i=>(QN+i,.live (.row E t d.1))::tA ps d.2 (i+1)
 | .fn f k::ps,d,i=>tA ps d.2 i
 | .nils::ps,d,i=>tA ps d.2 i
 | .yld _ _::ps,d,i=>tA ps d.2 i
 | .ago o::ps,d,i=>DV o d.1 i++tA ps d.2 (i+o.nc)
def si(env:bi):Option Nat->Ev
 | some m=>env m
 | none => .nil
section
variable {w0:ca8} {N0:fI} {A Ac:Nat->Prop} {env envc:bi} {h:bZ} {w:ca8}
def lI(A':Nat->Prop)(env0:bi)(h0:bZ)(e':bi)(w:ca8):List (Option Nat)->List (Nat×Nm)->Nat->Prop
 | [],[],_=>True
 | o::os,(m,x)::l,n=>(m=n∧∃ b',x = .live b'∧b'.mut=bZ3/\((∃ q b,o=bZ1 q/\h0 q = .live b/\b.mut=bZ3/\(∀ k len,env0 q = .blk k len->kv A' e' w k len b')/\(env0 q = .nil→∃ E t,b' = .row E t []))∨(o=bZ9∧∃ E t,b' = .row E t [])))/\lI A' env0 h0 e' w os l (n+1)
 | _,_,_=>False
theorem lI.append{A':Nat->Prop}{a:bi}{e:bZ}{f:bi}:∀{c b:List (Option Nat)}{l d:List (Nat×Nm)}{n:Nat},lI A' a e f w c l n->lI A' a e f w b d (n+be c)->lI A' a e f w (c++b) (l++d) n
 | [],b,[],d,n,_,k=>by simpa using k
 | o::c,b,(m,x)::l,d,n,⟨h1,h2⟩,k=>by
  refine⟨h1,h2.append ?_⟩;grind
theorem lI.get{A':Nat->Prop}{a:bi}{d:bZ}{e:bi}:∀{c:List (Option Nat)}{l:List (Nat×Nm)}{n:Nat},lI A' a d e w c l n->be c=be l ∧
  ∀ i o,c[i]? = bZ1 o→∃ b',fa l (n+i) = .live b'∧(n+i,Nm.live b')∈l/\b'.mut=bZ3/\((∃ q b,o=bZ1 q/\d q = .live b/\b.mut=bZ3/\(∀ k len,a q = .blk k len->kv A' e w k len b')/\(a q = .nil→∃ E t,b' = .row E t []))∨(o=bZ9∧∃ E t,b' = .row E t []))
 | [],[],n,_=>⟨rfl,λi n hi=>by simp at hi⟩
 | o::c,(m,x)::l,n,⟨⟨f,b',h3,h4,h5⟩,hr⟩=>by
  obtain⟨hl,hg⟩:=hr.get;refine⟨by simp[hl],λi o' hi=>?_⟩;cases i with
  | zero =>
   simp at hi;subst hi;subst h3;exact⟨b',by simp only[fa,f,kf,zc],by rw[f];exact eV ..,h4,h5⟩
  | succ i =>
   have ⟨c',g,h,g3⟩:=hg i o' (by simpa using hi);rw[show n+1+i=n+(i+1) from by omega] at g h;refine⟨c',?_,fu _ h,g3⟩;simp only[fa];have:ca0 (n+(i+1)) m=false:=by
    cases hb:ca0 (n+(i+1)) m with
    | false=>rfl
    | true=>have:=bK hb;omega
   rw[this];exact g
theorem lI.keys{A':Nat->Prop}{a:bi}{h0:bZ}{e':bi}:∀{d:List (Option Nat)}{l:List (Nat×Nm)}{n:Nat},lI A' a h0 e' w d l n→∀ c x,(c,x)∈l→∃ i o,c=n+i/\d[i]? = bZ1 o
 | [],[],n,_,c,x,b=>by simp at b
 | o::d,(m,y)::l,n,⟨⟨hm,_⟩,hr⟩,c,x,b=>by
  rcases dO.1 b with e|b
  .simp_all
  .obtain⟨i,o',h1,h2⟩:=hr.keys c x b;exact⟨i+1,o',ab,by simpa using h2⟩
theorem NS{t:CT}{d:t.D}{v:Value}{rest:List SV}(hr:Rd A w t (λj=>[v][j]?) 0 d):aA A env w (Da t d) v:=by
 have ⟨vs,hl,hc,a⟩:=yX (env:=env) t d _ 0 hr
 unfold Da
 split
 next s hs=>rw[hs] at a;simp only[aM] at a;have h0:=hc 0 t.size_pos;grind
 .simp only[aA]
theorem KR{t:CT}{d:t.D}{vs:List Value}(hl:be vs=t.size)(hr:Rd A w t (λj=>vs[j]?) 0 d):aM A env w (cF t d) vs:=by
 obtain⟨us,hlu,hc,hd⟩:=yX t d _ 0 hr
 have:us=vs:=by
  apply List.ext_getElem?;grind
 rw[← this];exact hd
theorem bV0{k:Nat}{len:Nat×Nat}{E:bZ8}{t:CT}{xs:List t.D}(hr:rJ A w k len E t xs):be xs<=cb2∧∀ x∈xs,t.wf x:=by
 have ⟨vs,cap,_,_,h2,h3,h4,h5⟩:=hr
 refine⟨ab,λx hx=>?_⟩
 obtain⟨i,hi,rfl⟩:=List.mem_iff_getElem.1 hx
 exact JQ _ _ _ _ (h5 i hi)
theorem bX5{a0:Option Nat}{t:CT}{ps:List PK}{a:List SV} {x} (e:(gX a0 (.agg t::ps) a).run h=bZ1 x):∃ cs r,a = .agg cs::r:=by
 cases a with
 | nil=>cases e
 | cons s r=>cases s <;> first|exact⟨_,_,rfl⟩|cases e
theorem a86{a0:Option Nat}{o:OT}{ps:List PK}{a:List SV} {x} (e:(gX a0 (.ago o::ps) a).run h=bZ1 x):∃ cs r,a = .agg cs::r:=by
 cases a with
 | nil=>cases e
 | cons s r=>cases s <;> first|exact⟨_,_,rfl⟩|cases e
theorem bA4{a0:Option Nat}{E:bZ8}{o:OT}{ps:List PK}{a:List SV} {x} (e:(gX a0 (.box E o::ps) a).run h=bZ1 x):∃ n r,a = .ptr n 0::r:=by
 cases a with
 | nil=>cases e
 | cons s r =>
  cases s with
  | ptr n off=>cases off with
   | zero=>exact⟨_,_,rfl⟩
   | succ k=>cases e
  | _=>cases e
theorem ak2{a0:Option Nat}{E:bZ8}{t:CT}{ps:List PK}{a:List SV} {x} (e:(gX a0 (.row E t::ps) a).run h=bZ1 x):∃ n sz r,a = .own n sz::r:=by
 cases a with
 | nil=>cases e
 | cons s r=>cases s <;> first|exact⟨_,_,_,rfl⟩|cases e
theorem bS8{a0:Option Nat}{E:bZ8}{t:CT}{ps:List PK}{a:List SV} {x} (e:(gX a0 (.own E t::ps) a).run h=bZ1 x):∃ v r,a=v::r:=by
 cases a with
 | nil=>cases e
 | cons s r=>exact⟨_,_,rfl⟩
theorem ax9{a0:Option Nat}{ps:List PK}{a:List SV} {x} (e:(gX a0 (.nils::ps) a).run h=bZ1 x):∃ r,a = .nilsl::r:=by
 cases a with
 | nil=>cases e
 | cons s r=>cases s <;> first|exact⟨_,rfl⟩|cases e
theorem bT4{a0:Option Nat}{f:FuncId}{k:Nat}{ps:List PK}{a:List SV} {x} (e:(gX a0 (.fn f k::ps) a).run h=bZ1 x):∃ g cs r,a = .fn g cs::r:=by
 cases a with
 | nil=>cases e
 | cons s r=>cases s <;> first|exact⟨_,_,_,rfl⟩|cases e
theorem aX5{a0:Option Nat}{ts:List Nat}{k:Nat}{ps:List PK}{a:List SV} {x} (e:(gX a0 (.yld ts k::ps) a).run h=bZ1 x):∃ r us cs q,a = .yld r us cs::q:=by
 cases a with
 | nil=>cases e
 | cons s r=>cases s <;> first|exact⟨_,_,_,_,rfl⟩|cases e
theorem ap0{a0:Option Nat}{f:FuncId}{a:List SV} {x} (e:(ve a0 (.fnc f) a).run h=bZ1 x):∃ r,a = .fn f []::r/\x=(((),r,[],[],[]),[]):=by
 cases a with
 | nil=>cases e
 | cons s r =>
  cases s <;> first|cases e;done|skip
  rename_i g cs;cases cs <;> first|cases e;done|skip
  simp only[ve] at e;split at e
  next hb=>rw[bK hb];simp only[Q.run,cE] at e;exact⟨_,rfl,e.symm⟩
  .cases e
theorem bS1{a0:Option Nat}{E:bZ8}{o:OT}{a:List SV} {x} (e:(ve a0 (.ref E o) a).run h=bZ1 x):∃ n r,a = .ptr n 0::r:=by
 cases a with
 | nil=>cases e
 | cons s r =>
  cases s with
  | ptr n off=>cases off with
   | zero=>exact⟨_,_,rfl⟩
   | succ k=>cases e
  | _=>cases e
theorem Yc(m:Mod w0 N0 A env h w)(hA:∀ b,A b->Ac b){n:Nat}{E:bZ8}{t:CT}{xs:List t.D}(j:h n = .live (.row E t xs)) :
  (be xs<=cb2∧∀ x∈xs,t.wf x)∧∀(l:bi)(i:Nat),lI Ac env h l w [bZ1 n] [(i,.live (.row E t xs))] i:=by
 have f:=m.nm n
 rw[j] at f
 refine⟨?_,λl i=>⟨⟨rfl,_,rfl,rfl,.inl ⟨n,_,rfl,j,rfl,λk len g=>?_,λg=>?_⟩⟩,aP⟩⟩
 .obtain⟨k,len,a,d,_⟩|⟨c,E2,t2,d⟩:=f
  .exact bV0 d
  .grind
 .obtain⟨k',e,a,d,_⟩|⟨c,_⟩:=f
  .rw[g] at a;cases a;have ⟨us,cap,g1,g2,g3,g4,g5,g6⟩:=d;exact⟨us,cap,g1,g2,g3,g4,g5,λi hi=>iQ hA (λ_ _ _=>rfl) _ _ _ _ _ (λ_ _=>rfl) (g6 i hi)⟩
  .rw[g] at c;cases c
 .obtain⟨k',e,a,d,_⟩|⟨c,E2,t2,d⟩:=f
  .rw[g] at a;cases a
  .simp_all
theorem Pe(m:Mod w0 N0 A env h w)(hA:∀ b,A b->Ac b){E:bZ8}{t:CT}{cs rest:List SV}{vs:List Value}{ys:List t.D}{f:Option Nat}{r:List Nat}
  (e:(F8 E t cs).run h=bZ1 ((ys,rest,f),r)) (l:aM A env w cs vs) :
  (be ys<=cb2∧∀ x∈ys,t.wf x)/\be cs=be rest+1/\(rest=cs.drop 1)∧∃ v c,vs=v::c/\aM A env w rest c∧∀(d:bi)(i:Nat),d i=si env f->aA Ac d w (.own i t.size) v/\lI Ac env h d w [f] [(i,.live (.row E t ys))] i:=by
 cases cs with
 | nil=>cases e
 | cons s cs =>
 cases s with
 | own n sz =>
  simp only[F8,Q.run] at e;split at e
  .rename_i p0 q0 hk;obtain⟨rfl,rfl⟩:=e;split at hk
   .rename_i E' t' xs hl;split at hk
    next zs g a hc=>have g:=bK g;subst g;have a:=bK a;subst a;have ⟨et,ez⟩:=kC hc;subst et;subst ez;obtain⟨⟨rfl,rfl,rfl⟩,rfl⟩:=hk;obtain⟨x,c,rfl,hv,j⟩:=l;have ⟨h1,h2⟩:=Yc m hA hl;refine⟨h1,rfl,rfl,x,c,rfl,j,λd i k=>⟨?_,h2 d i⟩⟩;simp only[aA];rw[k];exact hv
    .cases hk
   .cases hk
  .cases e
 | nilsl =>
  obtain⟨⟨rfl,rfl,rfl⟩,rfl⟩:=e;obtain⟨x,c,rfl,rfl,j⟩:=l;refine⟨⟨az,az⟩,rfl,rfl,_,c,rfl,j,λd i k=>⟨?_,⟨rfl,_,rfl,rfl,.inr ⟨rfl,_,_,rfl⟩⟩,aP⟩⟩;exact .inl ⟨k,_,rfl⟩
 | _=>cases e
theorem a60{b:Option Nat}{a:List SV} {x} (e:(ve b .ali a).run h=bZ1 x):∃ n r,a = .ptr n 0::r/\b=bZ1 n/\x=(((),r,[],[],[]),[]):=by
 cases a with
 | nil=>cases e
 | cons s r =>
  cases s with
  | ptr n off=>cases off with
   | zero=>cases b with
    | none=>cases e
    | some m =>
     have e:(match ca0 n m with|true=>(Q.ret ((),r,[],[],[]):Q (Unit×List SV×List (Nat×Nm)×List Nat×List (Option Nat)))|false=>Q.fail).run h=bZ1 x:=e;cases c:ca0 n m with
     | false=>rw[c] at e;cases e
     | true =>
      rw[c] at e;simp only[Q.run,cE] at e;exact⟨n,r,rfl,by rw[bK c],e.symm⟩
   | succ k=>cases e
  | _=>cases e
theorem Th{a0:Option Nat}{n:Nat}(h:Gj a0 n=bZ9):False:=by cases a0 <;> cases h
theorem FB(m:Mod w0 N0 A env h w)(hA:∀ b,A b->Ac b)(a0:Option Nat):∀(o:OT)(cs:List SV)(vs:List Value)(d:o.D)(rest:List SV)(fz:List (Nat×Nm))(bx:List Nat)(cx:List (Option Nat))(r:List Nat)(j i:Nat),
  (ve a0 o cs).run h=bZ1 ((d,rest,fz,bx,cx),r)->aM A env w cs vs->(∀ k,iG env fz k->Ac k) →
  pJ h fz/\o.wf d/\be bx=o.nb/\be cx=o.nc∧∃ us rs,vs=us++rs/\aM A env w rest rs ∧
   ((∀ n,a0=bZ1 n->envc PN=env n)->(∀ k n,bx[k]? = bZ1 n->envc (PN+(j+k))=env n)->(∀ k q,cx[k]? = bZ1 q->envc (QN+(i+k))=si env q) →
     aM Ac envc w (AP o d j i) us/\lI Ac env h envc w (bx.map bZ1) (zz o d j i) (PN+j)/\lI Ac env h envc w cx (DV o d i) (QN+i))
 | .dat t,cs,vs,d,rest,fz,bx,cx,r,j,i,e,hd,hF=>by
  obtain⟨⟨d1,r1,f1⟩,q1,q2,e1,e2,rfl⟩:=Q.run_bind _ _ _ e;obtain⟨⟨rfl,rfl,rfl,rfl,rfl⟩,rfl⟩:=e2;have ⟨p1,p2,p3,p4,p5⟩:=wA m t cs vs d1 r1 f1 q1 e1 hd hA hF;refine⟨p1,JQ _ _ _ _ p4,rfl,rfl,vs.take t.size,vs.drop t.size,(kP _ _).symm,p5,λ_ _ _=>⟨?_,aP,aP⟩⟩;refine KR (by rw[eM];omega) ?_;refine iQ (λ_ h=>h) (λ_ _ _=>rfl) t _ _ _ _ (λk hk=>?_) p4;simp_all
 | .row E t,cs,vs,d,rest,fz,bx,cx,r,j,i,e,hd,hF=>by
  obtain⟨⟨d1,r1,o1⟩,q1,q2,e1,e2,rfl⟩:=Q.run_bind _ _ _ e;obtain⟨⟨rfl,rfl,rfl,rfl,rfl⟩,rfl⟩:=e2;obtain⟨p1,-,-,v,vr,rfl,p2,p3⟩:=Pe m hA e1 hd;refine⟨λn b hh=>by simp at hh,p1,rfl,rfl,[v],vr,rfl,p2,λ_ _ hc=>?_⟩;have ⟨k1,k2⟩:=p3 envc (QN+i) (hc 0 _ rfl);exact⟨⟨v,[],rfl,k1,rfl⟩,aP,k2⟩
 | .rowg E t,cs,vs,d,rest,fz,bx,cx,r,j,i,e,hd,hF=>by
  obtain⟨⟨d1,r1,o1⟩,q1,q2,e1,e2,rfl⟩:=Q.run_bind _ _ _ e;obtain⟨⟨rfl,rfl,rfl,rfl,rfl⟩,rfl⟩:=e2;obtain⟨p1,-,-,v,vr,rfl,p2,p3⟩:=Pe m hA e1 hd;refine⟨λn b hh=>by simp at hh,p1,rfl,rfl,[v],vr,rfl,p2,λ_ _ hc=>?_⟩;have ⟨k1,k2⟩:=p3 envc (QN+i) (hc 0 _ rfl);exact⟨⟨v,[],rfl,k1,rfl⟩,aP,k2⟩
 | .fnc f,cs0,vs,d,rest,fz,bx,cx,r,j,i,e,hd,hF=>by
  obtain⟨cs,rfl,e2⟩:=ap0 e;obtain⟨⟨-,rfl,rfl,rfl,rfl⟩,rfl⟩:=e2;obtain⟨u,vr,rfl,hu,hvr⟩:=hd;refine⟨λn b hh=>by simp at hh,aP,rfl,rfl,[u],vr,rfl,hvr,λ_ _ _=>⟨?_,aP,aP⟩⟩;refine⟨u,[],rfl,?_,rfl⟩;exact hu
 | .ali,cs0,vs,d,rest,fz,bx,cx,r,j,i,e,hd,hF=>by
  obtain⟨n,cs,rfl,h0,e2⟩:=a60 e;obtain⟨⟨-,rfl,rfl,rfl,rfl⟩,rfl⟩:=e2;obtain⟨u,vr,rfl,⟨k,len,hek,rfl⟩,hvr⟩:=hd;refine⟨λn b hh=>by simp at hh,aP,rfl,rfl,[_],vr,rfl,hvr,λha _ _=>⟨?_,aP,aP⟩⟩;simp only[AP,aM,aA];simp_all
 | .ref E o,cs0,vs,d,rest,fz,bx,cx,r,j,i,e,hd,hF=>by
  obtain⟨n,cs,rfl⟩:=bS1 e;simp only[ve,Q.run] at e;split at e
  .rename_i p0 q0 hk;obtain⟨rfl,rfl⟩:=e;split at hk
   .rename_i E' cs' hl;split at hk
    .rename_i hE;have hE:=bK hE;subst hE;obtain⟨⟨d1,r1,f1,b1,c1⟩,q1,q2,e1,e2,rfl⟩:=Q.run_bind _ _ _ hk;split at e2
     .rename_i hr1;subst hr1;obtain⟨⟨rfl,rfl,rfl,rfl,rfl⟩,rfl⟩:=e2;obtain⟨x,vr,rfl,⟨k,len,hek,rfl⟩,hr⟩:=hd;have ⟨⟨us,hus,hdu⟩,_⟩:=m.live_blk hl hek;have ⟨s1,s2,s3,s4,us',rs',s5,s6,s7⟩:=FB m hA a0 o cs' us.toList d1 [] f1 b1 c1 q1 (j+1) i e1 hdu hF;subst s6;rw[iX] at s5;subst s5;refine⟨s1,s2,by simp only[cX,s3,OT.nb],s4,[_],vr,rfl,hr,λha hb hc=>?_⟩;have h0:=hb 0 n rfl;have ⟨k1,k2,k3⟩:=s7 ha (λk n hn=>by have:=hb (k+1) n (by simpa using hn);rwa [show j+(k+1)=j+1+k from by omega] at this) hc;refine⟨?_,⟨⟨rfl,_,rfl,rfl,.inl ⟨n,_,rfl,hl,rfl,λk' len' he=>?_,λhe=>?_⟩⟩,?_⟩,k3⟩
      .simp only[AP,aM,aA];simp_all
      .rw[hek] at he;cases he;exact⟨us,hus,k1⟩
      .rw[hek] at he;cases he
      .omega
     .cases e2
    .cases hk
   .cases hk
  .cases e
 | .pair a b,cs,vs,d,rest,fz,bx,cx,r,j,i,e,hd,hF=>by
  obtain⟨⟨d1,r1,f1,b1,c1⟩,q1,q2,e1,e2,rfl⟩:=Q.run_bind _ _ _ e;obtain⟨⟨d2,r2,f2,b2,c2⟩,q3,q4,e3,e4,rfl⟩:=Q.run_bind _ _ _ e2;simp only[Q.run,cE,cy] at e4;obtain⟨⟨rfl,rfl,rfl,rfl,rfl⟩,rfl⟩:=e4;have hF1:∀ k,iG env f1 k->Ac k:=λk ⟨n,x,l,hx,he⟩=>hF k ⟨n,x,l,ip _ hx,he⟩;have hF2:∀ k,iG env f2 k->Ac k:=λk ⟨n,x,l,hx,he⟩=>hF k ⟨n,x,l,jv _ hx,he⟩;obtain⟨s1,s2,s3,s4,us,rs,rfl,s6,s7⟩:=FB m hA a0 a cs vs d1 r1 f1 b1 c1 q1 j i e1 hd hF1;obtain⟨t1,t2,t3,t4,us',rs',rfl,t6,t7⟩:=FB m hA a0 b r1 rs d2 r2 f2 b2 c2 q3 (j+a.nb) (i+a.nc) e3 s6 hF2;refine⟨λn b hh=>?_,⟨s2,t2⟩,by simp only[bM,s3,t3,OT.nb],by simp only[bM,s4,t4,OT.nc],us++us',rs',by rw[fV],t6,λha hb hc=>?_⟩
  .obtain hh|hh:=dI.1 hh
   .exact s1 n b hh
   .exact t1 n b hh
  .have ⟨k1,k2,k3⟩:=s7 ha (λk n hn=>hb k n (by rw[mC (ca5.1 hn).1];exact hn)) (λk q hq=>hc k q (by rw[mC (ca5.1 hq).1];exact hq));have ⟨l1,l2,l3⟩:=t7 ha (λk n hn=>by
     have:=hb (a.nb+k) n (by rw[nX ab,s3,nI];exact hn)
     rwa [show j+(a.nb+k)=j+a.nb+k from by omega] at this)
    (λk q hq=>by
     have:=hc (a.nc+k) q (by rw[nX ab,s4,nI];exact hq)
     rwa [show i+(a.nc+k)=i+a.nc+k from by omega] at this)
   refine⟨tF k1 l1,?_,?_⟩
   .rw[kJ];exact k2.append (by rw[kW,s3,gG];exact l2)
   .exact k3.append (by rw[s4,gG];exact l3)
theorem wP(m:Mod w0 N0 A env h w)(hA:∀ b,A b->Ac b):∀(a0:Option Nat)(ps:List PK)(svs:List SV)(vs:List Value)(d:bw ps)(fz:List (Nat×Nm))(bx:List Nat)(cx:List (Option Nat))(r:List Nat)(j i:Nat),
  (gX a0 ps svs).run h=bZ1 ((d,fz,bx,cx),r)->aM A env w svs vs->(∀ k,iG env fz k->Ac k) →
  pJ h fz/\vD ps d/\((a0=bZ9->j=0)->(∀ n,a0=bZ1 n->envc PN=env n)->(∀ k n,bx[k]? = bZ1 n->envc (PN+(j+k))=env n)->(∀ k q,cx[k]? = bZ1 q->envc (QN+(i+k))=si env q) →
   aM Ac envc w (g9 ps d j i) vs/\lI Ac env h envc w (bx.map bZ1) (qk ps d j i) (PN+j)/\lI Ac env h envc w cx (tA ps d i) (QN+i))
 | a0,[],[],vs,d,fz,bx,cx,r,j,i,e,hd,hF=>by
  simp only[gX,Q.run,cE,cy] at e;obtain⟨⟨-,rfl,rfl,rfl⟩,rfl⟩:=e;exact⟨λn b hh=>by simp at hh,aP,λ_ _ _ _=>⟨by simpa[g9,aM] using hd,aP,aP⟩⟩
 | a0,.val t::ps,v::svs,vs,d,fz,bx,cx,r,j,i,e,hd,hF=>by
  simp only[gX] at e;obtain⟨⟨d1,r1,f1⟩,q1,q2,e1,e2,rfl⟩:=Q.run_bind _ _ _ e;split at e2
  .rename_i hr1;simp only at hr1;subst hr1;obtain⟨⟨d2,f2,b2,c2⟩,q3,q4,e3,e4,rfl⟩:=Q.run_bind _ _ _ e2;simp only[Q.run,cE,cy] at e4;obtain⟨⟨rfl,rfl,rfl,rfl⟩,rfl⟩:=e4;simp only[aM] at hd;obtain⟨x,vr,rfl,hx,hr⟩:=hd;have hF1:∀ k,iG env f1 k->Ac k:=λk ⟨n,x,l,hx,he⟩=>hF k ⟨n,x,l,ip _ hx,he⟩;have hF2:∀ k,iG env f2 k->Ac k:=λk ⟨n,x,l,hx,he⟩=>hF k ⟨n,x,l,jv _ hx,he⟩;have ⟨p1,p2,p3,p4,_⟩:=wA m t [v] [x] d1 [] f1 q1 e1 (by simp only[aM];exact⟨x,[],rfl,hx,rfl⟩) hA hF1;have ⟨s1,s4,s6⟩:=wP m hA a0 ps svs vr d2 f2 b2 c2 q3 j i e3 hr hF2;refine⟨λn b hh=>?_,⟨JQ _ _ _ _ p4,s4⟩,λhj ha hb hc=>?_⟩
   .obtain hh|hh:=dI.1 hh
    .exact p1 n b hh
    .exact s1 n b hh
   .have ⟨k1,k2,k3⟩:=s6 hj ha hb hc;refine⟨?_,k2,k3⟩;simp only[g9,aM];exact⟨x,vr,rfl,NS (rest:=[]) p4,k1⟩
  .cases e2
 | a0,.nils::ps,svs0,vs,d,fz,bx,cx,r,j,i,e,hd,hF=>by
  obtain⟨svs,rfl⟩:=ax9 e;simp only[gX] at e;obtain⟨⟨d2,f2,b2,c2⟩,q3,q4,e3,e4,rfl⟩:=Q.run_bind _ _ _ e;simp only[Q.run,cE,cy] at e4;obtain⟨⟨rfl,rfl,rfl,rfl⟩,rfl⟩:=e4;simp only[aM,aA] at hd;obtain⟨x,vr,rfl,rfl,hr⟩:=hd;have ⟨s1,s4,s6⟩:=wP m hA a0 ps svs vr d2 f2 b2 c2 q3 j i e3 hr hF;refine⟨s1,⟨aP,s4⟩,λhj ha hb hc=>?_⟩;have ⟨k1,k2,k3⟩:=s6 hj ha hb hc;refine⟨?_,k2,k3⟩;simp only[g9,aM,aA];grind
 | a0,.yld ts k::ps,svs0,vs,d,fz,bx,cx,r,j,i,e,hd,hF=>by
  obtain⟨rc,us',cs,svs,rfl⟩:=aX5 e;simp only[gX] at e;split at e
  .rename_i hf hk;have hf:=Hp hf;have hk:=bK hk;subst hf;obtain⟨⟨d2,f2,b2,c2⟩,q3,q4,e3,e4,rfl⟩:=Q.run_bind _ _ _ e;simp only[Q.run,cE,cy] at e4;obtain⟨⟨rfl,rfl,rfl,rfl⟩,rfl⟩:=e4;simp only[aM,aA] at hd;obtain⟨x,vr,rfl,⟨l,rfl,hl,hu⟩,hr⟩:=hd;have hul:=jb hu;have ⟨s1,s4,s6⟩:=wP m hA a0 ps (cs++svs) (_++vr) d2 f2 b2 c2 q3 j i e3 (tF hu hr) hF;refine⟨s1,⟨aP,s4⟩,λhj ha hb hc=>?_⟩;have ⟨k1,k2,k3⟩:=s6 hj ha hb hc;refine⟨?_,k2,k3⟩;simp only[g9,aM,aA];refine⟨_,vr,rfl,⟨l,rfl,hl,?_⟩,?_⟩
   .have:=A7 k k1;simp_all
   .have:=B8 k k1;simp_all
  .cases e
 | a0,.fn f k::ps,svs0,vs,d,fz,bx,cx,r,j,i,e,hd,hF=>by
  obtain⟨g,cs,svs,rfl⟩:=bT4 e;simp only[gX] at e;split at e
  .rename_i hf hk;have hf:=bK hf;have hk:=bK hk;subst hf;obtain⟨⟨d2,f2,b2,c2⟩,q3,q4,e3,e4,rfl⟩:=Q.run_bind _ _ _ e;simp only[Q.run,cE,cy] at e4;obtain⟨⟨rfl,rfl,rfl,rfl⟩,rfl⟩:=e4;simp only[aM,aA] at hd;obtain⟨x,vr,rfl,⟨us,rfl,hu⟩,hr⟩:=hd;have hul:=jb hu;have ⟨s1,s4,s6⟩:=wP m hA a0 ps (cs++svs) (us.toList++vr) d2 f2 b2 c2 q3 j i e3 (tF hu hr) hF;refine⟨s1,⟨aP,s4⟩,λhj ha hb hc=>?_⟩;have ⟨k1,k2,k3⟩:=s6 hj ha hb hc;refine⟨?_,k2,k3⟩;simp only[g9,aM,aA];refine⟨_,vr,rfl,⟨us,rfl,?_⟩,?_⟩
   .have:=A7 k k1;simp_all
   .have:=B8 k k1;simp_all
  .cases e
 | a0,.agg t::ps,svs0,vs,d,fz,bx,cx,r,j,i,e,hd,hF=>by
  obtain⟨cs,svs,rfl⟩:=bX5 e;simp only[gX] at e;obtain⟨⟨d1,r1,f1⟩,q1,q2,e1,e2,rfl⟩:=Q.run_bind _ _ _ e;split at e2
  .rename_i hr1;simp only at hr1;subst hr1;obtain⟨⟨d2,f2,b2,c2⟩,q3,q4,e3,e4,rfl⟩:=Q.run_bind _ _ _ e2;simp only[Q.run,cE,cy] at e4;obtain⟨⟨rfl,rfl,rfl,rfl⟩,rfl⟩:=e4;simp only[aM,aA] at hd;obtain⟨x,vr,rfl,⟨us,rfl,hx⟩,hr⟩:=hd;have hF1:∀ k,iG env f1 k->Ac k:=λk ⟨n,x,l,hx,he⟩=>hF k ⟨n,x,l,ip _ hx,he⟩;have hF2:∀ k,iG env f2 k->Ac k:=λk ⟨n,x,l,hx,he⟩=>hF k ⟨n,x,l,jv _ hx,he⟩;have ⟨p1,p2,p3,p4,_⟩:=wA m t cs us.toList d1 [] f1 q1 e1 hx hA hF1;have ⟨s1,s4,s6⟩:=wP m hA a0 ps svs vr d2 f2 b2 c2 q3 j i e3 hr hF2;refine⟨λn b hh=>?_,⟨JQ _ _ _ _ p4,s4⟩,λhj ha hb hc=>?_⟩
   .obtain hh|hh:=dI.1 hh
    .exact p1 n b hh
    .exact s1 n b hh
   .have ⟨k1,k2,k3⟩:=s6 hj ha hb hc;refine⟨?_,k2,k3⟩;simp only[g9,aM,aA];exact⟨_,vr,rfl,⟨us,rfl,KR (by simpa using p3) p4⟩,k1⟩
  .cases e2
 | a0,.box E o::ps,svs0,vs,d,fz,bx,cx,r,j,i,e,hd,hF=>by
  obtain⟨n,svs,rfl⟩:=bA4 e;simp only[gX,Q.run] at e;split at e
  .rename_i p0 q0 hk;simp only[cE,cy] at e;obtain⟨rfl,rfl⟩:=e;split at hk
   .rename_i E' cs hl;split at hk
    .rename_i hE;have hE:=bK hE;subst hE;obtain⟨⟨d1,r1,f1,b1,c1⟩,q1,q2,e1,e2,rfl⟩:=Q.run_bind _ _ _ hk;split at e2
     .rename_i hr1;simp only at hr1;subst hr1;obtain⟨⟨d2,f2,b2,c2⟩,q3,q4,e3,e4,rfl⟩:=Q.run_bind _ _ _ e2;simp only[Q.run,cE,cy] at e4;obtain⟨⟨rfl,rfl,rfl,rfl⟩,rfl⟩:=e4;simp only[aM,aA] at hd;obtain⟨x,vr,rfl,⟨k,len,hek,rfl⟩,hr⟩:=hd;have ⟨⟨us,hus,hdu⟩,_⟩:=m.live_blk hl hek;have hF1:∀ k,iG env f1 k->Ac k:=λk ⟨n,x,l,hx,he⟩=>hF k ⟨n,x,l,ip _ hx,he⟩;have hF2:∀ k,iG env f2 k->Ac k:=λk ⟨n,x,l,hx,he⟩=>hF k ⟨n,x,l,jv _ hx,he⟩;have ⟨p1,p2,p3,p4,us',rs',p5,p6,p7⟩:=FB (envc:=envc) m hA a0 o cs us.toList d1 [] f1 b1 c1 q1 (j+1) i e1 hdu hF1;simp only[aM] at p6;subst p6;rw[iX] at p5;subst p5;have ⟨s1,s4,s6⟩:=wP m hA (Gj a0 n) ps svs vr d2 f2 b2 c2 q3 (j+1+o.nb) (i+o.nc) e3 hr hF2;refine⟨λn b hh=>?_,⟨p2,s4⟩,λhj ha hb hc=>?_⟩
      .obtain hh|hh:=dI.1 hh
       .exact p1 n b hh
       .exact s1 n b hh
      .have h0:=hb 0 n rfl;rw[kf] at h0;have ⟨k1,k2,k3⟩:=p7 ha
        (λk n hn=>by
         have:=hb (k+1) n (by simp only[cq9];rw[mC (ca5.1 hn).1];exact hn)
         rwa [show j+(k+1)=j+1+k from by omega] at this)
        (λk q hq=>hc k q (by rw[mC (ca5.1 hq).1];exact hq))
       have ⟨l1,l2,l3⟩:=s6 (λq=>(Th q).elim) (λn' hn=>by cases a0 with|some m=>exact ha n' hn|none=>cases hn;have e:=hj rfl;rw[e,kf] at h0;exact h0)
        (λk n hn=>by
         have:=hb (o.nb+k+1) n (by simp only[cq9];rw[nX ab,p3,nI];exact hn)
         rwa [show j+(o.nb+k+1)=j+1+o.nb+k from by omega] at this)
        (λk q hq=>by
         have:=hc (o.nc+k) q (by rw[nX ab,p4,nI];exact hq)
         rwa [show i+(o.nc+k)=i+o.nc+k from by omega] at this)
       refine⟨?_,⟨⟨rfl,_,rfl,rfl,.inl ⟨n,_,rfl,hl,rfl,λk' len' he=>?_,λhe=>?_⟩⟩,?_⟩,?_⟩
       .simp only[g9,aM,aA];exact⟨_,vr,rfl,⟨k,len,by rw[h0];exact hek,rfl⟩,l1⟩
       .rw[hek] at he;cases he;exact⟨us,hus,k1⟩
       .rw[hek] at he;cases he
       .rw[kJ,show PN+j+1=PN+(j+1) from by omega];exact k2.append (by rw[kW,p3,show PN+(j+1)+o.nb=PN+(j+1+o.nb) from by omega];exact l2)
       .exact k3.append (by rw[p4,gG];exact l3)
     .cases e2
    .cases hk
   .cases hk
  .cases e
 | a0,.ago o::ps,svs0,vs,d,fz,bx,cx,r,j,i,e,hd,hF=>by
  obtain⟨cs,svs,rfl⟩:=a86 e;simp only[gX] at e;split at e
  .rename_i hnb;have hnb:=bK hnb;obtain⟨⟨d1,r1,f1,b1,c1⟩,q1,q2,e1,e2,rfl⟩:=Q.run_bind _ _ _ e;split at e2
   .rename_i hr1;simp only at hr1;subst hr1;obtain⟨⟨d2,f2,b2,c2⟩,q3,q4,e3,e4,rfl⟩:=Q.run_bind _ _ _ e2;simp only[Q.run,cE,cy] at e4;obtain⟨⟨rfl,rfl,rfl,rfl⟩,rfl⟩:=e4;simp only[aM,aA] at hd;obtain⟨x,vr,rfl,⟨us,rfl,hdu⟩,hr⟩:=hd;have hF1:∀ k,iG env f1 k->Ac k:=λk ⟨n,x,l,hx,he⟩=>hF k ⟨n,x,l,ip _ hx,he⟩;have hF2:∀ k,iG env f2 k->Ac k:=λk ⟨n,x,l,hx,he⟩=>hF k ⟨n,x,l,jv _ hx,he⟩;have ⟨p1,p2,p3,p4,us',rs',p5,p6,p7⟩:=FB (envc:=envc) m hA a0 o cs us.toList d1 [] f1 b1 c1 q1 j i e1 hdu hF1;simp only[aM] at p6;subst p6;rw[iX] at p5;subst p5;have hb1:=yu (by rw[p3,hnb]);subst hb1;have ⟨s1,s4,s6⟩:=wP m hA a0 ps svs vr d2 f2 b2 c2 q3 j (i+o.nc) e3 hr hF2;refine⟨λn b hh=>?_,⟨p2,s4⟩,λhj ha hb hc=>?_⟩
    .obtain hh|hh:=dI.1 hh
     .exact p1 n b hh
     .exact s1 n b hh
    .have ⟨k1,k2,k3⟩:=p7 ha (λk n hn=>by simp at hn)
      (λk q hq=>hc k q (by rw[mC (ca5.1 hq).1];exact hq))
     have ⟨l1,l2,l3⟩:=s6 hj ha hb
      (λk q hq=>by
       have:=hc (o.nc+k) q (by rw[nX ab,p4,nI];exact hq)
       rwa [show i+(o.nc+k)=i+o.nc+k from by omega] at this)
     refine⟨?_,l2,?_⟩
     .simp only[g9,aM,aA];exact⟨_,vr,rfl,⟨us,rfl,k1⟩,l1⟩
     .exact k3.append (by rw[p4,gG];exact l3)
   .cases e2
  .cases e
 | a0,.own E t::ps,svs0,vs,d,fz,bx,cx,r,j,i,e,hd,hF=>by
  obtain⟨v,svs,rfl⟩:=bS8 e;simp only[gX] at e;obtain⟨⟨d1,r1,o1⟩,q1,q2,e1,e2,rfl⟩:=Q.run_bind _ _ _ e;obtain⟨⟨d2,f2,b2,c2⟩,q3,q4,e3,e4,rfl⟩:=Q.run_bind _ _ _ e2;simp only[Q.run,cE,cy] at e4;obtain⟨⟨rfl,rfl,rfl,rfl⟩,rfl⟩:=e4;simp only[aM] at hd;obtain⟨x,vr,rfl,hx,hr⟩:=hd;obtain⟨p1,-,-,v',vr',p2,-,p3⟩:=Pe m hA e1 (vs:=[x]) (by simp only[aM];exact⟨x,[],rfl,hx,rfl⟩);cases p2;have ⟨s1,s4,s6⟩:=wP m hA a0 ps svs vr d2 f2 b2 c2 q3 j (i+1) e3 hr hF;refine⟨s1,⟨p1,s4⟩,λhj ha hb hc=>?_⟩;have ⟨k1,k2⟩:=p3 envc (QN+i) (hc 0 _ rfl);have ⟨l1,l2,l3⟩:=s6 hj ha hb (λk q hq=>by have:=hc (k+1) q (by simpa using hq);rwa [show i+(k+1)=i+1+k from by omega] at this);refine⟨?_,l2,?_⟩
  .simp only[g9,aM];exact⟨x,vr,rfl,k1,l1⟩
  .exact⟨k2.1,by rw[show QN+i+1=QN+(i+1) from by omega];exact l3⟩
 | a0,.row E t::ps,svs0,vs,d,fz,bx,cx,r,j,i,e,hd,hF=>by
  obtain⟨n,sz,svs,rfl⟩:=ak2 e;simp only[gX,Q.run] at e;split at e
  .rename_i p0 q0 hk;simp only[cE,cy] at e;obtain⟨rfl,rfl⟩:=e;split at hk
   .rename_i E' t' xs hl;split at hk
    next ys hE hsz hc=>have hE:=bK hE;subst hE;have hsz:=bK hsz;subst hsz;have ⟨et,ez⟩:=kC hc;subst et;simp only at ez;subst ez;obtain⟨⟨d2,f2,b2,c2⟩,q3,q4,e3,e4,rfl⟩:=Q.run_bind _ _ _ hk;simp only[Q.run,cE,cy] at e4;obtain⟨⟨rfl,rfl,rfl,rfl⟩,rfl⟩:=e4;simp only[aM,aA] at hd;obtain⟨x,vr,rfl,hv,hr⟩:=hd;have ⟨s1,s4,s6⟩:=wP m hA (Gj a0 n) ps svs vr d2 f2 b2 c2 q3 (j+1) i e3 hr hF;have ⟨hw,hlk⟩:=Yc m hA hl;refine⟨s1,⟨hw,s4⟩,λhj ha hb hc=>?_⟩;have h0:=hb 0 n rfl;rw[kf] at h0;have ⟨l1,l2,l3⟩:=s6 (λq=>(Th q).elim) (λn' hn=>by cases a0 with|some m=>exact ha n' hn|none=>cases hn;have e:=hj rfl;rw[e,kf] at h0;exact h0) (λk n hn=>by have:=hb (k+1) n (by simpa using hn);rwa [show j+(k+1)=j+1+k from by omega] at this) hc;refine⟨?_,⟨(hlk envc (PN+j)).1,by rw[show PN+j+1=PN+(j+1) from by omega];exact l2⟩,l3⟩;simp only[g9,aM,aA];exact⟨_,vr,rfl,by rw[h0];exact hv,l1⟩
    .cases hk
   .cases hk
  .cases e
 | a0,[],_::_,_,_,_,_,_,_,_,_,e,_,_=>by simp[gX,Q.run] at e
 | _,.val _::_,[],_,_,_,_,_,_,_,_,e,_,_=>by simp[gX,Q.run] at e
end
end Go.SX
namespace Go.SX
section
variable {w0:ca8} {N0:fI} {A Ac:Nat->Prop} {env:bi} {h:bZ} {w:ca8}
def Gl:List Nat->Bool
 | []=>bZ3
 | n::r => !qP n r&&Gl r
theorem S9:∀{l:List Nat},Gl l=bZ3->l.Nodup
 | [],_=>List.nodup_nil
 | n::r,h=>by
  simp only[Gl,fx,qE] at h;refine cy5.2 ⟨λhm=>?_,S9 h.2⟩;rw[AC.2 hm] at h;cases h.1
def lO:List (Option Nat)->List Nat
 | []=>[]
 | none::r=>lO r
 | some n::r=>n::lO r
theorem zO{n:Nat}:∀{l:List (Option Nat)},n∈lO l↔bZ1 n∈l
 | []=>by simp[lO]
 | none::r=>by simp[lO,zO (l:=r)]
 | some m::r=>by simp[lO,zO]
theorem Mc{n:Nat}:∀{l:List (Option Nat)}{i i':Nat},(lO l).Nodup->l[i]? = bZ1 (bZ1 n)->l[i']? = bZ1 (bZ1 n)->i=i'
 | none::r,i,i',b,h,a=>by
  cases i with
  | zero=>simp at h
  | succ i=>cases i' with
   | zero=>simp at a
   | succ i'=>have:=Mc (i':=i') (l:=r) b (by simpa using h) (by simpa using a);omega
 | some m::r,i,i',b,h,a=>by
  have ⟨c,h2⟩:=cy5.1 b;cases i with
  | zero =>
   simp at h;subst h;cases i' with
   | zero=>rfl
   | succ i'=>exact absurd (zO.2 (rS (by simpa using a))) c
  | succ i=>cases i' with
   | zero=>simp at a;subst a;exact absurd (zO.2 (rS (by simpa using h))) c
   | succ i'=>have:=Mc (i':=i') h2 (by simpa using h) (by simpa using a);omega
def sf(bx:List Nat)(cx:List (Option Nat))(n:Nat):Option (Option Nat):=match cd9 QN n with
 | true=>cx[n-QN]?
 | false=>match cd9 PN n with
  | true=>match bx[n-PN]? with
   | some m=>bZ1 (bZ1 m)
   | none=>bZ9
  | false=>bZ9
def rR(env:bi)(bx:List Nat)(cx:List (Option Nat)):bi:=λn=>match sf bx cx n with
 | some o=>si env o
 | none => .un
theorem U7{bx:List Nat}{cx:List (Option Nat)}{i n:Nat}(hl:be bx<=PN)(hi:bx[i]? = bZ1 n):sf bx cx (PN+i)=bZ1 (bZ1 n):=by
 have hlt:=(ca5.1 hi).1
 have h2:QN=PN+PN:=rfl
 unfold sf
 have h1:cd9 QN (PN+i)=false:=by
  cases hb:cd9 QN (PN+i) with
  | false=>rfl
  | true=>have:=md hb;omega
 rw[h1,cl0 ab]
 simp_all
theorem U3{bx:List Nat}{cx:List (Option Nat)}{i:Nat}{o:Option Nat}(hi:cx[i]? = bZ1 o):sf bx cx (QN+i)=bZ1 o:=by
 unfold sf
 rw[cl0 ab]
 simp_all
theorem Hz{bx:List Nat}{cx:List (Option Nat)}{n:Nat}{o:Option Nat}(e:sf bx cx n=bZ1 o):(∃ i m,bx[i]? = bZ1 m/\n=PN+i/\n<QN/\o=bZ1 m)∨∃ i,cx[i]? = bZ1 o/\n=QN+i:=by
 unfold sf at e
 split at e
 next a=>have:=md a;grind
 next a=>
  have hlt:n<QN:=by
   refine Nat.lt_of_not_le λb=>?_;rw[cl0 b] at a;cases a
  split at e
  next a=>have:=md a;grind
  .cases e
theorem My{bx:List Nat}{cx:List (Option Nat)}{i n:Nat}(hl:be bx<=PN)(hi:bx[i]? = bZ1 n):rR env bx cx (PN+i)=env n:=by
 unfold rR;rw[U7 hl hi];rfl
theorem bl1{bx:List Nat}{cx:List (Option Nat)}{i:Nat}{o:Option Nat}(hi:cx[i]? = bZ1 o):rR env bx cx (QN+i)=si env o:=by
 unfold rR;rw[U3 hi]
def K6(env:bi)(bx:List Nat)(k:Nat):Prop:=∃ n l,n∈bx/\env n = .blk k l
theorem NJ{a b:List (Nat×Nm)}{n:Nat}:fa (a++b) n=if n∈a.map (·.1) then fa a n else fa b n:=by
 induction a with
 | nil=>simp
 | cons p a ih =>
  have ⟨m,x⟩:=p;simp only[kO,fa,fF,dO];cases c:ca0 n m with
  | true=>have:=bK c;simp[this]
  | false =>
   have d:¬ n=m:=λe=>by rw[e,zc] at c;cases c
   simp only[d,false_or,ih]
theorem bK5{A':Nat->Prop}{g:bi}{bx:List Nat}{cx:List (Option Nat)}{d f:List (Nat×Nm)}(hl:be bx<=PN)(y:lI A' env h g w (bx.map bZ1) d PN)(z:lI A' env h g w cx f QN) :
  (∀ n o,sf bx cx n=bZ1 o→∃ b',fa (d++f) n = .live b'∧b'.mut=bZ3/\((∃ q b,o=bZ1 q/\h q = .live b/\b.mut=bZ3/\(∀ k len,env q = .blk k len->kv A' g w k len b')/\(env q = .nil→∃ E t,b' = .row E t []))∨(o=bZ9∧∃ E t,b' = .row E t []))) ∧
  (∀ n,sf bx cx n=bZ9->fa (d++f) n = .un):=by
 have ⟨hbl,j⟩:=y.get
 have ⟨hcl,l⟩:=z.get
 have kb:∀ n,n∈d.map (·.1)→∃ i,i<be bx/\n=PN+i:=λn p=>by
  obtain⟨⟨n',x⟩,r,rfl⟩:=cc1.1 p;have ⟨i,o,A,s⟩:=y.keys _ _ r;grind
 have kc:∀ n,n∈f.map (·.1)→∃ i o,cx[i]? = bZ1 o/\n=QN+i:=λn p=>by
  obtain⟨⟨n',x⟩,r,rfl⟩:=cc1.1 p;have ⟨i,o,A,s⟩:=z.keys _ _ r;exact⟨i,o,s,A⟩
 have s:QN=PN+PN:=rfl
 refine⟨λn o e=>?_,λn e=>?_⟩
 .obtain⟨i,m,c,rfl,hlt,rfl⟩|⟨i,c,rfl⟩:=Hz e
  .have ⟨b',u,B,v⟩:=j i (bZ1 m) (by simp[c]);refine⟨b',?_,v⟩;rw[NJ,aj (zb B)];exact u
  .have ⟨b',u,B,v⟩:=l i o c;refine⟨b',?_,v⟩;rw[NJ,ah]
   .exact u
   .grind
 .rw[NJ,ah]
  .refine Sb λa=>?_;obtain⟨i,o,c,rfl⟩:=kc n a;rw[U3 c] at e;cases e
  .intro a;obtain⟨i,c,rfl⟩:=kb n a;rw[U7 hl (cG c)] at e;cases e
theorem Mod.call(m:Mod w0 N0 A env h w){G H:List (Nat×Nm)}{fz:List (Nat×Nm)}{bx:List Nat}{cx:List (Option Nat)}(hfz:pJ h fz)(r:be bx<=PN)
  (s:lI (jc A env fz) env h (rR env bx cx) w (bx.map bZ1) G PN) (hc:lI (jc A env fz) env h (rR env bx cx) w cx H QN)
  (hdj:∀ n,n∈bx++lO cx->n ∉ fz.map (·.1)) (u:(bx++lO cx).Nodup) :
  Mod w ⟨K6 env (bx++lO cx),jc A env fz,N0.g⟩ (jc A env fz) (rR env bx cx) (fa (G++H)) w:=by
 have ⟨v,x⟩:=bK5 r s hc
 have mf:=(m.freeze hfz).1
 have memS:∀ {n o q},sf bx cx n=bZ1 o->o=bZ1 q->q∈bx++lO cx:=λ{n o q} e eo=>by
  subst eo;obtain⟨i,m,hi,_,_,e⟩|⟨i,hi,_⟩:=Hz e
  .grind
  .exact jv _ (zO.2 (rS hi))
 have y:∀ {n n' q},sf bx cx n=bZ1 (bZ1 q)->sf bx cx n'=bZ1 (bZ1 q)->n=n':=λ{n n' q} e e'=>by
  have ⟨z,B,hn3⟩:=List.nodup_append.1 u;obtain⟨i,m,hi,rfl,_,em⟩|⟨i,hi,rfl⟩:=Hz e <;> obtain⟨i',m',hi',rfl,_,em'⟩|⟨i',hi',rfl⟩:=Hz e'
  .cases em;cases em';have:=(List.getElem?_inj (ca5.1 hi).1 z).1 (hi.trans hi'.symm);rw[this]
  .cases em;exact absurd rfl (hn3 _ (rS hi) _ (zO.2 (rS hi')))
  .cases em';exact absurd rfl (hn3 _ (rS hi') _ (zO.2 (rS hi)))
  .rw[Mc B hi hi']
 have blk:∀ {n k l},rR env bx cx n = .blk k l→∃ q,sf bx cx n=bZ1 (bZ1 q)/\env q = .blk k l:=λ{n k l} he=>by
  unfold rR at he;split at he
  .rename_i o ho;cases o with
   | none=>cases he
   | some q=>exact⟨q,ho,he⟩
  .cases he
 refine⟨rfl,rfl,rfl,dq _,dq _,λ_ _ _=>rfl,mf.Alt,?_,?_,?_,λb s=>.inl s,mf.gl⟩
 .intro n;cases hs:sf bx cx n with
  | none =>
   rw[x n hs];show rR env bx cx n = .un;unfold rR;rw[hs]
  | some o =>
   have ⟨b',g1,g4,C⟩:=v n o hs;rw[g1];have he:rR env bx cx n=si env o:=by unfold rR;rw[hs]
   obtain⟨q,b,rfl,j,D,C,g6⟩|⟨rfl,E,t,a⟩:=C
   .have p:=m.nm q;rw[j] at p;obtain⟨kk,len,e1,_⟩|⟨e1,_⟩:=p
    .refine .inl ⟨kk,len,by rw[he];exact e1,C _ _ e1,λ_ hA=>?_⟩;obtain hA|⟨n',x',F,hx,he'⟩:=hA
     .grind
     .have ⟨E,t,xs,d,_⟩:=hfz n' x' hx;have:=m.inj q n' b _ kk len F j d D rfl e1 he';grind
    .have ⟨E,t,e⟩:=g6 e1;exact .inr ⟨by rw[he];exact e1,E,t,.inl e⟩
   .exact .inr ⟨by rw[he];rfl,E,t,.inl a⟩
 .intro n b k l r p he;have ⟨q,hs,a⟩:=blk he;exact .inl ⟨q,l,memS hs rfl,a⟩
 .intro n n' b c k l F r d p hm' he he';have ⟨q,hs,e1⟩:=blk he;have ⟨q',f,a⟩:=blk he';obtain⟨b1,_,_,⟨q1,c1,e,j,D,_⟩|⟨e,_⟩⟩:=v n _ hs
  .obtain⟨b2,_,_,⟨q2,c2,e',f2,f3,_⟩|⟨e',_⟩⟩:=v n' _ f
   .cases e;cases e';have:=m.inj q q' c1 c2 k l F j f2 D f3 e1 a;subst this;exact y hs f
   .cases e'
  .cases e
def mV(R:Rn)(env env1:bi):bi:=λn=>match cR R n with
 | none=>env n
 | some _=>jF R env1 n
theorem Mod.retn{z A' A1:Nat->Prop}{a:bi}{hs h1:bZ}{j:ca8}{A:fI}{U:List (Nat×Nm)}{R:Rn}
  (ms:Mod w0 N0 z env hs w) (m1:Mod w A A1 a h1 j) (hshape:∀ b s,w.shape? b=bZ1 s->j.shape? b=bZ1 s)
  (hU:∀ n x,(n,x)∈U->x = .dead∨∃ b,x = .live b/\b.mut=bZ3/\((∃ m b0,cR R n=bZ1 (bZ1 m)/\h1 m = .live b0/\b0.mut=bZ3 ∧
   (∀ k len,a m = .blk k len->kv A' (mV R env a) j k len b)/\(a m = .nil→∃ E t,b = .row E t []))∨(cR R n=bZ1 bZ9∧∃ E t,b = .row E t [])))
  (B:∀ n,cR R n≠bZ9->n∈U.map (·.1)) (C:jR R)
  (D:∀ n,cR R n≠bZ9->hs n = .un∨∃ b,hs n = .live b/\b.mut=bZ3/\(jF R a n=env n))
  (hNc:∀ k,A.n k→∃ n b l,n∈U.map (·.1)/\hs n = .live b/\b.mut=bZ3/\env n = .blk k l)
  (hA:∀ b,z b->A' b) (hA1:∀ b,A' b->z b∨((A.n b∨w.heap.size<=b)/\b<j.heap.size))
  (hAm:∀ m b k l,h1 m = .live b->b.mut=bZ3->a m = .blk k l->(∃ n,cR R n=bZ1 (bZ1 m))→¬ A' k) :
  Mod w0 N0 A' (mV R env a) (dJ U hs) j/\dM z env w A' (mV R env a) j:=by
 have src:∀ k,(A.n k∨w.heap.size<=k)->J7 (λn=>n∈U.map (·.1)) env hs w k:=λk hk=>by
  obtain hk|hk:=hk
  .have ⟨n,b,l,e1,e2,o,e4⟩:=hNc k hk;exact .inr ⟨n,b,l,e1,e2,o,e4⟩
  .exact .inl hk
 have mem:∀ n,n∈U.map (·.1)->(n,dJ U hs n)∈U:=λn hn=>by
  have g:∀(V:List (Nat×Nm)) ,n∈V.map (·.1)->(n,dJ V hs n)∈V:=by
   intro V
   induction V with
   | nil=>intro h;simp at h
   | cons p V ih =>
    have ⟨q,y⟩:=p;by_cases hq:n=q
    .subst hq;simp[dJ]
    .rw[dJ,bZ.set_other _ _ hq];grind
  exact g U hn
 have envR:∀ n y,cR R n=bZ1 y->mV R env a n=jF R a n:=λn y hn=>by
  unfold mV;rw[hn]
 have u:lP (λn=>n∈U.map (·.1)) A.n z env hs w A' (mV R env a) (dJ U hs) j:=by
  refine⟨⟨m1.os,m1.tape,m1.output,m1.dr,m1.size,m1.fr,hshape⟩,?_,hA,?_,?_,?_,λn hn=>qo hn,?_,?_,?_⟩
  .grind
  .grind
  .intro n hn;unfold mV;cases g:cR R n with
   | none=>rfl
   | some y=>exact absurd (B n (by rw[g];simp)) hn
  .intro n hn;unfold mV;cases g:cR R n with
   | none=>rfl
   | some y =>
    obtain h|⟨b,_,_,h⟩:=D n (by rw[g];simp)
    .exact absurd (by have:=ms.nm n;rw[h] at this;exact this) hn
    .exact h
  .intro n hn;have d:=mem n hn;obtain e|⟨b,e,hmut,hh⟩:=hU n _ d
   .rw[e];trivial
   .rw[e];obtain⟨i,b0,e1,e2,o,e4,e5⟩|⟨e1,E,t,e2⟩:=hh
    .have f:mV R env a n=a i:=by rw[envR n _ e1,wC e1]
     have r:=m1.nm i;rw[e2] at r;obtain⟨k,len,he',_,_⟩|⟨he',_⟩:=r
     .exact .inl ⟨k,len,f.trans he',e4 k len he',λ_=>hAm i b0 k len e2 o he' ⟨n,e1⟩⟩
     .have ⟨E,t,e⟩:=e5 he';exact .inr ⟨f.trans he',E,t,.inl e⟩
    .exact .inr ⟨by rw[envR n _ e1,Fz e1],E,t,.inl e2⟩
  .intro n b k l hn g hm f;have d:=mem n hn;rw[g] at d;obtain e|⟨b',e,hmut,hh⟩:=hU n _ d
   .cases e
   .obtain⟨i,b0,e1,e2,o,_⟩|⟨e1,_⟩:=hh
    .rw[envR n _ e1,wC e1] at f;exact src k (m1.own i b0 k l e2 o f)
    .rw[envR n _ e1,Fz e1] at f;cases f
  .intro n n' b c k l l' hn hn' g hl' hm r f he';have hmem1:=mem n hn;have hmem2:=mem n' hn';rw[g] at hmem1;rw[hl'] at hmem2;obtain e|⟨_,_,_,hh1⟩:=hU n _ hmem1
   .cases e
   obtain e|⟨_,_,_,hh2⟩:=hU n' _ hmem2
   .cases e
   obtain⟨i,b0,e1,e2,o,_⟩|⟨e1,_⟩:=hh1
   .rw[envR n _ e1,wC e1] at f;obtain⟨m2,c0,v,f2,f3,_⟩|⟨v,_⟩:=hh2
    .rw[envR n' _ v,wC v] at he';have:=m1.inj i m2 b0 c0 k l l' e2 f2 o f3 f he';subst this;exact C n n' i e1 v
    .rw[envR n' _ v,Fz v] at he';cases he'
   .rw[envR n _ e1,Fz e1] at f;cases f
 exact⟨ms.upd u,ms.ext u⟩
end
end Go.SX
