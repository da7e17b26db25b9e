/- SX, part 16: regions: from the symbolic run to the real one; the run as the kernel computes it. -/
import Derived.Test.YtghpjjompmlooaaGreatDoorSx15
import Derived.Scope
import Derived.RangeFuncLeaves
import Derived.Laws.Sem
import Derived.Laws.NewBlocks
import Derived.ProofKit
import Derived.OpenShut
import Derived.ChangeOld
import Derived.Below
import Derived.KernelRfl
import Derived.Test.YtghpjjompmlooaaGreatDoorChecked
import Derived.Laws.Bits64
import Derived.Laws.Bits128
import Derived.Laws.BitsAllLaws
set_option maxRecDepth 100000
set_option linter.all false
open List (take)
open Array renaming getElem?_eq_some_iff->cu3,replicate->cH0
open BitVec renaming ofInt->cw8
open Bool renaming and_eq_true_iff->cw4,false->ct2,not_true->cV1,true->cs8
open Decidable renaming decide->cs7
open Go renaming Code->cE3,Func->cN5,FuncId->cy6,IntKind->cv3,MemPlace->cL7,Oper->cA2,Program->cu2,Reach->cW0,ResultVar->cR2,TypeId->ct5,Value->ct8,World->cu6,asAddr->cV0,maxLen->cu5,wpIn_loop_ghost->cX7
open Go.Addr renaming add->cV8
open Go.BinOp renaming and->cw3,xor->cx8
open Go.Code renaming region->cW8
open Go.DataW renaming TrodAll->cF6,trod->cC2
open Go.Fence renaming wide->cC1
open Go.Frame renaming atR->cX6
open Go.IntKind renaming bits->cC3,i64->ct0,u32->ct3,u64->ct9,u8->cw0,wrap->ct1
open Go.Region renaming binds->cE2,ready->cC4
open Go.RowKit.Below renaming heap_alloc->cH7
open Go.Sem renaming run_bind->cu4
open Go.Value renaming okWide->cB0
open Go.World renaming alloc_heap_new->cP1,cells?_some->cR3,putObj_heap_other->cx0
open Inhabited renaming default->cs5
open Int renaming le_of_lt->cQ9,mul_le_mul->cG1,mul_nonneg->cG0,pow_pos->cX8,tdiv->cB9,tmod->cx2,toNat->M,toNat_natCast->cv6
open List renaming append_eq_nil_iff->cC6,drop_append_of_le_length->cK7,drop_left'->cK9,drop_zero->cM9,getD->T,getElem?_cons_succ->cN4,getElem?_eq_some_iff->ct6,length->V,length_eq_zero_iff->cv4,mem_iff_getElem->cv8,mem_iff_getElem?->cP2,mem_map->cv1,nodup_append->cR7,nodup_cons->cH1,range'->cW7,range'_succ->cS6,range_eq_range'->cP9,take_add_one->cR8,take_left'->cH5
open Nat renaming beq->ct7,ble->cx6,ble_eq_true_of_le->cD2,blt->cI0,div_le_self->cT9,lt_of_le_of_lt->cR9
open Option renaming bind_eq_some_iff->cF9,map_some->cB5,ne_none_iff_exists'->cE5,none->ct4,some->cs6
open Prod renaming ext->cQ0,fst->cN0,snd->cJ3
namespace Go.SX
def Jj(k:Nat):List Edge->Bool
 | []=>cs8
 | e::r=>(match cE2 .any e with|true=>cI0 e.on k|false=>cs8)&&Jj k r
def Ew:Nat->List cA2->Bool
 | _,[]=>cs8
 | k,o::r=>Jj k o.after.toList&&Ew (k+1) r
section
variable {P:cu2} {sp:d8} {ops:Array cA2} {msk:List Nat} {w0:cu6} {N0:fT} {K:FS->Prop} {Q:Exit->Act->cu6->Prop}
theorem Yv{k}:∀{es:List Edge},Jj k es=cs8→∀ e∈es,cE2 .any e=cs8->e.on<k
 | e::r,h,e',a,hb=>by
  simp only[Jj,fB] at h;obtain rfl|a:=dm.1 a
  .simp_all
  .exact Yv h.2 e' a hb
theorem ad2:∀{l:List cA2}{k:Nat},(∀ j,l[j]? = ops[k+j]?)->Ew k l=cs8→∀ j o,k<=j->ops[j]? = cs6 o->j<k+V l→∀ e∈o.after,cE2 .any e=cs8->e.on<j
 | [],k,_,_,j,o,h1,_,b,_,_,_=>by simp at b;omega
 | o0::l,k,f,h,j,o,h1,c,b,e,g,i=>by
  simp only[Ew,fB] at h;by_cases d:j=k
  .subst d;have h0:ops[j]? = cs6 o0:=by simpa using (f 0).symm
   rw[h0] at c;cases c;exact Yv h.1 e (by simpa using g) i
  .exact ad2 (λj=>by have:=f (j+1);simpa[jv,An 1 j] using this) h.2 j o Y c (by simp at b;omega) e g i
def LP(ops:Array cA2)(k:Nat)(listed:Array Bool):Prop:=∀ j,listed[j]? = if j<ops.size then cs6 (cs7 (j<k)) else ct4
theorem Uq(c:∀ i j,Gc msk i j=cs8->xh ops i j)(d:Ew 0 ops.toList=cs8):∀ l k a log F,(∀ j,l[j]? = ops[k+j]?)->LP ops k a →
  k+l.length=ops.size->BG P sp ops msk K l k log F->Bs P sp ops msk K l.length a log F
 | [],k,a,log,F,_,g,p,h=>by
  refine⟨?_,h⟩;cases hr:cC4 .any ops a with
  | nil=>rfl
  | cons i r =>
   have hi:i∈cC4 .any ops a:=by rw[hr];simp
   have ⟨f,o,ho,_⟩:=mem_ready.1 hi;have b:=(cu3.1 ho).1;rw[sK,g i,ao b] at f;simp at p f;omega
 | o::l,k,a,log,F,v,g,p,h=>by
  have f:ops[k]? = cs6 o:=by simpa using (v 0).symm
  have b:=(cu3.1 f).1;simp only[BG] at h;unfold ye at h;rw[f] at h;have ⟨st,r,h1,h2,h3,h4⟩:=h;have q:=ad2 (ops:=ops) aw d;have s:∀ j,j<k->a.getD j ct2=true:=λj t=>by
   rw[sK,g j,ao Y];simp[t]
  refine bM3 c f h2 l.length a log F ?_ ?_ h1 h3 λw u=>?_
  .intro j oj hoj t e x y;have m:=(cu3.1 hoj).1;rw[sK,g j,ao m] at t;grind
  .refine mem_ready.2 ⟨?_,o,f,λe x y=>s _ (q k o (Nat.zero_le _) f (by simpa using b) e x y)⟩;rw[sK,g k,ao b];simp
  .refine Uq c d l (k+1) _ _ w (λj=>by have:=v (j+1);simpa[jv,An 1 j] using this) ?_ (by simp at p;omega) (h4 w u);intro j;by_cases n:k=j
   .subst n;rw[Array.getElem?_setIfInBounds_self_of_lt (by
     have:=g k;rw[ao b] at this;exact (cu3.1 this).1),ao b]
    simp
   .rw[Je n,g j];split
    .congr 1;rw[decide_eq_decide];omega
    .rfl
theorem Te{ro}(m:iF P sp/\N0.g=sp.gl){p e q}
  (k:∀ f A' env' l w',K f->ia w0 N0 A' env' f l w'→dQ p e q A' env' w'→Q .normal l w') :
  ∀ c b j F A env a w,Bs P sp ops msk K c b j F->ia w0 N0 A env F a w->dQ p e q A env w →
   wpAnyIn (wf ro) 0 P .any ops Q c b a w
 | 0,_,_,F,A,env,a,w,h,t,x=>⟨h.1,k _ _ _ _ _ h.2 t x⟩
 | c+1,b,j,F,A,env,a,w,h,t,x=>by
  refine⟨λh0=>k _ _ _ _ _ (h.1 h0) t x,λi hi=>?_⟩;have d:=h.2 i hi;unfold ye at d;unfold wpOpIn;split at d
  next n=>simp only[n];exact Te m k c _ _ F A env a w d t x
  next o n=>simp only[n];have ⟨st,r,h1,h2,_,h4⟩:=d;exact (Sv m t h1 h2).2 ro _ _ λf A' env' l w' hF t' x'=>Te m k c _ _ f A' env' l w' (h4 f hF) t' (x.trans x')
theorem Wt{ro}(f:iF P sp/\N0.g=sp.gl){i b m}
  (n:∀ d A' env' e w',K d->ia w0 N0 A' env' d e w'→dQ i b m A' env' w'→Q .normal e w') :
  ∀ l k c F A env a w,(∀ j,l[j]? = ops[k+j]?)->BG P sp ops msk K l k c F->ia w0 N0 A env F a w->dQ i b m A env w →
   wpOpsIn (wf ro) 0 P ops Q (cW7 k (V l)) a w
 | [],k,c,F,A,env,a,w,_,h,t,x=>n _ _ _ _ _ h t x
 | o::l,k,c,F,A,env,a,w,p,h,t,x=>by
  have q:ops[k]? = cs6 o:=by simpa using (p 0).symm
  simp only[BG] at h;unfold ye at h;rw[q] at h;have ⟨st,r,h1,h2,_,h4⟩:=h;rw[fa,cS6,wpOpsIn_cons];unfold wpOpIn;simp only[q];exact (Sv f t h1 h2).2 ro _ _ λd A' env' e w' hF t' x' =>
   Wt f n l (k+1) _ d A' env' e w' (λj=>by have:=p (j+1);simpa[jv,An 1 j] using this) (h4 d hF) t' (x.trans x')
theorem ia.drew{A env F a w}(t:ia w0 N0 A env F a w):ia w0 N0 A env F a w.drew/\dQ A env w A env w.drew:=by
 have u:mH (λ_=>False) (λ_=>False) A env F.h w A env F.h w.drew:=mH.none (cY.drew w _)
 have x:=t.m.ext u
 exact⟨⟨t.m.upd u,t.len,λi=>DA x _ _ (t.f i),t.dfr.mono x.dfo⟩,x⟩
theorem cg5{ro}(e:iF P sp/\N0.g=sp.gl)(c:P.follows .mixedOrders=cs8){id b A env F a w}(hd:b=cs8->Ew 0 ops.toList=cs8/\msk=K1 ops.toList [])
  (t:ia w0 N0 A env F a w) (h:BG P sp ops msk K ops.toList 0 [] F)
  (f:∀ i A' env' k w',K i->ia w0 N0 A' env' i k w'→dQ A env w A' env' w'→Q .normal k w'):(cW8 id ops b).wpIn (wf ro) 0 P Q a w:=by
 cases b with
 | false =>
  refine wpIn_region ?_;have:=Wt (ro:=ro) e f ops.toList 0 [] F A env a w aw h t dQ.refl;rw[cP9];simpa using this
 | true =>
  have ⟨d,hm⟩:=hd rfl;subst hm;have ⟨t',x'⟩:=t.drew;refine wpIn_region_any c ?_;have:=Uq (al5 ops.toList 0 [] aw rfl (by simp[yo])) d ops.toList 0 (cH0 ops.size ct2) [] F aw (λj=>by
   rw[Array.getElem?_replicate];split <;> simp) aw h
  have h2:=Te (ro:=ro) e f _ _ _ F A env a w.drew this t' x';simpa using h2
end
structure St where
 sl:List SV
 H:List (Nat×Nm)
def dK:List (Nat×Nm)->Nat->Nm
 | [],_ => .un
 | (m,b)::r,n=>match ct7 n m with
  | true=>b
  | false=>dK r n
def St.fs(S:St):FS:=⟨S.sl,dK S.H⟩
theorem PL:∀ H,dK H=dM H (λ_=>.un)
 | []=>rfl
 | (m,b)::r=>by
  funext n;simp only[dK,dM,cq.set];by_cases h:n=m
  .subst h;simp
  .have:ct7 n m=false:=by
    cases hb:ct7 n m with
    | false=>rfl
    | true=>exact absurd (bH hb) h
   rw[this,I h,PL r]
theorem bs0(u H):dK (u++H)=dM u (dK H):=by
 rw[PL,PL,SH]
def au(b:Bool)(y n:Prop):Prop:=match b with
 | true=>y
 | false=>n
def xn:List Prop->Prop->Prop
 | [],q=>q
 | p::r,q=>p/\xn r q
theorem D8{l:List Prop}{q:Prop}:xn l q↔bQ l/\q:=by
 induction l with
 | nil=>simp[xn,bQ]
 | cons p l ih=>simp[xn,bQ,ih,and_assoc]
def Kn(v:SV)(k:SV->Prop):Prop:=match v with
 | .int a b=>k (.int a b)
 | .bool b=>k (.bool b)
 | .str s=>k (.str s)
 | .dsl t xs=>k (.dsl t xs)
 | .dsx t xs=>k (.dsx t xs)
 | .nilsl=>k .nilsl
 | .own n s=>k (.own n s)
 | .ptr n o=>k (.ptr n o)
 | .eptr n s i o=>k (.eptr n s i o)
 | .dptr t d o=>k (.dptr t d o)
 | .nilp=>k .nilp
 | .fn f c=>k (.fn f c)
 | .agg c=>k (.agg c)
 | .tup c=>k (.tup c)
 | .opt b v=>k (.opt b v)
 | .cv v=>k (.cv v)
 | .gl g=>k (.gl g)
 | .csl n l=>k (.csl n l)
 | .mapp n=>k (.mapp n)
 | .arr c n xs=>k (.arr c n xs)
 | .yld r ts c=>k (.yld r ts c)
 | .part n z l m=>k (.part n z l m)
 | .hv i s=>k (.hv i s)
 | .junk=>k .junk
theorem Sa(v)(k):Kn v k=k v:=by cases v <;> rfl
def C4:List SV->(List SV->Prop)->Prop
 | [],k=>k []
 | x::xs,k=>Kn x λy=>C4 xs λys=>k (y::ys)
theorem X0:∀ l k,C4 l k=k l
 | [],k=>rfl
 | x::xs,k=>by simp only[C4,Sa,X0 xs]
def GO(v:SV)(k:SV->Prop):Prop:=Kn v λv=>match v with
 | .agg c=>C4 c λc=>k (.agg c)
 | .tup c=>C4 c λc=>k (.tup c)
 | .fn f c=>C4 c λc=>k (.fn f c)
 | .yld r ts c=>C4 c λc=>k (.yld r ts c)
 | .opt b v=>Kn v λv=>k (.opt b v)
 | v=>k v
theorem TL(v)(k):GO v k=k v:=by
 unfold GO;rw[Sa];cases v <;> simp only[X0,Sa]
def Jb:List SV->(List SV->Prop)->Prop
 | [],k=>k []
 | x::xs,k=>GO x λy=>Jb xs λys=>k (y::ys)
theorem R4:∀ l k,Jb l k=k l
 | [],k=>rfl
 | x::xs,k=>by simp only[Jb,TL,R4 xs]
def Jw(v:SV)(k:SV->Prop):Prop:=GO v λv=>match v with
 | .tup c=>Jb c λc=>k (.tup c)
 | .opt b v=>GO v λv=>k (.opt b v)
 | v=>k v
theorem Zu(v)(k):Jw v k=k v:=by
 unfold Jw;rw[TL];cases v <;> simp only[R4,TL]
def Ci:List Nat->(List Nat->Prop)->Prop
 | [],k=>k []
 | n::r,k=>Ci r λr=>k (n::r)
theorem KL:∀ l k,Ci l k=k l
 | [],k=>rfl
 | n::r,k=>by simp only[Ci,KL r]
def Kh(b:Nm)(k:Nm->Prop):Prop:=match b with
 | .un=>k .un
 | .dead=>k .dead
 | .live b=>match b with
  | .cells E cs=>Jb cs λcs=>k (.live (.cells E cs))
  | .row E t xs=>k (.live (.row E t xs))
  | .frz E t xs=>k (.live (.frz E t xs))
  | .mp kk vk l=>k (.live (.mp kk vk l))
  | .ary E kk n xs=>k (.live (.ary E kk n xs))
theorem Yf(b)(k):Kh b k=k b:=by
 cases b with
 | live b=>cases b <;> simp only[Kh,R4]
 | _=>rfl
def I1:List SV->Nat->SV->(List SV->Prop)->Prop
 | [],_,_,k=>k []
 | _::xs,0,v,k=>k (v::xs)
 | x::xs,n+1,v,k=>I1 xs n v λys=>k (x::ys)
theorem Y0:∀ l n v k,I1 l n v k=k (l.set n v)
 | [],n,v,k=>by simp[I1]
 | x::xs,0,v,k=>rfl
 | x::xs,n+1,v,k=>by simp only[I1,Y0 xs,List.set_cons_succ]
def K4:List (Nat×Nm)->List (Nat×Nm)->(List (Nat×Nm)->Prop)->Prop
 | [],H,k=>k H
 | (n,b)::r,H,k=>K4 r H λH'=>Kh b λb'=>k ((n,b')::H')
theorem Z7:∀ u H k,K4 u H k=k (u++H)
 | [],H,k=>rfl
 | (n,b)::r,H,k=>by simp only[K4,Z7 r,Yf,kQ]
def zx(S:St)(dst:Option Tmp)(v:SV)(upd:List (Nat×Nm))(k:St->Prop):Prop:=match S with
 | ⟨sl,H⟩=>K4 upd H λH=>match dst with
  | some d=>Jw v λv=>I1 sl d v λsl=>k ⟨sl,H⟩
  | none=>k ⟨sl,H⟩
theorem bA1(S)(dst)(v)(a)(k):zx S dst v a k=k ⟨mO S.sl dst v,a++S.H⟩:=by
 unfold zx
 simp only
 rw[Z7]
 cases dst with
 | none=>rfl
 | some d=>simp only[Zu,Y0,mO]
def Fk{X:Type}(x:X):List (Nat×(X->Nm))->List (Nat×Nm)
 | []=>[]
 | (n,f)::r=>(n,f x)::Fk x r
theorem YW{X:Type}(x:X):∀(u:List (Nat×(X->Nm))),Fk x u=u.map λp=>(p.1,p.2 x)
 | []=>rfl
 | (n,f)::r=>by simp[Fk,YW x r]
def LB(dst:Option Tmp)(S:St)(k:St->Prop):kM->Prop
 | .go (.det pre v upd)=>xn pre (zx S dst v upd k)
 | .go (.nd X qn pre R _ v upd)=>xn pre (qn.all λx=>R x->zx S dst (v x) (Fk x upd) k)
 | .split g (.det pre v upd)=>au g (xn pre (zx S dst v upd k)) (zx S dst (.cv undef) [] k)
 | .split g (.nd X qn pre R _ v upd)=>au g (xn pre (qn.all λx=>R x->zx S dst (v x) (Fk x upd) k)) (zx S dst (.cv undef) [] k)
variable{dst:Option Tmp}
theorem PY{S k o}(h:LB dst S k o):o.pre∧∀ e,oB o dst S.fs e→∃ f,f.fs=e/\k f:=by
 have l:∀ v u,zx S dst v u k→∃ f,f.fs=⟨mO S.sl dst v,dM u (dK S.H)⟩/\k f:=λv u r=>by
  rw[bA1] at r;exact⟨_,by simp only[St.fs,bs0],r⟩
 have m:∀{X:Type}{j:Qn X}{R:X->Prop}{v:X->SV}{a:List (Nat×(X->Nm))},(j.all λx=>R x->zx S dst (v x) (Fk x a) k)→∀(x:X),R x →
   ∃ f,f.fs=⟨mO S.sl dst (v x),dM (a.map λp=>(p.1,p.2 x)) (dK S.H)⟩/\k f:=λ{X j R v a} c x n=>by
  have:=j.hall _ c x n;rw[YW] at this;exact l _ _ this
 cases o with
 | go d =>
  cases d with
  | det pre v a =>
   have ⟨i,c⟩:=D8.1 h;exact⟨i,by rintro e ⟨x,_,rfl⟩;exact l _ _ c⟩
  | nd X j pre R q v a =>
   have ⟨i,c⟩:=D8.1 h;refine⟨i,?_⟩;rintro e ⟨x,n,rfl⟩;exact m c x n
 | split g d =>
  cases d with
  | det pre v a =>
   cases g with
   | true =>
    have ⟨i,c⟩:=D8.1 h;exact⟨λ_=>i,by rintro e (⟨_,x,_,rfl⟩|⟨b,_⟩);exact l _ _ c;cases b⟩
   | false =>
    exact⟨λb=>(by cases b),by rintro e (⟨b,_⟩|⟨_,rfl⟩);cases b;exact l (.cv undef) [] h⟩
  | nd X j pre R q v a =>
   cases g with
   | true =>
    have ⟨i,c⟩:=D8.1 h;refine⟨λ_=>i,?_⟩;rintro e (⟨_,x,n,rfl⟩|⟨b,_⟩)
    .exact m c x n
    .cases b
   | false =>
    exact⟨λb=>(by cases b),by rintro e (⟨b,_⟩|⟨_,rfl⟩);cases b;exact l (.cv undef) [] h⟩
def SG(v:SV)(k:SV->Prop):Prop:=match v with
 | .int c e=>∀ n:Int,n=e->k (.int c n)
 | .bool e=>∀ b:Bool,b=e->k (.bool b)
 | .opt g v=>match v with
  | .int c e=>∀ n:Int,n=e->k (.opt g (.int c n))
  | .bool e=>∀ b:Bool,b=e->k (.opt g (.bool b))
  | v=>k (.opt g v)
 | v=>k v
variable{v:SV}
theorem aA9{k}(h:SG v k):k v:=by
 unfold SG at h
 grind
def Pa:List SV->Nat->(List SV->Prop)->Prop
 | [],_,k=>k []
 | v::l,0,k=>SG v λv=>k (v::l)
 | v::l,n+1,k=>Pa l n λl=>k (v::l)
theorem ae7:∀{l:List SV}{n:Nat}{k:List SV->Prop},Pa l n k->k l
 | [],_,k,h=>h
 | v::l,0,k,h=>aA9 (v:=v) h
 | v::l,n+1,k,h=>ae7 (l:=l) h
def Ob(gs:List Nat)(dst:Option Tmp)(k:St->Prop)(S:St):Prop:=match dst with
 | some d=>match rp d gs with
  | true=>match S with
   | ⟨sl,H⟩=>Pa sl d λsl=>k ⟨sl,H⟩
  | false=>k S
 | none=>k S
theorem U6{gs k S}(h:Ob gs dst k S):k S:=by
 unfold Ob at h
 split at h
 .split at h
  .exact ae7 h
  .exact h
 .exact h
def Do(all:List cA2):List cA2->List Nat
 | []=>[]
 | o::l=>match o.guard with
  | some (j,_)=>match pY all j with
   | some oj=>match oj.dst with
    | some d=>match rp d (Do all l) with
     | true=>Do all l
     | false=>d::Do all l
    | none=>Do all l
   | none=>Do all l
  | none=>Do all l
def JA(P:cu2)(sp:d8)(all:List cA2)(gs:List Nat)(k:St->Prop):List cA2->St->Prop
 | [],S=>k S
 | o::l,S=>match (qI P sp all o S.sl).run (dK S.H) with
  | some (st,_)=>LB o.dst S (Ob gs o.dst (JA P sp all gs k l)) st
  | none=>False
def Rb:SV->SV->Option (List Prop)
 | .int k n,.int k' m=>match j3 k k' with
  | true=>cs6 [n=m]
  | false=>ct4
 | .bool b,.bool c=>cs6 [b=c]
 | .str b,.str c=>cs6 [b=c]
 | .dsl t xs,.dsl t' ys=>match iP t' t ys with
  | some zs=>cs6 [xs=zs]
  | none=>ct4
 | .dsx t xs,.dsx t' ys=>match iP t' t ys with
  | some zs=>cs6 [xs=zs]
  | none=>ct4
 | .nilsl,.nilsl=>cs6 []
 | .nilp,.nilp=>cs6 []
 | .own n s,.own m z=>match ct7 n m,ct7 s z with
  | true,cs8=>cs6 []
  | _,_=>ct4
 | .ptr n s,.ptr m z=>match ct7 n m,ct7 s z with
  | true,cs8=>cs6 []
  | _,_=>ct4
 | _,_=>ct4
variable{ps:List Prop}
theorem bK8{u}(h:Rb u v=cs6 ps)(a:bQ ps):u=v:=by
 unfold Rb at h
 split at h
 .split at h
  next hk=>cases kI hk;cases h;rw[a.1]
  .cases h
 .cases h;rw[a.1]
 .cases h;rw[a.1]
 .split at h
  next zs hc=>have ⟨b,c⟩:=lv hc;subst b;subst c;cases h;rw[a.1]
  .cases h
 .split at h
  next zs hc=>have ⟨b,c⟩:=lv hc;subst b;subst c;cases h;rw[a.1]
  .cases h
 .rfl
 .rfl
 .split at h
  .simp_all
  .cases h
 .split at h
  .simp_all
  .cases h
 .cases h
def FH:List Nat->List Nat->Bool
 | [],[]=>cs8
 | a::l,b::m=>ct7 a b&&FH l m
 | _,_=>ct2
theorem KA:∀{l m:List Nat},FH l m=cs8->l=m
 | [],[],_=>rfl
 | a::l,b::m,h=>by
  simp only[FH,fB] at h;rw[bH h.1,KA h.2]
def Lt:List Nat->List Nat->Bool
 | [],_=>cs8
 | a::l,m=>rp a m&&Lt l m
theorem aj7:∀{l m:List Nat},Lt l m=cs8→∀ n∈l,n∈m
 | a::l,m,h,n,c=>by
  simp only[Lt,fB] at h;obtain rfl|c:=dm.1 c
  .exact Bd.1 h.1
  .exact aj7 h.2 n c
def KD:kM->Option SV
 | .go (.det [] v [])=>cs6 v
 | _=>ct4
theorem RJ{a}(h:KD a=cs6 v):a = .go (.det [] v []):=by
 unfold KD at h
 grind
def Tt:kM->Option (List (Nat×Nm))
 | .go (.det _ _ u)=>cs6 u
 | _=>ct4
theorem cn4{a u}(h:Tt a=cs6 u):∃ p v,a = .go (.det p v u):=by
 unfold Tt at h
 grind
def J5(t:rR)(v:SV)(h:cq):Option (List Prop):=match t.q.run h with
 | some (st,r)=>match KD st with
  | some v1=>match FH r t.rd with
   | true=>Rb v1 v
   | false=>ct4
  | none=>ct4
 | none=>ct4
def Mr(s t:rR):Option (List Prop):=match Tt s.st,KD t.st with
 | some u,cs6 v=>match Lt t.rd s.wr with
  | true=>match J5 t v s.old,J5 t v (dM u s.old) with
   | some p,cs6 q=>cs6 (p++q)
   | _,_=>ct4
  | false=>ct4
 | _,_=>ct4
def Qi(s t:rR):Option (List Prop):=match sU s.wr t.wr&&sU s.swr t.srd&&sU s.swr t.swr&&sU t.swr s.srd with
 | true=>match (match sU s.wr t.rd with|true=>cs6 []|false=>Mr s t),(match sU t.wr s.rd with|true=>cs6 []|false=>Mr t s) with
  | some p,cs6 q=>cs6 (p++q)
  | _,_=>ct4
 | false=>ct4
def IQ(msk:List Nat)(i:Nat)(t:rR):ue->Option (List Prop)
 | []=>cs6 []
 | (j,s)::r=>match Gc msk j i||Q9 s t with
  | true=>IQ msk i t r
  | false=>match Qi s t with
   | some ps=>match IQ msk i t r with
    | some qs=>cs6 (ps++qs)
    | none=>ct4
   | none=>ct4
variable{t:rR}
theorem WE{h}(e:J5 t v h=cs6 ps)(hp:bQ ps):t.q.run h=cs6 (.go (.det [] v []),t.rd):=by
 unfold J5 at e
 split at e
 next st r hr=>
  split at e
  .rename_i v1 h1;split at e
   next h2=>rw[hr,RJ h1,KA h2,bK8 e hp]
   .cases e
  .cases e
 .cases e
theorem aq1{s}(e:Mr s t=cs6 ps)(hp:bQ ps):Sy s t:=by
 unfold Mr at e
 split at e
 next u v hu hv=>
  split at e
  .rename_i hs;split at e
   .rename_i p q h1 h2;cases e;have ⟨c1,c2⟩:=tf.1 hp;have ⟨pre,v0,a⟩:=cn4 hu;refine⟨pre,v0,u,a,aj7 hs,?_,?_⟩
    .rw[RJ hv];exact WE h1 c1
    .rw[RJ hv];exact WE h2 c2
   .cases e
  .cases e
 .cases e
theorem bJ7{s}(e:Qi s t=cs6 ps)(hp:bQ ps):zI s t:=by
 unfold Qi at e
 split at e
 next b=>
  simp at b;have ⟨⟨⟨b1,b2⟩,b3⟩,b4⟩:=b;split at e
  .rename_i p q h1 h2;cases e;have ⟨c1,c2⟩:=tf.1 hp;refine⟨?_,ul b1,?_,ul b2,ul b3,ul b4⟩
   .split at h1
    next a=>exact .inl (ul a)
    .exact .inr (aq1 h1 c1)
   .split at h2
    next a=>exact .inl (ul a)
    .exact .inr (aq1 h2 c2)
  .cases e
 .cases e
theorem TP{msk i t}:∀{l:ue}{ps:List Prop},IQ msk i t l=cs6 ps->bQ ps->Nj msk i t l
 | [],_,_,_=>λp b=>by cases b
 | (j,s)::r,ps,e,b=>by
  simp only[IQ] at e;split at e
  .rename_i c;intro p a;rcases dm.1 a with rfl|a
   .simp at c;exact c.imp id aS8
   .exact TP e b p a
  .split at e
   .rename_i p1 h1;split at e
    .rename_i q h2;cases e;obtain⟨c1,c2⟩:=tf.1 b;intro p a;obtain rfl|a:=dm.1 a
     .exact .inr (bJ7 h1 c1)
     .exact TP h2 c2 p a
    .cases e
   .cases e
def M6(P:cu2)(sp:d8)(ops:Array cA2)(gs:List Nat)(msk:List Nat)(k:St->Prop):List cA2->Nat->ue->St->Prop
 | [],_,_,S=>k S
 | o::l,i,log,S=>match (qI P sp ops.toList o S.sl).run (dK S.H) with
  | some (st,r)=>Ci r λr=>Ci st.wr λwr=>Ci (o.looksAt ops) λlk=>match IQ msk i ⟨r,wr,lk,BX o.dst,qI P sp ops.toList o S.sl,st,yQ wr (dK S.H)⟩ log with
   | some ps=>xn ps (LB o.dst S (Ob gs o.dst (M6 P sp ops gs msk k l (i+1) ((i,⟨r,wr,lk,BX o.dst,qI P sp ops.toList o S.sl,st,yQ wr (dK S.H)⟩)::log))) st)
   | none=>False
  | none=>False
def Pg(P:cu2)(sp:d8)(nms:List Nat)(ops:Array cA2)(draw:Bool)(k:St->Prop)(S:St):Prop :=
 Ci (Do ops.toList ops.toList++nms) λgs=>match draw with
 | false=>JA P sp ops.toList gs k ops.toList S
 | true=>match Ew 0 ops.toList with
  | true=>Ci (K1 ops.toList []) λmsk=>M6 P sp ops gs msk k ops.toList 0 [] S
  | false=>False
section
variable {P:cu2} {sp:d8} {ops:Array cA2} {gs nms:List Nat} {msk:List Nat} {w0:cu6} {N0:fT} {Q:Exit->Act->cu6->Prop} {k:St->Prop}
theorem ar6:∀ l i log S,(∀ j,l[j]? = ops[i+j]?)->M6 P sp ops gs msk k l i log S →
  BG P sp ops msk (λF=>∃ a,St.fs a=F/\k a) l i log S.fs
 | [],i,log,S,_,h=>⟨S,rfl,h⟩
 | o::l,i,log,S,d,h=>by
  have h0:ops[i]? = cs6 o:=by simpa using (d 0).symm
  simp only[M6] at h;simp only[BG];unfold ye;rw[h0];split at h
  .rename_i st r hr;simp only[KL] at h;split at h
   next ps b=>have ⟨c,h⟩:=D8.1 h;have ⟨h1,h2⟩:=PY h;refine⟨st,r,hr,h1,TP b c,λF' hF=>?_⟩;obtain⟨a,rfl,h3⟩:=h2 F' hF;exact ar6 l (i+1) _ a (λj=>by have:=d (j+1);simpa[jv,An 1 j] using this) (U6 h3)
   .exact h.elim
  .exact h.elim
theorem We{ro}(e:iF P sp/\N0.g=sp.gl){f b m}
  (n:∀ c A' env' d w',k c->ia w0 N0 A' env' (St.fs c) d w'→dQ f b m A' env' w'→Q .normal d w') :
  ∀ l i S A env a w,(∀ j,l[j]? = ops[i+j]?)->JA P sp ops.toList gs k l S->ia w0 N0 A env S.fs a w->dQ f b m A env w →
   wpOpsIn (wf ro) 0 P ops Q (cW7 i (V l)) a w
 | [],i,S,A,env,a,w,_,h,t,x=>n _ _ _ _ _ h t x
 | o::l,i,S,A,env,a,w,p,h,t,x=>by
  have h0:ops[i]? = cs6 o:=by simpa using (p 0).symm
  simp only[JA] at h;rw[fa,cS6,wpOpsIn_cons];unfold wpOpIn;simp only[h0];split at h
  next st r hr=>have ⟨h1,h2⟩:=PY h;refine (Sv e t hr h1).2 ro _ _ λF' A' env' d w' hF t' x'=>?_;obtain⟨c,rfl,h3⟩:=h2 F' hF;exact We e n l (i+1) c A' env' d w' (λj=>by have:=p (j+1);simpa[jv,An 1 j] using this) (U6 h3) t' (x.trans x')
  .exact h.elim
theorem by7{ro}(e:iF P sp/\N0.g=sp.gl)(c:P.follows .mixedOrders=cs8){id b A env S a w}
  (t:ia w0 N0 A env S.fs a w) (h:Pg P sp nms ops b k S)
  (hQ:∀ f A' env' i w',k f->ia w0 N0 A' env' (St.fs f) i w'→dQ A env w A' env' w'→Q .normal i w'):(cW8 id ops b).wpIn (wf ro) 0 P Q a w:=by
 unfold Pg at h
 rw[KL] at h
 cases b with
 | false =>
  refine wpIn_region ?_;have:=We (ro:=ro) e hQ ops.toList 0 S A env a w aw h t dQ.refl;rw[cP9];simpa using this
 | true =>
  simp only at h;split at h
  next d=>rw[KL] at h;refine cg5 e c (λ_=>⟨d,rfl⟩) t (ar6 ops.toList 0 [] S aw h) ?_;grind
  .exact h.elim
end
end Go.SX
namespace Go.SX
def PN:Nat:=1048576
def QN:Nat:=2097152
def HN:Nat:=1572864
theorem bF2:PN<QN:=by decide
abbrev Rn:=List (Nat×Option Nat)
def cD:Rn->Nat->Option (Option Nat)
 | [],_=>ct4
 | (m,x)::r,n=>match ct7 n m with
  | true=>cs6 x
  | false=>cD r n
def Tc:Option Nat->Option Nat->Bool
 | none,ct4=>cs8
 | some a,cs6 b=>ct7 a b
 | _,_=>ct2
theorem a53{a b}(h:Tc a b=cs8):a=b:=by
 cases a <;> cases b <;> simp only[Tc,GQ] at h
 .rfl
 .simp_all
def GG(m:Nat):Rn->Bool
 | []=>ct2
 | (_,cs6 k)::r=>ct7 m k||GG m r
 | (_,ct4)::r=>GG m r
def IE(c:Nat)(x:Option Nat)(R:Rn):Option Rn:=match cD R c with
 | some y=>match Tc y x with
  | true=>cs6 R
  | false=>ct4
 | none=>match x with
  | none=>cs6 ((c,ct4)::R)
  | some m=>match GG m R with
   | true=>ct4
   | false=>cs6 ((c,cs6 m)::R)
def jl(R:Rn):Prop:=∀ c c' m,cD R c=cs6 (cs6 m)->cD R c'=cs6 (cs6 m)->c=c'
def fQ(R R':Rn):Prop:=∀ n y,cD R n=cs6 y->cD R' n=cs6 y
variable{R:Rn}
theorem fQ.refl:fQ R R:=λ_ _ h=>h
theorem fQ.trans{a b c}(h:fQ a b)(k:fQ b c):fQ a c:=λn y e=>k n y (h n y e)
theorem Jz{m}:∀{R:Rn},GG m R=ct2→∀ c,cD R c≠cs6 (cs6 m)
 | [],_,c=>by simp[cD]
 | (n,cs6 k)::r,h,c=>by
  simp only[GG,Bool.or_eq_false_iff] at h;simp only[cD];split
  .intro e;cases e;rw[wK] at h;cases h.1
  .exact Jz h.2 c
 | (n,ct4)::r,h,c=>by
  simp only[GG] at h;simp only[cD];split
  .intro e;cases e
  .exact Jz h c
variable{x:Option Nat}
theorem rO{c n}:cD ((c,x)::R) n=if n=c then cs6 x else cD R n:=by
 simp only[cD]
 by_cases h:n=c
 .subst h;simp
 .have:ct7 n c=false:=by
   cases hb:ct7 n c with
   | false=>rfl
   | true=>exact absurd (bH hb) h
  rw[this,I h]
theorem Tz{c g}(h:IE c x R=cs6 g):cD g c=cs6 x/\fQ R g/\(jl R->jl g):=by
 unfold IE at h
 split at h
 next y j=>
  split at h
  next d=>cases h;rw[a53 d] at j;exact⟨j,fQ.refl,id⟩
  .cases h
 next hn=>
  have l:∀ y,fQ R ((c,y)::R):=λy n z i=>by
   rw[rO,I (λe=>by rw[e,hn] at i;cases i)];exact i
  split at h
  .cases h;refine⟨by rw[rO,ao rfl],l _,λhi a b m f d=>?_⟩;rw[rO] at f d;split at f
   .cases f
   .split at d
    .cases d
    .exact hi a b m f d
  .rename_i m;split at h
   .cases h
   .rename_i o;cases h;refine⟨by rw[rO,ao rfl],l _,λhi a b k f d=>?_⟩;rw[rO] at f d;split at f
    .rename_i ea;cases f;split at d
     next eb=>rw[ea,eb]
     .exact absurd d (Jz o b)
    .split at d
     .cases d;exact absurd f (Jz o a)
     .exact hi a b k f d
def iY(R:Rn)(env:bt):bt:=λn=>match cD R n with
 | some (cs6 m)=>env m
 | some ct4 => .nil
 | none => .un
theorem vn{env c m}(h:cD R c=cs6 (cs6 m)):iY R env c=env m:=by unfold iY;rw[h]
theorem HD{env c}(h:cD R c=cs6 ct4):iY R env c = .nil:=by unfold iY;rw[h]
def s8(p:Prop)(R:Rn):Option (Rn×List Prop):=cs6 (R,[p])
def yp(c:Nat)(x:Option Nat)(ps:List Prop)(R:Rn):Option (Rn×List Prop):=match IE c x R with
 | some R'=>cs6 (R',ps)
 | none=>ct4
def MR(v u:SV)(R:Rn):Option (Rn×List Prop):=match v,u with
 | .junk,_=>cs6 (R,[])
 | .int k n,.int k' m=>match j3 k k' with
  | true=>s8 (m=n) R
  | false=>ct4
 | .bool b,.bool c=>s8 (c=b) R
 | .str b,.str c=>s8 (c=b) R
 | .dsl t xs,.dsl t' ys=>match iP t' t ys with
  | some zs=>s8 (zs=xs) R
  | none=>ct4
 | .dsl t xs,.dsx t' ys=>match iP t' t ys with
  | some zs=>s8 (zs=xs) R
  | none=>ct4
 | .dsl t xs,.nilsl=>s8 (xs=[]) R
 | .dsx t xs,.dsx t' ys=>match iP t' t ys with
  | some zs=>s8 (zs=xs) R
  | none=>ct4
 | .nilsl,.nilsl=>cs6 (R,[])
 | .own c sz,.own d sz'=>match ct7 sz sz' with
  | true=>yp c (cs6 d) [] R
  | false=>ct4
 | .own c sz,.nilsl=>yp c ct4 [] R
 | .ptr c o,.ptr d o'=>match ct7 o o' with
  | true=>yp c (cs6 d) [] R
  | false=>ct4
 | .eptr c sz i o,.eptr d sz' i' o'=>match ct7 sz sz',ct7 o o' with
  | true,cs8=>yp c (cs6 d) [i'=i] R
  | _,_=>ct4
 | .csl c k,.csl d k'=>match ct7 k k' with
  | true=>yp c (cs6 d) [] R
  | false=>ct4
 | .mapp c,.mapp d=>yp c (cs6 d) [] R
 | .arr k n xs,.arr k' m ys=>match j3 k k',ct7 n m with
  | true,cs8=>s8 (ys=xs) R
  | _,_=>ct4
 | .part c sz l m,.part d sz' l' m'=>match ct7 sz sz' with
  | true=>yp c (cs6 d) [l'=l,m'=m] R
  | false=>ct4
 | .hv c s,.hv d s'=>yp c (cs6 d) [s'=s] R
 | .nilp,.nilp=>cs6 (R,[])
 | .fn f [],.fn g []=>match ct7 f g with
  | true=>cs6 (R,[])
  | false=>ct4
 | .cv x,.cv y=>s8 (y=x) R
 | _,_=>ct4
def C9:List SV->List SV->Rn->Option (Rn×List Prop)
 | [],[],R=>cs6 (R,[])
 | v::vs,u::us,R=>match MR v u R with
  | some (R1,p)=>match C9 vs us R1 with
   | some (R2,q)=>cs6 (R2,p++q)
   | none=>ct4
  | none=>ct4
 | _,_,_=>ct4
def TR(v u:SV)(R:Rn):Option (Rn×List Prop):=match v,u with
 | .agg cs,.agg ds=>C9 cs ds R
 | .fn f cs,.fn g ds=>match ct7 f g with
  | true=>C9 cs ds R
  | false=>ct4
 | .yld r ts cs,.yld r' ts' ds=>match FH ts ts',C9 cs ds R with
  | true,cs6 (R',ps)=>cs6 (R',(r'=r)::ps)
  | _,_=>ct4
 | v,u=>MR v u R
def Qo(b b0:lJ)(R:Rn):Option (Rn×List Prop):=match b,b0 with
 | .cells E cs,.cells E' ds=>match ct7 E E' with
  | true=>C9 cs ds R
  | false=>ct4
 | .row E t xs,.row E' t' ys=>match ct7 E E',iP t' t ys with
  | true,cs6 zs=>s8 (zs=xs) R
  | _,_=>ct4
 | .frz E t xs,.frz E' t' ys=>match ct7 E E',iP t' t ys with
  | true,cs6 zs=>s8 (zs=xs) R
  | _,_=>ct4
 | .ary E k n xs,.ary E' k' m ys=>match ct7 E E',j3 k k',ct7 n m with
  | true,cs8,cs8=>s8 (ys=xs) R
  | _,_,_=>ct4
 | .mp kk vk l,.mp kk' vk' l'=>match j3 kk kk',j3 vk vk' with
  | true,cs8=>s8 (l'=l) R
  | _,_=>ct4
 | _,_=>ct4
section
variable {A:Nat->Prop} {env:bt} {w:cu6}
variable{ps:List Prop}{R:Rn}
theorem Cd{c x d e}(h:yp c x ps R=cs6 (e,d)):cD e c=cs6 x/\fQ R e/\(jl R->jl e)/\d=ps:=by
 unfold yp at h
 split at h
 next R1 h1=>cases h;have ⟨a,b,c⟩:=Tz h1;exact⟨a,b,c,rfl⟩
 .cases h
theorem Ha{p:Prop}{a:List Prop}{b:Rn}(h:s8 p R=cs6 (b,a)):b=R/\(bQ a->p):=by
 cases h;exact⟨rfl,λh=>h.1⟩
theorem W6{v u R'}(h:MR v u R=cs6 (R',ps)) :
  fQ R R'∧(jl R->jl R')/\(bQ ps→∀ Rf,fQ R' Rf→∀ x,ax A env w u x->ax A (iY Rf env) w v x):=by
 have easy:∀{p:Prop},s8 p R=cs6 (R',ps)->(p→∀ Rf,fQ R' Rf→∀ x,ax A env w u x->ax A (iY Rf env) w v x) →
   fQ R R'∧(jl R->jl R')/\(bQ ps→∀ Rf,fQ R' Rf→∀ x,ax A env w u x->ax A (iY Rf env) w v x):=λe f=>by
  obtain⟨rfl,hp⟩:=Ha e;exact⟨fQ.refl,id,λh=>f (hp h)⟩
 have triv:cs6 (R,([]:List Prop))=cs6 (R',ps)->(∀ Rf,∀ x,ax A env w u x->ax A (iY Rf env) w v x) →
   fQ R R'∧(jl R->jl R')/\(bQ ps→∀ Rf,fQ R' Rf→∀ x,ax A env w u x->ax A (iY Rf env) w v x):=λe f=>by
  cases e;exact⟨fQ.refl,id,λ_ Rf _=>f Rf⟩
 unfold MR at h
 split at h
 .exact triv h λRf x _=>by simp only[ax]
 .split at h
  next hk=>cases kI hk;exact easy h λe Rf _ x hx=>by subst e;simpa only[ax] using hx
  .cases h
 .exact easy h λe Rf _ x hx=>by subst e;simpa only[ax] using hx
 .exact easy h λe Rf _ x hx=>by subst e;simpa only[ax] using hx
 .split at h
  next zs hc=>have ⟨et,ez⟩:=lv hc;subst et;exact easy h λe Rf _ x hx=>by simp only at ez;subst ez;subst e;simpa only[ax] using hx
  .cases h
 .split at h
  next zs hc=>have ⟨et,ez⟩:=lv hc;subst et;exact easy h λe Rf _ x hx=>by simp only at ez;subst ez;subst e;simp only[ax] at hx ⊢;exact hx.1
  .cases h
 .exact easy h λe Rf _ x hx=>by subst e;simp only[ax] at hx ⊢;subst hx;exact⟨aw,.inl ⟨⟨_,rfl⟩,rfl⟩⟩
 .split at h
  next zs hc=>have ⟨et,ez⟩:=lv hc;subst et;exact easy h λe Rf _ x hx=>by simp only at ez;subst ez;subst e;simpa only[ax] using hx
  .cases h
 .exact triv h λRf x hx=>by simpa only[ax] using hx
 .split at h
  next hs=>have hs:=bH hs;subst hs;obtain⟨h1,h2,h3,rfl⟩:=Cd h;refine⟨h2,h3,λ_ Rf hf x hx=>?_⟩;simp only[ax] at hx ⊢;rw[vn (hf _ _ h1)];exact hx
  .cases h
 .obtain⟨h1,h2,h3,rfl⟩:=Cd h;refine⟨h2,h3,λ_ Rf hf x hx=>?_⟩;simp only[ax] at hx ⊢;exact .inl ⟨HD (hf _ _ h1),_,hx⟩
 .split at h
  next hs=>have hs:=bH hs;subst hs;obtain⟨h1,h2,h3,rfl⟩:=Cd h;refine⟨h2,h3,λ_ Rf hf x hx=>?_⟩;simp only[ax] at hx ⊢;rw[vn (hf _ _ h1)];exact hx
  .cases h
 .split at h
  next hs ho=>have hs:=bH hs;have ho:=bH ho;subst hs ho;obtain⟨h1,h2,h3,rfl⟩:=Cd h;refine⟨h2,h3,λhc Rf hf x hx=>?_⟩;have hi:=hc.1;subst hi;simp only[ax] at hx ⊢;rw[vn (hf _ _ h1)];exact hx
  .cases h
 .split at h
  next hs=>have hs:=bH hs;subst hs;obtain⟨h1,h2,h3,rfl⟩:=Cd h;refine⟨h2,h3,λ_ Rf hf x hx=>?_⟩;simp only[ax] at hx ⊢;rw[vn (hf _ _ h1)];exact hx
  .cases h
 .obtain⟨h1,h2,h3,rfl⟩:=Cd h;refine⟨h2,h3,λ_ Rf hf x hx=>?_⟩;simp only[ax] at hx ⊢;rw[vn (hf _ _ h1)];exact hx
 .split at h
  next hk hn=>cases kI hk;cases bH hn;exact easy h λe Rf _ x hx=>by subst e;simpa only[ax] using hx
  .cases h
 .split at h
  next hs=>have hs:=bH hs;subst hs;obtain⟨h1,h2,h3,rfl⟩:=Cd h;refine⟨h2,h3,λhc Rf hf x hx=>?_⟩;obtain⟨rfl,rfl,_⟩:=hc;simp only[ax] at hx ⊢;rw[vn (hf _ _ h1)];exact hx
  .cases h
 .obtain⟨h1,h2,h3,rfl⟩:=Cd h;refine⟨h2,h3,λhc Rf hf x hx=>?_⟩;obtain⟨rfl,_⟩:=hc;simp only[ax] at hx ⊢;rw[vn (hf _ _ h1)];exact hx
 .exact triv h λRf x hx=>by simpa only[ax] using hx
 .split at h
  next hs=>have hs:=bH hs;subst hs;exact triv h λRf x hx=>by simp only[ax,aL] at hx ⊢;exact hx
  .cases h
 .exact easy h λe Rf _ x hx=>by subst e;simpa only[ax] using hx
 .cases h
theorem Ic:∀{vs d:List SV}{R a:Rn}{ps:List Prop},C9 vs d R=cs6 (a,ps) →
  fQ R a/\(jl R->jl a)/\(bQ ps→∀ b,fQ a b→∀ xs,aL A env w d xs->aL A (iY b env) w vs xs)
 | [],[],R,a,ps,h=>by
  cases h;exact⟨fQ.refl,id,λ_ b _ xs c=>by simpa only[aL] using c⟩
 | v::vs,u::d,R,a,ps,h=>by
  simp only[C9] at h;split at h
  .rename_i R1 p h1;split at h
   next R2 q h2=>cases h;obtain⟨a1,a2,a3⟩:=W6 h1;have ⟨e,b2,b3⟩:=Ic h2;refine⟨a1.trans e,λh=>b2 (a2 h),λhc b f xs c=>?_⟩;have ⟨c1,c2⟩:=tf.1 hc;obtain⟨x,r,rfl,c,hr⟩:=c;exact⟨x,r,rfl,a3 c1 b (e.trans f) x c,b3 c2 b f r hr⟩
   .cases h
  .cases h
theorem b80{v u e}(h:TR v u R=cs6 (e,ps)) :
  fQ R e/\(jl R->jl e)/\(bQ ps→∀ a,fQ e a→∀ x,ax A env w u x->ax A (iY a env) w v x):=by
 unfold TR at h
 split at h
 .have ⟨b,c,i⟩:=Ic (A:=A) (env:=env) (w:=w) h;refine⟨b,c,λf a j x d=>?_⟩;simp only[ax] at d ⊢;grind
 .split at h
  next g=>have g:=bH g;have ⟨b,c,i⟩:=Ic (A:=A) (env:=env) (w:=w) h;refine⟨b,c,λf a j x d=>?_⟩;simp only[ax] at d ⊢;grind
  .cases h
 .split at h
  next g hr=>cases KA g;cases h;have ⟨b,c,i⟩:=Ic (A:=A) (env:=env) (w:=w) hr;refine⟨b,c,λf a j x d=>?_⟩;have ⟨e0,f⟩:=f;simp only[ax] at d ⊢;grind
  .cases h
 .exact W6 h
theorem bV2{b b0 i}(h:Qo b b0 R=cs6 (i,ps)) :
  fQ R i/\(jl R->jl i)/\b.mut=b0.mut/\(bQ ps→∀ d,fQ i d→∀ k len,mS A env w k len b0->mS A (iY d env) w k len b) ∧
   (bQ ps→∀ E t,b0 = .row E t []∨b0 = .frz E t []→∃ E t,b = .row E t []∨b = .frz E t []):=by
 unfold Qo at h
 split at h
 .split at h
  next a=>have a:=bH a;subst a;obtain⟨a1,a2,a3⟩:=Ic h;refine⟨a1,a2,rfl,λc d g k len ⟨vs,e,hd⟩=>⟨vs,e,a3 c d g _ hd⟩,λ_ E t j=>?_⟩;simp_all
  .cases h
 .split at h
  next zs a c=>have a:=bH a;subst a;have ⟨l,m⟩:=lv c;subst l;subst m;obtain⟨rfl,f⟩:=Ha h;refine⟨fQ.refl,id,rfl,λc d g k len a=>by rw[← f c];exact a,λc E t j=>?_⟩;simp_all
  .cases h
 .split at h
  next zs a c=>have a:=bH a;subst a;have ⟨l,m⟩:=lv c;subst l;subst m;obtain⟨rfl,f⟩:=Ha h;refine⟨fQ.refl,id,rfl,λc d g k len a=>by rw[← f c];exact a,λc E t j=>?_⟩;simp_all
  .cases h
 .split at h
  .rename_i n h2 h3;cases bH n;cases kI h2;cases bH h3;obtain⟨rfl,f⟩:=Ha h;refine⟨fQ.refl,id,rfl,λc d g k len a=>?_,λc E t j=>?_⟩
   .have ⟨b1,b2,vs,b3,o⟩:=a;rw[← f c];exact⟨b1,b2,vs,b3,O3 (z4 o).2 |> λq=>by rw[(z4 o).1];exact q⟩
   .simp_all
  .cases h
 .split at h
  next n h2=>cases kI n;cases kI h2;obtain⟨rfl,f⟩:=Ha h;refine⟨fQ.refl,id,rfl,λc d g k len a=>by rw[← f c];exact a,λc E t j=>?_⟩;simp_all
  .cases h
 .cases h
end
def EQ(R:Rn)(k:Rn->Prop):Prop:=match R with
 | []=>k []
 | (n,x)::r=>EQ r λr=>match x with
  | none=>k ((n,ct4)::r)
  | some m=>k ((n,cs6 m)::r)
theorem LA:∀ R k,EQ R k=k R
 | [],k=>rfl
 | (n,ct4)::r,k=>by simp only[EQ,LA r]
 | (n,cs6 m)::r,k=>by simp only[EQ,LA r]
def Me:List SV->List SV->Rn->(Rn->Prop)->Prop
 | [],[],R,k=>k R
 | v::vs,u::us,R,k=>match TR v u R with
  | some (R',ps)=>EQ R' λR'=>xn ps (Me vs us R' k)
  | none=>False
 | _,_,_,_=>False
def NU(H:List (Nat×Nm))(c m:Nat)(b:lJ)(R:Rn)(k:Rn->Prop):Prop:=match dK H m with
 | .live b0=>match Qo b b0 R with
  | some (R',ps)=>EQ R' λR'=>xn ps (k R')
  | none=>False
 | _=>False
def yk(H:List (Nat×Nm)):List (Nat×Nm)->Rn->(Rn->Prop)->Prop
 | [],R,k=>k R
 | (c,b)::r,R,k=>match b with
  | .live b=>match cD R c with
   | some (cs6 m)=>NU H c m b R λR'=>yk H r R' k
   | some ct4=>match b with
    | .row _ _ xs=>xs=[]/\yk H r R k
    | _=>False
   | none=>match IE c (cs6 c) R with
    | some R1=>NU H c c b R1 λR'=>yk H r R' k
    | none=>False
  | .dead=>match cD R c with
   | some _=>yk H r R k
   | none=>match IE c (cs6 c) R with
    | some R1=>yk H r R1 k
    | none=>False
  | .un=>False
def G3(n:Nat):List (Nat×Nm)->Bool
 | []=>ct2
 | (m,_)::r=>ct7 n m||G3 n r
def KY(Hh:List (Nat×Nm)):Rn->Bool
 | []=>cs8
 | (c,_)::r=>G3 c Hh&&KY Hh r
def Kg(R:Rn):List (Nat×Nm)->Bool
 | []=>cs8
 | (n,_)::r=>(cI0 n PN||cx6 QN n||(match cD R n with|some (cs6 m)=>ct7 m n|_=>ct2))&&Kg R r
def enter(S A:St):Prop:=Me A.sl S.sl [] λR=>yk S.H A.H R λR=>match KY A.H R,Kg R S.H with
 | true,cs8=>True
 | _,_=>False
theorem Zo{n}:∀{H:List (Nat×Nm)},G3 n H=cs8↔n∈H.map (·.1)
 | []=>by simp[G3]
 | (m,b)::r=>by
  simp only[G3,uJ,f6,dm,Zo];simp_all
theorem ai5{b}:∀{R:Rn},KY b R=cs8→∀ c,cD R c≠ct4->c∈b.map (·.1)
 | (n,x)::r,h,c,a=>by
  simp only[KY,fB] at h;rw[rO] at a;split at a
  next e=>rw[e];exact Zo.1 h.1
  .exact ai5 h.2 c a
theorem ak3{R}:∀{H:List (Nat×Nm)},Kg R H=cs8→∀ n,PN<=n->n<QN->n∈H.map (·.1)->cD R n=cs6 (cs6 n)
 | (m,b)::r,h,n,hn,c,d=>by
  simp only[Kg,fB,uJ] at h;rcases dm.1 d with e|d
  .have e:n=m:=e;subst e;obtain (a|a)|a:=h.1
   .have:=lX a;omega
   .have:=lX a;omega
   .split at a
    next k hk=>rw[hk,bH a]
    .cases a
  .exact ak3 h.2 n hn c d
variable{n:Nat}
theorem S5{H}:dK H n = .un∨(n,dK H n)∈H:=by
 induction H with
 | nil=>exact .inl rfl
 | cons p r ih =>
  unfold dK;split
  .simp_all
  .grind
theorem bR7{H:List (Nat×Nm)}(h:n ∉ H.map (·.1)):dK H n = .un:=by
 obtain a|a:=S5
 .exact a
 .simp_all
structure uv (A:Nat->Prop) (env:bt) (w:cu6) (A':Nat->Prop) (env':bt) (w':cu6):Prop where
 imm:∀ b,A b->A' b
 envp:∀ n,PN<=n->n<QN->env n ≠ .un->env' n=env n
 keep:∀ b o,A b->w'.cell? ⟨b,o,ct4⟩=w.cell? ⟨b,o,ct4⟩
 shape:∀ b s,w.shape? b=cs6 s->w'.shape? b=cs6 s
variable{w':cu6}
theorem Ex1.ext0{y:Prop}{A:Nat->Prop}{env:bt}{w:cu6}{A':Nat->Prop}{env':bt}(x:Ex1 y A env w A' env' w'):uv A env w A' env' w':=by
 refine⟨x.imm,λn _ _ hn=>?_,x.keep,x.shape⟩
 cases h:env n with
 | un=>exact absurd h hn
 | nil=>exact x.envn n h
 | blk b l=>exact x.envb n b l h
 | val v s=>exact x.envv n v s h
theorem dQ.ext0{A env w A' env'}(x:dQ A env w A' env' w'):uv A env w A' env' w':=x.toEx1.ext0
theorem uv.trans{A A' d env env' a w f}(h:uv A env w A' env' w')(k:uv A' env' w' d a f):uv A env w d a f :=
 ⟨λb g=>k.imm b (h.imm b g),λn i c e=>(k.envp n i c (by rw[h.envp n i c e];exact e)).trans (h.envp n i c e),
  λb o g=>(k.keep b o (h.imm b g)).trans (h.keep b o g),λb s e=>k.shape b s (h.shape b s e)⟩
section
variable {w0:cu6} {N0:fT} {A:Nat->Prop} {env:bt} {w:cu6} {a:Act}
theorem Wr:∀{vs b:List SV}{R:Rn}{k:Rn->Prop},Me vs b R k →
  ∃ c,k c/\V vs=V b/\fQ R c/\(jl R->jl c)∧∀ a,fQ c a→∀ i x,ax A env w (d7 b i) x->ax A (iY a env) w (d7 vs i) x
 | [],[],R,k,h=>⟨R,h,rfl,fQ.refl,id,λa _ i x _=>by simp[d7,pY,ax]⟩
 | v::vs,u::b,R,k,h=>by
  simp only[Me] at h;split at h
  .rename_i R1 ps h1;rw[LA] at h;obtain⟨hc,h2⟩:=D8.1 h;obtain⟨a1,a2,a3⟩:=b80 h1;have ⟨R2,b1,b2,d,b4,b5⟩:=Wr h2;refine⟨R2,b1,by simp[b2],a1.trans d,λh=>b4 (a2 h),λa e i x f=>?_⟩;cases i with
   | zero=>exact a3 hc a (d.trans e) x f
   | succ i=>exact b5 a e i x f
  .exact h.elim
def AP(A:Nat->Prop)(env:bt)(w:cu6)(H:List (Nat×Nm))(R:Rn)(c:Nat)(x:Nm):Prop :=
 x = .dead∨∃ b,x = .live b/\((∃ m b0,cD R c=cs6 (cs6 m)/\dK H m = .live b0/\b.mut=b0.mut/\(∀ Rf,fQ R Rf→∀ k len,mS A env w k len b0->mS A (iY Rf env) w k len b) ∧
   (∀ E t,b0 = .row E t []∨b0 = .frz E t []→∃ E t,b = .row E t []∨b = .frz E t [])) ∨
  (cD R c=cs6 ct4∧∃ E t,b = .row E t []))
theorem AP.mono{H R R' c x}(h:AP A env w H R c x)(le:fQ R R'):AP A env w H R' c x:=by
 obtain e|⟨b,e,⟨m,b0,h1,h2,h3,h4,h5⟩|⟨h1,h2⟩⟩:=h
 .exact .inl e
 .exact .inr ⟨b,e,.inl ⟨m,b0,le _ _ h1,h2,h3,λRf hf=>h4 Rf (le.trans hf),h5⟩⟩
 .exact .inr ⟨b,e,.inr ⟨le _ _ h1,h2⟩⟩
theorem ZA{H c m b R k}(hl:cD R c=cs6 (cs6 m))(h:NU H c m b R k) :
  ∃ R',k R'∧fQ R R'∧(jl R->jl R')/\AP A env w H R' c (.live b):=by
 unfold NU at h
 split at h
 next b0 h0=>
  split at h
  next R' ps h1=>rw[LA] at h;have ⟨hc,h2⟩:=D8.1 h;have ⟨a1,a2,a3,a4,a5⟩:=bV2 (A:=A) (env:=env) (w:=w) h1;exact⟨R',h2,a1,a2,.inr ⟨b,rfl,.inl ⟨m,b0,a1 _ _ hl,h0,a3,a4 hc,a5 hc⟩⟩⟩
  .exact h.elim
 .exact h.elim
theorem RV{H}:∀{Hh:List (Nat×Nm)}{R:Rn}{k:Rn->Prop},yk H Hh R k →
  ∃ R',k R'∧fQ R R'∧(jl R->jl R')∧∀ c x,(c,x)∈Hh->AP A env w H R' c x
 | [],R,k,h=>⟨R,h,fQ.refl,id,λc x hx=>by simp at hx⟩
 | (c,b)::r,R,k,h=>by
  simp only[yk] at h;split at h
  .rename_i b;have fin:∀{R1 R2:Rn},fQ R R1->(jl R->jl R1)->fQ R1 R2->(jl R1->jl R2)->AP A env w H R2 c (.live b)->yk H r R2 k →
     ∃ R',k R'∧fQ R R'∧(jl R->jl R')∧∀ c' x,(c',x)∈(c,Nm.live b)::r->AP A env w H R' c' x:=by
    intro R1 R2 l1 i1 l2 i2 ok hr;have ⟨R3,c1,c2,c3,c4⟩:=RV hr;refine⟨R3,c1,(l1.trans l2).trans c2,λh=>c3 (i2 (i1 h)),λc' x hx=>?_⟩;obtain e|hx:=dm.1 hx
    .cases e;exact ok.mono c2
    .exact c4 c' x hx
   split at h
   next m hl=>have ⟨R2,b1,b2,b3,b4⟩:=ZA (A:=A) (env:=env) (w:=w) hl h;exact fin fQ.refl id b2 b3 b4 b1
   .rename_i hl;split at h
    next E t xs=>obtain⟨rfl,h⟩:=h;exact fin fQ.refl id fQ.refl id (.inr ⟨_,rfl,.inr ⟨hl,E,t,rfl⟩⟩) h
    .exact h.elim
   .split at h
    next R1 h1=>have ⟨a1,a2,a3⟩:=Tz h1;have ⟨R2,b1,b2,b3,b4⟩:=ZA (A:=A) (env:=env) (w:=w) a1 h;exact fin a2 a3 b2 b3 b4 b1
    .exact h.elim
  .have fin:∀{R1:Rn},fQ R R1->(jl R->jl R1)->yk H r R1 k →
     ∃ R',k R'∧fQ R R'∧(jl R->jl R')∧∀ c' x,(c',x)∈(c,Nm.dead)::r->AP A env w H R' c' x:=by
    intro R1 l1 i1 hr;have ⟨R3,c1,c2,c3,c4⟩:=RV hr;refine⟨R3,c1,l1.trans c2,λh=>c3 (i1 h),λc' x hx=>?_⟩;obtain e|hx:=dm.1 hx
    .cases e;exact .inl rfl
    .exact c4 c' x hx
   split at h
   .exact fin fQ.refl id h
   .split at h
    next R1 h1=>have ⟨a1,a2,a3⟩:=Tz h1;exact fin a2 a3 h
    .exact h.elim
  .exact h.elim
theorem TH{S B}(h:enter S B)(t:ia w0 N0 A env S.fs a w):∃ env',ia w0 N0 A env' B.fs a w/\uv A env w A env' w:=by
 unfold enter at h
 have ⟨R1,h1,hlen,l1,i1,d1⟩:=Wr (A:=A) (env:=env) (w:=w) h
 have ⟨R,h2,l2,i2,ok⟩:=RV (A:=A) (env:=env) (w:=w) h1
 have hinj:=i2 (i1 (λc c' m hc=>by simp[cD] at hc))
 split at h2
 next hcov hpar=>
  have m:=t.m;have hdom:∀ n,n ∉ B.H.map (·.1)->cD R n=none:=λn hn=>by
   cases hl:cD R n with
   | none=>rfl
   | some y=>exact absurd (ai5 hcov n (by rw[hl];simp)) hn
  have live:∀ n b,B.fs.h n = .live b->AP A env w S.H R n (.live b):=λn b hb=>by
   obtain h|h:=S5 (H:=B.H) (n:=n)
   .simp only[St.fs] at hb;rw[h] at hb;cases hb
   .simp only[St.fs] at hb;rw[hb] at h;exact ok n _ h
  have hmut:∀ n b k l,B.fs.h n = .live b->b.mut=cs8->iY R env n = .blk k l→∃ m b0,cD R n=cs6 (cs6 m)/\dK S.H m = .live b0/\b0.mut=cs8/\env m = .blk k l:=by
   intro n b k l hb hm he;obtain e|⟨b',e,⟨m',b0,e1,e2,e3,_⟩|⟨e1,_⟩⟩:=live n b hb
   .cases e
   .cases e;unfold iY at he;rw[e1] at he;exact⟨m',b0,e1,e2,by rw[← e3];exact hm,he⟩
   .unfold iY at he;rw[e1] at he;cases he
  refine⟨iY R env,⟨⟨m.os,m.tape,m.output,m.dr,m.size,m.fr,m.Alt,?_,?_,?_,m.fresh,m.gl⟩,by rw[show V B.fs.sl=V S.fs.sl from hlen];exact t.len,λi=>d1 R l2 i _ (t.f i),t.dfr⟩,⟨λ_ h=>h,?_,λ_ _ _=>rfl,λ_ _ h=>h⟩⟩
  .intro n;cases hn:B.fs.h n with
   | dead=>trivial
   | un =>
    show iY R env n = .un;have:n ∉ B.H.map (·.1):=λhmem=>by
     obtain h|h:=S5 (H:=B.H) (n:=n)
     .obtain⟨⟨n',x⟩,hx,rfl⟩:=cv1.1 hmem;have:∀(H:List (Nat×Nm)),(∀ c x,(c,x)∈H->x ≠ .un)→∀ n,n∈H.map (·.1)->dK H n ≠ .un:=by
       intro H
       induction H with
       | nil=>intro _ n hn;simp at hn
       | cons p H ih =>
        have ⟨q,y⟩:=p;intro hall n hn;simp only[dK];split
        .exact hall q y (dU ..)
        .rename_i hne;refine ih (λc x hx=>hall c x (eZ _ hx)) n ?_;obtain e|hn:=dm.1 hn
         .simp only at e;subst e;rw[wK] at hne;cases hne
         .exact hn
      exact this B.H (λc x hx hu=>by rcases ok c x hx with e|⟨b,e,_⟩ <;> rw[hu] at e <;> cases e) n' hmem hn
     .simp only[St.fs] at hn;rw[hn] at h;obtain e|⟨b,e,_⟩:=ok n _ h <;> cases e
    unfold iY;rw[hdom n this]
   | live b =>
    obtain e|⟨b',e,⟨m',b0,e1,e2,e3,e4,e5⟩|⟨e1,E,tt,e2⟩⟩:=live n b hn
    .cases e
    .cases e;have he:iY R env n=env m':=by unfold iY;rw[e1]
     have hm:=m.nm m';simp only[St.fs,e2] at hm;obtain⟨k,len,he',hb,hA⟩|⟨he',E,tt,hb⟩:=hm
     .exact .inl ⟨k,len,he.trans he',e4 R fQ.refl k len hb,λhmm=>hA (by rw[← e3];exact hmm)⟩
     .exact .inr ⟨he.trans he',e5 E tt hb⟩
    .cases e;exact .inr ⟨by unfold iY;rw[e1],E,tt,.inl e2⟩
  .intro n b k l hb hm he;have ⟨m',b0,e1,e2,e3,e4⟩   := hmut n b k l hb hm he;exact m.own m' b0 k l e2 e3 e4
  .intro n n' b c k l l' hb hc hbm hcm he he';have ⟨m1,b1,e1,e2,e3,e4⟩   := hmut n b k l hb hbm he;have ⟨m2,b2,f1,f2,f3,f4⟩:=hmut n' c k l' hc hcm he';have:=m.inj m1 m2 b1 b2 k l l' e2 f2 e3 f3 e4 f4;subst this;exact hinj n n' m1 e1 f1
  .intro n hn hn' hne;have:n∈S.H.map (·.1):=by
    refine jW λhno=>hne ?_;have:=m.nm n;simp only[St.fs,bR7 hno] at this;exact this
   have:=ak3 hpar n hn hn' this;unfold iY;rw[this]
 .exact h2.elim
end
end Go.SX
namespace Go.SX
inductive Ex where
 | normal
 | exit (id:Nat)
 | ret
def Ex.to:Ex->Exit
 | .normal => .normal
 | .exit id => .exit id
 | .ret => .ret
structure QS:Type 1 where
 ι:Type
 μ:ι->Nat:=λ_=>0
 inv:ι->Prop
 qn:Qn ι := .plain ι
 keep:List Nat:=[]
 slots:ι->List (Nat×SV):=λ_=>[]
 keepN:List Nat:=[]
 names:ι->List (Nat×Nm):=λ_=>[]
def ZX(n:Nat):List (Nat×SV)->SV
 | [] => .junk
 | (m,v)::r=>match ct7 n m with
  | true=>v
  | false=>ZX n r
def aa1(keep:List Nat)(l:List (Nat×SV)):Nat->List SV->List SV
 | _,[]=>[]
 | n,v::r=>(match rp n keep with|true=>v|false=>ZX n l)::aa1 keep l (n+1) r
def ab8(H:List (Nat×Nm))(r:List (Nat×Nm)):List Nat->List (Nat×Nm)
 | []=>r
 | n::l=>(n,dK H n)::ab8 H r l
def head(S:St)(an:QS)(i:an.ι):St:=⟨aa1 an.keep (an.slots i) 0 S.sl,ab8 S.H (an.names i) an.keepN⟩
def M7:List SV->(List SV->Prop)->Prop
 | [],k=>k []
 | x::xs,k=>Jw x λy=>M7 xs λys=>k (y::ys)
theorem Yo:∀ l k,M7 l k=k l
 | [],k=>rfl
 | x::xs,k=>by simp only[M7,Zu,Yo xs]
def NR:List (Nat×Nm)->(List (Nat×Nm)->Prop)->Prop
 | [],k=>k []
 | (n,b)::r,k=>Kh b λb=>NR r λr=>k ((n,b)::r)
theorem Zz:∀ l k,NR l k=k l
 | [],k=>rfl
 | (n,b)::r,k=>by simp only[NR,Yf,Zz r]
def xo(S:St)(k:St->Prop):Prop:=match S with
 | ⟨sl,H⟩=>M7 sl λsl=>NR H λH=>k ⟨sl,H⟩
theorem IW(S)(k):xo S k=k S:=by cases S;simp only[xo,Yo,Zz]
def Bo:cE3->Nat
 | .region id _ _=>id
 | .seq a _=>Bo a
 | .block _ a=>Bo a
 | .loop a=>Bo a
 | .scope a=>Bo a
 | .cond _ a _=>Bo a
 | _=>0
structure bL:Type 1 where
 loops:Nat->Option (St->QS):=λ_=>ct4
 cuts:Nat->Option (St->QS):=λ_=>ct4
 nms:List Nat:=[]
 unr:Nat->Nat:=λ_=>0
 ys:List Nat:=[]
 ln:Nat:=0
 lo:Loop->Prop:=λ_=>False
def svI:SV->Int
 | .int _ n=>n
 | _=>0
def svB:SV->Bool
 | .bool b=>b
 | _=>ct2
def svL(t:CT):SV->List t.D
 | .dsl t' xs=>match iP t' t xs with
  | some ys=>ys
  | none=>[]
 | .dsx t' xs=>match iP t' t xs with
  | some ys=>ys
  | none=>[]
 | _=>[]
def WV(t:CT)(cs:List SV):t.D:=match (mB t cs).run (λ_=>.un) with
 | some ((d,_,_),_)=>d
 | none=>t.dflt
def St.i(S:St)(n:Nat):Int:=svI (d7 S.sl n)
def St.b(S:St)(n:Nat):Bool:=svB (d7 S.sl n)
def St.l(S:St)(t:CT)(n:Nat):List t.D:=svL t (d7 S.sl n)
def St.a(S:St)(t:CT)(n:Nat):t.D:=match d7 S.sl n with
 | .agg cs=>WV t cs
 | _=>t.dflt
def St.r(S:St)(t:CT)(n:Nat):List t.D:=match dK S.H n with
 | .live (.row _ t' xs)=>match iP t' t xs with
  | some ys=>ys
  | none=>[]
 | .live (.frz _ t' xs)=>match iP t' t xs with
  | some ys=>ys
  | none=>[]
 | _=>[]
def St.c(S:St)(t:CT)(n:Nat):t.D:=match dK S.H n with
 | .live (.cells _ cs)=>WV t cs
 | _=>t.dflt
def St.o(S:St)(t:CT)(n:Nat):List t.D:=match d7 S.sl n with
 | .own m _=>S.r t m
 | _=>[]
def St.p(S:St)(t:CT)(n:Nat):t.D:=match d7 S.sl n with
 | .ptr m _=>S.c t m
 | _=>t.dflt
def Ue:SV->Option Bool
 | .bool b=>cs6 b
 | _=>ct4
def SJ(id:Nat)(K:Ex->St->Prop):Ex->St->Prop:=λe S=>match e with
 | .exit i=>match ct7 i id with
  | true=>K .normal S
  | false=>K (.exit i) S
 | .normal=>K .normal S
 | .ret=>K .ret S
def NG(k:St->Prop)(K:Ex->St->Prop):Ex->St->Prop:=λe S=>match e with
 | .normal=>k S
 | .exit i=>K (.exit i) S
 | .ret=>K .ret S
def TA(body:(Ex->St->Prop)->St->Prop):Nat->(Ex->St->Prop)->St->Prop
 | 0,_,_=>False
 | n+1,K,S=>body (NG (TA body n K) K) S
structure xp (n:Nat) (x:Array Tmp×cE3×cE3) (r:Loop):Prop where
 st:r.state = .ready
 pe:r.pending=ct4
 ps:r.params=x.1
 sg:r.assign=x.2.1
 bd:r.body=x.2.2
 ln:n<=r.tmps.size
def jD:cE3->List (Array Tmp×cE3×cE3)
 | .rangeFunc _ ps a b=>[(ps,a,b)]
 | .seq a b=>jD a++jD b
 | .cond _ a b=>jD a++jD b
 | .block _ a=>jD a
 | .loop a=>jD a
 | .scope a=>jD a
 | _=>[]
def K8:List (Nat×Nm)->Bool
 | []=>cs8
 | (_,.live b)::r=>b.noY&&K8 r
 | _::r=>K8 r
def St.noY(S:St):Bool:=zz S.sl&&K8 S.H
theorem Fr:∀{H:List (Nat×Nm)},K8 H=cs8→∀ n b,dK H n = .live b->b.noY=cs8
 | (m,x)::r,h,n,b,e=>by
  simp only[dK] at e;cases x with
  | live c =>
   obtain⟨h1,h2⟩:=cw4.1 h;split at e
   .cases e;exact h1
   .exact Fr h2 n b e
  | un=>split at e;cases e;exact Fr (H:=r) h n b e
  | dead=>split at e;cases e;exact Fr (H:=r) h n b e
theorem O5:∀{l:List SV},zz l=cs8→∀ i,(d7 l i).noY=cs8
 | [],_,i=>rfl
 | x::l,h,0=>(cw4.1 h).1
 | x::l,h,i+1=>O5 (l:=l) (cw4.1 h).2 i
def sx(P:cu2)(sp:d8)(an:bL):cE3->(Ex->St->Prop)->St->Prop
 | .skip,K,S=>K .normal S
 | .region _ ops draw,K,S=>Pg P sp an.nms ops draw (K .normal) S
 | .seq a b,K,S=>match an.cuts (Bo b) with
  | none=>sx P sp an a (NG (sx P sp an b K) K) S
  | some c=>sx P sp an a (NG (λS'=>(c S).qn.ex λi=>(c S).inv i/\enter S' (head S (c S) i)) K) S/\(c S).qn.all λi=>(c S).inv i->xo (head S (c S) i) (sx P sp an b K)
 | .cond c a b,K,S=>match Ue (bm (d7 S.sl) c) with
  | some t=>au t (sx P sp an a K S) (sx P sp an b K S)
  | none=>False
 | .block id a,K,S=>sx P sp an a (SJ id K) S
 | .loop a,K,S=>match an.unr (Bo a) with
  | n+1=>TA (sx P sp an a) (n+1) K S
  | 0=>match an.loops (Bo a) with
   | none=>False
   | some c=>((c S).qn.ex λi=>(c S).inv i/\enter S (head S (c S) i))/\(c S).qn.all λi=>(c S).inv i->xo (head S (c S) i) (sx P sp an a (NG (λS'=>(c S).qn.ex λj=>(c S).inv j/\(c S).μ j<(c S).μ i/\enter S' (head S (c S) j)) K))
 | .exit id,K,S=>K (.exit id) S
 | .scope a,K,S=>sx P sp an a K S
 | .ret,K,S=>K .ret S
 | .rangeFunc g _ _ _,K,S=>match bm (d7 S.sl) g with
  | .fn gf caps=>match Mg P gf,sp.fn gf,cx6 an.ln (V S.sl) with
   | true,cs6 s,cs8=>∀ r:Loop,an.lo r->match (s 0 (.yld r an.ys (an.ys.map (d7 S.sl))::caps)).run (dK S.H) with
    | some (d,_)=>LB ct4 S (λS'=>match S'.noY with|true=>K .normal S'|false=>False) (.go d)
    | none=>False
   | _,_,_=>False
  | _=>False
 | _,_,_=>False
section
variable {P:cu2} {sp:d8} {an:bL} {w0:cu6} {N0:fT}
theorem ce9{F n c Q a w}(h:c.wpIn F n P (Exit.noGoto Q) a w):(Code.scope c).wpIn F n P Q a w:=by
 intro b k cs hro hb hr
 have s1:step P (lone (b.atR a (.code (.scope c)::k)) cs w) = .next (lone (b.atR a (.code c :: .inScope c::k)) cs w):=step_lone_go (by simp[stepG,stepG.exec,cX6])
 have s2:∀ a' w',step P (lone (b.atR a' (.inScope c::k)) cs w') = .next (lone (b.atR a' k) cs w'):=λa' w'=>step_lone_go (by simp[stepG,stepG.exec,cX6])
 have h0:(lone (b.atR a (.code (.scope c)::k)) cs w).fenced P F:=fenced_calm hb hr rfl
 have ⟨e,a₁,w₁,hq,harr⟩:=h b (.inScope c::k) cs hro hb hr
 cases e with
 | normal=>exact⟨.normal,a₁,w₁,hq,.head h0 s1 (StepsIn.trans harr (.one (fenced_calm hb hr rfl) (s2 _ _)))⟩
 | exit id =>
  have hx:exitTo id (.inScope c::k)=exitTo id k:=by simp[exitTo]
  exact⟨.exit id,a₁,w₁,hq,λk' hk=>.head h0 s1 (harr.1 k' (by rw[hx];exact hk)),λhr' hk=>let ⟨k₁,h1,h2⟩:=harr.2 hr' (by rw[hx];exact hk);⟨k₁,h1,.head h0 s1 h2⟩⟩
 | goto l=>exact hq.elim
 | ret=>exact⟨_,a₁,w₁,hq,.of_steps (.one h0 s1) harr⟩
 | panic ch=>exact⟨_,a₁,w₁,hq,.of_steps (.one h0 s1) harr⟩
 | outgrown=>exact⟨_,a₁,w₁,hq,.of_steps (.one h0 s1) harr⟩
theorem Nw{ro}(hs:iF P sp/\N0.g=sp.gl)(ik:P.follows .mixedOrders=cs8):∀ c(_:∀ x∈jD c,ro=ct4∧∀ r,xp an.ln x r->an.lo r)K S Q A env a w,
  sx P sp an c K S->ia w0 N0 A env S.fs a w →
  (∀ e S' A' env' a' w',K e S'→ia w0 N0 A' env' (St.fs S') a' w'→uv A env w A' env' w'→Q e.to a' w')->c.wpIn (wf ro) 0 P Q a w:=by
 have refl0:∀{A:Nat->Prop}{env:bt}{w:cu6},uv A env w A env w:=dQ.refl.ext0
 intro c
 induction c with
 | skip=>intro hl K S Q A env a w h t hQ;exact wpIn_skip (hQ .normal S A env a w h t refl0)
 | region id ops draw =>
  intro hl K S Q A env a w h t hQ;exact by7 hs ik t h λS' A' env' a' w' hk t' x=>hQ .normal S' A' env' a' w' hk t' x.ext0
 | seq x y ihx ihy =>
  intro hl K S Q A env a w h t hQ;simp only[sx] at h;split at h
  .refine wpIn_seq (ihx (λx hx=>hl x (gq _ hx)) _ S _ A env a w h t ?_);intro e S' A' env' a' w' hk t' x';cases e with
   | normal=>exact ihy (λx hx=>hl x (gU _ hx)) K S' Q A' env' a' w' hk t' λe S2 A2 env2 a2 w2 hk2 t2 x2=>hQ e S2 A2 env2 a2 w2 hk2 t2 (x'.trans x2)
   | exit i=>exact hQ (.exit i) S' A' env' a' w' hk t' x'
   | ret=>exact hQ .ret S' A' env' a' w' hk t' x'
  .rename_i c hc;refine wpIn_seq (ihx (λx hx=>hl x (gq _ hx)) _ S _ A env a w h.1 t ?_);intro e S' A' env' a' w' hk t' x';cases e with
   | normal =>
    have ⟨i,hi,he⟩:=(c S).qn.hex _ hk;have ⟨env2,t2,x2⟩:=TH he t';have h2:=(c S).qn.hall _ h.2 i hi;rw[IW] at h2;exact ihy (λx hx=>hl x (gU _ hx)) K _ Q A' env2 a' w' h2 t2 λe S3 A3 env3 a3 w3 hk3 t3 x3=>hQ e S3 A3 env3 a3 w3 hk3 t3 ((x'.trans x2).trans x3)
   | exit i=>exact hQ (.exit i) S' A' env' a' w' hk t' x'
   | ret=>exact hQ .ret S' A' env' a' w' hk t' x'
 | cond c x y ihx ihy =>
  intro hl K S Q A env a w h t hQ;simp only[sx] at h;split at h
  .rename_i b hb;have hd:=dG t.f c;have hv:bm (d7 S.sl) c = .bool b:=by
    unfold Ue at hb;split at hb
    next b' he=>cases hb;exact he
    .cases hb
   simp only[St.fs] at hd;rw[hv] at hd;simp only[ax] at hd;cases b with
   | true=>exact wpIn_cond_true hd (ihx (λx hx=>hl x (gq _ hx)) K S Q A env a w h t hQ)
   | false=>exact wpIn_cond_false hd (ihy (λx hx=>hl x (gU _ hx)) K S Q A env a w h t hQ)
  .exact h.elim
 | block id x ih =>
  intro hl K S Q A env a w h t hQ;refine wpIn_block (ih hl _ S _ A env a w h t ?_);intro e S' A' env' a' w' hk t' x';cases e with
  | normal=>exact hQ .normal S' A' env' a' w' hk t' x'
  | exit i =>
   simp only[Ex.to,Exit.inBlock];by_cases hi:i=id
   .subst hi;simp only[SJ,wK] at hk;rw[ao rfl];exact hQ .normal S' A' env' a' w' hk t' x'
   .have hb:ct7 i id=false:=by
     cases hb:ct7 i id with
     | false=>rfl
     | true=>exact absurd (bH hb) hi
    simp only[SJ,hb] at hk;rw[I hi];exact hQ (.exit i) S' A' env' a' w' hk t' x'
  | ret=>exact hQ .ret S' A' env' a' w' hk t' x'
 | loop x ih =>
  intro hl K S Q A env a w h t hQ;simp only[sx] at h;split at h
  .rename_i n0 _;refine cX7 (λn a' w'=>∃ S' A' env',TA (sx P sp an x) n K S'∧ia w0 N0 A' env' S'.fs a' w'∧uv A env w A' env' w') (n0+1) ⟨S,A,env,h,t,refl0⟩ ?_;rintro n a1 w1 ⟨S1,A1,env1,h1,t1,x1⟩;cases n with
   | zero=>exact h1.elim
   | succ n =>
    refine ih hl _ _ _ A1 env1 a1 w1 h1 t1 ?_;intro e S' A' env' a' w' hk t' x';cases e with
    | normal=>exact⟨n,Nat.lt_succ_self n,S',A',env',hk,t',x1.trans x'⟩
    | exit i=>exact hQ (.exit i) S' A' env' a' w' hk t' (x1.trans x')
    | ret=>exact hQ .ret S' A' env' a' w' hk t' (x1.trans x')
  split at h
  .exact h.elim
  .rename_i c hc;have ⟨hex,hr⟩:=h;have ⟨i0,hi0,he0⟩:=(c S).qn.hex _ hex;have ⟨env0,t0,x0⟩:=TH he0 t;refine cX7 (λn a' w'=>∃ i A' env',(c S).inv i/\n=(c S).μ i/\ia w0 N0 A' env' (head S (c S) i).fs a' w'∧uv A env w A' env' w') ((c S).μ i0) ⟨i0,A,env0,hi0,rfl,t0,x0⟩ ?_;rintro n a1 w1 ⟨i,A1,env1,hi,rfl,t1,x1⟩;have h1:=(c S).qn.hall _ hr i hi;rw[IW] at h1;refine ih hl _ _ _ A1 env1 a1 w1 h1 t1 ?_;intro e S' A' env' a' w' hk t' x';cases e with
   | normal =>
    have ⟨j,hj,hμ,he⟩:=(c S).qn.hex _ hk;have ⟨env2,t2,x2⟩:=TH he t';exact⟨(c S).μ j,hμ,j,A',env2,hj,rfl,t2,(x1.trans x').trans x2⟩
   | exit i=>exact hQ (.exit i) S' A' env' a' w' hk t' (x1.trans x')
   | ret=>exact hQ .ret S' A' env' a' w' hk t' (x1.trans x')
 | exit id=>intro hl K S Q A env a w h t hQ;exact wpIn_exit (hQ (.exit id) S A env a w h t refl0)
 | scope x ih =>
  intro hl K S Q A env a w h t hQ;refine ce9 (ih hl K S _ A env a w h t ?_);intro e S' A' env' a' w' hk t' x';cases e with
  | normal=>exact hQ .normal S' A' env' a' w' hk t' x'
  | exit i=>exact hQ (.exit i) S' A' env' a' w' hk t' x'
  | ret=>exact hQ .ret S' A' env' a' w' hk t' x'
 | ret=>intro hl K S Q A env a w h t hQ;exact wpIn_ret (hQ .ret S A env a w h t refl0)
 | rangeFunc g ps x y _ _ =>
  intro hl K S Q A env a w h t hQ;obtain⟨rfl,hlo⟩:=hl _ (iV.2 rfl);simp only[sx] at h;split at h
  .rename_i gf caps hg;split at h
   .rename_i s hb hsp hln;have dg:=dG t.f g;simp only[St.fs] at dg;rw[hg] at dg;simp only[ax] at dg;have ⟨vs,ev,dv⟩:=dg;refine wpIn_rangeFunc λfn _=>?_;obtain⟨rc,hrc⟩:∃ rc:Loop,rc={state := .ready,pending:=ct4,fn:=fn,tmps:=a.tmps,params:=ps,assign:=x,body:=y,defers:=w.heap.size}:=⟨_,rfl⟩
    obtain⟨W1,hW1⟩:∃ W1,W1=(w.alloc (.deferred (cs6 []))).alloc (.loop rc):=⟨_,rfl⟩
    have hL:W1.heap[w.heap.size+1]? = cs6 (.loop rc):=by
     rw[hW1];have:=cP1 (w.alloc (.deferred (cs6 []))) (.loop rc);rwa [World.size_alloc] at this
    have hD:W1.heap[w.heap.size]? = cs6 (.deferred (cs6 [])):=by
     rw[hW1,cH7 _ _ _ aw];exact cP1 w _
    have u1:mH (λ_=>False) (λ_=>False) A env S.fs.h w A env S.fs.h W1:=mH.none (by rw[hW1];exact (cY.alloc w _ _).trans (cY.alloc _ _ _));have x1:=t.m.ext u1;have t1:ia w0 N0 A env S.fs a W1:=⟨t.m.upd u1,t.len,λi=>DA x1 _ _ (t.f i),t.dfr.mono x1.dfo⟩
    have hln:=lX hln;have hpre:=h rc (hlo rc (by subst hrc;exact⟨rfl,rfl,rfl,rfl,rfl,ub hln t.len⟩));split at hpre
    .rename_i d q hrun;have ⟨hp,hout⟩:=PY hpre;have hcall:=hs.1 gf s hsp 0 _ _ d q hrun hp w0 N0 A env W1 (.func (.yield (w.heap.size+1)) #[] #[]::vs.toList) hs.2 t1.m (by
      simp only[aL,ax];refine⟨_,_,rfl,⟨_,rfl,hL,?_⟩,DU x1 _ _ dv⟩;have hf:=t1.f;have:rc.tmps=a.tmps:=by rw[hrc]
      rw[this];generalize an.ys=l
      induction l with
      | nil=>rfl
      | cons p l ih=>exact⟨_,_,rfl,hf p,ih⟩)
     obtain ⟨fg, hfg, hb⟩ : ∃ fg, P.funcs[gf]? = cs6 fg ∧ (!(fg.name == "runtime.NumGoroutine") && fg.body.isSome) = true := by
      unfold Mg at hb;split at hb
      .exact⟨_,‹_›,hb⟩
      .cases hb
     simp only[fB,sS] at hb;have hbody:fg.body.isNone=false:=by cases hfb:fg.body <;> simp_all
     refine⟨w.heap.size+1,[{target := .collected w.heap.size,args := #[]}],W1,{target := .fn (.func gf) vs,args := #[.func (.yield (w.heap.size+1)) #[] #[]]},W1,gf,#[.func (.yield (w.heap.size+1)) #[] #[]]++vs,W1,
      by rw[hW1,hrc];exact run_enterLoop_outer _ _ _ _ _,?_,λ_ _=>trivial,?_,λq=>by simp[cC1] at q,?_⟩
     .simp only[resolve,ev];simp[go_sem]
     .simp only[invoke,callFunc,cu4,run_program,Result.andThen_ok,hfg,hb.1,hbody,GQ,if_false,Sem.run_pure]
     .have hargs:(Value.func (.yield (w.heap.size+1)) #[] #[]::vs.toList).toArray = #[.func (.yield (w.heap.size+1)) #[] #[]]++vs:=by apply Array.ext';simp
      rw[hargs] at hcall;refine CallsIn.mono (callsIn_wide.2 hcall:CallsIn cC1 _ P _ _ _ _) ?_;rintro e w' ⟨v,rfl,g⟩;have ⟨xx,A',env',hR,t',x'⟩:=t1.app g ct4;have ⟨S',hS',hk⟩:=hout _ ⟨xx,hR,rfl⟩;split at hk
      .rename_i hY;have ⟨y1,y2⟩:=cw4.1 hY;have hL':=x'.lop trivial _ _ hL;have hD':=x'.dfo _ hD;rw[← hS'] at t';refine⟨rc.pending,_,run_endLoop hL' (by rw[hrc];simp),?_⟩;have hpe:rc.pending=none:=by rw[hrc]
       rw[hpe];have hle:=t.m.size;refine hQ .normal S' A' env' _ _ hk ⟨t'.m.put hL' rfl rfl Y (.inr (Fr y2)),t'.len,λi=>Ga (E4 hL' rfl rfl) _ _ (.inr (O5 y1 i)) (t'.f i),⟨w.heap.size,rfl,hle,?_,λe he q=>?_,?_⟩⟩ ((x1.trans x').ext0.trans (E4 hL' rfl rfl).ext0)
       .rw[cx0 Y];exact hD'
       .have ⟨D,h1,h2⟩:=t.dfr.lt e he;rw[h1] at q;cases q;omega
       .refine sX.mono (λk hk=>?_) t'.dfr;rw[cx0 (by rintro rfl;rw[hL'] at hk;cases hk)];exact hk
      .exact hk.elim
    .exact hpre.elim
   .exact h.elim
  .exact h.elim
 | label l=>intro hl K S Q A env a w h t hQ;exact h.elim
 | goto l=>intro hl K S Q A env a w h t hQ;exact h.elim
 | refuse s=>intro hl K S Q A env a w h t hQ;exact h.elim
end
end Go.SX
namespace Go.SX
inductive OT where
 | dat (t:CT)
 | row (E:ct5) (t:CT)
 | rowg (E:ct5) (t:CT)
 | fnc (f:cy6)
 | ali
 | hole (i:Nat)
 | ref (E:ct5) (o:OT)
 | pair (a b:OT)
@[reducible] def OT.D:OT->Type
 | .dat t=>t.D
 | .row _ t=>List t.D
 | .rowg _ t=>List t.D
 | .fnc _=>Unit
 | .ali=>Unit
 | .hole _=>SV
 | .ref _ o=>o.D
 | .pair a b=>a.D×b.D
@[reducible] def OT.X:OT->Type
 | .dat t=>t.D
 | .row _ t=>List t.D
 | .rowg _ _=>Unit
 | .fnc _=>Unit
 | .ali=>Unit
 | .hole _=>SV
 | .ref _ o=>o.X
 | .pair a b=>a.X×b.X
def OT.wf:(o:OT)->o.D->Prop
 | .dat t,d=>t.wf d
 | .row _ t,d=>V d<=cu5∧∀ x∈d,t.wf x
 | .rowg _ t,d=>V d<=cu5∧∀ x∈d,t.wf x
 | .fnc _,_=>True
 | .ali,_=>True
 | .hole _,_=>True
 | .ref _ o,d=>o.wf d
 | .pair a b,d=>a.wf d.1/\b.wf d.2
def OT.hx:OT->List Nat
 | .hole i=>[i]
 | .ref _ o=>o.hx
 | .pair a b=>a.hx++b.hx
 | _=>[]
def OT.nb:OT->Nat
 | .ref _ o=>o.nb+1
 | .pair a b=>a.nb+b.nb
 | _=>0
def OT.nc:OT->Nat
 | .row _ _=>1
 | .rowg _ _=>1
 | .ref _ o=>o.nc
 | .pair a b=>a.nc+b.nc
 | _=>0
def OT.nr:OT->Nat
 | .row _ _=>1
 | .ref _ o=>o.nr
 | .pair a b=>a.nr+b.nr
 | _=>0
instance:Coe CT OT:=⟨OT.dat⟩
inductive PK where
 | val (t:CT)
 | agg (t:CT)
 | box (E:ct5) (o:OT)
 | row (E:ct5) (t:CT)
 | own (E:ct5) (t:CT)
 | fn (f:cy6) (k:Nat)
 | nils
 | yld (ts:List Nat) (k:Nat)
 | ago (o:OT)
@[reducible] def PK.D:PK->Type
 | .val t=>t.D
 | .agg t=>t.D
 | .box _ o=>o.D
 | .row _ t=>List t.D
 | .own _ t=>List t.D
 | .fn _ _=>Unit
 | .nils=>Unit
 | .yld _ _=>Loop
 | .ago o=>o.D
@[reducible] def bG:List PK->Type
 | []=>Unit
 | p::r=>p.D×bG r
def PK.wf:(p:PK)->p.D->Prop
 | .val t,d=>t.wf d
 | .agg t,d=>t.wf d
 | .box _ o,d=>o.wf d
 | .row _ t,d=>V d<=cu5∧∀ x∈d,t.wf x
 | .own _ t,d=>V d<=cu5∧∀ x∈d,t.wf x
 | .fn _ _,_=>True
 | .nils,_=>True
 | .yld _ _,_=>True
 | .ago o,d=>o.wf d
def xO:(ps:List PK)->bG ps->Prop
 | [],_=>True
 | p::r,d=>p.wf d.1/\xO r d.2
def Jc:(t:CT)->(t.D->Prop)->Prop
 | .pair a b,k=>Jc a λx=>Jc b λy=>k (x,y)
 | .int _,k=>∀ x:Int,k x
 | .bool,k=>∀ x:Bool,k x
 | .str,k=>∀ x:ByteArray,k x
 | .sl t,k=>∀ x:List t.D,k x
theorem Ru:∀{t:CT}{k:t.D->Prop},Jc t k↔∀ d,k d
 | .pair a b,k=>by
  simp only[Jc,Ru (t:=a),Ru];simp_all
 | .int _,k=>tZ
 | .bool,k=>tZ
 | .str,k=>tZ
 | .sl t,k=>tZ
def CY(t:CT)(k:t.D->Prop):Prop:=match cx6 t.size 6 with
 | true=>Jc t k
 | false=>∀ d:t.D,k d
theorem LG{t k}:CY t k↔∀ d,k d:=by
 unfold CY
 split
 .exact Ru
 .exact tZ
def B9:(o:OT)->(o.D->Prop)->Prop
 | .dat t,k=>CY t k
 | .row _ t,k=>∀ x:List t.D,k x
 | .rowg _ t,k=>∀ x:List t.D,k x
 | .fnc _,k=>k ()
 | .ali,k=>k ()
 | .hole _,k=>∀ s:SV,k s
 | .ref _ o,k=>B9 o k
 | .pair a b,k=>B9 a λx=>B9 b λy=>k (x,y)
theorem Hl:∀{o:OT}{k:o.D->Prop},B9 o k↔∀ d,k d
 | .dat t,k=>LG
 | .row _ t,k=>tZ
 | .rowg _ t,k=>tZ
 | .fnc _,k=>⟨λh _=>h,λh=>h ()⟩
 | .ali,k=>⟨λh _=>h,λh=>h ()⟩
 | .hole _,k=>tZ
 | .ref _ o,k=>Hl (o:=o)
 | .pair a b,k=>by
  simp only[B9,Hl (o:=a),Hl (o:=b)];exact⟨λh d=>h d.1 d.2,λh x y=>h (x,y)⟩
def PK.all:(p:PK)->(p.D->Prop)->Prop
 | .val t,k=>CY t k
 | .agg t,k=>CY t k
 | .box _ o,k=>B9 o k
 | .row _ t,k=>∀ x:List t.D,k x
 | .own _ t,k=>∀ x:List t.D,k x
 | .fn _ _,k=>k ()
 | .nils,k=>k ()
 | .yld _ _,k=>∀ r:Loop,k r
 | .ago o,k=>B9 o k
theorem PK.all_iff{p:PK}{k}:p.all k↔∀ d,k d:=by
 cases p <;> simp only[PK.all,LG,Hl] <;> exact⟨λh _=>h,λh=>h ()⟩
def Af:(ps:List PK)->(bG ps->Prop)->Prop
 | [],k=>k ()
 | p::r,k=>p.all λx=>Af r λy=>k (x,y)
theorem H2:∀{ps:List PK}{k:bG ps->Prop},Af ps k↔∀ d,k d
 | [],k=>⟨λh d=>h,λh=>h ()⟩
 | p::r,k=>by
  simp only[Af,PK.all_iff,H2 (ps:=r)];simp_all
def H3(E:ct5)(t:CT):List SV->Q (List t.D×List SV×Option Nat)
 | .own n sz::r => .ask n fun
  | .live (.row E' t' xs)=>match ct7 E E',ct7 sz t.size,iP t' t xs with
   | true,cs8,cs6 ys => .ret (ys,r,cs6 n)
   | _,_,_ => .fail
  | _ => .fail
 | .nilsl::r => .ret ([],r,ct4)
 | _ => .fail
def pX(a0:Option Nat):(o:OT)->List SV->Q (o.D×List SV×List (Nat×Nm)×List Nat×List (Option Nat))
 | .dat t,cs=>(mB t cs).bind λp=>.ret (p.1,p.2.1,p.2.2,[],[])
 | .row E t,cs=>(H3 E t cs).bind λp=>.ret (p.1,p.2.1,[],[],[p.2.2])
 | .rowg E t,cs=>(H3 E t cs).bind λp=>.ret (p.1,p.2.1,[],[],[p.2.2])
 | .fnc f,.fn g []::r=>match ct7 f g with
  | true => .ret ((),r,[],[],[])
  | false => .fail
 | .fnc _,_ => .fail
 | .ali,.ptr n 0::r=>match a0 with
  | some m=>match ct7 n m with
   | true => .ret ((),r,[],[],[])
   | false => .fail
  | none => .fail
 | .ali,_ => .fail
 | .hole _,s::r=>match s.one with
  | true => .ret (s,r,[],[],[])
  | false => .fail
 | .hole _,[] => .fail
 | .ref E o,.ptr n 0::r => .ask n fun
  | .live (.cells E' cs)=>match ct7 E E' with
   | true=>(pX a0 o cs).bind λp=>match p.2.1 with
    | [] => .ret (p.1,r,p.2.2.1,n::p.2.2.2.1,p.2.2.2.2)
    | _ => .fail
   | false => .fail
  | _ => .fail
 | .ref _ _,_ => .fail
 | .pair a b,cs=>(pX a0 a cs).bind λp=>(pX a0 b p.2.1).bind λq=>.ret ((p.1,q.1),q.2.1,p.2.2.1++q.2.2.1,p.2.2.2.1++q.2.2.2.1,p.2.2.2.2++q.2.2.2.2)
def qZ:(o:OT)->o.D->Nat->Nat->List SV
 | .dat t,d,_,_=>cS t d
 | .row _ t,_,_,i=>[.own (QN+i) t.size]
 | .rowg _ t,_,_,i=>[.own (QN+i) t.size]
 | .fnc f,_,_,_=>[.fn f []]
 | .ali,_,_,_=>[.ptr PN 0]
 | .hole i,s,_,_=>[.hv (HN+i) s]
 | .ref _ _,_,j,_=>[.ptr (PN+j) 0]
 | .pair a b,d,j,i=>qZ a d.1 j i++qZ b d.2 (j+a.nb) (i+a.nc)
def xE:(o:OT)->o.D->Nat->Nat->List (Nat×Nm)
 | .dat _,_,_,_=>[]
 | .row _ _,_,_,_=>[]
 | .rowg _ _,_,_,_=>[]
 | .fnc _,_,_,_=>[]
 | .ali,_,_,_=>[]
 | .hole _,_,_,_=>[]
 | .ref E o,d,j,i=>(PN+j,.live (.cells E (qZ o d (j+1) i)))::xE o d (j+1) i
 | .pair a b,d,j,i=>xE a d.1 j i++xE b d.2 (j+a.nb) (i+a.nc)
def uy:(o:OT)->o.D->Nat->List (Nat×Nm)
 | .dat _,_,_=>[]
 | .row E t,xs,i=>[(QN+i,.live (.row E t xs))]
 | .rowg E t,xs,i=>[(QN+i,.live (.row E t xs))]
 | .fnc _,_,_=>[]
 | .ali,_,_=>[]
 | .hole _,_,_=>[]
 | .ref _ o,d,i=>uy o d i
 | .pair a b,d,i=>uy a d.1 i++uy b d.2 (i+a.nc)
def mr:List PK->List Nat
 | []=>[]
 | .box _ o::ps=>o.hx++mr ps
 | .ago o::ps=>o.hx++mr ps
 | .val _::ps=>mr ps
 | .agg _::ps=>mr ps
 | .row _ _::ps=>mr ps
 | .own _ _::ps=>mr ps
 | .fn _ _::ps=>mr ps
 | .nils::ps=>mr ps
 | .yld _ _::ps=>mr ps
def vS:List Nat->List (Nat×Nm)
 | []=>[]
 | i::r=>(HN+i,.dead)::vS r
def Xp(env:bt)(hl:List (Nat×ct8×SV)):Prop:=∀ p∈hl,env (HN+p.1) = .val p.2.1 p.2.2
def Gh(t:CT)(d:t.D):SV:=match cS t d with
 | [s]=>s
 | _ => .junk
def Ig:Option Nat->Nat->Option Nat
 | some m,_=>cs6 m
 | none,n=>cs6 n
def iC:Option Nat->(ps:List PK)->List SV->Q (bG ps×List (Nat×Nm)×List Nat×List (Option Nat))
 | _,[],[] => .ret ((),[],[],[])
 | a0,.val t::ps,v::vs=>(mB t [v]).bind λp=>match p.2.1 with
  | []=>(iC a0 ps vs).bind λq=>.ret ((p.1,q.1),p.2.2++q.2.1,q.2.2)
  | _ => .fail
 | a0,.agg t::ps,.agg cs::vs=>(mB t cs).bind λp=>match p.2.1 with
  | []=>(iC a0 ps vs).bind λq=>.ret ((p.1,q.1),p.2.2++q.2.1,q.2.2)
  | _ => .fail
 | a0,.yld ts k::ps,.yld r us cs::vs=>match FH ts us,ct7 (V cs) k with
  | true,cs8=>(iC a0 ps (cs++vs)).bind λq=>.ret ((r,q.1),q.2)
  | _,_ => .fail
 | a0,.nils::ps,.nilsl::vs=>(iC a0 ps vs).bind λq=>.ret (((),q.1),q.2)
 | a0,.fn f k::ps,.fn g cs::vs=>match ct7 f g,ct7 (V cs) k with
  | true,cs8=>(iC a0 ps (cs++vs)).bind λq=>.ret (((),q.1),q.2)
  | _,_ => .fail
 | a0,.box E o::ps,.ptr n 0::vs => .ask n fun
  | .live (.cells E' cs)=>match ct7 E E' with
   | true=>(pX a0 o cs).bind λp=>match p.2.1 with
    | []=>(iC (Ig a0 n) ps vs).bind λq=>.ret ((p.1,q.1),p.2.2.1++q.2.1,n::(p.2.2.2.1++q.2.2.1),p.2.2.2.2++q.2.2.2)
    | _ => .fail
   | false => .fail
  | _ => .fail
 | a0,.row E t::ps,.own n sz::vs => .ask n fun
  | .live (.row E' t' xs)=>match ct7 E E',ct7 sz t.size,iP t' t xs with
   | true,cs8,cs6 ys=>(iC (Ig a0 n) ps vs).bind λq=>.ret ((ys,q.1),q.2.1,n::q.2.2.1,q.2.2.2)
   | _,_,_ => .fail
  | _ => .fail
 | a0,.own E t::ps,v::vs=>(H3 E t [v]).bind λp=>(iC a0 ps vs).bind λq=>.ret ((p.1,q.1),q.2.1,q.2.2.1,p.2.2::q.2.2.2)
 | a0,.ago o::ps,.agg cs::vs=>match ct7 o.nb 0 with
  | true=>(pX a0 o cs).bind λp=>match p.2.1 with
   | []=>(iC a0 ps vs).bind λq=>.ret ((p.1,q.1),p.2.2.1++q.2.1,q.2.2.1,p.2.2.2.2++q.2.2.2)
   | _ => .fail
  | false => .fail
 | _,_,_ => .fail
def iK:(ps:List PK)->bG ps->Nat->Nat->List SV
 | [],_,_,_=>[]
 | .val t::ps,d,j,i=>Gh t d.1::iK ps d.2 j i
 | .agg t::ps,d,j,i => .agg (cS t d.1)::iK ps d.2 j i
 | .box E o::ps,d,j,i => .ptr (PN+j) 0::iK ps d.2 (j+1+o.nb) (i+o.nc)
 | .row E t::ps,d,j,i => .own (PN+j) t.size::iK ps d.2 (j+1) i
 | .own E t::ps,d,j,i => .own (QN+i) t.size::iK ps d.2 j (i+1)
 | .fn f k::ps,d,j,i => .fn f ((iK ps d.2 j i).take k)::(iK ps d.2 j i).drop k
 | .nils::ps,d,j,i => .nilsl::iK ps d.2 j i
 | .yld ts k::ps,d,j,i => .yld d.1 ts ((iK ps d.2 j i).take k)::(iK ps d.2 j i).drop k
 | .ago o::ps,d,j,i => .agg (qZ o d.1 j i)::iK ps d.2 j (i+o.nc)
def rA:(ps:List PK)->bG ps->Nat->Nat->List (Nat×Nm)
 | [],_,_,_=>[]
 | .val t::ps,d,j,i=>rA ps d.2 j i
 | .agg t::ps,d,j,i=>rA ps d.2 j i
 | .box E o::ps,d,j,i=>(PN+j,.live (.cells E (qZ o d.1 (j+1) i)))::(xE o d.1 (j+1) i++rA ps d.2 (j+1+o.nb) (i+o.nc))
 | .row E t::ps,d,j,i=>(PN+j,.live (.row E t d.1))::rA ps d.2 (j+1) i
 | .own E t::ps,d,j,i=>rA ps d.2 j (i+1)
 | .fn f k::ps,d,j,i=>rA ps d.2 j i
 | .nils::ps,d,j,i=>rA ps d.2 j i
 | .yld _ _::ps,d,j,i=>rA ps d.2 j i
 | .ago o::ps,d,j,i=>rA ps d.2 j (i+o.nc)
def uD:(ps:List PK)->bG ps->Nat->List (Nat×Nm)
 | [],_,_=>[]
 | .val t::ps,d,i=>uD ps d.2 i
 | .agg t::ps,d,i=>uD ps d.2 i
 | .box E o::ps,d,i=>uy o d.1 i++uD ps d.2 (i+o.nc)
 | .row E t::ps,d,i=>uD ps d.2 i
 | .own E t::ps,d,i=>(QN+i,.live (.row E t d.1))::uD ps d.2 (i+1)
 | .fn f k::ps,d,i=>uD ps d.2 i
 | .nils::ps,d,i=>uD ps d.2 i
 | .yld _ _::ps,d,i=>uD ps d.2 i
 | .ago o::ps,d,i=>uy o d.1 i++uD ps d.2 (i+o.nc)
def sm(env:bt):Option Nat->Ev
 | some m=>env m
 | none => .nil
section
variable {w0:cu6} {N0:fT} {A Ac:Nat->Prop} {env envc:bt} {h:cq} {w:cu6}
def lm(A':Nat->Prop)(env0:bt)(h0:cq)(e':bt)(w:cu6):List (Option Nat)->List (Nat×Nm)->Nat->Prop
 | [],[],_=>True
 | o::os,(m,x)::l,n=>(m=n∧∃ b',x = .live b'∧b'.mut=cs8/\((∃ q b,o=cs6 q/\h0 q = .live b/\b.mut=cs8/\(∀ k len,env0 q = .blk k len->mS A' e' w k len b')/\(env0 q = .nil→∃ E t,b' = .row E t []))∨(o=ct4∧∃ E t,b' = .row E t [])))/\lm A' env0 h0 e' w os l (n+1)
 | _,_,_=>False
theorem lm.append{A' a e f}:∀{c b:List (Option Nat)}{l d:List (Nat×Nm)}{n:Nat},lm A' a e f w c l n->lm A' a e f w b d (n+V c)->lm A' a e f w (c++b) (l++d) n
 | [],b,[],d,n,_,k=>by simpa using k
 | o::c,b,(m,x)::l,d,n,⟨h1,h2⟩,k=>by
  refine⟨h1,h2.append ?_⟩;grind
theorem lm.get{A' a d e}:∀{c:List (Option Nat)}{l:List (Nat×Nm)}{n:Nat},lm A' a d e w c l n->V c=V l ∧
  ∀ i o,c[i]? = cs6 o→∃ b',dK l (n+i) = .live b'∧(n+i,Nm.live b')∈l/\b'.mut=cs8/\((∃ q b,o=cs6 q/\d q = .live b/\b.mut=cs8/\(∀ k len,a q = .blk k len->mS A' e w k len b')/\(a q = .nil→∃ E t,b' = .row E t []))∨(o=ct4∧∃ E t,b' = .row E t []))
 | [],[],n,_=>⟨rfl,λi n hi=>by simp at hi⟩
 | o::c,(m,x)::l,n,⟨⟨f,b',h3,h4,h5⟩,hr⟩=>by
  obtain⟨hl,hg⟩:=hr.get;refine⟨by simp[hl],λi o' hi=>?_⟩;cases i with
  | zero =>
   simp at hi;subst hi;subst h3;exact⟨b',by simp only[dK,f,kz,wK],by rw[f];exact dU ..,h4,h5⟩
  | succ i =>
   have ⟨c',g,h,g3⟩:=hg i o' (by simpa using hi);rw[show n+1+i=n+(i+1) from by omega] at g h;refine⟨c',?_,eZ _ h,g3⟩;simp only[dK];have:ct7 (n+(i+1)) m=false:=by
    cases hb:ct7 (n+(i+1)) m with
    | false=>rfl
    | true=>have:=bH hb;omega
   rw[this];exact g
theorem lm.keys{A' a h0 e'}:∀{d:List (Option Nat)}{l:List (Nat×Nm)}{n:Nat},lm A' a h0 e' w d l n→∀ c x,(c,x)∈l→∃ i o,c=n+i/\d[i]? = cs6 o
 | [],[],n,_,c,x,b=>by simp at b
 | o::d,(m,y)::l,n,⟨⟨hm,_⟩,hr⟩,c,x,b=>by
  rcases dm.1 b with e|b
  .simp_all
  .obtain⟨i,o',h1,h2⟩:=hr.keys c x b;exact⟨i+1,o',Y,by simpa using h2⟩
variable{t:CT}
theorem S6{d v}{rest:List SV}(hr:Rd A w t (λj=>[v][j]?) 0 d):ax A env w (Gh t d) v:=by
 have ⟨vs,hl,hc,a⟩:=BQ (env:=env) t d _ 0 hr
 unfold Gh
 split
 next s hs=>rw[hs] at a;simp only[aL] at a;have h0:=hc 0 t.size_pos;grind
 .simp only[ax]
variable{vs:List ct8}
theorem ML{d}(hl:V vs=t.size)(hr:Rd A w t (λj=>vs[j]?) 0 d):aL A env w (cS t d) vs:=by
 obtain⟨us,hlu,hc,hd⟩:=BQ t d _ 0 hr
 have:us=vs:=by
  apply List.ext_getElem?;grind
 rw[← this];exact hd
variable{E:ct5}
theorem au0{k len xs}(hr:uw A w k len E t xs):V xs<=cu5∧∀ x∈xs,t.wf x:=by
 have ⟨vs,cap,_,_,h2,h3,h4,h5⟩:=hr
 refine⟨Y,λx hx=>?_⟩
 obtain⟨i,hi,rfl⟩:=cv8.1 hx
 exact MV _ _ _ _ (h5 i hi)
variable{a0:Option Nat}{ps:List PK}
theorem b46{a} {x} (e:(iC a0 (.agg t::ps) a).run h=cs6 x):∃ cs r,a = .agg cs::r:=by
 cases a with
 | nil=>cases e
 | cons s r=>cases s <;> first|exact⟨_,_,rfl⟩|cases e
theorem aX8{o a} {x} (e:(iC a0 (.ago o::ps) a).run h=cs6 x):∃ cs r,a = .agg cs::r:=by
 cases a with
 | nil=>cases e
 | cons s r=>cases s <;> first|exact⟨_,_,rfl⟩|cases e
theorem aJ9{o a} {x} (e:(iC a0 (.box E o::ps) a).run h=cs6 x):∃ n r,a = .ptr n 0::r:=by
 cases a with
 | nil=>cases e
 | cons s r =>
  cases s with
  | ptr n off=>cases off with
   | zero=>exact⟨_,_,rfl⟩
   | succ k=>cases e
  | _=>cases e
theorem co1{a} {x} (e:(iC a0 (.row E t::ps) a).run h=cs6 x):∃ n sz r,a = .own n sz::r:=by
 cases a with
 | nil=>cases e
 | cons s r=>cases s <;> first|exact⟨_,_,_,rfl⟩|cases e
theorem cl5{a} {x} (e:(iC a0 (.own E t::ps) a).run h=cs6 x):∃ v r,a=v::r:=by
 cases a with
 | nil=>cases e
 | cons s r=>exact⟨_,_,rfl⟩
theorem a46{a} {x} (e:(iC a0 (.nils::ps) a).run h=cs6 x):∃ r,a = .nilsl::r:=by
 cases a with
 | nil=>cases e
 | cons s r=>cases s <;> first|exact⟨_,rfl⟩|cases e
variable{f:cy6}
theorem au3{k a} {x} (e:(iC a0 (.fn f k::ps) a).run h=cs6 x):∃ g cs r,a = .fn g cs::r:=by
 cases a with
 | nil=>cases e
 | cons s r=>cases s <;> first|exact⟨_,_,_,rfl⟩|cases e
theorem cj5{ts k a} {x} (e:(iC a0 (.yld ts k::ps) a).run h=cs6 x):∃ r us cs q,a = .yld r us cs::q:=by
 cases a with
 | nil=>cases e
 | cons s r=>cases s <;> first|exact⟨_,_,_,_,rfl⟩|cases e
theorem bn4{a} {x} (e:(pX a0 (.fnc f) a).run h=cs6 x):∃ r,a = .fn f []::r/\x=(((),r,[],[],[]),[]):=by
 cases a with
 | nil=>cases e
 | cons s r =>
  cases s <;> first|cases e;done|skip
  rename_i g cs;cases cs <;> first|cases e;done|skip
  simp only[pX] at e;split at e
  next hb=>rw[bH hb];simp only[Q.run,cy] at e;exact⟨_,rfl,e.symm⟩
  .cases e
theorem b03{o a} {x} (e:(pX a0 (.ref E o) a).run h=cs6 x):∃ n r,a = .ptr n 0::r:=by
 cases a with
 | nil=>cases e
 | cons s r =>
  cases s with
  | ptr n off=>cases off with
   | zero=>exact⟨_,_,rfl⟩
   | succ k=>cases e
  | _=>cases e
variable{n:Nat}
theorem aa7(m:Mod w0 N0 A env h w)(hA:∀ b,A b->Ac b){xs}(j:h n = .live (.row E t xs)) :
  (V xs<=cu5∧∀ x∈xs,t.wf x)∧∀ l i,lm Ac env h l w [cs6 n] [(i,.live (.row E t xs))] i:=by
 have f:=m.nm n
 rw[j] at f
 refine⟨?_,λl i=>⟨⟨rfl,_,rfl,rfl,.inl ⟨n,_,rfl,j,rfl,λk len g=>?_,λg=>?_⟩⟩,aQ⟩⟩
 .obtain⟨k,len,a,d,_⟩|⟨c,E2,t2,d⟩:=f
  .exact au0 d
  .grind
 .obtain⟨k',e,a,d,_⟩|⟨c,_⟩:=f
  .rw[g] at a;cases a;have ⟨us,cap,g1,g2,g3,g4,g5,g6⟩:=d;exact⟨us,cap,g1,g2,g3,g4,g5,λi hi=>jM hA (λ_ _ _=>rfl) _ _ _ _ _ (λ_ _=>rfl) (g6 i hi)⟩
  .rw[g] at c;cases c
 .obtain⟨k',e,a,d,_⟩|⟨c,E2,t2,d⟩:=f
  .rw[g] at a;cases a
  .simp_all
theorem Su(m:Mod w0 N0 A env h w)(hA:∀ b,A b->Ac b){cs rest ys f r}
  (e:(H3 E t cs).run h=cs6 ((ys,rest,f),r)) (l:aL A env w cs vs) :
  (V ys<=cu5∧∀ x∈ys,t.wf x)/\V cs=V rest+1/\(rest=cs.drop 1)∧∃ v c,vs=v::c/\aL A env w rest c∧∀ d i,d i=sm env f->ax Ac d w (.own i t.size) v/\lm Ac env h d w [f] [(i,.live (.row E t ys))] i:=by
 cases cs with
 | nil=>cases e
 | cons s cs =>
 cases s with
 | own n sz =>
  simp only[H3,Q.run] at e;split at e
  .rename_i p0 q0 hk;obtain⟨rfl,rfl⟩:=e;split at hk
   .rename_i E' t' xs hl;split at hk
    next zs g a hc=>have g:=bH g;subst g;have a:=bH a;subst a;have ⟨et,ez⟩:=lv hc;subst et;subst ez;obtain⟨⟨rfl,rfl,rfl⟩,rfl⟩:=hk;obtain⟨x,c,rfl,hv,j⟩:=l;have ⟨h1,h2⟩:=aa7 m hA hl;refine⟨h1,rfl,rfl,x,c,rfl,j,λd i k=>⟨?_,h2 d i⟩⟩;simp only[ax];rw[k];exact hv
    .cases hk
   .cases hk
  .cases e
 | nilsl =>
  obtain⟨⟨rfl,rfl,rfl⟩,rfl⟩:=e;obtain⟨x,c,rfl,rfl,j⟩:=l;refine⟨⟨aw,aw⟩,rfl,rfl,_,c,rfl,j,λd i k=>⟨?_,⟨rfl,_,rfl,rfl,.inr ⟨rfl,_,_,rfl⟩⟩,aQ⟩⟩;exact .inl ⟨k,_,rfl⟩
 | _=>cases e
theorem a88{b a} {x} (e:(pX b .ali a).run h=cs6 x):∃ n r,a = .ptr n 0::r/\b=cs6 n/\x=(((),r,[],[],[]),[]):=by
 cases a with
 | nil=>cases e
 | cons s r =>
  cases s with
  | ptr n off=>cases off with
   | zero=>cases b with
    | none=>cases e
    | some m =>
     have e:(match ct7 n m with|true=>(Q.ret ((),r,[],[],[]):Q (Unit×List SV×List (Nat×Nm)×List Nat×List (Option Nat)))|false=>Q.fail).run h=cs6 x:=e;cases c:ct7 n m with
     | false=>rw[c] at e;cases e
     | true =>
      rw[c] at e;simp only[Q.run,cy] at e;exact⟨n,r,rfl,by rw[bH c],e.symm⟩
   | succ k=>cases e
  | _=>cases e
theorem ao2(h:Ig a0 n=ct4):False:=by cases a0 <;> cases h
theorem a74{i svs} {x} (e:(pX a0 (.hole i) svs).run h=cs6 x):∃ s r,svs=s::r/\s.one=cs8/\x=((s,r,[],[],[]),[]):=by
 cases svs with
 | nil=>cases e
 | cons s r =>
  simp only[pX] at e;split at e
  next h1=>simp only[Q.run,cy] at e;exact⟨s,r,rfl,h1,e.symm⟩
  .cases e
theorem Gf(m:Mod w0 N0 A env h w)(hA:∀ b,A b->Ac b)(a0):∀ o cs vs d rest fz bx cx r j i,
  (pX a0 o cs).run h=cs6 ((d,rest,fz,bx,cx),r)->aL A env w cs vs->(∀ k,iX env fz k->Ac k) →
  qB h fz/\o.wf d/\V bx=o.nb/\V cx=o.nc∧∃ us rs,vs=us++rs/\aL A env w rest rs∧∃ hl,(hl.map (·.1)=o.hx∧∀ p∈hl,ax A env w p.2.2 p.2.1) ∧
   ∀ envc,((∀ n,a0=cs6 n->envc PN=env n)->(∀ k n,bx[k]? = cs6 n->envc (PN+(j+k))=env n)->(∀ k q,cx[k]? = cs6 q->envc (QN+(i+k))=sm env q)->Xp envc hl →
    aL Ac envc w (qZ o d j i) us/\lm Ac env h envc w (bx.map cs6) (xE o d j i) (PN+j)/\lm Ac env h envc w cx (uy o d i) (QN+i))
 | .dat t,cs,vs,d,rest,fz,bx,cx,r,j,i,e,hd,hF=>by
  simp only[pX] at e;obtain⟨⟨d1,r1,f1⟩,q1,q2,e1,e2,rfl⟩:=Q.run_bind _ _ _ e;simp only[Q.run,cy,ck] at e2;obtain⟨⟨rfl,rfl,rfl,rfl,rfl⟩,rfl⟩:=e2;have ⟨p1,p2,p3,p4,p5⟩:=Ak m t cs vs d1 r1 f1 q1 e1 hd hA hF;refine⟨p1,MV _ _ _ _ p4,rfl,rfl,vs.take t.size,vs.drop t.size,(mj _ _).symm,p5,[],⟨rfl,aw⟩,λenvc _ _ _ _=>⟨?_,aQ,aQ⟩⟩;simp only[qZ];refine ML (by rw[fF];omega) ?_;refine jM (λ_ h=>h) (λ_ _ _=>rfl) t _ _ _ _ (λk hk=>?_) p4;simp only[gD,Cl];rw[ao hk]
 | .row E t,cs,vs,d,rest,fz,bx,cx,r,j,i,e,hd,hF=>by
  simp only[pX] at e;obtain⟨⟨d1,r1,o1⟩,q1,q2,e1,e2,rfl⟩:=Q.run_bind _ _ _ e;simp only[Q.run,cy,ck] at e2;obtain⟨⟨rfl,rfl,rfl,rfl,rfl⟩,rfl⟩:=e2;obtain⟨p1,-,-,v,vr,rfl,p2,p3⟩:=Su m hA e1 hd;refine⟨λn b hh=>by simp at hh,p1,rfl,rfl,[v],vr,rfl,p2,[],⟨rfl,aw⟩,λenvc _ _ hc _=>?_⟩;have ⟨k1,k2⟩:=p3 envc (QN+i) (hc 0 _ rfl);simp only[qZ,xE,uy,aL];exact⟨⟨v,[],rfl,k1,rfl⟩,aQ,k2⟩
 | .rowg E t,cs,vs,d,rest,fz,bx,cx,r,j,i,e,hd,hF=>by
  simp only[pX] at e;obtain⟨⟨d1,r1,o1⟩,q1,q2,e1,e2,rfl⟩:=Q.run_bind _ _ _ e;simp only[Q.run,cy,ck] at e2;obtain⟨⟨rfl,rfl,rfl,rfl,rfl⟩,rfl⟩:=e2;obtain⟨p1,-,-,v,vr,rfl,p2,p3⟩:=Su m hA e1 hd;refine⟨λn b hh=>by simp at hh,p1,rfl,rfl,[v],vr,rfl,p2,[],⟨rfl,aw⟩,λenvc _ _ hc _=>?_⟩;have ⟨k1,k2⟩:=p3 envc (QN+i) (hc 0 _ rfl);simp only[qZ,xE,uy,aL];exact⟨⟨v,[],rfl,k1,rfl⟩,aQ,k2⟩
 | .fnc f,cs0,vs,d,rest,fz,bx,cx,r,j,i,e,hd,hF=>by
  obtain⟨cs,rfl,e2⟩:=bn4 e;simp only[ck] at e2;obtain⟨⟨-,rfl,rfl,rfl,rfl⟩,rfl⟩:=e2;simp only[aL] at hd;obtain⟨u,vr,rfl,hu,hvr⟩:=hd;refine⟨λn b hh=>by simp at hh,aQ,rfl,rfl,[u],vr,rfl,hvr,[],⟨rfl,aw⟩,λenvc _ _ _ _=>⟨?_,aQ,aQ⟩⟩;simp only[qZ,aL];simp only[ax,aL] at hu;refine⟨u,[],rfl,?_,rfl⟩;simp only[ax,aL];exact hu
 | .ali,cs0,vs,d,rest,fz,bx,cx,r,j,i,e,hd,hF=>by
  obtain⟨n,cs,rfl,h0,e2⟩:=a88 e;simp only[ck] at e2;obtain⟨⟨-,rfl,rfl,rfl,rfl⟩,rfl⟩:=e2;simp only[aL,ax] at hd;obtain⟨u,vr,rfl,⟨k,len,hek,rfl⟩,hvr⟩:=hd;refine⟨λn b hh=>by simp at hh,aQ,rfl,rfl,[_],vr,rfl,hvr,[],⟨rfl,aw⟩,λenvc ha _ _ _=>⟨?_,aQ,aQ⟩⟩;simp only[qZ,aL,ax];exact⟨_,[],rfl,⟨k,len,by rw[ha n h0];exact hek,rfl⟩,rfl⟩
 | .hole i0,cs0,vs,d,rest,fz,bx,cx,r,j,i,e,hd,hF=>by
  obtain⟨s,cs,rfl,h1,e2⟩:=a74 e;simp only[ck] at e2;obtain⟨⟨rfl,rfl,rfl,rfl,rfl⟩,rfl⟩:=e2;simp only[aL] at hd;obtain⟨u,vr,rfl,hu,hvr⟩:=hd;refine⟨λn b hh=>by simp at hh,aQ,rfl,rfl,[u],vr,rfl,hvr,[(i0,u,d)],⟨rfl,λp hp=>?_⟩,λenvc _ _ _ hh=>⟨?_,aQ,aQ⟩⟩
  .rw[iV.1 hp];exact hu
  .simp only[qZ,aL,ax];exact⟨u,[],rfl,⟨hh _ (iV.2 rfl),Js hu h1⟩,rfl⟩
 | .ref E o,cs0,vs,d,rest,fz,bx,cx,r,j,i,e,hd,hF=>by
  obtain⟨n,cs,rfl⟩:=b03 e;simp only[pX,Q.run] at e;split at e
  .rename_i p0 q0 hk;simp only[cy,ck] at e;obtain⟨rfl,rfl⟩:=e;split at hk
   .rename_i E' cs' hl;split at hk
    .rename_i hE;have hE:=bH hE;subst hE;obtain⟨⟨d1,r1,f1,b1,c1⟩,q1,q2,e1,e2,rfl⟩:=Q.run_bind _ _ _ hk;split at e2
     .rename_i hr1;simp only at hr1;subst hr1;simp only[Q.run,cy,ck] at e2;obtain⟨⟨rfl,rfl,rfl,rfl,rfl⟩,rfl⟩:=e2;simp only[aL,ax] at hd;obtain⟨x,vr,rfl,⟨k,len,hek,rfl⟩,hr⟩:=hd;have ⟨⟨us,hus,hdu⟩,_⟩:=m.live_blk hl hek;have ⟨s1,s2,s3,s4,us',rs',s5,s6,hl',sh,s7⟩:=Gf m hA a0 o cs' us.toList d1 [] f1 b1 c1 q1 (j+1) i e1 hdu hF;simp only[aL] at s6;subst s6;rw[js] at s5;subst s5;refine⟨s1,s2,by simp only[fa,s3,OT.nb],s4,[_],vr,rfl,hr,hl',sh,λenvc ha hb hc hh=>?_⟩;have h0:=hb 0 n rfl;rw[kz] at h0;have ⟨k1,k2,k3⟩:=s7 envc ha (λk n hn=>by have:=hb (k+1) n (by simpa using hn);rwa [show j+(k+1)=j+1+k from by omega] at this) hc hh;refine⟨?_,⟨⟨rfl,_,rfl,rfl,.inl ⟨n,_,rfl,hl,rfl,λk' len' he=>?_,λhe=>?_⟩⟩,?_⟩,k3⟩
      .simp only[qZ,aL,ax];exact⟨_,[],rfl,⟨k,len,by rw[h0];exact hek,rfl⟩,rfl⟩
      .rw[hek] at he;cases he;exact⟨us,hus,k1⟩
      .rw[hek] at he;cases he
      .rw[show PN+j+1=PN+(j+1) from by omega];exact k2
     .cases e2
    .cases hk
   .cases hk
  .cases e
 | .pair a b,cs,vs,d,rest,fz,bx,cx,r,j,i,e,hd,hF=>by
  simp only[pX] at e;obtain⟨⟨d1,r1,f1,b1,c1⟩,q1,q2,e1,e2,rfl⟩:=Q.run_bind _ _ _ e;obtain⟨⟨d2,r2,f2,b2,c2⟩,q3,q4,e3,e4,rfl⟩:=Q.run_bind _ _ _ e2;simp only[Q.run,cy,ck] at e4;obtain⟨⟨rfl,rfl,rfl,rfl,rfl⟩,rfl⟩:=e4;have hF1:∀ k,iX env f1 k->Ac k:=λk ⟨n,x,l,hx,he⟩=>hF k ⟨n,x,l,gq _ hx,he⟩;have hF2:∀ k,iX env f2 k->Ac k:=λk ⟨n,x,l,hx,he⟩=>hF k ⟨n,x,l,gU _ hx,he⟩;obtain⟨s1,s2,s3,s4,us,rs,rfl,s6,hl1,sh1,s7⟩:=Gf m hA a0 a cs vs d1 r1 f1 b1 c1 q1 j i e1 hd hF1;obtain⟨t1,t2,t3,t4,us',rs',rfl,t6,hl2,sh2,t7⟩:=Gf m hA a0 b r1 rs d2 r2 f2 b2 c2 q3 (j+a.nb) (i+a.nc) e3 s6 hF2;refine⟨λn b hh=>?_,⟨s2,t2⟩,by simp only[cw,s3,t3,OT.nb],by simp only[cw,s4,t4,OT.nc],us++us',rs',by rw[gI],t6,hl1++hl2,⟨by rw[kV,sh1.1,sh2.1];rfl,λp hp=>(dX.1 hp).elim (sh1.2 p) (sh2.2 p)⟩,λenvc ha hb hc hh=>?_⟩
  .obtain hh|hh:=dX.1 hh
   .exact s1 n b hh
   .exact t1 n b hh
  .have ⟨k1,k2,k3⟩:=s7 envc ha (λk n hn=>hb k n (by rw[nJ (ct6.1 hn).1];exact hn)) (λk q hq=>hc k q (by rw[nJ (ct6.1 hq).1];exact hq)) (λp hp=>hh p (gq _ hp));have ⟨l1,l2,l3⟩:=t7 envc ha (λk n hn=>by
     have:=hb (a.nb+k) n (by rw[pn Y,s3,nW];exact hn)
     rwa [show j+(a.nb+k)=j+a.nb+k from by omega] at this)
    (λk q hq=>by
     have:=hc (a.nc+k) q (by rw[pn Y,s4,nW];exact hq)
     rwa [show i+(a.nc+k)=i+a.nc+k from by omega] at this) (λp hp=>hh p (gU _ hp))
   simp only[qZ,xE,uy];refine⟨vm k1 l1,?_,?_⟩
   .rw[kV];exact k2.append (by rw[nT,s3,jv];exact l2)
   .exact k3.append (by rw[s4,jv];exact l3)
theorem yP(m:Mod w0 N0 A env h w)(hA:∀ b,A b->Ac b):∀ a0 ps svs vs d fz bx cx r j i,
  (iC a0 ps svs).run h=cs6 ((d,fz,bx,cx),r)->aL A env w svs vs->(∀ k,iX env fz k->Ac k) →
  qB h fz/\xO ps d∧∃ hl,(hl.map (·.1)=mr ps∧∀ p∈hl,ax A env w p.2.2 p.2.1)∧∀ envc,((a0=ct4->j=0)->(∀ n,a0=cs6 n->envc PN=env n)->(∀ k n,bx[k]? = cs6 n->envc (PN+(j+k))=env n)->(∀ k q,cx[k]? = cs6 q->envc (QN+(i+k))=sm env q)->Xp envc hl →
   aL Ac envc w (iK ps d j i) vs/\lm Ac env h envc w (bx.map cs6) (rA ps d j i) (PN+j)/\lm Ac env h envc w cx (uD ps d i) (QN+i))
 | a0,[],[],vs,d,fz,bx,cx,r,j,i,e,hd,hF=>by
  simp only[iC,Q.run,cy,ck] at e;obtain⟨⟨-,rfl,rfl,rfl⟩,rfl⟩:=e;exact⟨λn b hh=>by simp at hh,aQ,[],⟨rfl,aw⟩,λ_ _ _ _ _ _=>⟨by simpa[iK,aL] using hd,aQ,aQ⟩⟩
 | a0,.val t::ps,v::svs,vs,d,fz,bx,cx,r,j,i,e,hd,hF=>by
  simp only[iC] at e;obtain⟨⟨d1,r1,f1⟩,q1,q2,e1,e2,rfl⟩:=Q.run_bind _ _ _ e;split at e2
  .rename_i hr1;simp only at hr1;subst hr1;obtain⟨⟨d2,f2,b2,c2⟩,q3,q4,e3,e4,rfl⟩:=Q.run_bind _ _ _ e2;simp only[Q.run,cy,ck] at e4;obtain⟨⟨rfl,rfl,rfl,rfl⟩,rfl⟩:=e4;simp only[aL] at hd;obtain⟨x,vr,rfl,hx,hr⟩:=hd;have hF1:∀ k,iX env f1 k->Ac k:=λk ⟨n,x,l,hx,he⟩=>hF k ⟨n,x,l,gq _ hx,he⟩;have hF2:∀ k,iX env f2 k->Ac k:=λk ⟨n,x,l,hx,he⟩=>hF k ⟨n,x,l,gU _ hx,he⟩;have ⟨p1,p2,p3,p4,_⟩:=Ak m t [v] [x] d1 [] f1 q1 e1 (by simp only[aL];exact⟨x,[],rfl,hx,rfl⟩) hA hF1;have ⟨s1,s4,hl2,sh2,s6⟩:=yP m hA a0 ps svs vr d2 f2 b2 c2 q3 j i e3 hr hF2;refine⟨λn b hh=>?_,⟨MV _ _ _ _ p4,s4⟩,hl2,sh2,λenvc hj ha hb hc hh=>?_⟩
   .obtain hh|hh:=dX.1 hh
    .exact p1 n b hh
    .exact s1 n b hh
   .have ⟨k1,k2,k3⟩:=s6 envc hj ha hb hc hh;refine⟨?_,k2,k3⟩;simp only[iK,aL];exact⟨x,vr,rfl,S6 (rest:=[]) p4,k1⟩
  .cases e2
 | a0,.nils::ps,svs0,vs,d,fz,bx,cx,r,j,i,e,hd,hF=>by
  obtain⟨svs,rfl⟩:=a46 e;simp only[iC] at e;obtain⟨⟨d2,f2,b2,c2⟩,q3,q4,e3,e4,rfl⟩:=Q.run_bind _ _ _ e;simp only[Q.run,cy,ck] at e4;obtain⟨⟨rfl,rfl,rfl,rfl⟩,rfl⟩:=e4;simp only[aL,ax] at hd;obtain⟨x,vr,rfl,rfl,hr⟩:=hd;have ⟨s1,s4,hl2,sh2,s6⟩:=yP m hA a0 ps svs vr d2 f2 b2 c2 q3 j i e3 hr hF;refine⟨s1,⟨aQ,s4⟩,hl2,sh2,λenvc hj ha hb hc hh=>?_⟩;have ⟨k1,k2,k3⟩:=s6 envc hj ha hb hc hh;refine⟨?_,k2,k3⟩;simp only[iK,aL,ax];exact⟨_,vr,rfl,rfl,k1⟩
 | a0,.yld ts k::ps,svs0,vs,d,fz,bx,cx,r,j,i,e,hd,hF=>by
  obtain⟨rc,us',cs,svs,rfl⟩:=cj5 e;simp only[iC] at e;split at e
  .rename_i hf hk;have hf:=KA hf;have hk:=bH hk;subst hf;obtain⟨⟨d2,f2,b2,c2⟩,q3,q4,e3,e4,rfl⟩:=Q.run_bind _ _ _ e;simp only[Q.run,cy,ck] at e4;obtain⟨⟨rfl,rfl,rfl,rfl⟩,rfl⟩:=e4;simp only[aL,ax] at hd;obtain⟨x,vr,rfl,⟨l,rfl,hl,hu⟩,hr⟩:=hd;have hul:=kr hu;have ⟨s1,s4,hl2,sh2,s6⟩:=yP m hA a0 ps (cs++svs) (_++vr) d2 f2 b2 c2 q3 j i e3 (vm hu hr) hF;refine⟨s1,⟨aQ,s4⟩,hl2,sh2,λenvc hj ha hb hc hh=>?_⟩;have ⟨k1,k2,k3⟩:=s6 envc hj ha hb hc hh;refine⟨?_,k2,k3⟩;simp only[iK,aL,ax];refine⟨_,vr,rfl,⟨l,rfl,hl,?_⟩,?_⟩
   .have:=Eb k k1
    rwa [cH5 Y] at this
   .have:=Eh k k1
    rwa [cK9 Y] at this
  .cases e
 | a0,.fn f k::ps,svs0,vs,d,fz,bx,cx,r,j,i,e,hd,hF=>by
  obtain⟨g,cs,svs,rfl⟩:=au3 e;simp only[iC] at e;split at e
  .rename_i hf hk;have hf:=bH hf;have hk:=bH hk;subst hf;obtain⟨⟨d2,f2,b2,c2⟩,q3,q4,e3,e4,rfl⟩:=Q.run_bind _ _ _ e;simp only[Q.run,cy,ck] at e4;obtain⟨⟨rfl,rfl,rfl,rfl⟩,rfl⟩:=e4;simp only[aL,ax] at hd;obtain⟨x,vr,rfl,⟨us,rfl,hu⟩,hr⟩:=hd;have hul:=kr hu;have ⟨s1,s4,hl2,sh2,s6⟩:=yP m hA a0 ps (cs++svs) (us.toList++vr) d2 f2 b2 c2 q3 j i e3 (vm hu hr) hF;refine⟨s1,⟨aQ,s4⟩,hl2,sh2,λenvc hj ha hb hc hh=>?_⟩;have ⟨k1,k2,k3⟩:=s6 envc hj ha hb hc hh;refine⟨?_,k2,k3⟩;simp only[iK,aL,ax];refine⟨_,vr,rfl,⟨us,rfl,?_⟩,?_⟩
   .have:=Eb k k1
    rwa [cH5 Y] at this
   .have:=Eh k k1
    rwa [cK9 Y] at this
  .cases e
 | a0,.agg t::ps,svs0,vs,d,fz,bx,cx,r,j,i,e,hd,hF=>by
  obtain⟨cs,svs,rfl⟩:=b46 e;simp only[iC] at e;obtain⟨⟨d1,r1,f1⟩,q1,q2,e1,e2,rfl⟩:=Q.run_bind _ _ _ e;split at e2
  .rename_i hr1;simp only at hr1;subst hr1;obtain⟨⟨d2,f2,b2,c2⟩,q3,q4,e3,e4,rfl⟩:=Q.run_bind _ _ _ e2;simp only[Q.run,cy,ck] at e4;obtain⟨⟨rfl,rfl,rfl,rfl⟩,rfl⟩:=e4;simp only[aL,ax] at hd;obtain⟨x,vr,rfl,⟨us,rfl,hx⟩,hr⟩:=hd;have hF1:∀ k,iX env f1 k->Ac k:=λk ⟨n,x,l,hx,he⟩=>hF k ⟨n,x,l,gq _ hx,he⟩;have hF2:∀ k,iX env f2 k->Ac k:=λk ⟨n,x,l,hx,he⟩=>hF k ⟨n,x,l,gU _ hx,he⟩;have ⟨p1,p2,p3,p4,_⟩:=Ak m t cs us.toList d1 [] f1 q1 e1 hx hA hF1;have ⟨s1,s4,hl2,sh2,s6⟩:=yP m hA a0 ps svs vr d2 f2 b2 c2 q3 j i e3 hr hF2;refine⟨λn b hh=>?_,⟨MV _ _ _ _ p4,s4⟩,hl2,sh2,λenvc hj ha hb hc hh=>?_⟩
   .obtain hh|hh:=dX.1 hh
    .exact p1 n b hh
    .exact s1 n b hh
   .have ⟨k1,k2,k3⟩:=s6 envc hj ha hb hc hh;refine⟨?_,k2,k3⟩;simp only[iK,aL,ax];exact⟨_,vr,rfl,⟨us,rfl,ML (by simpa using p3) p4⟩,k1⟩
  .cases e2
 | a0,.box E o::ps,svs0,vs,d,fz,bx,cx,r,j,i,e,hd,hF=>by
  obtain⟨n,svs,rfl⟩:=aJ9 e;simp only[iC,Q.run] at e;split at e
  .rename_i p0 q0 hk;simp only[cy,ck] at e;obtain⟨rfl,rfl⟩:=e;split at hk
   .rename_i E' cs hl;split at hk
    .rename_i hE;have hE:=bH hE;subst hE;obtain⟨⟨d1,r1,f1,b1,c1⟩,q1,q2,e1,e2,rfl⟩:=Q.run_bind _ _ _ hk;split at e2
     .rename_i hr1;simp only at hr1;subst hr1;obtain⟨⟨d2,f2,b2,c2⟩,q3,q4,e3,e4,rfl⟩:=Q.run_bind _ _ _ e2;simp only[Q.run,cy,ck] at e4;obtain⟨⟨rfl,rfl,rfl,rfl⟩,rfl⟩:=e4;simp only[aL,ax] at hd;obtain⟨x,vr,rfl,⟨k,len,hek,rfl⟩,hr⟩:=hd;have ⟨⟨us,hus,hdu⟩,_⟩:=m.live_blk hl hek;have hF1:∀ k,iX env f1 k->Ac k:=λk ⟨n,x,l,hx,he⟩=>hF k ⟨n,x,l,gq _ hx,he⟩;have hF2:∀ k,iX env f2 k->Ac k:=λk ⟨n,x,l,hx,he⟩=>hF k ⟨n,x,l,gU _ hx,he⟩;have ⟨p1,p2,p3,p4,us',rs',p5,p6,hl1,sh1,p7⟩:=Gf m hA a0 o cs us.toList d1 [] f1 b1 c1 q1 (j+1) i e1 hdu hF1;simp only[aL] at p6;subst p6;rw[js] at p5;subst p5;have ⟨s1,s4,hl2,sh2,s6⟩:=yP m hA (Ig a0 n) ps svs vr d2 f2 b2 c2 q3 (j+1+o.nb) (i+o.nc) e3 hr hF2;refine⟨λn b hh=>?_,⟨p2,s4⟩,hl1++hl2,⟨by rw[kV,sh1.1,sh2.1];rfl,λp hp=>(dX.1 hp).elim (sh1.2 p) (sh2.2 p)⟩,λenvc hj ha hb hc hh=>?_⟩
      .obtain hh|hh:=dX.1 hh
       .exact p1 n b hh
       .exact s1 n b hh
      .have h0:=hb 0 n rfl;rw[kz] at h0;have ⟨k1,k2,k3⟩:=p7 envc ha
        (λk n hn=>by
         have:=hb (k+1) n (by simp only[cN4];rw[nJ (ct6.1 hn).1];exact hn)
         rwa [show j+(k+1)=j+1+k from by omega] at this)
        (λk q hq=>hc k q (by rw[nJ (ct6.1 hq).1];exact hq)) (λp hp=>hh p (gq _ hp))
       have ⟨l1,l2,l3⟩:=s6 envc (λq=>(ao2 q).elim) (λn' hn=>by cases a0 with|some m=>exact ha n' hn|none=>cases hn;have e:=hj rfl;rw[e,kz] at h0;exact h0)
        (λk n hn=>by
         have:=hb (o.nb+k+1) n (by simp only[cN4];rw[pn Y,p3,nW];exact hn)
         rwa [show j+(o.nb+k+1)=j+1+o.nb+k from by omega] at this)
        (λk q hq=>by
         have:=hc (o.nc+k) q (by rw[pn Y,p4,nW];exact hq)
         rwa [show i+(o.nc+k)=i+o.nc+k from by omega] at this) (λp hp=>hh p (gU _ hp))
       refine⟨?_,⟨⟨rfl,_,rfl,rfl,.inl ⟨n,_,rfl,hl,rfl,λk' len' he=>?_,λhe=>?_⟩⟩,?_⟩,?_⟩
       .simp only[iK,aL,ax];exact⟨_,vr,rfl,⟨k,len,by rw[h0];exact hek,rfl⟩,l1⟩
       .rw[hek] at he;cases he;exact⟨us,hus,k1⟩
       .rw[hek] at he;cases he
       .rw[kV,show PN+j+1=PN+(j+1) from by omega];exact k2.append (by rw[nT,p3,show PN+(j+1)+o.nb=PN+(j+1+o.nb) from by omega];exact l2)
       .exact k3.append (by rw[p4,jv];exact l3)
     .cases e2
    .cases hk
   .cases hk
  .cases e
 | a0,.ago o::ps,svs0,vs,d,fz,bx,cx,r,j,i,e,hd,hF=>by
  obtain⟨cs,svs,rfl⟩:=aX8 e;simp only[iC] at e;split at e
  .rename_i hnb;have hnb:=bH hnb;obtain⟨⟨d1,r1,f1,b1,c1⟩,q1,q2,e1,e2,rfl⟩:=Q.run_bind _ _ _ e;split at e2
   .rename_i hr1;simp only at hr1;subst hr1;obtain⟨⟨d2,f2,b2,c2⟩,q3,q4,e3,e4,rfl⟩:=Q.run_bind _ _ _ e2;simp only[Q.run,cy,ck] at e4;obtain⟨⟨rfl,rfl,rfl,rfl⟩,rfl⟩:=e4;simp only[aL,ax] at hd;obtain⟨x,vr,rfl,⟨us,rfl,hdu⟩,hr⟩:=hd;have hF1:∀ k,iX env f1 k->Ac k:=λk ⟨n,x,l,hx,he⟩=>hF k ⟨n,x,l,gq _ hx,he⟩;have hF2:∀ k,iX env f2 k->Ac k:=λk ⟨n,x,l,hx,he⟩=>hF k ⟨n,x,l,gU _ hx,he⟩;have ⟨p1,p2,p3,p4,us',rs',p5,p6,hl1,sh1,p7⟩:=Gf m hA a0 o cs us.toList d1 [] f1 b1 c1 q1 j i e1 hdu hF1;simp only[aL] at p6;subst p6;rw[js] at p5;subst p5;have hb1:=Be (by rw[p3,hnb]);subst hb1;have ⟨s1,s4,hl2,sh2,s6⟩:=yP m hA a0 ps svs vr d2 f2 b2 c2 q3 j (i+o.nc) e3 hr hF2;refine⟨λn b hh=>?_,⟨p2,s4⟩,hl1++hl2,⟨by rw[kV,sh1.1,sh2.1];rfl,λp hp=>(dX.1 hp).elim (sh1.2 p) (sh2.2 p)⟩,λenvc hj ha hb hc hh=>?_⟩
    .obtain hh|hh:=dX.1 hh
     .exact p1 n b hh
     .exact s1 n b hh
    .have ⟨k1,k2,k3⟩:=p7 envc ha (λk n hn=>by simp at hn)
      (λk q hq=>hc k q (by rw[nJ (ct6.1 hq).1];exact hq)) (λp hp=>hh p (gq _ hp))
     have ⟨l1,l2,l3⟩:=s6 envc hj ha hb
      (λk q hq=>by
       have:=hc (o.nc+k) q (by rw[pn Y,p4,nW];exact hq)
       rwa [show i+(o.nc+k)=i+o.nc+k from by omega] at this) (λp hp=>hh p (gU _ hp))
     refine⟨?_,l2,?_⟩
     .simp only[iK,aL,ax];exact⟨_,vr,rfl,⟨us,rfl,k1⟩,l1⟩
     .exact k3.append (by rw[p4,jv];exact l3)
   .cases e2
  .cases e
 | a0,.own E t::ps,svs0,vs,d,fz,bx,cx,r,j,i,e,hd,hF=>by
  obtain⟨v,svs,rfl⟩:=cl5 e;simp only[iC] at e;obtain⟨⟨d1,r1,o1⟩,q1,q2,e1,e2,rfl⟩:=Q.run_bind _ _ _ e;obtain⟨⟨d2,f2,b2,c2⟩,q3,q4,e3,e4,rfl⟩:=Q.run_bind _ _ _ e2;simp only[Q.run,cy,ck] at e4;obtain⟨⟨rfl,rfl,rfl,rfl⟩,rfl⟩:=e4;simp only[aL] at hd;obtain⟨x,vr,rfl,hx,hr⟩:=hd;obtain⟨p1,-,-,v',vr',p2,-,p3⟩:=Su m hA e1 (vs:=[x]) (by simp only[aL];exact⟨x,[],rfl,hx,rfl⟩);cases p2;have ⟨s1,s4,hl2,sh2,s6⟩:=yP m hA a0 ps svs vr d2 f2 b2 c2 q3 j (i+1) e3 hr hF;refine⟨s1,⟨p1,s4⟩,hl2,sh2,λenvc hj ha hb hc hh=>?_⟩;have ⟨k1,k2⟩:=p3 envc (QN+i) (hc 0 _ rfl);have ⟨l1,l2,l3⟩:=s6 envc hj ha hb (λk q hq=>by have:=hc (k+1) q (by simpa using hq);rwa [show i+(k+1)=i+1+k from by omega] at this) hh;refine⟨?_,l2,?_⟩
  .simp only[iK,aL];exact⟨x,vr,rfl,k1,l1⟩
  .exact⟨k2.1,by rw[show QN+i+1=QN+(i+1) from by omega];exact l3⟩
 | a0,.row E t::ps,svs0,vs,d,fz,bx,cx,r,j,i,e,hd,hF=>by
  obtain⟨n,sz,svs,rfl⟩:=co1 e;simp only[iC,Q.run] at e;split at e
  .rename_i p0 q0 hk;simp only[cy,ck] at e;obtain⟨rfl,rfl⟩:=e;split at hk
   .rename_i E' t' xs hl;split at hk
    .rename_i ys hE hsz hc;have hE:=bH hE;subst hE;have hsz:=bH hsz;subst hsz;have ⟨et,ez⟩:=lv hc;subst et;simp only at ez;subst ez;obtain⟨⟨d2,f2,b2,c2⟩,q3,q4,e3,e4,rfl⟩:=Q.run_bind _ _ _ hk;simp only[Q.run,cy,ck] at e4;obtain⟨⟨rfl,rfl,rfl,rfl⟩,rfl⟩:=e4;simp only[aL,ax] at hd;obtain⟨x,vr,rfl,hv,hr⟩:=hd;have ⟨s1,s4,hl2,sh2,s6⟩:=yP m hA (Ig a0 n) ps svs vr d2 f2 b2 c2 q3 (j+1) i e3 hr hF;have ⟨hw,hlk⟩:=aa7 m hA hl;refine⟨s1,⟨hw,s4⟩,hl2,sh2,λenvc hj ha hb hc hh=>?_⟩;have h0:=hb 0 n rfl;rw[kz] at h0;have ⟨l1,l2,l3⟩:=s6 envc (λq=>(ao2 q).elim) (λn' hn=>by cases a0 with|some m=>exact ha n' hn|none=>cases hn;have e:=hj rfl;rw[e,kz] at h0;exact h0) (λk n hn=>by have:=hb (k+1) n (by simpa using hn);rwa [show j+(k+1)=j+1+k from by omega] at this) hc hh;refine⟨?_,⟨(hlk envc (PN+j)).1,by rw[show PN+j+1=PN+(j+1) from by omega];exact l2⟩,l3⟩;simp only[iK,aL,ax]
     exact⟨_,vr,rfl,by rw[h0];exact hv,l1⟩
    .cases hk
   .cases hk
  .cases e
 | a0,[],_::_,_,_,_,_,_,_,_,_,e,_,_=>by simp[iC,Q.run] at e
 | _,.val _::_,[],_,_,_,_,_,_,_,_,e,_,_=>by simp[iC,Q.run] at e
end
end Go.SX
namespace Go.SX
section
variable {w0:cu6} {N0:fT} {A Ac:Nat->Prop} {env:bt} {h:cq} {w:cu6}
def Gt:List Nat->Bool
 | []=>cs8
 | n::r => !rp n r&&Gt r
theorem Qk:∀{l:List Nat},Gt l=cs8->l.Nodup
 | [],_=>List.nodup_nil
 | n::r,h=>by
  simp only[Gt,fB,sS] at h;refine cH1.2 ⟨λhm=>?_,Qk h.2⟩;rw[Bd.2 hm] at h;cases h.1
def jw:List (Option Nat)->List Nat
 | []=>[]
 | none::r=>jw r
 | some n::r=>n::jw r
theorem BW{n}:∀{l:List (Option Nat)},n∈jw l↔cs6 n∈l
 | []=>by simp[jw]
 | none::r=>by simp[jw,BW (l:=r)]
 | some m::r=>by simp[jw,BW]
theorem RF{n}:∀{l:List (Option Nat)}{i i':Nat},(jw l).Nodup->l[i]? = cs6 (cs6 n)->l[i']? = cs6 (cs6 n)->i=i'
 | none::r,i,i',b,h,a=>by
  cases i with
  | zero=>simp at h
  | succ i=>cases i' with
   | zero=>simp at a
   | succ i'=>have:=RF (i':=i') (l:=r) b (by simpa using h) (by simpa using a);omega
 | some m::r,i,i',b,h,a=>by
  have ⟨c,h2⟩:=cH1.1 b;cases i with
  | zero =>
   simp at h;subst h;cases i' with
   | zero=>rfl
   | succ i'=>exact absurd (BW.2 (tQ (by simpa using a))) c
  | succ i=>cases i' with
   | zero=>simp at a;subst a;exact absurd (BW.2 (tQ (by simpa using h))) c
   | succ i'=>have:=RF (i':=i') h2 (by simpa using h) (by simpa using a);omega
def rY(bx:List Nat)(cx:List (Option Nat))(n:Nat):Option (Option Nat):=match cx6 QN n with
 | true=>cx[n-QN]?
 | false=>match cx6 PN n with
  | true=>match bx[n-PN]? with
   | some m=>cs6 (cs6 m)
   | none=>ct4
  | false=>ct4
def Aj:List (Nat×ct8×SV)->Nat->Ev
 | [],_ => .un
 | (i,v,s)::r,n=>match ct7 n (HN+i) with
  | true => .val v s
  | false=>Aj r n
def lQ(env:bt)(bx:List Nat)(cx:List (Option Nat))(hl:List (Nat×ct8×SV)):bt:=λn=>match rY bx cx n with
 | some o=>sm env o
 | none=>Aj hl n
variable{bx:List Nat}{cx:List (Option Nat)}{n:Nat}
theorem Ud{i}(hl:V bx<=PN)(hi:bx[i]? = cs6 n):rY bx cx (PN+i)=cs6 (cs6 n):=by
 have hlt:=(ct6.1 hi).1
 have h2:QN=PN+PN:=rfl
 unfold rY
 have h1:cx6 QN (PN+i)=false:=by
  cases hb:cx6 QN (PN+i) with
  | false=>rfl
  | true=>have:=lX hb;omega
 rw[h1,cD2 Y]
 simp_all
theorem U8{i o}(hi:cx[i]? = cs6 o):rY bx cx (QN+i)=cs6 o:=by
 unfold rY
 rw[cD2 Y]
 simp_all
theorem KX{o}(e:rY bx cx n=cs6 o):(∃ i m,bx[i]? = cs6 m/\n=PN+i/\n<QN/\o=cs6 m)∨∃ i,cx[i]? = cs6 o/\n=QN+i:=by
 unfold rY at e
 split at e
 next a=>have:=lX a;grind
 next a=>
  have hlt:n<QN:=by
   refine Nat.lt_of_not_le λb=>?_;rw[cD2 b] at a;cases a
  split at e
  next a=>have:=lX a;grind
  .cases e
variable{hv:List (Nat×ct8×SV)}
theorem K7{i}(hl:V bx<=PN)(hi:bx[i]? = cs6 n):lQ env bx cx hv (PN+i)=env n:=by
 unfold lQ;rw[Ud hl hi];rfl
theorem Us{i o}(hi:cx[i]? = cs6 o):lQ env bx cx hv (QN+i)=sm env o:=by
 unfold lQ;rw[U8 hi]
theorem Va{i}(hb:V bx<=HN-PN)(hi:i<QN-HN):rY bx cx (HN+i)=none:=by
 have h1:QN=2097152:=rfl
 have h2:PN=1048576:=rfl
 have h3:HN=1572864:=rfl
 unfold rY
 have hf:cx6 QN (HN+i)=false:=by
  cases hb:cx6 QN (HN+i) with
  | false=>rfl
  | true=>have:=lX hb;omega
 rw[hf,cD2 Y]
 simp only
 rw[xQ Y]
theorem Ry:∀{hl:List (Nat×ct8×SV)},(hl.map (·.1)).Nodup→∀ p∈hl,Aj hl (HN+p.1) = .val p.2.1 p.2.2
 | [],_,p,hp=>by cases hp
 | (i,v,s)::r,hn,p,hp=>by
  simp only[f6,cH1] at hn;simp only[Aj];rcases dm.1 hp with rfl|hp
  .rw[wK]
  .have hne:ct7 (HN+p.1) (HN+i)=false:=by
    cases hb:ct7 (HN+p.1) (HN+i) with
    | false=>rfl
    | true =>
     have:=bH hb;have:p.1=i:=Y;exact absurd (this▸si (f:=(·.1)) hp) hn.1
   rw[hne];exact Ry hn.2 p hp
theorem ak7:∀{hl:List (Nat×ct8×SV)}{n:Nat},(∀ i,i∈hl.map (·.1)->n≠HN+i)->Aj hl n = .un
 | [],n,_=>rfl
 | (i,v,s)::r,n,h=>by
  simp only[Aj];have hne:ct7 n (HN+i)=false:=by
   cases hb:ct7 n (HN+i) with
   | false=>rfl
   | true=>exact absurd (bH hb) (h i aw)
  rw[hne];exact ak7 λi hi=>h i (by simp[hi])
theorem bd0{hl k l}:Aj hl n ≠ .blk k l:=by
 induction hl with
 | nil=>simp[Aj]
 | cons p r ih =>
  have ⟨i,v,s⟩:=p;simp only[Aj];split
  .simp
  .exact ih
theorem WR:∀{l:List Nat}{n:Nat},(dK (vS l) n = .dead∧∃ i∈l,n=HN+i)∨(dK (vS l) n = .un∧∀ i∈l,n≠HN+i)
 | [],n => .inr ⟨rfl,aw⟩
 | i::r,n=>by
  simp only[vS,dK];cases hb:ct7 n (HN+i) with
  | true=>exact .inl ⟨rfl,i,aw,bH hb⟩
  | false =>
   rcases WR (l:=r) (n:=n) with⟨h1,i',h2,h3⟩|⟨h1,h2⟩
   .exact .inl ⟨h1,i',by simp[h2],h3⟩
   .refine .inr ⟨h1,λj hj=>?_⟩;obtain rfl|hj:=dm.1 hj
    .intro e;rw[e,wK] at hb;cases hb
    .exact h2 j hj
def DX(env:bt)(bx:List Nat)(k:Nat):Prop:=∃ n l,n∈bx/\env n = .blk k l
theorem Jg{a b}:dK (a++b) n=if n∈a.map (·.1) then dK a n else dK b n:=by
 induction a with
 | nil=>simp
 | cons p a ih =>
  have ⟨m,x⟩:=p;simp only[kQ,dK,f6,dm];cases c:ct7 n m with
  | true=>have:=bH c;simp[this]
  | false =>
   have d:¬ n=m:=λe=>by rw[e,wK] at c;cases c
   simp only[d,false_or,ih]
variable{lb lc:List (Nat×Nm)}
theorem aK3{A' e'}(ix)(hl:V bx<=PN)(hb:lm A' env h e' w (bx.map cs6) lb PN)(hc:lm A' env h e' w cx lc QN) :
  (∀ n o,rY bx cx n=cs6 o→∃ b',dK (lb++(lc++vS ix)) n = .live b'∧b'.mut=cs8/\((∃ q b,o=cs6 q/\h q = .live b/\b.mut=cs8/\(∀ k len,env q = .blk k len->mS A' e' w k len b')/\(env q = .nil→∃ E t,b' = .row E t []))∨(o=ct4∧∃ E t,b' = .row E t []))) ∧
  (∀ n,rY bx cx n=ct4->dK (lb++(lc++vS ix)) n=dK (vS ix) n):=by
 have ⟨hbl,hbg⟩:=hb.get
 have ⟨hcl,hcg⟩:=hc.get
 have kb:∀ n,n∈lb.map (·.1)→∃ i,i<V bx/\n=PN+i:=λn hn=>by
  obtain⟨⟨n',x⟩,hx,rfl⟩:=cv1.1 hn;have ⟨i,o,h1,h2⟩:=hb.keys _ _ hx;exact⟨i,by have:=(ct6.1 h2).1;simpa using this,h1⟩
 have kc:∀ n,n∈lc.map (·.1)→∃ i o,cx[i]? = cs6 o/\n=QN+i:=λn hn=>by
  obtain⟨⟨n',x⟩,hx,rfl⟩:=cv1.1 hn;have ⟨i,o,h1,h2⟩:=hc.keys _ _ hx;exact⟨i,o,h2,h1⟩
 have h2:QN=PN+PN:=rfl
 refine⟨λn o e=>?_,λn e=>?_⟩
 .obtain⟨i,m,hi,rfl,hlt,rfl⟩|⟨i,hi,rfl⟩:=KX e
  .have ⟨b',g1,g2,g3⟩:=hbg i (cs6 m) (by simp[hi]);refine⟨b',?_,g3⟩;rw[Jg,ao (si (f:=(·.1)) g2)];exact g1
  .have ⟨b',g1,g2,g3⟩:=hcg i o hi;refine⟨b',?_,g3⟩;rw[Jg,I]
   .rw[Jg,ao (si (f:=(·.1)) g2)];exact g1
   .intro hmem;have ⟨i',hi',e'⟩:=kb _ hmem;omega
 .rw[Jg,I]
  .rw[Jg,I];intro hmem;obtain⟨i,o,hi,rfl⟩:=kc n hmem;rw[U8 hi] at e;cases e
  .intro hmem;obtain⟨i,hi,rfl⟩:=kb n hmem;rw[Ud hl (cT hi)] at e;cases e
theorem Mod.call(m:Mod w0 N0 A env h w){fz:List (Nat×Nm)}(hv:List (Nat×ct8×SV))(hfz:qB h fz)(hl:V bx<=PN)
  (hb:lm (iQ A env fz) env h (lQ env bx cx hv) w (bx.map cs6) lb PN) (hc:lm (iQ A env fz) env h (lQ env bx cx hv) w cx lc QN)
  (hdj:∀ n,n∈bx++jw cx->n ∉ fz.map (·.1)) (hnd:(bx++jw cx).Nodup) :
  Mod w ⟨DX env (bx++jw cx),iQ A env fz,N0.g⟩ (iQ A env fz) (lQ env bx cx hv) (dK (lb++(lc++vS (hv.map (·.1))))) w:=by
 have ⟨hg,hgn⟩:=aK3 (hv.map (·.1)) hl hb hc
 have mf:=(m.freeze hfz).1
 have memS:∀ {n o q},rY bx cx n=cs6 o->o=cs6 q->q∈bx++jw cx:=λ{n o q} e eo=>by
  subst eo;obtain⟨i,m,hi,_,_,e⟩|⟨i,hi,_⟩:=KX e
  .cases e;exact gq _ (tQ hi)
  .exact gU _ (BW.2 (tQ hi))
 have inj:∀ {n n' q},rY bx cx n=cs6 (cs6 q)->rY bx cx n'=cs6 (cs6 q)->n=n':=λ{n n' q} e e'=>by
  have ⟨hn1,hn2,hn3⟩:=cR7.1 hnd;obtain⟨i,m,hi,rfl,_,em⟩|⟨i,hi,rfl⟩:=KX e <;> obtain⟨i',m',hi',rfl,_,em'⟩|⟨i',hi',rfl⟩:=KX e'
  .cases em;cases em';have:=(List.getElem?_inj (ct6.1 hi).1 hn1).1 (hi.trans hi'.symm);rw[this]
  .cases em;exact absurd rfl (hn3 _ (tQ hi) _ (BW.2 (tQ hi')))
  .cases em';exact absurd rfl (hn3 _ (tQ hi') _ (BW.2 (tQ hi)))
  .rw[RF hn2 hi hi']
 have blk:∀ {n k l},lQ env bx cx hv n = .blk k l→∃ q,rY bx cx n=cs6 (cs6 q)/\env q = .blk k l:=λ{n k l} he=>by
  unfold lQ at he;split at he
  .rename_i o ho;cases o with
   | none=>cases he
   | some q=>exact⟨q,ho,he⟩
  .exact absurd he bd0
 refine⟨rfl,rfl,rfl,dq _,dq _,λ_ _ _=>rfl,mf.Alt,?_,?_,?_,λb hb=>.inl hb,mf.gl⟩
 .intro n;cases hs:rY bx cx n with
  | none =>
   rw[hgn n hs];obtain⟨h1,_⟩|⟨h1,h2⟩:=WR (l:=hv.map (·.1)) (n:=n)
   .rw[h1];trivial
   .rw[h1];show lQ env bx cx hv n = .un;unfold lQ;rw[hs];exact ak7 h2
  | some o =>
   have ⟨b',g1,g4,g5⟩:=hg n o hs;rw[g1];have he:lQ env bx cx hv n=sm env o:=by unfold lQ;rw[hs]
   obtain⟨q,b,rfl,g2,g3,g5,g6⟩|⟨rfl,E,t,e2⟩:=g5
   .have hm:=m.nm q;rw[g2] at hm;obtain⟨kk,len,e1,_⟩|⟨e1,_⟩:=hm
    .refine .inl ⟨kk,len,by rw[he];exact e1,g5 _ _ e1,λ_ hA=>?_⟩;obtain hA|⟨n',x',l',hx,he'⟩:=hA
     .exact (m.live_blk g2 e1).2 g3 hA
     .have ⟨E,t,xs,hl',_⟩:=hfz n' x' hx;have:=m.inj q n' b _ kk len l' g2 hl' g3 rfl e1 he';subst this;exact hdj q (memS hs rfl) (si (f:=(·.1)) hx)
    .have ⟨E,t,e⟩:=g6 e1;exact .inr ⟨by rw[he];exact e1,E,t,.inl e⟩
   .exact .inr ⟨by rw[he];rfl,E,t,.inl e2⟩
 .intro n b k l hl hm he;have ⟨q,hs,e2⟩:=blk he;exact .inl ⟨q,l,memS hs rfl,e2⟩
 .intro n n' b c k l l' hl hl' hm hm' he he';have ⟨q,hs,e1⟩:=blk he;have ⟨q',hs',e2⟩:=blk he';obtain⟨b1,_,_,⟨q1,c1,e,g2,g3,_⟩|⟨e,_⟩⟩:=hg n _ hs
  .obtain⟨b2,_,_,⟨q2,c2,e',f2,f3,_⟩|⟨e',_⟩⟩:=hg n' _ hs'
   .cases e;cases e';have:=m.inj q q' c1 c2 k l l' g2 f2 g3 f3 e1 e2;subst this;exact inj hs hs'
   .cases e'
  .cases e
def gS(R:Rn)(env env1:bt):bt:=λn=>match cD R n with
 | none=>env n
 | some _=>iY R env1 n
theorem Mod.retn{z A' A1:Nat->Prop}{a:bt}{hs h1:cq}{j:cu6}{A:fT}{U:List (Nat×Nm)}{R:Rn}
  (ms:Mod w0 N0 z env hs w) (m1:Mod w A A1 a h1 j) (hshape:∀ b s,w.shape? b=cs6 s->j.shape? b=cs6 s)
  (hU:∀ n x,(n,x)∈U->x = .dead∨∃ b,x = .live b/\b.mut=cs8/\((∃ m b0,cD R n=cs6 (cs6 m)/\h1 m = .live b0/\b0.mut=cs8 ∧
   (∀ k len,a m = .blk k len->mS A' (gS R env a) j k len b)/\(a m = .nil→∃ E t,b = .row E t []))∨(cD R n=cs6 ct4∧∃ E t,b = .row E t [])))
  (B:∀ n,cD R n≠ct4->n∈U.map (·.1)) (S:jl R)
  (D:∀ n,cD R n≠ct4->hs n = .un∨∃ b,hs n = .live b/\b.mut=cs8/\(iY R a n=env n))
  (hNc:∀ k,A.n k→∃ n b l,n∈U.map (·.1)/\hs n = .live b/\b.mut=cs8/\env n = .blk k l)
  (hA:∀ b,z b->A' b) (hA1:∀ b,A' b->z b∨((A.n b∨w.heap.size<=b)/\b<j.heap.size))
  (hAm:∀ m b k l,h1 m = .live b->b.mut=cs8->a m = .blk k l->(∃ n,cD R n=cs6 (cs6 m))→¬ A' k) :
  Mod w0 N0 A' (gS R env a) (dM U hs) j/\dQ z env w A' (gS R env a) j:=by
 have src:∀ k,(A.n k∨w.heap.size<=k)->KU (λn=>n∈U.map (·.1)) env hs w k:=λk hk=>by
  obtain hk|hk:=hk
  .have ⟨n,b,l,e1,e2,o,e4⟩:=hNc k hk;exact .inr ⟨n,b,l,e1,e2,o,e4⟩
  .exact .inl hk
 have mem:∀ n,n∈U.map (·.1)->(n,dM U hs n)∈U:=λn hn=>by
  have g:∀(F:List (Nat×Nm)) ,n∈F.map (·.1)->(n,dM F hs n)∈F:=by
   intro F
   induction F with
   | nil=>intro h;simp at h
   | cons p F ih =>
    have ⟨q,y⟩:=p;by_cases hq:n=q
    .subst hq;simp[dM]
    .rw[dM,cq.set_other _ _ hq];grind
  exact g U hn
 have envR:∀ n y,cD R n=cs6 y->gS R env a n=iY R a n:=λn y hn=>by
  unfold gS;rw[hn]
 have u:mH (λn=>n∈U.map (·.1)) A.n z env hs w A' (gS R env a) (dM U hs) j:=by
  refine⟨⟨m1.os,m1.tape,m1.output,m1.dr,m1.size,m1.fr,hshape⟩,?_,hA,?_,?_,?_,λn hn=>rq hn,?_,?_,?_⟩
  .grind
  .grind
  .intro n hn;unfold gS;cases g:cD R n with
   | none=>rfl
   | some y=>exact absurd (B n (by rw[g];simp)) hn
  .intro n hn;unfold gS;cases g:cD R n with
   | none=>rfl
   | some y =>
    obtain h|⟨b,_,_,h⟩:=D n (by rw[g];simp)
    .exact absurd (by have:=ms.nm n;rw[h] at this;exact this) hn
    .exact h
  .intro n hn;have d:=mem n hn;obtain e|⟨b,e,hmut,hh⟩:=hU n _ d
   .rw[e];trivial
   .rw[e];obtain⟨i,b0,e1,e2,o,e4,e5⟩|⟨e1,E,t,e2⟩:=hh
    .have f:gS R env a n=a i:=by rw[envR n _ e1,vn e1]
     have r:=m1.nm i;rw[e2] at r;obtain⟨k,len,he',_,_⟩|⟨he',_⟩:=r
     .exact .inl ⟨k,len,f.trans he',e4 k len he',λ_=>hAm i b0 k len e2 o he' ⟨n,e1⟩⟩
     .have ⟨E,t,e⟩:=e5 he';exact .inr ⟨f.trans he',E,t,.inl e⟩
    .exact .inr ⟨by rw[envR n _ e1,HD e1],E,t,.inl e2⟩
  .intro n b k l hn g hm f;have d:=mem n hn;rw[g] at d;obtain e|⟨b',e,hmut,hh⟩:=hU n _ d
   .cases e
   .obtain⟨i,b0,e1,e2,o,_⟩|⟨e1,_⟩:=hh
    .rw[envR n _ e1,vn e1] at f;exact src k (m1.own i b0 k l e2 o f)
    .rw[envR n _ e1,HD e1] at f;cases f
  .intro n n' b c k l l' hn hn' g hl' hm r f he';have hmem1:=mem n hn;have hmem2:=mem n' hn';rw[g] at hmem1;rw[hl'] at hmem2;obtain e|⟨_,_,_,hh1⟩:=hU n _ hmem1
   .cases e
   obtain e|⟨_,_,_,hh2⟩:=hU n' _ hmem2
   .cases e
   obtain⟨i,b0,e1,e2,o,_⟩|⟨e1,_⟩:=hh1
   .rw[envR n _ e1,vn e1] at f;obtain⟨m2,c0,v,f2,f3,_⟩|⟨v,_⟩:=hh2
    .rw[envR n' _ v,vn v] at he';have:=m1.inj i m2 b0 c0 k l l' e2 f2 o f3 f he';subst this;exact S n n' i e1 v
    .rw[envR n' _ v,HD v] at he';cases he'
   .rw[envR n _ e1,HD e1] at f;cases f
 exact⟨ms.upd u,ms.ext u⟩
end
end Go.SX
namespace Go.SX
def CT.plain:CT->Bool
 | .sl _=>ct2
 | .pair a b=>a.plain&&b.plain
 | _=>cs8
theorem RT{A A' w w'}:∀{t:CT}{cv:Nat->Option ct8}{o:Nat}{d:t.D},t.plain=cs8->Rd A w t cv o d->Rd A' w' t cv o d
 | .int k,cv,o,d,_,h=>h
 | .bool,cv,o,d,_,h=>h
 | .str,cv,o,d,_,h=>h
 | .pair a b,cv,o,d,e,h=>by
  simp only[CT.plain,fB] at e;exact⟨RT e.1 h.1,RT e.2 h.2⟩
theorem KN{A A' w t cv o d}(L:t.plain=cs8∨∀ b,A b->A' b)(h:Rd A w t cv o d):Rd A' w t cv o d:=by
 obtain L|L:=L
 .exact RT L h
 .exact jM L (λ_ _ _=>rfl) t _ _ _ _ (λ_ _=>rfl) h
inductive RK where
 | val (t:CT)
 | agg (o:OT)
 | own (E:ct5) (t:CT)
 | box (E:ct5) (o:OT)
 | fn (f:cy6) (k:Nat)
 | arr (k:cv3) (n:Nat)
@[reducible] def RK.D:RK->Type
 | .val t=>t.D
 | .agg o=>o.X
 | .own _ t=>List t.D
 | .box _ o=>o.X
 | .fn _ _=>Unit
 | .arr _ _=>Z
@[reducible] def jK:List RK->Type
 | []=>Unit
 | p::r=>p.D×jK r
@[reducible] def gz:List PK->Type
 | []=>Unit
 | .val _::r=>gz r
 | .agg _::r=>gz r
 | .own _ _::r=>gz r
 | .ago _::r=>gz r
 | .fn _ _::r=>gz r
 | .nils::r=>gz r
 | .yld _ _::r=>gz r
 | .box _ o::r=>o.X×gz r
 | .row _ t::r=>List t.D×gz r
def OT.plain:OT->Bool
 | .dat t=>t.plain
 | .row _ t=>t.plain
 | .rowg _ _=>cs8
 | .fnc _=>cs8
 | .ali=>cs8
 | .hole _=>cs8
 | .ref _ o=>o.plain
 | .pair a b=>a.plain&&b.plain
def vN:List RK->Bool
 | []=>cs8
 | .val t::r=>t.plain&&vN r
 | .agg o::r=>o.plain&&vN r
 | .own _ t::r=>t.plain&&vN r
 | .box _ o::r=>o.plain&&vN r
 | .fn _ _::r=>vN r
 | .arr _ _::r=>vN r
def oD:List PK->Bool
 | []=>cs8
 | .val _::r=>oD r
 | .agg _::r=>oD r
 | .own _ _::r=>oD r
 | .ago _::r=>oD r
 | .fn _ _::r=>oD r
 | .nils::r=>oD r
 | .yld _ _::r=>oD r
 | .box _ o::r=>o.plain&&oD r
 | .row _ t::r=>t.plain&&oD r
structure Ct where
 ps:List PK
 rs:List RK
 pre:bG ps->List Prop
 out:bG ps->jK rs×gz ps
def KK(E:ct5)(t:CT)(h:cq):List SV->Option (List t.D×List SV×Option Nat)
 | .own m sz::r=>match h m with
  | .live (.row E' t' xs)=>match ct7 E E',ct7 sz t.size,iP t' t xs with
   | true,cs8,cs6 ys=>cs6 (ys,r,cs6 m)
   | _,_,_=>ct4
  | _=>ct4
 | .nilsl::r=>cs6 ([],r,ct4)
 | _=>ct4
def nB(h:cq)(al:Bool):(o:OT)->Option Nat->List SV->Option (o.X×List SV×List (Nat×Nm)×List (Option Nat))
 | .dat t,_,cs=>match (mB t cs).run h with
  | some ((x,r,fz),_)=>cs6 (x,r,fz,[])
  | none=>ct4
 | .row E t,_,cs=>match KK E t h cs with
  | some (ys,r,o)=>cs6 (ys,r,[],[o])
  | none=>ct4
 | .rowg _ _,_,_::r=>cs6 ((),r,[],[])
 | .rowg _ _,_,[]=>ct4
 | .fnc f,_,.fn g []::r=>match ct7 f g with
  | true=>cs6 ((),r,[],[])
  | false=>ct4
 | .fnc _,_,_=>ct4
 | .ali,_,.ptr m 0::r=>match al,ct7 m PN with
  | true,cs8=>cs6 ((),r,[],[])
  | _,_=>ct4
 | .ali,_,_=>ct4
 | .hole i,_,.hv j s::r=>match ct7 j (HN+i) with
  | true=>cs6 (s,r,[],[])
  | false=>ct4
 | .hole _,_,_=>ct4
 | .ref E o,cs6 j,.ptr m 0::r=>match ct7 m (PN+j),h m with
  | true,.live (.cells E' cs)=>match ct7 E E',nB h al o (cs6 (j+1)) cs with
   | true,cs6 (x,[],fz,ow)=>cs6 (x,r,fz,ow)
   | _,_=>ct4
  | _,_=>ct4
 | .ref _ _,_,_=>ct4
 | .pair a b,j,cs=>match nB h al a j cs with
  | some (x,r,f,w)=>match nB h al b (j.map (· + a.nb)) r with
   | some (y,r',f',w')=>cs6 ((x,y),r',f++f',w++w')
   | none=>ct4
  | none=>ct4
def n9(al:Bool):(rs:List RK)->List SV->cq->Option (jK rs×List (Nat×Nm)×List (Option Nat))
 | [],[],_=>cs6 ((),[],[])
 | .val t::rs,v::vs,h=>match (mB t [v]).run h with
  | some ((x,[],fz),_)=>match n9 al rs vs h with
   | some (y,f,o)=>cs6 ((x,y),fz++f,o)
   | none=>ct4
  | _=>ct4
 | .agg t::rs,.agg cs::vs,h=>match nB h al t ct4 cs with
  | some (x,[],fz,w)=>match n9 al rs vs h with
   | some (y,f,o)=>cs6 ((x,y),fz++f,w++o)
   | none=>ct4
  | _=>ct4
 | .own E t::rs,v::vs,h=>match KK E t h [v] with
  | some (x,_,w)=>match n9 al rs vs h with
   | some (y,f,o)=>cs6 ((x,y),f,w::o)
   | none=>ct4
  | none=>ct4
 | .box E t::rs,.ptr m 0::vs,h=>match h m with
  | .live (.cells E' cs)=>match ct7 E E',nB h al t ct4 cs with
   | true,cs6 (x,[],fz,w)=>match n9 al rs vs h with
    | some (y,f,o)=>cs6 ((x,y),fz++f,cs6 m::(w++o))
    | none=>ct4
   | _,_=>ct4
  | _=>ct4
 | .fn f k::rs,.fn g cs::vs,h=>match ct7 f g,ct7 (V cs) k with
  | true,cs8=>match n9 al rs (cs++vs) h with
   | some (y,f',o)=>cs6 (((),y),f',o)
   | none=>ct4
  | _,_=>ct4
 | .arr k n::rs,.arr k' m xs::vs,h=>match j3 k k',ct7 n m,n9 al rs vs h with
  | true,cs8,cs6 (y,f,o)=>cs6 ((xs,y),f,o)
  | _,_,_=>ct4
 | _,_,_=>ct4
def nD:(ps:List PK)->Nat->cq->Option (gz ps×List (Nat×Nm)×List (Option Nat))
 | [],_,_=>cs6 ((),[],[])
 | .val _::ps,j,h=>nD ps j h
 | .agg _::ps,j,h=>nD ps j h
 | .own _ _::ps,j,h=>nD ps j h
 | .ago _::ps,j,h=>nD ps j h
 | .fn _ _::ps,j,h=>nD ps j h
 | .nils::ps,j,h=>nD ps j h
 | .yld _ _::ps,j,h=>nD ps j h
 | .box E t::ps,j,h=>match h (PN+j) with
  | .live (.cells E' cs)=>match ct7 E E',nB h cs8 t (cs6 (j+1)) cs with
   | true,cs6 (x,[],fz,w)=>match nD ps (j+1+t.nb) h with
    | some (y,f,o)=>cs6 ((x,y),fz++f,w++o)
    | none=>ct4
   | _,_=>ct4
  | _=>ct4
 | .row E t::ps,j,h=>match h (PN+j) with
  | .live (.row E' t' xs)=>match ct7 E E',iP t' t xs with
   | true,cs6 ys=>match nD ps (j+1) h with
    | some (y,f,o)=>cs6 ((ys,y),f,o)
    | none=>ct4
   | _,_=>ct4
  | _=>ct4
def BO(n:Nat):List (Option Nat)->Bool
 | []=>ct2
 | some m::r=>ct7 n m||BO n r
 | none::r=>BO n r
def CD(fz:List (Nat×Nm)):List (Option Nat)->Bool
 | []=>cs8
 | none::r=>CD fz r
 | some m::r=>(cI0 m PN||cx6 QN m)&&Du m fz && !BO m r&&CD fz r
def FB:List (Nat×Nm)->Bool
 | []=>cs8
 | (n,_)::r=>(cI0 n PN||cx6 QN n)&&FB r
def oY(b0:Nat):(o:OT)->o.X->List Nat->Nat->List SV
 | .dat t,x,_,_=>cS t x
 | .row _ t,_,_,n=>[.own n t.size]
 | .rowg _ _,_,_,_=>[.junk]
 | .fnc f,_,_,_=>[.fn f []]
 | .ali,_,_,_=>[.ptr b0 0]
 | .hole _,s,_,_=>[s]
 | .ref _ _,_,bx,_=>match bx with
  | q::_=>[.ptr q 0]
  | []=>[.junk]
 | .pair a b,x,bx,n=>oY b0 a x.1 bx n++oY b0 b x.2 (bx.drop a.nb) (n+a.nr)
def oA(b0:Nat):(o:OT)->o.X->List Nat->Nat->List (Nat×Nm)
 | .dat _,_,_,_=>[]
 | .row _ _,_,_,_=>[]
 | .rowg _ _,_,_,_=>[]
 | .fnc _,_,_,_=>[]
 | .ali,_,_,_=>[]
 | .hole _,_,_,_=>[]
 | .ref E o,x,bx,n=>match bx with
  | q::r=>(q,.live (.cells E (oY b0 o x r n)))::oA b0 o x r n
  | []=>[]
 | .pair a b,x,bx,n=>oA b0 a x.1 bx n++oA b0 b x.2 (bx.drop a.nb) (n+a.nr)
def xq:(o:OT)->o.X->Nat->List (Nat×Nm)
 | .dat _,_,_=>[]
 | .row E t,x,n=>[(n,.live (.row E t x))]
 | .rowg _ _,_,_=>[]
 | .fnc _,_,_=>[]
 | .ali,_,_=>[]
 | .hole _,_,_=>[]
 | .ref _ o,x,n=>xq o x n
 | .pair a b,x,n=>xq a x.1 n++xq b x.2 (n+a.nr)
def mw(b0:Nat):(rs:List RK)->jK rs->Nat->List SV
 | [],_,_=>[]
 | .val t::rs,d,n=>Gh t d.1::mw b0 rs d.2 n
 | .agg o::rs,d,n => .agg (oY b0 o d.1 [] n)::mw b0 rs d.2 (n+o.nr)
 | .own E t::rs,d,n => .own n t.size::mw b0 rs d.2 (n+1)
 | .box E o::rs,d,n => .ptr n 0::mw b0 rs d.2 (n+1+o.nr)
 | .fn f k::rs,d,n => .fn f ((mw b0 rs d.2 n).take k)::(mw b0 rs d.2 n).drop k
 | .arr k m::rs,d,n => .arr k m d.1::mw b0 rs d.2 n
def nV(b0:Nat):(rs:List RK)->jK rs->Nat->List (Nat×Nm)
 | [],_,_=>[]
 | .val t::rs,d,n=>nV b0 rs d.2 n
 | .agg o::rs,d,n=>xq o d.1 n++nV b0 rs d.2 (n+o.nr)
 | .own E t::rs,d,n=>(n,.live (.row E t d.1))::nV b0 rs d.2 (n+1)
 | .box E o::rs,d,n=>(n,.live (.cells E (oY b0 o d.1 [] (n+1))))::(xq o d.1 (n+1)++nV b0 rs d.2 (n+1+o.nr))
 | .fn _ _::rs,d,n=>nV b0 rs d.2 n
 | .arr _ _::rs,d,n=>nV b0 rs d.2 n
def iy:List RK->Nat
 | []=>0
 | .own _ _::r=>iy r+1
 | .box _ o::r=>iy r+o.nr+1
 | .val _::r=>iy r
 | .agg o::r=>iy r+o.nr
 | .fn _ _::r=>iy r
 | .arr _ _::r=>iy r
def jZ:List PK->Nat
 | []=>0
 | .val _::r=>jZ r
 | .agg _::r=>jZ r
 | .own _ _::r=>jZ r
 | .ago _::r=>jZ r
 | .fn _ _::r=>jZ r
 | .nils::r=>jZ r
 | .yld _ _::r=>jZ r
 | .box _ o::r=>jZ r+o.nr
 | .row _ _::r=>jZ r
def gV(b0:Nat):(ps:List PK)->gz ps->List Nat->Nat->List (Nat×Nm)
 | .val _::ps,d,bx,nb=>gV b0 ps d bx nb
 | .agg _::ps,d,bx,nb=>gV b0 ps d bx nb
 | .own _ _::ps,d,bx,nb=>gV b0 ps d bx nb
 | .ago _::ps,d,bx,nb=>gV b0 ps d bx nb
 | .fn _ _::ps,d,bx,nb=>gV b0 ps d bx nb
 | .nils::ps,d,bx,nb=>gV b0 ps d bx nb
 | .yld _ _::ps,d,bx,nb=>gV b0 ps d bx nb
 | .box E o::ps,d,n::bx,nb=>(n,.live (.cells E (oY b0 o d.1 bx nb)))::(oA b0 o d.1 bx nb++gV b0 ps d.2 (bx.drop o.nb) (nb+o.nr))
 | .row E t::ps,d,n::bx,nb=>(n,.live (.row E t d.1))::gV b0 ps d.2 bx nb
 | _,_,_,_=>[]
def jd:(ps:List PK)->gz ps->Nat->List (Nat×Nm)
 | [],_,_=>[]
 | .val _::ps,d,nb=>jd ps d nb
 | .agg _::ps,d,nb=>jd ps d nb
 | .own _ _::ps,d,nb=>jd ps d nb
 | .ago _::ps,d,nb=>jd ps d nb
 | .fn _ _::ps,d,nb=>jd ps d nb
 | .nils::ps,d,nb=>jd ps d nb
 | .yld _ _::ps,d,nb=>jd ps d nb
 | .box E o::ps,d,nb=>xq o d.1 nb++jd ps d.2 (nb+o.nr)
 | .row E t::ps,d,nb=>jd ps d.2 nb
def uA:List (Option Nat)->List (Nat×Nm)
 | []=>[]
 | none::r=>uA r
 | some n::r=>(n,.dead)::uA r
def wm:List SV->SV
 | [v]=>v
 | l => .tup l
def Is(fz:List (Nat×Nm)):List Nat->Bool
 | []=>cs8
 | n::r=>Du n fz&&Is fz r
def vM:Nat->Nat->Dl->Q Dl
 | _,0,d => .ret d
 | n,k+1,d => .ask n fun
  | .un=>vM (n+1) k d
  | _ => .fail
def Dk(ps:List PK)(rs:List RK):Bool := !(vN rs&&oD ps)
def w9(ps:List PK)(rs:List RK)(y:jK rs×gz ps)(base:Nat)(fz:List (Nat×Nm))(bx:List Nat)(cx:List (Option Nat)):List (Nat×Nm) :=
 (gV (bx.headD 0) ps y.2 bx (base+iy rs)++(nV (bx.headD 0) rs y.1 base++(jd ps y.2 (base+iy rs)++uA cx)))++(match Dk ps rs with|true=>fz|false=>[])
def wO:List RK->List Nat
 | []=>[]
 | .agg o::r=>o.hx++wO r
 | .box _ o::r=>o.hx++wO r
 | .val _::r=>wO r
 | .own _ _::r=>wO r
 | .fn _ _::r=>wO r
 | .arr _ _::r=>wO r
def LC(m:Nat):List Nat->Bool
 | []=>cs8
 | i::r=>cI0 i m&&LC m r
def FZ(ps:List PK)(rs:List RK):Bool:=match wO rs with
 | []=>Gt (mr ps)&&LC 524288 (mr ps)
 | _=>ct2
def CC(ps:List PK)(rs:List RK)(fz:List (Nat×Nm))(bx:List Nat)(cx:List (Option Nat)):Bool:=Gt (bx++jw cx)&&Is fz (bx++jw cx)&&cx6 (V bx) 524288&&FZ ps rs
def Ct.spec(c:Ct):Spec:=λbase svs=>(iC ct4 c.ps svs).bind λp=>match CC c.ps c.rs p.2.1 p.2.2.1 p.2.2.2 with
 | true=>vM base (iy c.rs+jZ c.ps) (.det (c.pre p.1) (wm (mw (p.2.2.1.headD 0) c.rs (c.out p.1).1 base)) (w9 c.ps c.rs (c.out p.1) base p.2.1 p.2.2.1 p.2.2.2))
 | false => .fail
structure Cn where
 ps:List PK
 rs:List RK
 pre:bG ps->List Prop
 post:bG ps->jK rs×gz ps->Prop
 inh:∀ d,bQ (pre d)→∃ y,post d y
def CU{X:Type}(b0:Nat):(o:OT)->(X->o.X)->List Nat->Nat->List (Nat×(X->Nm))
 | .dat _,_,_,_=>[]
 | .row _ _,_,_,_=>[]
 | .rowg _ _,_,_,_=>[]
 | .fnc _,_,_,_=>[]
 | .ali,_,_,_=>[]
 | .hole _,_,_,_=>[]
 | .ref E o,x,bx,n=>match bx with
  | q::r=>(q,λy=>.live (.cells E (oY b0 o (x y) r n)))::CU b0 o x r n
  | []=>[]
 | .pair a b,x,bx,n=>CU b0 a (λy=>(x y).1) bx n++CU b0 b (λy=>(x y).2) (bx.drop a.nb) (n+a.nr)
def Aq{X:Type}:(o:OT)->(X->o.X)->Nat->List (Nat×(X->Nm))
 | .dat _,_,_=>[]
 | .row E t,x,n=>[(n,λy=>.live (.row E t (x y)))]
 | .rowg _ _,_,_=>[]
 | .fnc _,_,_=>[]
 | .ali,_,_=>[]
 | .hole _,_,_=>[]
 | .ref _ o,x,n=>Aq o x n
 | .pair a b,x,n=>Aq a (λy=>(x y).1) n++Aq b (λy=>(x y).2) (n+a.nr)
def o8{X:Type}(b0:Nat):(ps:List PK)->(X->gz ps)->List Nat->Nat->List (Nat×(X->Nm))
 | .val _::ps,d,bx,nb=>o8 b0 ps d bx nb
 | .agg _::ps,d,bx,nb=>o8 b0 ps d bx nb
 | .own _ _::ps,d,bx,nb=>o8 b0 ps d bx nb
 | .ago _::ps,d,bx,nb=>o8 b0 ps d bx nb
 | .fn _ _::ps,d,bx,nb=>o8 b0 ps d bx nb
 | .nils::ps,d,bx,nb=>o8 b0 ps d bx nb
 | .yld _ _::ps,d,bx,nb=>o8 b0 ps d bx nb
 | .box E o::ps,d,n::bx,nb=>(n,λx=>.live (.cells E (oY b0 o (d x).1 bx nb)))::(CU b0 o (λx=>(d x).1) bx nb++o8 b0 ps (λx=>(d x).2) (bx.drop o.nb) (nb+o.nr))
 | .row E t::ps,d,n::bx,nb=>(n,λx=>.live (.row E t (d x).1))::o8 b0 ps (λx=>(d x).2) bx nb
 | _,_,_,_=>[]
def oS{X:Type}:(ps:List PK)->(X->gz ps)->Nat->List (Nat×(X->Nm))
 | [],_,_=>[]
 | .val _::ps,d,nb=>oS ps d nb
 | .agg _::ps,d,nb=>oS ps d nb
 | .own _ _::ps,d,nb=>oS ps d nb
 | .ago _::ps,d,nb=>oS ps d nb
 | .fn _ _::ps,d,nb=>oS ps d nb
 | .nils::ps,d,nb=>oS ps d nb
 | .yld _ _::ps,d,nb=>oS ps d nb
 | .box E o::ps,d,nb=>Aq o (λx=>(d x).1) nb++oS ps (λx=>(d x).2) (nb+o.nr)
 | .row E t::ps,d,nb=>oS ps (λx=>(d x).2) nb
def tG{X:Type}(b0:Nat):(rs:List RK)->(X->jK rs)->Nat->List (Nat×(X->Nm))
 | [],_,_=>[]
 | .val t::rs,d,n=>tG b0 rs (λx=>(d x).2) n
 | .agg o::rs,d,n=>Aq o (λx=>(d x).1) n++tG b0 rs (λx=>(d x).2) (n+o.nr)
 | .own E t::rs,d,n=>(n,λx=>.live (.row E t (d x).1))::tG b0 rs (λx=>(d x).2) (n+1)
 | .box E o::rs,d,n=>(n,λx=>.live (.cells E (oY b0 o (d x).1 [] (n+1))))::(Aq o (λx=>(d x).1) (n+1)++tG b0 rs (λx=>(d x).2) (n+1+o.nr))
 | .fn _ _::rs,d,n=>tG b0 rs (λx=>(d x).2) n
 | .arr _ _::rs,d,n=>tG b0 rs (λx=>(d x).2) n
def HQ{X:Type}:List (Nat×Nm)->List (Nat×(X->Nm))
 | []=>[]
 | (n,b)::r=>(n,λ_=>b)::HQ r
def DD(ps:List PK)(rs:List RK)(base:Nat)(fz:List (Nat×Nm))(bx:List Nat)(cx:List (Option Nat)):List (Nat×(jK rs×gz ps->Nm)) :=
 (o8 (bx.headD 0) ps (λy:jK rs×gz ps=>y.2) bx (base+iy rs)++(tG (bx.headD 0) rs (λy:jK rs×gz ps=>y.1) base++(oS ps (λy:jK rs×gz ps=>y.2) (base+iy rs)++HQ (uA cx))))++(match Dk ps rs with|true=>HQ fz|false=>[])
theorem LZ{X:Type}{b0:Nat}(y:X):∀(o:OT)(x:X->o.X)(bx:List Nat)(n:Nat),(CU b0 o x bx n).map (λp=>(p.1,p.2 y))=oA b0 o (x y) bx n
 | .dat _,_,_,_=>rfl
 | .row _ _,_,_,_=>rfl
 | .rowg _ _,_,_,_=>rfl
 | .fnc _,_,_,_=>rfl
 | .ali,_,_,_=>rfl
 | .hole _,_,_,_=>rfl
 | .ref E o,x,[],n=>rfl
 | .ref E o,x,q::r,n=>by simp only[CU,oA,f6,LZ y o]
 | .pair a b,x,bx,n=>by simp only[CU,oA,kV,LZ y a,LZ y b]
theorem F5{X:Type}(y:X):∀(o:OT)(x:X->o.X)(n:Nat),(Aq o x n).map (λp=>(p.1,p.2 y))=xq o (x y) n
 | .dat _,_,_=>rfl
 | .row _ _,_,_=>rfl
 | .rowg _ _,_,_=>rfl
 | .fnc _,_,_=>rfl
 | .ali,_,_=>rfl
 | .hole _,_,_=>rfl
 | .ref E o,x,n=>by simp only[Aq,xq,F5 y o]
 | .pair a b,x,n=>by simp only[Aq,xq,kV,F5 y a,F5 y b]
theorem zg{X:Type}{b0:Nat}(x:X):∀(ps:List PK)(d:X->gz ps)(bx:List Nat)(nb:Nat),(o8 b0 ps d bx nb).map (λp=>(p.1,p.2 x))=gV b0 ps (d x) bx nb
 | [],_,_,_=>rfl
 | .val _::ps,d,bx,nb=>by simp only[o8,gV];exact zg x ps d bx nb
 | .agg _::ps,d,bx,nb=>by simp only[o8,gV];exact zg x ps d bx nb
 | .own _ _::ps,d,bx,nb=>by simp only[o8,gV];exact zg x ps d bx nb
 | .ago _::ps,d,bx,nb=>by simp only[o8,gV];exact zg x ps d bx nb
 | .fn _ _::ps,d,bx,nb=>by simp only[o8,gV];exact zg x ps d bx nb
 | .nils::ps,d,bx,nb=>by simp only[o8,gV];exact zg x ps d bx nb
 | .yld _ _::ps,d,bx,nb=>by simp only[o8,gV];exact zg x ps d bx nb
 | .box E t::ps,d,[],_=>rfl
 | .row E t::ps,d,[],_=>rfl
 | .box E t::ps,d,n::bx,nb=>by simp only[o8,gV,f6,kV,LZ x t,zg x ps]
 | .row E t::ps,d,n::bx,nb=>by simp only[o8,gV,f6,zg x ps]
theorem yy{X:Type}(x:X):∀(ps:List PK)(d:X->gz ps)(nb:Nat),(oS ps d nb).map (λp=>(p.1,p.2 x))=jd ps (d x) nb
 | [],_,_=>rfl
 | .val _::ps,d,nb=>by simp only[oS,jd];exact yy x ps d nb
 | .agg _::ps,d,nb=>by simp only[oS,jd];exact yy x ps d nb
 | .own _ _::ps,d,nb=>by simp only[oS,jd];exact yy x ps d nb
 | .ago _::ps,d,nb=>by simp only[oS,jd];exact yy x ps d nb
 | .fn _ _::ps,d,nb=>by simp only[oS,jd];exact yy x ps d nb
 | .nils::ps,d,nb=>by simp only[oS,jd];exact yy x ps d nb
 | .yld _ _::ps,d,nb=>by simp only[oS,jd];exact yy x ps d nb
 | .box E t::ps,d,nb=>by simp only[oS,jd,kV,F5 x t,yy x ps]
 | .row E t::ps,d,nb=>by simp only[oS,jd];exact yy x ps _ nb
theorem Dw{X:Type}{b0:Nat}(x:X):∀(rs:List RK)(d:X->jK rs)(n:Nat),(tG b0 rs d n).map (λp=>(p.1,p.2 x))=nV b0 rs (d x) n
 | [],_,_=>rfl
 | .val t::rs,d,n=>by simp only[tG,nV];exact Dw x rs _ n
 | .agg t::rs,d,n=>by simp only[tG,nV,kV,F5 x t,Dw x rs]
 | .own E t::rs,d,n=>by simp only[tG,nV,f6,Dw x rs]
 | .box E t::rs,d,n=>by simp only[tG,nV,f6,kV,F5 x t,Dw x rs]
 | .fn _ _::rs,d,n=>by simp only[tG,nV];exact Dw x rs _ n
 | .arr _ _::rs,d,n=>by simp only[tG,nV];exact Dw x rs _ n
theorem Sf{X:Type}(x:X):∀(l:List (Nat×Nm)),(HQ (X:=X) l).map (λp=>(p.1,p.2 x))=l
 | []=>rfl
 | (n,b)::r=>by simp only[HQ,f6,Sf x r]
theorem RN{ps rs a fz bx cx}(y):(DD ps rs a fz bx cx).map (λp=>(p.1,p.2 y))=w9 ps rs y a fz bx cx:=by
 unfold DD w9
 simp only[kV,zg,Dw,yy,Sf]
 cases Dk ps rs with
 | true=>simp only[Sf]
 | false=>rfl
def D1:(o:OT)->(o.X->Prop)->Prop
 | .dat t,k=>CY t k
 | .row _ t,k=>∀ x:List t.D,k x
 | .rowg _ _,k=>k ()
 | .fnc _,k=>k ()
 | .ali,k=>k ()
 | .hole _,k=>∀ s:SV,k s
 | .ref _ o,k=>D1 o k
 | .pair a b,k=>D1 a λx=>D1 b λy=>k (x,y)
theorem Ej:∀{o:OT}{k:o.X->Prop},D1 o k→∀ d,k d
 | .dat t,k,h,d=>LG.1 h d
 | .row _ t,k,h,d=>h d
 | .rowg _ _,k,h,d=>h
 | .fnc _,k,h,d=>h
 | .ali,k,h,d=>h
 | .hole _,k,h,d=>h d
 | .ref _ o,k,h,d=>Ej (o:=o) h d
 | .pair a b,k,h,d=>Ej (o:=b) (Ej (o:=a) h d.1) d.2
def BR:(rs:List RK)->(jK rs->Prop)->Prop
 | [],k=>k ()
 | .val t::r,k=>CY t λx=>BR r λy=>k (x,y)
 | .agg o::r,k=>D1 o λx=>BR r λy=>k (x,y)
 | .own _ t::r,k=>∀ x:List t.D,BR r λy=>k (x,y)
 | .box _ o::r,k=>D1 o λx=>BR r λy=>k (x,y)
 | .fn _ _::r,k=>BR r λy=>k ((),y)
 | .arr _ _::r,k=>∀ x:Z,BR r λy=>k (x,y)
theorem De:∀{rs:List RK}{k:jK rs->Prop},BR rs k→∀ d,k d
 | [],k,h,d=>h
 | .val t::r,k,h,d=>De (rs:=r) (LG.1 h d.1) d.2
 | .agg o::r,k,h,d=>De (rs:=r) (Ej (o:=o) h d.1) d.2
 | .own _ t::r,k,h,d=>De (rs:=r) (h d.1) d.2
 | .box _ o::r,k,h,d=>De (rs:=r) (Ej (o:=o) h d.1) d.2
 | .fn _ _::r,k,h,d=>De (rs:=r) h d.2
 | .arr _ _::r,k,h,d=>De (rs:=r) (h d.1) d.2
def xj:(ps:List PK)->(gz ps->Prop)->Prop
 | [],k=>k ()
 | .val _::r,k=>xj r k
 | .agg _::r,k=>xj r k
 | .own _ _::r,k=>xj r k
 | .ago _::r,k=>xj r k
 | .fn _ _::r,k=>xj r k
 | .nils::r,k=>xj r k
 | .yld _ _::r,k=>xj r k
 | .box _ o::r,k=>D1 o λx=>xj r λy=>k (x,y)
 | .row _ t::r,k=>∀ x:List t.D,xj r λy=>k (x,y)
theorem yI:∀{ps:List PK}{k:gz ps->Prop},xj ps k→∀ d,k d
 | [],k,h,d=>h
 | .val _::r,k,h,d=>yI (ps:=r) h d
 | .agg _::r,k,h,d=>yI (ps:=r) h d
 | .own _ _::r,k,h,d=>yI (ps:=r) h d
 | .ago _::r,k,h,d=>yI (ps:=r) h d
 | .fn _ _::r,k,h,d=>yI (ps:=r) h d
 | .nils::r,k,h,d=>yI (ps:=r) h d
 | .yld _ _::r,k,h,d=>yI (ps:=r) h d
 | .box _ o::r,k,h,d=>yI (ps:=r) (Ej (o:=o) h d.1) d.2
 | .row _ t::r,k,h,d=>yI (ps:=r) (h d.1) d.2
def Vf(rs:List RK)(ps:List PK):Qn (jK rs×gz ps) :=
 ⟨λk=>BR rs λy=>xj ps λz=>k (y,z),λk h x=>yI (De h x.1) x.2,λk=>∃ x,k x,λ_ h=>h⟩
def Cn.spec(c:Cn):Spec:=λbase svs=>(iC ct4 c.ps svs).bind λp=>match CC c.ps c.rs p.2.1 p.2.2.1 p.2.2.2 with
 | true=>vM base (iy c.rs+jZ c.ps) (.nd (jK c.rs×gz c.ps) (Vf c.rs c.ps) (c.pre p.1) (c.post p.1) (c.inh p.1) (λy=>wm (mw (p.2.2.1.headD 0) c.rs y.1 base)) (DD c.ps c.rs base p.2.1 p.2.2.1 p.2.2.2))
 | false => .fail
section
variable {w0:cu6} {N0:fT} {A A' A1 A2:Nat->Prop} {env env1 env':bt} {h h1:cq} {w w1:cu6}
theorem Dg{a b c:Bool}{p:Prop}(h:(a&&b)=cs8∨p):a=cs8∨p:=by
 grind
theorem C3{a b:Bool}{p:Prop}(h:(a&&b)=cs8∨p):b=cs8∨p:=by
 grind
variable{al:Bool}{rs:List RK}
theorem cc5{t a} {x} (e:n9 al (.agg t::rs) a h1=cs6 x):∃ cs r,a = .agg cs::r:=by
 cases a with
 | nil=>cases e
 | cons s r=>cases s <;> first|exact⟨_,_,rfl⟩|cases e
variable{E:ct5}
theorem bB7{t a} {x} (e:n9 al (.own E t::rs) a h1=cs6 x):∃ v r,a=v::r:=by
 cases a with
 | nil=>cases e
 | cons s r=>exact⟨_,_,rfl⟩
theorem bB0{t a} {x} (e:n9 al (.box E t::rs) a h1=cs6 x):∃ m r,a = .ptr m 0::r:=by
 cases a with
 | nil=>cases e
 | cons s r=>cases s <;> first|cases e;done|(rename_i m o;cases o <;> first|exact⟨_,_,rfl⟩|cases e)
variable{n:Nat}{svs:List SV}
theorem bx6{k} {x} (e:n9 al (.arr k n::rs) svs h1=cs6 x):∃ k' m xs r,svs = .arr k' m xs::r:=by
 cases svs with
 | nil=>cases e
 | cons s r=>cases s <;> first|exact⟨_,_,_,_,rfl⟩|cases e
variable{f:cy6}
theorem aK8{k a} {x} (e:n9 al (.fn f k::rs) a h1=cs6 x):∃ g cs r,a = .fn g cs::r:=by
 cases a with
 | nil=>cases e
 | cons s r=>cases s <;> first|exact⟨_,_,_,rfl⟩|cases e
variable{j:Option Nat}
theorem VQ{t a} {x} (e:nB h1 al (.ref E t) j a=cs6 x):∃ b m r,j=cs6 b/\a = .ptr m 0::r:=by
 cases j with
 | none=>cases a <;> cases e
 | some b =>
  cases a with
  | nil=>cases e
  | cons s r=>cases s <;> first|cases e;done|(rename_i m o;cases o <;> first|exact⟨_,_,_,rfl,rfl⟩|cases e)
theorem bT7{a} {x} (e:nB h1 al (.fnc f) j a=cs6 x):∃ r,a = .fn f []::r/\x=((),r,[],[]):=by
 cases a with
 | nil=>cases e
 | cons s r =>
  cases s <;> first|cases e;done|skip
  rename_i g cs;cases cs <;> first|cases e;done|skip
  simp only[nB] at e;split at e
  .simp_all
  .cases e
theorem a98{t a} {x} (e:nB h1 al (.rowg E t) j a=cs6 x):∃ v r,a=v::r:=by
 cases a with
 | nil=>cases e
 | cons s r=>exact⟨_,_,rfl⟩
variable{rest:List SV}
theorem T4{Nc}(m1:Mod w Nc A1 env1 h1 w1)(hA:∀ b,A1 b->A2 b){t}(L:t.plain=cs8∨∀ b,A2 b->A' b){cs vs ys}
  (e:KK E t h1 cs=cs6 (ys,rest,j)) (q:aL A1 env1 w1 cs vs) :
  ∃ v f,vs=v::f/\rest=cs.drop 1/\aL A1 env1 w1 rest f∧∀ g i,g i=sm env1 j->ax A' g w1 (.own i t.size) v/\lm A' env1 h1 g w1 [j] [(i,.live (.row E t ys))] i:=by
 cases cs with
 | nil=>cases e
 | cons s cs =>
 cases s with
 | own n sz =>
  simp only[KK] at e;split at e
  .rename_i E' t' xs r;split at e
   .rename_i zs l d hc;have l:=bH l;subst l;have d:=bH d;subst d;have ⟨et,ez⟩:=lv hc;subst et;subst ez;obtain⟨rfl,rfl,rfl⟩:=e;obtain⟨x,f,rfl,hv,m⟩:=q;have o:=m1.nm n;rw[r] at o;refine⟨x,f,rfl,rfl,m,λg i c=>⟨?_,⟨rfl,_,rfl,rfl,.inl ⟨n,_,rfl,r,rfl,λk len c=>?_,λc=>?_⟩⟩,aQ⟩⟩
    .simp only[sm] at c;simp only[ax];rw[c];exact hv
    .obtain⟨k',h,a,p,_⟩|⟨a,_⟩:=o
     .rw[c] at a;cases a;have ⟨us,cap,g1,g2,g3,g4,g5,g6⟩:=p;exact⟨us,cap,g1,g2,g3,g4,g5,λi hi=>KN L (jM hA (λ_ _ _=>rfl) _ _ _ _ _ (λ_ _=>rfl) (g6 i hi))⟩
     .rw[c] at a;cases a
    .obtain⟨k',h,a,p,_⟩|⟨a,E2,t2,p⟩:=o
     .rw[c] at a;cases a
     .simp_all
   .cases e
  .cases e
 | nilsl =>
  obtain⟨rfl,rfl,rfl⟩:=e;obtain⟨x,f,rfl,rfl,m⟩:=q;refine⟨_,f,rfl,rfl,m,λg i c=>⟨?_,⟨rfl,_,rfl,rfl,.inr ⟨rfl,_,_,rfl⟩⟩,aQ⟩⟩;exact .inl ⟨c,_,rfl⟩
 | _=>cases e
def uj(A':Nat->Prop)(env1:bt)(h1:cq)(env':bt)(w1:cu6)(bx:List Nat)(j:Nat)(n:Nat)(x:Nm):Prop :=
 ∃ i b b0,bx[i]? = cs6 n/\x = .live b/\b.mut=cs8/\h1 (PN+(j+i)) = .live b0/\b0.mut=cs8/\(∀ k len,env1 (PN+(j+i)) = .blk k len->mS A' env' w1 k len b)/\(env1 (PN+(j+i)) = .nil→∃ E t,b = .row E t [])
variable{j:Nat}{bx:List Nat}
theorem uj.shift{pre x}(h:uj A' env1 h1 env' w1 bx (j+V pre) n x):uj A' env1 h1 env' w1 (pre++bx) j n x:=by
 have ⟨i,b,b0,g1,g2,g3,a,g5,c,d⟩:=h
 rw[show j+V pre+i=j+(V pre+i) from by omega] at a c d
 exact⟨V pre+i,b,b0,by rw[pn Y,nW];exact g1,g2,g3,a,g5,c,d⟩
theorem uj.grow{post x}(h:uj A' env1 h1 env' w1 bx j n x):uj A' env1 h1 env' w1 (bx++post) j n x:=by
 have ⟨i,b,b0,a,g2⟩:=h
 exact⟨i,b,b0,by rw[nJ (ct6.1 a).1];exact a,g2⟩
theorem P5{al}:∀ o cs {x},nB h1 al o ct4 cs=cs6 x->o.nb=0
 | .dat t,_,_,_=>rfl
 | .row _ t,_,_,_=>rfl
 | .rowg _ t,_,_,_=>rfl
 | .fnc _,_,_,_=>rfl
 | .ali,_,_,_=>rfl
 | .hole _,_,_,_=>rfl
 | .ref _ o,cs,x,e=>by obtain⟨j0,m,r,hj,-⟩:=VQ e;cases hj
 | .pair a b,cs,x,e=>by
  simp only[nB] at e;split at e
  .rename_i h1';split at e
   next h2'=>have k1:=P5 a _ h1';have k2:=P5 b _ h2';simp only[OT.nb];omega
   .cases e
  .cases e
variable{j:Option Nat}
theorem be4{a} {x} (e:nB h1 al .ali j a=cs6 x):∃ r,a = .ptr PN 0::r/\al=cs8/\x=((),r,[],[]):=by
 cases a with
 | nil=>cases e
 | cons s r =>
  cases s with
  | ptr m off=>cases off with
   | zero =>
    have e:(match (generalizing:=false) al,ct7 m PN with|true,cs8=>(cs6 ((),r,[],[]):Option (Unit×List SV×List (Nat×Nm)×List (Option Nat)))|_,_=>ct4)=cs6 x:=by
     cases j <;> exact e
    cases hb:ct7 m PN with
    | false=>rw[hb] at e;cases al <;> cases e
    | true =>
     cases al with
     | false=>cases e
     | true =>
      simp_all
   | succ k=>cases e
  | _=>cases e
theorem bO6{i x fz ow}(e:nB h1 al (.hole i) j svs=cs6 (x,rest,fz,ow)):∃ r,svs = .hv (HN+i) x::r/\rest=r/\fz=[]/\ow=[]:=by
 cases svs with
 | nil=>cases e
 | cons s r =>
  cases s <;> first|cases e;done|skip
  rename_i m s;simp only[nB] at e;split at e
  next hb=>simp only[cy,ck] at e;obtain⟨rfl,rfl,rfl,rfl⟩:=e;exact⟨r,by rw[bH hb],rfl,rfl,rfl⟩
  .cases e
theorem CN{al Nc}(m1:Mod w Nc A1 env1 h1 w1)(hA:∀ b,A1 b->A2 b)(b0):∀ o j cs vs x rest fz ow bx more n,
  nB h1 al o j cs=cs6 (x,rest,fz,ow)->aL A1 env1 w1 cs vs->(∀ k,iX env1 fz k->A2 k)->(o.plain=cs8∨∀ b,A2 b->A' b)->(j=ct4∨V bx=o.nb) →
  qB h1 fz/\V ow=o.nr∧∃ us rs,vs=us++rs/\aL A1 env1 w1 rest rs ∧
   ((∀ i∈o.hx,∀ v s,env1 (HN+i) = .val v s->ax A' env' w1 s v)->(al=cs8->env' b0=env1 PN)->(∀ k q,ow[k]? = cs6 q->env' (n+k)=sm env1 q)->(∀ j0 k q,j=cs6 j0->bx[k]? = cs6 q->env' q=env1 (PN+(j0+k))) →
     aL A' env' w1 (oY b0 o x (bx++more) n) us/\lm A' env1 h1 env' w1 ow (xq o x n) n/\(∀ q y,(q,y)∈oA b0 o x (bx++more) n→∃ j0,j=cs6 j0/\uj A' env1 h1 env' w1 bx j0 q y) ∧
     (j≠ct4→∀ q,q∈bx->q∈(oA b0 o x (bx++more) n).map (·.1)))
 | .dat t,j,cs,vs,x,rest,fz,ow,bx,more,n,e,hd,hF,L,hbl=>by
  simp only[nB] at e;split at e
  .rename_i x1 r1 f1 q1 hp;simp only[cy,ck] at e;obtain⟨rfl,rfl,rfl,rfl⟩:=e;have ⟨p1,p2,p3,p4,p5⟩:=Ak m1 t cs vs x1 r1 f1 _ hp hd hA hF;refine⟨p1,rfl,vs.take t.size,vs.drop t.size,(mj _ _).symm,p5,λ_ _ _ _=>⟨?_,aQ,λq y hh=>by simp[oA] at hh,λhj q hq=>?_⟩⟩
   .simp only[oY];refine ML (by rw[fF];omega) (KN L ?_);refine jM (λ_ h=>h) (λ_ _ _=>rfl) t _ _ _ _ (λk hk=>?_) p4;simp only[gD,Cl];rw[ao hk]
   .obtain hbl|hbl:=hbl
    .exact absurd hbl hj
    .rw[cv4.1 hbl] at hq;cases hq
  .cases e
 | .row E t,j,cs,vs,x,rest,fz,ow,bx,more,n,e,hd,hF,L,hbl=>by
  simp only[nB] at e;split at e
  .rename_i x1 r1 o1 hp;simp only[cy,ck] at e;obtain⟨rfl,rfl,rfl,rfl⟩:=e;obtain⟨v,vr,rfl,-,p2,p3⟩:=T4 (A':=A') m1 hA L hp hd;refine⟨λn b hh=>by simp at hh,rfl,[v],vr,rfl,p2,λ_ _ ho _=>?_⟩;have ⟨k1,k2⟩:=p3 env' n (ho 0 _ rfl);refine⟨?_,k2,λq y hh=>by simp[oA] at hh,λhj q hq=>?_⟩
   .simp only[oY,aL];exact⟨v,[],rfl,k1,rfl⟩
   .obtain hbl|hbl:=hbl
    .exact absurd hbl hj
    .rw[cv4.1 hbl] at hq;cases hq
  .cases e
 | .rowg E t,j,cs0,vs,x,rest,fz,ow,bx,more,n,e,hd,hF,L,hbl=>by
  obtain⟨v,cs,rfl⟩:=a98 e;simp only[nB,cy,ck] at e;obtain⟨-,rfl,rfl,rfl⟩:=e;simp only[aL] at hd;obtain⟨u,vr,rfl,hu,hvr⟩:=hd;refine⟨λn b hh=>by simp at hh,rfl,[u],vr,rfl,hvr,λ_ _ ho _=>⟨?_,aQ,λq y hh=>by simp[oA] at hh,λhj q hq=>?_⟩⟩
  .simp only[oY,aL,ax];exact⟨u,[],rfl,aQ,rfl⟩
  .obtain hbl|hbl:=hbl
   .exact absurd hbl hj
   .rw[cv4.1 hbl] at hq;cases hq
 | .fnc f,j,cs0,vs,x,rest,fz,ow,bx,more,n,e,hd,hF,L,hbl=>by
  obtain⟨cs,rfl,e2⟩:=bT7 e;simp only[ck] at e2;obtain⟨-,rfl,rfl,rfl⟩:=e2;simp only[aL] at hd;obtain⟨u,vr,rfl,hu,hvr⟩:=hd;refine⟨λn b hh=>by simp at hh,rfl,[u],vr,rfl,hvr,λ_ _ ho _=>⟨?_,aQ,λq y hh=>by simp[oA] at hh,λhj q hq=>?_⟩⟩
  .simp only[oY,aL];simp only[ax,aL] at hu;refine⟨u,[],rfl,?_,rfl⟩;simp only[ax,aL];exact hu
  .obtain hbl|hbl:=hbl
   .exact absurd hbl hj
   .rw[cv4.1 hbl] at hq;cases hq
 | .ali,j,cs0,vs,x,rest,fz,ow,bx,more,n,e,hd,hF,L,hbl=>by
  obtain⟨cs,rfl,hj0,e2⟩:=be4 e;simp only[ck] at e2;obtain⟨-,rfl,rfl,rfl⟩:=e2;simp only[aL,ax] at hd;obtain⟨u,vr,rfl,⟨k,len,hek,rfl⟩,hvr⟩:=hd;refine⟨λn b hh=>by simp at hh,rfl,[_],vr,rfl,hvr,λ_ hb0 ho _=>⟨?_,aQ,λq y hh=>by simp[oA] at hh,λhj q hq=>?_⟩⟩
  .simp only[oY,aL,ax];exact⟨_,[],rfl,⟨k,len,by rw[hb0 hj0];exact hek,rfl⟩,rfl⟩
  .obtain hbl|hbl:=hbl
   .exact absurd hbl hj
   .rw[cv4.1 hbl] at hq;cases hq
 | .hole i0,j,cs0,vs,x,rest,fz,ow,bx,more,n,e,hd,hF,L,hbl=>by
  obtain⟨cs,rfl,rfl,rfl,rfl⟩:=bO6 e;simp only[aL,ax] at hd;obtain⟨u,vr,rfl,⟨hu,_⟩,hvr⟩:=hd;refine⟨λn b hh=>by simp at hh,rfl,[u],vr,rfl,hvr,λhH _ ho _=>⟨?_,aQ,λq y hh=>by simp[oA] at hh,λhj q hq=>?_⟩⟩
  .simp only[oY,aL];exact⟨u,[],rfl,hH i0 (iV.2 rfl) _ _ hu,rfl⟩
  .obtain hbl|hbl:=hbl
   .exact absurd hbl hj
   .rw[cv4.1 hbl] at hq;cases hq
 | .ref E o,j,cs0,vs,x,rest,fz,ow,bx,more,n,e,hd,hF,L,hbl=>by
  obtain⟨j0,m,cs,rfl,rfl⟩:=VQ e;simp only[nB] at e;split at e
  .rename_i E' cs' hm hl;have hm:=bH hm;subst hm;split at e
   .rename_i x1 f1 w1' hE hp;have hE:=bH hE;subst hE;simp only[cy,ck] at e;obtain⟨rfl,rfl,rfl,rfl⟩:=e;simp only[aL,ax] at hd;obtain⟨u,vr,rfl,⟨kb,lb,hkb,rfl⟩,hvr⟩:=hd;have ⟨⟨us,hus,hdu⟩,_⟩:=m1.live_blk hl hkb;cases bx with
    | nil=>obtain hbl|hbl:=hbl <;> cases hbl
    | cons q0 bx =>
    have hbl':V bx=o.nb:=by
     obtain hbl|hbl:=hbl
     .cases hbl
     .simpa[OT.nb] using hbl
    have ⟨s1,s2,us',rs',s5,s6,s7⟩:=CN m1 hA b0 o (cs6 (j0+1)) cs' us.toList x1 [] f1 w1' bx more n hp hdu hF L (.inr hbl');simp only[aL] at s6;subst s6;rw[js] at s5;subst s5;refine⟨s1,s2,[_],vr,rfl,hvr,λhH h0b ho hb=>?_⟩;have h0:=hb j0 0 q0 rfl rfl;rw[kz] at h0;have ⟨k1,k2,k3,k4⟩:=s7 hH h0b ho (λj1 k q hj hq=>by
     cases hj;have:=hb j0 (k+1) q rfl (by simpa using hq)
     rwa [show j0+(k+1)=j0+1+k from by omega] at this)
    refine⟨?_,k2,λq y hh=>?_,λ_ q hq=>?_⟩
    .simp only[oY,kQ,aL,ax];exact⟨_,[],rfl,⟨kb,lb,by rw[h0];exact hkb,rfl⟩,rfl⟩
    .simp only[oA,kQ] at hh;obtain hh|hh:=dm.1 hh
     .cases hh;refine⟨j0,rfl,0,_,_,rfl,rfl,rfl,hl,rfl,λk len he=>?_,λhe=>?_⟩
      .rw[kz,hkb] at he;cases he;exact⟨us,hus,k1⟩
      .rw[kz,hkb] at he;cases he
     .have ⟨j1,hj1,hbx⟩:=k3 q y hh;cases hj1;exact⟨j0,rfl,uj.shift (pre:=[q0]) hbx⟩
    .simp only[oA,kQ,f6];obtain rfl|hq:=dm.1 hq
     .exact dU ..
     .exact eZ _ (k4 aw q hq)
   .cases e
  .cases e
 | .pair a b,j,cs,vs,x,rest,fz,ow,bx,more,n,e,hd,hF,L,hbl=>by
  simp only[nB] at e;split at e
  .rename_i x1 r1 f1 o1 h1';split at e
   .rename_i x2 r2 f2 o2 h2';simp only[cy,ck] at e;obtain⟨rfl,rfl,rfl,rfl⟩:=e;have hF1:∀ k,iX env1 f1 k->A2 k:=λk ⟨n,x,l,hx,he⟩=>hF k ⟨n,x,l,gq _ hx,he⟩;have hF2:∀ k,iX env1 f2 k->A2 k:=λk ⟨n,x,l,hx,he⟩=>hF k ⟨n,x,l,gU _ hx,he⟩;have La:=Dg (c:=true) L;have Lb:=C3 L;have hla:j=ct4∨V (bx.take a.nb)=a.nb:=by
     obtain hbl|hbl:=hbl
     .exact .inl hbl
     .simp only[OT.nb] at hbl;exact .inr (by rw[fF];omega)
    have hlb:j.map (· + a.nb)=ct4∨V (bx.drop a.nb)=b.nb:=by
     obtain hbl|hbl:=hbl
     .exact .inl (by rw[hbl];rfl)
     .simp only[OT.nb] at hbl;exact .inr (by rw[gR];omega)
    obtain⟨s1,s2,us,rs,rfl,s6,s7⟩:=CN m1 hA b0 a j cs vs x1 r1 f1 o1 (bx.take a.nb) (bx.drop a.nb++more) n h1' hd hF1 La hla;obtain⟨t1,t2,us',rs',rfl,t6,t7⟩:=CN m1 hA b0 b (j.map (· + a.nb)) r1 rs x2 r2 f2 o2 (bx.drop a.nb) more (n+a.nr) h2' s6 hF2 Lb hlb;refine⟨λn b hh=>?_,by simp only[cw,s2,t2,OT.nr],us++us',rs',by rw[gI],t6,λhH h0b ho hb=>?_⟩
    .obtain hh|hh:=dX.1 hh
     .exact s1 n b hh
     .exact t1 n b hh
    have eb:bx.take a.nb++(bx.drop a.nb++more)=bx++more:=by rw[← gI,mj]
    have ⟨k1,k2,k3,k4⟩:=s7 (λi hi=>hH i (gq _ hi)) h0b (λk q hq=>ho k q (by rw[nJ (ct6.1 hq).1];exact hq))
     (λj0 k q hj hq=>by
      refine hb j0 k q hj ?_;rw[Cl] at hq;split at hq
      .exact hq
      .cases hq)
    have ⟨l1,l2,l3,l4⟩:=t7 (λi hi=>hH i (gU _ hi)) h0b (λk q hq=>by
      have:=ho (a.nr+k) q (by rw[pn Y,s2,nW];exact hq)
      rwa [show n+(a.nr+k)=n+a.nr+k from by omega] at this)
     (λj1 k q hj hq=>by
      cases j with
      | none=>cases hj
      | some j0 =>
       simp only[cB5,cy] at hj;subst hj;rw[Ca] at hq;have:=hb j0 (a.nb+k) q rfl hq
       rwa [show j0+(a.nb+k)=j0+a.nb+k from by omega] at this)
    rw[eb] at k1 k3 k4;have ed:(bx++more).drop a.nb=bx.drop a.nb++more:=by
     obtain hbl|hbl:=hbl
     .subst hbl;rw[P5 a _ h1',cM9,cM9]
     .simp only[OT.nb] at hbl;rw[cK7 Y]
    have tl:∀ j0,j=cs6 j0->V (bx.take a.nb)=a.nb:=λj0 hj=>by
     obtain h|h:=hla
     .rw[hj] at h;cases h
     .exact h
    rw[← ed] at l1 l3 l4;simp only[oY,oA,xq];refine⟨vm k1 l1,k2.append (by rw[s2];exact l2),λq y hh=>?_,λhj q hq=>?_⟩
    .obtain hh|hh:=dX.1 hh
     .have ⟨j0,hj,hx⟩:=k3 q y hh;refine⟨j0,hj,?_⟩;have:=hx.grow (post:=bx.drop a.nb)
      rwa [mj] at this
     .have ⟨j1,hj1,hx⟩:=l3 q y hh;cases j with
      | none=>cases hj1
      | some j0 =>
       simp only[cB5,cy] at hj1;subst hj1;refine⟨j0,rfl,?_⟩;have:=uj.shift (pre:=bx.take a.nb) (bx:=bx.drop a.nb) (j:=j0) (n:=q) (x:=y) (by rw[tl j0 rfl];exact hx)
       rwa [mj] at this
    .rw[kV];rw[← mj a.nb bx] at hq;obtain hq|hq:=dX.1 hq
     .exact gq _ (k4 hj q hq)
     .exact gU _ (l4 (by cases j with|none=>exact absurd rfl hj|some j0=>simp) q hq)
   .cases e
  .cases e
theorem MH{b0}:∀{o:OT}{x:o.X}{bx more:List Nat}{n:Nat},V bx=o.nb→∀ q,q∈bx->q∈(oA b0 o x (bx++more) n).map (·.1)
 | .dat _,x,bx,more,n,hl,q,hq=>by rw[cv4.1 hl] at hq;cases hq
 | .row _ _,x,bx,more,n,hl,q,hq=>by rw[cv4.1 hl] at hq;cases hq
 | .rowg _ _,x,bx,more,n,hl,q,hq=>by rw[cv4.1 hl] at hq;cases hq
 | .fnc _,x,bx,more,n,hl,q,hq=>by rw[cv4.1 hl] at hq;cases hq
 | .ali,x,bx,more,n,hl,q,hq=>by rw[cv4.1 hl] at hq;cases hq
 | .hole _,x,bx,more,n,hl,q,hq=>by rw[cv4.1 hl] at hq;cases hq
 | .ref E o,x,[],more,n,hl,q,hq=>by cases hq
 | .ref E o,x,q0::bx,more,n,hl,q,hq=>by
  simp only[kQ,oA,f6];rcases dm.1 hq with rfl|hq
  .exact dU ..
  .exact eZ _ (MH (o:=o) (by simpa[OT.nb] using hl) q hq)
 | .pair a b,x,bx,more,n,hl,q,hq=>by
  simp only[OT.nb] at hl;simp only[oA,kV];rw[← mj a.nb bx] at hq;have e1:bx++more=bx.take a.nb++(bx.drop a.nb++more):=by rw[← gI,mj]
  obtain hq|hq:=dX.1 hq
  .refine gq _ ?_;rw[e1];exact MH (o:=a) (by rw[fF];omega) q hq
  .refine gU _ ?_;rw[cK7 Y];exact MH (o:=b) (by rw[gR];omega) q hq
theorem BA{al Nc}(m1:Mod w Nc A1 env1 h1 w1)(hA:∀ b,A1 b->A2 b)(b0):∀ rs d svs vs fz ow n,
  n9 al rs svs h1=cs6 (d,fz,ow)->aL A1 env1 w1 svs vs->(∀ k,iX env1 fz k->A2 k)->(vN rs=cs8∨∀ b,A2 b->A' b)->wO rs=[] →
  qB h1 fz/\V ow=iy rs/\((al=cs8->env' b0=env1 PN)->(∀ i o,ow[i]? = cs6 o->env' (n+i)=sm env1 o)->aL A' env' w1 (mw b0 rs d n) vs/\lm A' env1 h1 env' w1 ow (nV b0 rs d n) n)
 | [],d,[],vs,fz,ow,n,e,hd,hF,L,hx=>by
  simp only[n9,cy,ck] at e;obtain⟨-,rfl,rfl⟩:=e;exact⟨λn b hh=>by simp at hh,rfl,λ_ _=>⟨by simpa[mw,aL] using hd,aQ⟩⟩
 | .val t::rs,d,v::svs,vs,fz,ow,n,e,hd,hF,L,hx=>by
  simp only[n9] at e;split at e
  .rename_i x f1 q hp;split at e
   .rename_i ps f2 o hr;simp only[cy,ck] at e;obtain⟨rfl,rfl,rfl⟩:=e;simp only[aL] at hd;obtain⟨u,vr,rfl,hu,hvr⟩:=hd;have hF1:∀ k,iX env1 f1 k->A2 k:=λk ⟨n,x,l,hx,he⟩=>hF k ⟨n,x,l,gq _ hx,he⟩;have hF2:∀ k,iX env1 f2 k->A2 k:=λk ⟨n,x,l,hx,he⟩=>hF k ⟨n,x,l,gU _ hx,he⟩;have ⟨p1,_,p3,p4,_⟩:=Ak m1 t [v] [u] x [] f1 _ hp (by simp only[aL];exact⟨u,[],rfl,hu,rfl⟩) hA hF1;have ⟨s1,s2,s3⟩:=BA m1 hA b0 rs ps svs vr f2 o n hr hvr hF2 (C3 L) hx;refine⟨λn b hh=>?_,s2,λhal he=>?_⟩
    .obtain hh|hh:=dX.1 hh
     .exact p1 n b hh
     .exact s1 n b hh
    .have ⟨k1,k2⟩:=s3 hal he;refine⟨?_,k2⟩;simp only[mw,aL];exact⟨u,vr,rfl,S6 (rest:=[]) (KN (Dg (c:=true) L) p4),k1⟩
   .cases e
  .cases e
 | .arr k len::rs,d,svs0,vs,fz,ow,n,e,hd,hF,L,hx=>by
  obtain⟨k',len',xs,svs,rfl⟩:=bx6 e;simp only[n9] at e;split at e
  next y f1 o hk hl hr=>have hk:=kI hk;have hl:=bH hl;subst hk hl;simp only[cy,ck] at e;obtain⟨rfl,rfl,rfl⟩:=e;simp only[aL,ax] at hd;obtain⟨u,vr,rfl,hu,hvr⟩:=hd;have ⟨s1,s2,s3⟩:=BA m1 hA b0 rs y svs vr f1 o n hr hvr hF (by simpa only[vN] using L) (by simpa only[wO] using hx);refine⟨s1,s2,λhal he=>?_⟩;have ⟨k1,k2⟩:=s3 hal he;refine⟨?_,k2⟩;simp only[mw,aL,ax];exact⟨u,vr,rfl,hu,k1⟩
  .cases e
 | .agg t::rs,d,svs0,vs,fz,ow,n,e,hd,hF,L,hx=>by
  obtain⟨cs,svs,rfl⟩:=cc5 e;simp only[n9] at e;split at e
  .rename_i x f1 w' hp;split at e
   .rename_i ps f2 o hr;simp only[cy,ck] at e;obtain⟨rfl,rfl,rfl⟩:=e;simp only[aL,ax] at hd;obtain⟨u,vr,rfl,⟨us,rfl,hu⟩,hvr⟩:=hd;have hF1:∀ k,iX env1 f1 k->A2 k:=λk ⟨n,x,l,hx,he⟩=>hF k ⟨n,x,l,gq _ hx,he⟩;have hF2:∀ k,iX env1 f2 k->A2 k:=λk ⟨n,x,l,hx,he⟩=>hF k ⟨n,x,l,gU _ hx,he⟩;have ⟨p1,p2,us',rs',p3,p4,p5⟩:=CN (env':=env') m1 hA b0 t ct4 cs us.toList x [] f1 w' [] [] n hp hu hF1 (Dg (c:=true) L) (.inl rfl);simp only[aL] at p4;subst p4;rw[js] at p3;subst p3;have ⟨s1,s2,s3⟩:=BA m1 hA b0 rs ps svs vr f2 o (n+t.nr) hr hvr hF2 (C3 L) (cC6.1 hx).2;refine⟨λn b hh=>?_,by simp only[cw,p2,s2,iy];omega,λhal he=>?_⟩
    .obtain hh|hh:=dX.1 hh
     .exact p1 n b hh
     .exact s1 n b hh
    .have ⟨l1,l2,_⟩:=p5 (λi hi=>by rw[(cC6.1 hx).1] at hi;cases hi) hal (λk q hq=>he k q (by rw[nJ (ct6.1 hq).1];exact hq)) (λj0 k q hj _=>by cases hj);have ⟨k1,k2⟩:=s3 hal (λk q hq=>by
      have:=he (t.nr+k) q (by rw[pn Y,p2,nW];exact hq)
      rwa [show n+(t.nr+k)=n+t.nr+k from by omega] at this)
     simp only[mw,nV,aL,ax];exact⟨⟨_,vr,rfl,⟨us,rfl,l1⟩,k1⟩,l2.append (by rw[p2];exact k2)⟩
   .cases e
  .cases e
 | .own E t::rs,d,svs0,vs,fz,ow,n,e,hd,hF,L,hx=>by
  obtain⟨v,svs,rfl⟩:=bB7 e;simp only[n9] at e;split at e
  .rename_i x r1 w' hp;split at e
   next ps f2 o hr=>simp only[cy,ck] at e;obtain⟨rfl,rfl,rfl⟩:=e;simp only[aL] at hd;obtain⟨u,vr,rfl,hu,hvr⟩:=hd;obtain⟨v',vr',p1,-,-,p3⟩:=T4 (A':=A') m1 hA (Dg (c:=true) L) hp (vs:=[u]) (by simp only[aL];exact⟨u,[],rfl,hu,rfl⟩);cases p1;have ⟨s1,s2,s3⟩:=BA m1 hA b0 rs ps svs vr f2 o (n+1) hr hvr hF (C3 L) hx;refine⟨s1,by simp only[fa,s2,iy],λhal he=>?_⟩;have ⟨l1,l2⟩:=p3 env' n (he 0 _ rfl);have ⟨k1,k2⟩:=s3 hal (λk q hq=>by have:=he (k+1) q (by simpa using hq);rwa [show n+(k+1)=n+1+k from by omega] at this);simp only[mw,nV,aL];exact⟨⟨u,vr,rfl,l1,k1⟩,l2.1,k2⟩
   .cases e
  .cases e
 | .box E t::rs,d,svs0,vs,fz,ow,n,e,hd,hF,L,hx=>by
  obtain⟨q,svs,rfl⟩:=bB0 e;simp only[n9] at e;split at e
  .rename_i E' cs hl;split at e
   .rename_i x f1 w' hE hp;have hE:=bH hE;subst hE;split at e
    .rename_i ps f2 o hr;simp only[cy,ck] at e;obtain⟨rfl,rfl,rfl⟩:=e;simp only[aL,ax] at hd;obtain⟨u,vr,rfl,⟨kb,lb,hkb,rfl⟩,hvr⟩:=hd;have ⟨⟨us,hus,hdu⟩,_⟩:=m1.live_blk hl hkb;have hF1:∀ k,iX env1 f1 k->A2 k:=λk ⟨n,x,l,hx,he⟩=>hF k ⟨n,x,l,gq _ hx,he⟩;have hF2:∀ k,iX env1 f2 k->A2 k:=λk ⟨n,x,l,hx,he⟩=>hF k ⟨n,x,l,gU _ hx,he⟩;have ⟨p1,p2,us',rs',p3,p4,p5⟩:=CN (env':=env') m1 hA b0 t ct4 cs us.toList x [] f1 w' [] [] (n+1) hp hdu hF1 (Dg (c:=true) L) (.inl rfl);simp only[aL] at p4;subst p4;rw[js] at p3;subst p3;have ⟨s1,s2,s3⟩:=BA m1 hA b0 rs ps svs vr f2 o (n+1+t.nr) hr hvr hF2 (C3 L) (cC6.1 hx).2;refine⟨λn b hh=>?_,by simp only[fa,cw,p2,s2,iy];omega,λhal he=>?_⟩
     .obtain hh|hh:=dX.1 hh
      .exact p1 n b hh
      .exact s1 n b hh
     .have h0:=he 0 (cs6 q) rfl;simp only[kz,sm] at h0;have he':∀ k q',(w'++o)[k]? = cs6 q'→env' (n+1+k)=sm env1 q':=λk q' hq=>by
       have:=he (k+1) q' (by simpa using hq);rwa [show n+(k+1)=n+1+k from by omega] at this
      have ⟨l1,l2,_⟩:=p5 (λi hi=>by rw[(cC6.1 hx).1] at hi;cases hi) hal (λk q hq=>he' k q (by rw[nJ (ct6.1 hq).1];exact hq)) (λj0 k q hj _=>by cases hj);have ⟨k1,k2⟩:=s3 hal (λk q hq=>by
       have:=he' (t.nr+k) q (by rw[pn Y,p2,nW];exact hq)
       rwa [show n+1+(t.nr+k)=n+1+t.nr+k from by omega] at this)
      simp only[mw,nV,aL,ax];refine⟨⟨_,vr,rfl,⟨kb,lb,by rw[h0];exact hkb,rfl⟩,k1⟩,⟨rfl,_,rfl,rfl,.inl ⟨q,_,rfl,hl,rfl,λk len hk=>?_,λhk=>?_⟩⟩,l2.append (by rw[p2];exact k2)⟩
      .rw[hkb] at hk;cases hk;exact⟨us,hus,l1⟩
      .rw[hkb] at hk;cases hk
    .cases e
   .cases e
  .cases e
 | .fn f k::rs,d,svs0,vs,fz,ow,n,e,hd,hF,L,hx=>by
  obtain⟨g,cs,svs,rfl⟩:=aK8 e;simp only[n9] at e;split at e
  .rename_i hf hk;have hf:=bH hf;have hk:=bH hk;subst hf;split at e
   .rename_i ps f2 o hr;simp only[cy,ck] at e;obtain⟨rfl,rfl,rfl⟩:=e;simp only[aL,ax] at hd;obtain⟨x,vr,rfl,⟨us,rfl,hu⟩,hvr⟩:=hd;have hul:=kr hu;have ⟨s1,s2,s3⟩:=BA m1 hA b0 rs ps (cs++svs) (us.toList++vr) f2 o n hr (vm hu hvr) hF L hx;refine⟨s1,s2,λhal he=>?_⟩;have ⟨k1,k2⟩:=s3 hal he;refine⟨?_,k2⟩;simp only[mw,aL,ax];refine⟨_,vr,rfl,⟨us,rfl,?_⟩,?_⟩
    .have:=Eb k k1
     rwa [cH5 Y] at this
    .have:=Eh k k1
     rwa [cK9 Y] at this
   .cases e
  .cases e
 | [],_,_::_,_,_,_,_,e,_,_,_,_=>by cases e
 | .val _::_,_,[],_,_,_,_,e,_,_,_,_=>by cases e
def jN:List PK->Nat
 | []=>0
 | .val _::r=>jN r
 | .agg _::r=>jN r
 | .own _ _::r=>jN r
 | .ago _::r=>jN r
 | .fn _ _::r=>jN r
 | .nils::r=>jN r
 | .yld _ _::r=>jN r
 | .box _ o::r=>o.nb+jN r+1
 | .row _ _::r=>jN r+1
theorem J3:∀{o:OT}{d:o.D}{j i:Nat},V (xE o d j i)=o.nb
 | .dat _,_,_,_=>rfl
 | .row _ _,_,_,_=>rfl
 | .rowg _ _,_,_,_=>rfl
 | .fnc _,_,_,_=>rfl
 | .ali,_,_,_=>rfl
 | .hole _,_,_,_=>rfl
 | .ref _ o,d,j,i=>by simp only[xE,fa,J3 (o:=o),OT.nb]
 | .pair a b,d,j,i=>by simp only[xE,cw,J3 (o:=a),J3 (o:=b),OT.nb]
theorem zq:∀{ps:List PK}{d:bG ps}{j i:Nat},V (rA ps d j i)=jN ps
 | [],_,_,_=>rfl
 | .val t::ps,d,j,i=>zq (ps:=ps)
 | .agg t::ps,d,j,i=>zq (ps:=ps)
 | .own _ t::ps,d,j,i=>zq (ps:=ps)
 | .ago _::ps,d,j,i=>zq (ps:=ps)
 | .fn _ _::ps,d,j,i=>zq (ps:=ps)
 | .nils::ps,d,j,i=>zq (ps:=ps)
 | .yld _ _::ps,d,j,i=>zq (ps:=ps)
 | .box E o::ps,d,j,i=>by simp only[rA,fa,cw,J3,zq (ps:=ps),jN]
 | .row E t::ps,d,j,i=>by simp only[rA,fa,zq (ps:=ps),jN]
theorem w7{Nc}(m1:Mod w Nc A1 env1 h1 w1)(hA:∀ b,A1 b->A2 b)(b0):∀ ps d fz ow bx j n,
  nD ps j h1=cs6 (d,fz,ow)->(∀ k,iX env1 fz k->A2 k)->(oD ps=cs8∨∀ b,A2 b->A' b)->V bx=jN ps →
  qB h1 fz/\V ow=jZ ps/\((∀ i∈mr ps,∀ v s,env1 (HN+i) = .val v s->ax A' env' w1 s v)->(bx≠[]->env' b0=env1 PN)->(∀ k q,ow[k]? = cs6 q->env' (n+k)=sm env1 q)->(∀ k q,bx[k]? = cs6 q->env' q=env1 (PN+(j+k))) →
   lm A' env1 h1 env' w1 ow (jd ps d n) n/\(∀ q x,(q,x)∈gV b0 ps d bx n->uj A' env1 h1 env' w1 bx j q x))∧∀ q,q∈bx->q∈(gV b0 ps d bx n).map (·.1)
 | [],d,fz,ow,bx,j,n,e,hF,L,hl=>by
  simp only[nD,cy,ck] at e;obtain⟨-,rfl,rfl⟩:=e;simp only[jN,cv4] at hl;subst hl;exact⟨λn b hh=>by simp at hh,rfl,λ_ _ _ _=>⟨aQ,λq x hh=>by simp[gV] at hh⟩,λq hh=>by simp at hh⟩
 | .val t::ps,d,fz,ow,bx,j,n,e,hF,L,hl=>by
  simp only[gV,jd,jZ];exact w7 m1 hA b0 ps d fz ow bx j n (by simpa only[nD] using e) hF (by simpa only[oD] using L) (by simpa only[jN] using hl)
 | .agg t::ps,d,fz,ow,bx,j,n,e,hF,L,hl=>by
  simp only[gV,jd,jZ];exact w7 m1 hA b0 ps d fz ow bx j n (by simpa only[nD] using e) hF (by simpa only[oD] using L) (by simpa only[jN] using hl)
 | .own _ t::ps,d,fz,ow,bx,j,n,e,hF,L,hl=>by
  simp only[gV,jd,jZ];exact w7 m1 hA b0 ps d fz ow bx j n (by simpa only[nD] using e) hF (by simpa only[oD] using L) (by simpa only[jN] using hl)
 | .ago _::ps,d,fz,ow,bx,j,n,e,hF,L,hl=>by
  simp only[gV,jd,jZ];have ⟨s1,s2,s3,s4⟩:=w7 m1 hA b0 ps d fz ow bx j n (by simpa only[nD] using e) hF (by simpa only[oD] using L) (by simpa only[jN] using hl);exact⟨s1,s2,λhH=>s3 λi hi=>hH i (gU _ hi),s4⟩
 | .fn _ _::ps,d,fz,ow,bx,j,n,e,hF,L,hl=>by
  simp only[gV,jd,jZ];exact w7 m1 hA b0 ps d fz ow bx j n (by simpa only[nD] using e) hF (by simpa only[oD] using L) (by simpa only[jN] using hl)
 | .nils::ps,d,fz,ow,bx,j,n,e,hF,L,hl=>by
  simp only[gV,jd,jZ];exact w7 m1 hA b0 ps d fz ow bx j n (by simpa only[nD] using e) hF (by simpa only[oD] using L) (by simpa only[jN] using hl)
 | .yld _ _::ps,d,fz,ow,bx,j,n,e,hF,L,hl=>by
  simp only[gV,jd,jZ];exact w7 m1 hA b0 ps d fz ow bx j n (by simpa only[nD] using e) hF (by simpa only[oD] using L) (by simpa only[jN] using hl)
 | .box E o::ps,d,fz,ow,bx,j,n,e,hF,L,hl=>by
  cases bx with
  | nil=>simp[jN] at hl
  | cons n0 bx =>
  simp only[nD] at e;split at e
  .rename_i E' cs hlk;split at e
   .rename_i x f1 w' hE hp;have hE:=bH hE;subst hE;split at e
    .rename_i ps' f2 ow2 hr;simp only[cy,ck] at e;obtain⟨rfl,rfl,rfl⟩:=e;simp only[fa,jN] at hl;have hF1:∀ k,iX env1 f1 k->A2 k:=λk ⟨n,x,l,hx,he⟩=>hF k ⟨n,x,l,gq _ hx,he⟩;have hF2:∀ k,iX env1 f2 k->A2 k:=λk ⟨n,x,l,hx,he⟩=>hF k ⟨n,x,l,gU _ hx,he⟩;have hlt:V (bx.take o.nb)=o.nb:=by rw[fF];omega
     have eb:bx.take o.nb++bx.drop o.nb=bx:=mj ..;have ⟨s1,s2,s3,s4⟩:=w7 m1 hA b0 ps ps' f2 ow2 (bx.drop o.nb) (j+1+o.nb) (n+o.nr) hr hF2 (C3 L) (by rw[gR];omega);have hm:=m1.nm (PN+j);rw[hlk] at hm;have hbd:∃ kb lb us,env1 (PN+j) = .blk kb lb/\w1.heap[kb]? = cs6 (.cells us E (0,0))/\aL A1 env1 w1 cs us.toList:=by
      obtain⟨k',len',he',⟨us,hus,hdu⟩,_⟩|⟨he',_,_,hb|hb⟩:=hm
      .exact⟨k',len',us,he',hus,hdu⟩
      .cases hb
      .cases hb
     have ⟨kb,lb,us,hkb,hus,hdu⟩:=hbd;have ⟨p1,p2,us',rs',p3,p4,p5⟩:=CN (al:=true) (env':=env') m1 hA b0 o (cs6 (j+1)) cs us.toList x [] f1 w' (bx.take o.nb) (bx.drop o.nb) n hp hdu hF1 (Dg (c:=true) L) (.inr hlt);simp only[aL] at p4;subst p4;rw[js] at p3;subst p3;rw[eb] at p5;refine⟨λn b hh=>?_,by simp only[cw,p2,s2,jZ];omega,λhH h0b ho hb=>?_,λq hq=>?_⟩
     .obtain hh|hh:=dX.1 hh
      .exact p1 n b hh
      .exact s1 n b hh
     .have ⟨l1,l2,l3,_⟩:=p5 (λi hi=>hH i (gq _ hi)) (λ_=>h0b aw) (λk q hq=>ho k q (by rw[nJ (ct6.1 hq).1];exact hq))
       (λj0 k q hj hq=>by
        cases hj;rw[Cl] at hq;split at hq
        .have:=hb (k+1) q (by simpa using hq)
         rwa [show j+(k+1)=j+1+k from by omega] at this
        .cases hq)
      have ⟨k1,k2⟩:=s3 (λi hi=>hH i (gU _ hi)) (λ_=>h0b aw) (λk q hq=>by
        have:=ho (o.nr+k) q (by rw[pn Y,p2,nW];exact hq)
        rwa [show n+(o.nr+k)=n+o.nr+k from by omega] at this)
       (λk q hq=>by
        rw[Ca] at hq;have:=hb (o.nb+k+1) q (by simpa using hq)
        rwa [show j+(o.nb+k+1)=j+1+o.nb+k from by omega] at this)
      simp only[jd,gV];refine⟨l2.append (by rw[p2];exact k1),λq y hh=>?_⟩;obtain hh|hh:=dm.1 hh
      .cases hh;refine⟨0,_,_,rfl,rfl,rfl,hlk,rfl,λk len he=>?_,λhe=>?_⟩
       .rw[kz,hkb] at he;cases he;exact⟨us,hus,l1⟩
       .rw[kz,hkb] at he;cases he
      .obtain hh|hh:=dX.1 hh
       .have ⟨j0,hj,hx⟩:=l3 q y hh;cases hj;have:=(uj.shift (pre:=[n0]) (j:=j) hx).grow (post:=bx.drop o.nb)
        rwa [gI,eb] at this
       .have:=uj.shift (pre:=n0::bx.take o.nb) (bx:=bx.drop o.nb) (j:=j) (n:=q) (x:=y) (by rw[fa,hlt,show j+(o.nb+1)=j+1+o.nb from by omega];exact k2 q y hh)
        rwa [kQ,eb] at this
     .simp only[gV,f6,kV];obtain rfl|hq:=dm.1 hq
      .exact dU ..
      .refine eZ _ ?_;rw[← eb] at hq;obtain hq|hq:=dX.1 hq
       .refine gq _ ?_;have:=MH (b0:=b0) (o:=o) (x:=x) (n:=n) (more:=bx.drop o.nb) hlt q hq
        rwa [eb] at this
       .exact gU _ (s4 q hq)
    .cases e
   .cases e
  .cases e
 | .row E t::ps,d,fz,ow,bx,j,n,e,hF,L,hl=>by
  cases bx with
  | nil=>simp[jN] at hl
  | cons n0 bx =>
  simp only[nD] at e;split at e
  .rename_i E' t' xs hlk;split at e
   .rename_i ys hE hcl;have hE:=bH hE;subst hE;have ⟨et,ez⟩:=lv hcl;subst et;simp only at ez;subst ez;split at e
    .rename_i ps' f2 ow2 hr;simp only[cy,ck] at e;obtain⟨rfl,rfl,rfl⟩:=e;have ⟨s1,s2,s3,s4⟩:=w7 m1 hA b0 ps ps' f2 ow2 bx (j+1) n hr hF (C3 L) (by simpa[jN] using hl);have hm:=m1.nm (PN+j);rw[hlk] at hm;refine⟨s1,s2,λhH h0b ho hb=>?_,λq hq=>?_⟩
     .have ⟨k1,k2⟩:=s3 hH (λ_=>h0b aw) ho (λk q hq=>by have:=hb (k+1) q (by simpa using hq);rwa [show j+(k+1)=j+1+k from by omega] at this);simp only[jd,gV];refine⟨k1,λq y hh=>?_⟩;obtain hh|hh:=dm.1 hh
      .cases hh;refine⟨0,_,_,rfl,rfl,rfl,hlk,rfl,λk len he=>?_,λhe=>?_⟩
       .obtain⟨k',len',he',hb,_⟩|⟨he',_⟩:=hm
        .rw[kz] at he;rw[he] at he';cases he';have ⟨us,cap,g1,g2,g3,g4,g5,g6⟩:=hb;exact⟨us,cap,g1,g2,g3,g4,g5,λi hi=>KN (Dg (c:=true) L) (jM hA (λ_ _ _=>rfl) _ _ _ _ _ (λ_ _=>rfl) (g6 i hi))⟩
        .rw[kz] at he;rw[he] at he';cases he'
       .obtain⟨k',len',he',hb,_⟩|⟨he',E2,t2,hb⟩:=hm
        .rw[kz] at he;rw[he] at he';cases he'
        .obtain hb|hb:=hb <;> cases hb;exact⟨_,_,rfl⟩
      .exact uj.shift (pre:=[n0]) (k2 q y hh)
     .simp only[gV,f6];obtain rfl|hq:=dm.1 hq
      .exact dU ..
      .exact eZ _ (s4 q hq)
    .cases e
   .cases e
  .cases e
end
end Go.SX
namespace Go.SX
def kO:List Nat->Nat->Rn
 | [],_=>[]
 | n::bx,j=>(n,cs6 (PN+j))::kO bx (j+1)
def lV:List (Option Nat)->Nat->Rn
 | [],_=>[]
 | o::r,n=>(n,o)::lV r (n+1)
variable{n:Nat}
theorem QL{a b}:cD (a++b) n=(match cD a n with|some x=>cs6 x|none=>cD b n):=by
 induction a with
 | nil=>rfl
 | cons p a ih =>
  have ⟨m,x⟩:=p;simp only[kQ,rO];grind
theorem PJ:∀{bx:List Nat}{j n:Nat}{y:Option Nat},cD (kO bx j) n=cs6 y→∃ i,bx[i]? = cs6 n/\y=cs6 (PN+(j+i))
 | m::bx,j,n,y,h=>by
  simp only[kO,rO] at h;split at h
  next e=>cases h;exact⟨0,by simp[e],rfl⟩
  .obtain⟨i,h1,h2⟩:=PJ h;exact⟨i+1,by simpa using h1,by rw[h2,show j+1+i=j+(i+1) from by omega]⟩
theorem U1:∀{bx:List Nat}{j n i:Nat},bx.Nodup->bx[i]? = cs6 n->cD (kO bx j) n=cs6 (cs6 (PN+(j+i)))
 | m::bx,j,n,0,_,h=>by
  simp at h;subst h;simp only[kO,rO,ao,kz]
 | m::bx,j,n,i+1,hn,h=>by
  have b:bx[i]? = cs6 n:=by simpa using h
  have ⟨h1,h2⟩:=cH1.1 hn;have a:n≠m:=λe=>h1 (e▸tQ b);simp only[kO,rO,I a,U1 h2 b];grind
theorem b30{bx j}(h:n ∉ bx):cD (kO bx j) n=none:=by
 cases hl:cD (kO bx j) n with
 | none=>rfl
 | some y=>have ⟨i,hi,_⟩:=PJ hl;exact absurd (tQ hi) h
theorem VJ:∀{a:List (Option Nat)}{n0 n:Nat}{y:Option Nat},cD (lV a n0) n=cs6 y→∃ i,a[i]? = cs6 y/\n=n0+i
 | o::a,n0,n,y,h=>by
  simp only[lV,rO] at h;split at h
  .simp_all
  .obtain⟨i,h1,h2⟩:=VJ h;exact⟨i+1,by simpa using h1,Y⟩
theorem ai4:∀{a:List (Option Nat)}{n0 i:Nat}{o:Option Nat},a[i]? = cs6 o->cD (lV a n0) (n0+i)=cs6 o
 | p::a,n0,0,o,h=>by simp at h;subst h;simp[lV,rO]
 | p::a,n0,i+1,o,h=>by
  have h':a[i]? = cs6 o:=by simpa using h
  have:=ai4 (n0:=n0+1) h';simp only[lV,rO,I (show ¬ n0+(i+1)=n0 from by omega)];grind
theorem PP{n}:∀{l:List (Option Nat)},BO n l=cs8↔cs6 n∈l
 | []=>by simp[BO]
 | none::r=>by simp[BO,PP (l:=r)]
 | some m::r=>by simp[BO,PP]
theorem TY{fz}:∀{a:List (Option Nat)},CD fz a=cs8→∀ i m,a[i]? = cs6 (cs6 m)->(m<PN∨QN<=m)/\m ∉ fz.map (·.1)∧∀ i':Nat,a[i']? = cs6 (cs6 m)->i=i'
 | none::r,h,i,m,hi=>by
  simp only[CD] at h;cases i with
  | zero=>simp at hi
  | succ i =>
   obtain⟨c,d,b⟩:=TY h i m (by simpa using hi);grind
 | some q::r,h,i,m,hi=>by
  simp only[CD,fB,uJ,sS] at h;have ⟨⟨⟨c,d⟩,b⟩,h4⟩:=h;have hno:∀ i,r[i]? ≠ cs6 (cs6 q):=λi hi=>by
   have:BO q r=true:=PP.2 (tQ hi);rw[this] at b;cases b
  cases i with
  | zero =>
   simp at hi;subst hi;refine⟨c.imp (λh=>lX h) (λh=>lX h),Jh d,λi' hi'=>?_⟩;grind
  | succ i =>
   have ⟨g1,g2,g3⟩:=TY h4 i m (by simpa using hi);grind
theorem Y8:∀{fz:List (Nat×Nm)},FB fz=cs8→∀ n,n∈fz.map (·.1)->n<PN∨QN<=n
 | (m,b)::r,h,n,a=>by
  simp only[FB,fB,uJ] at h;obtain e|a:=dm.1 a
  .simp_all
  .exact Y8 h.2 n a
theorem Ug{fz}:∀{bx:List Nat},Is fz bx=cs8→∀ n,n∈bx->n ∉ fz.map (·.1)
 | m::r,h,n,a=>by
  simp only[Is,fB] at h;obtain rfl|a:=dm.1 a
  .exact Jh h.1
  .exact Ug h.2 n a
theorem EE{h b d}:∀{k n:Nat}{r:List Nat},(vM n k b).run h=cs6 (d,r)->d=b∧∀ i,i<k->h (n+i) = .un
 | 0,n,r,e=>by
  simp only[vM,Q.run,cy,ck] at e;simp_all
 | k+1,n,r,e=>by
  simp only[vM,Q.run] at e;split at e
  .rename_i p q hk;obtain⟨rfl,rfl⟩:=e;split at hk
   .rename_i a;have ⟨h1,h2⟩:=EE hk;refine⟨h1,λi hi=>?_⟩;cases i with
    | zero=>exact a
    | succ i=>rw[show n+(i+1)=n+1+i from by omega];exact h2 i Y
   .cases hk
  .cases e
theorem O8{n x}:∀{cx:List (Option Nat)},(n,x)∈uA cx->x = .dead/\n∈jw cx
 | none::r,h=>by simp only[uA] at h;simpa only[jw] using O8 (cx:=r) h
 | some m::r,h=>by
  obtain h|h:=dm.1 h
  .cases h;exact⟨rfl,dU ..⟩
  .have ⟨h1,h2⟩:=O8 h;exact⟨h1,eZ _ h2⟩
theorem Tb:∀{cx:List (Option Nat)},(uA cx).map (·.1)=jw cx
 | []=>rfl
 | none::r=>by simp only[uA,jw];exact Tb (cx:=r)
 | some m::r=>by simp only[uA,jw,f6,Tb]
def R7(P:cu2)(ty:ct5)(v:SV)(h:cq):Option SV:=match v with
 | .ptr n off=>match h n with
  | .live (.cells _ cs)=>pf P ty cs off
  | .live (.ary _ k l xs)=>match tx P ty,iu P ty,off with
   | some cs8,cs6 m,0=>match ct7 m l with
    | true=>cs6 (.arr k l xs)
    | false=>ct4
   | _,_,_=>ct4
  | _=>ct4
 | _=>ct4
def xT(P:cu2):List cR2->List SV->cq->Option (List SV)
 | [],_,_=>cs6 []
 | .tmp t::r,sl,h=>match xT P r sl h with
  | some l=>cs6 (d7 sl t::l)
  | none=>ct4
 | .cell a ty::r,sl,h=>match R7 P ty (d7 sl a) h,xT P r sl h with
  | some v,cs6 l=>cs6 (v::l)
  | _,_=>ct4
def EN(l:List ct8):ct8:=if h:l.toArray.size=1 then l.toArray[0] else .tuple l.toArray
theorem bb2{P w0 N0 A env h w}(m:Mod w0 N0 A env h w){ty s g v}(e:R7 P ty s h=cs6 g)(a:ax A env w s v) :
  ∃ u,(do loadVar ty (← cV0 v):Sem ct8).run P w = .ok u w/\ax A env w g u:=by
 unfold R7 at e
 split at e
 next n off=>
  split at e
  next E cs hl=>obtain⟨b,l,d,rfl⟩:=a;have ⟨⟨vs,hh,a⟩,_⟩:=m.live_blk hl d;obtain⟨u,c,f⟩:=Hf (o:=0) e a (λj hj=>by rw[cell_of_row w b _ vs E (0,0) hh];simp);rw[gD] at c;exact⟨u,by simp[cV0,c],f⟩
  .rename_i E k len xs hl;split at e
   .rename_i mm ha hs;split at e
    .rename_i i;cases e;have i:=bH i;obtain⟨b,l,d,rfl⟩:=a;have ⟨⟨_,hn,vs,hh,a⟩,_⟩:=m.live_blk hl d;have hp:pf P ty (xs.map (.int k)) 0=cs6 (.agg (xs.map (.int k))):=by
      unfold pf;have:cx6 (0+mm) (V (xs.map (SV.int k)))=true:=by rw[Nat.ble_eq];simp;omega
      grind
     obtain⟨u,c,f⟩:=Hf (o:=0) hp a (λj hj=>by rw[cell_of_row w b _ vs E (0,0) hh];simp);refine⟨u,by simp[cV0,c],?_⟩;obtain⟨us,rfl,a⟩:=f;have ⟨h1,h2⟩:=z4 a;exact⟨by rw[← h1],hn,h2⟩
    .cases e
   .cases e
  .cases e
 .cases e
theorem To{P w0 N0 A env h w}(m:Mod w0 N0 A env h w){j a}(f:FD A env w (d7 j) a){F:cR2->Sem ct8}
  (k:∀ t,F (.tmp t)=pure (a.tmps.getD t undef)) (c:∀ t ty,F (.cell t ty)=do loadVar ty (← cV0 (a.tmps.getD t undef))):∀ l b,xT P l j h=cs6 b →
  ∃ vs,(l.mapM F).run P w = .ok vs w/\aL A env w b vs
 | [],b,e=>by cases e;exact⟨[],rfl,by simp[aL]⟩
 | .tmp t::l,b,e=>by
  simp only[xT] at e;split at e
  next d hl=>cases e;obtain⟨vs,n,g⟩:=To m f k c l d hl;refine⟨a.tmps.getD t undef::vs,?_,by simp only[aL];exact⟨_,_,rfl,f t,g⟩⟩;simp_all
  .cases e
 | .cell t ty::l,b,e=>by
  simp only[xT] at e;split at e
  next v d hv hl=>cases e;have ⟨vs,n,g⟩:=To m f k c l d hl;have ⟨u,hu,i⟩:=bb2 m hv (f t);refine⟨u::vs,?_,by simp only[aL];exact⟨_,_,rfl,i,g⟩⟩;rw[List.mapM_cons,c,cu4,hu];simp[n]
  .cases e
theorem aa3{P w0 N0 A env h w}(m:Mod w0 N0 A env h w){d a}(f:FD A env w (d7 d) a){c b}(e:xT P c.results.toList d h=cs6 b) :
  ∃ vs,(results c a.tmps).run P w = .ok (EN vs) w/\aL A env w b vs:=by
 unfold results
 rw[Array.mapM_eq_mapM_toList]
 have ⟨vs,hr,hd⟩:=To m f (F:=fun | .tmp t=>pure (a.tmps.getD t undef) | .cell t ty=>do loadVar ty (← cV0 (a.tmps.getD t undef))) (λt=>rfl) (λt ty=>rfl) c.results.toList b e
 refine⟨vs,?_,hd⟩
 rw[cu4,Sem.run_map]
 erw [hr]
 rfl
theorem Yu{A env w a vs}(h:aL A env w a vs):ax A env w (wm a) (EN vs):=by
 have hl:=kr h
 unfold wm
 split
 .simp only[aL] at h;obtain⟨v,r,rfl,h,rfl⟩:=h;exact h
 next b=>
  have:¬ V vs=1:=λe=>by
   rw[hl] at e;have ⟨x,hx⟩:=List.length_eq_one_iff.1 e;exact b x hx
  simp only[EN,ax];simp_all
def qf:List Prop->Prop
 | []=>True
 | [p]=>p
 | p::q::r=>p/\qf (q::r)
theorem zl:∀{l:List Prop},qf l↔bQ l
 | []=>tZ
 | [p]=>by simp[qf,bQ]
 | p::q::r=>by rw[qf,bQ,zl]
def BV(P:cu2)(ps:List PK)(rs:List RK)(rv:List cR2)(k:jK rs×gz ps->Prop):Ex->St->Prop:=λe S=>match e with
 | .exit _=>False
 | _=>match xT P rv S.sl (dK S.H) with
  | none=>False
  | some vs=>match n9 (cI0 0 (jN ps)) rs vs (dK S.H),nD ps 0 (dK S.H) with
   | some (y,f1,ow),cs6 (z,f2,ow2)=>match CD (f1++f2) (ow++ow2),FB (f1++f2) with
    | true,cs8=>k (y,z)
    | _,_=>False
   | _,_=>False
def pS:List SV->Nat->List SV
 | _,0=>[]
 | [],n+1 => .junk::pS [] n
 | v::l,n+1=>v::pS l n
def CW(ps:List PK)(d:bG ps)(n:Nat):St:=⟨pS (iK ps d 0 0) n,rA ps d 0 0++(uD ps d 0++vS (mr ps))⟩
theorem Ft:∀{l:List SV}{n:Nat},V (pS l n)=n
 | _,0=>by simp[pS]
 | [],n+1=>by simp[pS,Ft (l:=[])]
 | v::l,n+1=>by simp[pS,Ft]
theorem H1:∀{l:List SV}{n i:Nat},d7 (pS l n) i = .junk∨∃ s,l[i]? = cs6 s/\d7 (pS l n) i=s
 | _,0,i=>by left;simp[pS,d7,pY]
 | [],n+1,0=>by left;simp[pS,d7,pY]
 | [],n+1,i+1=>by
  rcases H1 (l:=[]) with h|⟨s,h,_⟩
  .simpa[pS,d7,pY] using h
  .simp at h
 | v::l,n+1,0=>by right;exact⟨v,aw,by simp[pS,d7,pY]⟩
 | v::l,n+1,i+1=>by
  obtain h|⟨s,h,h'⟩:=H1
  .left;simpa[pS,d7,pY] using h
  .right;exact⟨s,by simpa using h,by simpa[pS,d7,pY] using h'⟩
section
variable {P:cu2} {sp:d8}
theorem XX{m}:∀{l:List Nat},LC m l=cs8→∀ i∈l,i<m
 | [],_,i,hi=>by cases hi
 | j::r,h,i,hi=>by
  simp only[LC,fB] at h;obtain rfl|hi:=dm.1 hi
  .exact lX h.1
  .exact XX h.2 i hi
variable{ps:List PK}{rs:List RK}
theorem Wm(h:FZ ps rs=cs8):wO rs=[]/\(mr ps).Nodup∧∀ i∈mr ps,i<QN-HN:=by
 unfold FZ at h
 split at h
 next hr=>simp only[fB] at h;exact⟨hr,Qk h.1,XX h.2⟩
 .cases h
variable{svs:List SV}{fz:List (Nat×Nm)}{bx q1:List Nat}{cx:List (Option Nat)}{vs:List ct8}
theorem VT
  {base} {h} {dd} (e1:(iC ct4 ps svs).run h=cs6 ((dd,fz,bx,cx),q1)) (hnm:CC ps rs fz bx cx=cs8)
  (hun:∀ i,i<iy rs+jZ ps->h (base+i) = .un)
  {w0} {N0} {A} {env} {w} (m:Mod w0 N0 A env h w) (hd:aL A env w svs vs) :
  xO ps dd∧∃ (Nc:fT) (Ac:Nat->Prop) (envc:bt),Nc.g=N0.g/\(∀ k,Nc.n k→∃ n b l,h n = .live b/\env n = .blk k l)/\Mod w Nc Ac envc (dK (rA ps dd 0 0++(uD ps dd 0++vS (mr ps)))) w/\aL Ac envc w (iK ps dd 0 0) vs ∧
   ∀(S':St)A1 env1 w1,Mod w Nc A1 env1 (dK S'.H) w1->uv Ac envc w A1 env1 w1→∀ rsv rvs y f1 owr z f2 owb,
    aL A1 env1 w1 rsv rvs->n9 (cI0 0 (jN ps)) rs rsv (dK S'.H)=cs6 (y,f1,owr)->nD ps 0 (dK S'.H)=cs6 (z,f2,owb)->CD (f1++f2) (owr++owb)=cs8->FB (f1++f2)=cs8 →
    ∃ A' env',Mod w0 N0 A' env' (dM (w9 ps rs (y,z) base fz bx cx) h) w1/\dQ A env w A' env' w1/\ax A' env' w1 (wm (mw (bx.headD 0) rs y base)) (EN rvs):=by
 simp only[CC,fB] at hnm
 have ⟨⟨⟨hnd,hdj⟩,hbh⟩,hix⟩:=hnm
 have hnd:=Qk hnd
 have hdj:=Ug hdj
 have hbh:=lX hbh
 have hbl:V bx<=PN:=ub hbh aD
 have ⟨hxr,hxn,hxl⟩:=Wm hix
 have ⟨a1,a4,hol,hols,a6⟩:=yP m (Ac:=iQ A env fz) (λb hb=>.inl hb) ct4 ps svs vs dd fz bx cx q1 0 0 e1 hd (λk hk=>.inr hk)
 have holn:(hol.map (·.1)).Nodup:=by rw[hols.1];exact hxn
 have holv:∀ q∈hol,lQ env bx cx hol (HN+q.1) = .val q.2.1 q.2.2:=λq hq=>by
  have hq':q.1∈mr ps:=hols.1▸si (f:=(·.1)) hq;unfold lQ;rw[Va hbh (hxl _ hq')];exact Ry holn q hq
 have ⟨dargs,lb,lc⟩:=a6 (lQ env bx cx hol) (λ_=>rfl) (λn hn=>by cases hn) (λk n hn=>by rw[gD];exact K7 hbl hn) (λk q hq=>by rw[gD];exact Us hq) holv
 rw[kz] at lb lc
 have mc:=m.call hol a1 hbl lb lc hdj hnd
 rw[hols.1] at mc
 have hlen:V bx=jN ps:=by
  have:=lb.get.1;rw[nT,zq] at this;exact this
 have hnd1:=(cR7.1 hnd).1
 have live_ne:∀ q b,h q = .live b->env q ≠ .un:=λq b hq=>by
  have:=m.nm q;rw[hq] at this;obtain⟨k,len,e,_⟩|⟨e,_⟩:=this <;> rw[e] <;> simp
 have hlive:∀ n,n∈bx++jw cx→∃ b,h n = .live b/\b.mut=cs8/\env n ≠ .un:=λn hn=>by
  obtain hn|hn:=dX.1 hn
  .have ⟨i,hi⟩:=cP2.1 hn;obtain⟨b',_,_,_,⟨q,b,e,h1,h2,_⟩|⟨e,_⟩⟩:=lb.get.2 i (cs6 n) (by simp[hi])
   .cases e;exact⟨b,h1,h2,live_ne _ _ h1⟩
   .cases e
  .have ⟨i,hi⟩:=cP2.1 (BW.1 hn);obtain⟨b',_,_,_,⟨q,b,e,h1,h2,_⟩|⟨e,_⟩⟩:=lc.get.2 i (cs6 n) hi
   .cases e;exact⟨b,h1,h2,live_ne _ _ h1⟩
   .cases e
 refine⟨a4,⟨DX env (bx++jw cx),iQ A env fz,N0.g⟩,iQ A env fz,lQ env bx cx hol,rfl,λk hk=>?_,mc,dargs,?_⟩
 .have ⟨n,l,hn,he⟩:=hk;have ⟨b,hb,_⟩:=hlive n hn;exact⟨n,b,l,hb,he⟩
 .intro S' A1 env1 w1 m' x' rsv rvs y f1 owr z f2 owb hres ho hob hown hlt;have hA2:∀ b,A1 b->iQ A1 env1 (f1++f2) b:=λb hb=>.inl hb;have hF1:∀ k,iX env1 f1 k->iQ A1 env1 (f1++f2) k:=λk ⟨n,x,l,hx,he⟩=>.inr ⟨n,x,l,gq _ hx,he⟩;have hF2:∀ k,iX env1 f2 k->iQ A1 env1 (f1++f2) k:=λk ⟨n,x,l,hx,he⟩=>.inr ⟨n,x,l,gU _ hx,he⟩;have hlt:=Y8 hlt;have hownS:=TY hown;have hPQ:QN=PN+PN:=rfl;have fin:∀(As A':Nat->Prop)(hs':cq),Mod w0 N0 As env hs' w->(∀ n,n∈bx++jw cx->hs' n=h n)->(∀ i,i<iy rs+jZ ps->hs' (base+i) = .un)->(∀ b,A b->As b)->(∀ b,As b->A' b)->(∀ b,A' b->iQ A1 env1 (f1++f2) b) →
    (∀ b,A' b->As b∨((DX env (bx++jw cx) b∨w.heap.size<=b)/\b<w1.heap.size))->(vN rs=cs8∨∀ b,iQ A1 env1 (f1++f2) b->A' b)->(oD ps=cs8∨∀ b,iQ A1 env1 (f1++f2) b->A' b) →
    ∃ env',Mod w0 N0 A' env' (dM (gV (bx.headD 0) ps z bx (base+iy rs)++(nV (bx.headD 0) rs y base++(jd ps z (base+iy rs)++uA cx))) hs') w1/\dQ As env w A' env' w1/\ax A' env' w1 (wm (mw (bx.headD 0) rs y base)) (EN rvs):=by
   intro As A' hs' ms hsb hsu hAs hAA hA'2 hA1' L1 L2;have ⟨b1,b2,b3⟩:=BA (A':=A') (env':=gS (kO bx 0++lV (owr++owb) base) env env1) m' hA2 (bx.headD 0) rs y _ _ f1 owr base ho hres hF1 L1 hxr;have ⟨c1,c2,c3,c4⟩:=w7 (A':=A') (env':=gS (kO bx 0++lV (owr++owb) base) env env1) m' hA2 (bx.headD 0) ps z f2 owb bx 0 (base+iy rs) hob hF2 L2 hlen;have hfo:qB (dK S'.H) (f1++f2):=λn b hh=>by
    obtain hh|hh:=dX.1 hh
    .exact b1 n b hh
    .exact c1 n b hh
   have howl:V (owr++owb)=iy rs+jZ ps:=by rw[cw,b2,c2]
   have hnotbx:∀ i,i<iy rs+jZ ps->base+i ∉ bx:=λi hi hmem=>by
    have h1:=hsu i hi;rw[hsb _ (gq _ hmem)] at h1;have ⟨b,hb',_⟩:=hlive _ (gq _ hmem);rw[h1] at hb';cases hb'
   have hRbox:∀ i n,bx[i]? = cs6 n->cD (kO bx 0++lV (owr++owb) base) n=cs6 (cs6 (PN+i)):=λi n hi=>by
    rw[QL,U1 (j:=0) hnd1 hi,gD]
   have hRres:∀ i o,(owr++owb)[i]? = cs6 o->cD (kO bx 0++lV (owr++owb) base) (base+i)=cs6 o:=λi o hi=>by
    have hlti:i<iy rs+jZ ps:=by have:=(ct6.1 hi).1;omega
    rw[QL,b30 (hnotbx i hlti)];exact ai4 hi
   have hRinv:∀ n y,cD (kO bx 0++lV (owr++owb) base) n=cs6 y->(∃ i,bx[i]? = cs6 n/\y=cs6 (PN+i))∨∃ i,(owr++owb)[i]? = cs6 y/\n=base+i/\i<iy rs+jZ ps:=λn y hy=>by
    rw[QL] at hy;split at hy
    next x hx=>cases hy;have ⟨i,h1,h2⟩:=PJ hx;rw[gD] at h2;exact .inl ⟨i,h1,h2⟩
    .have ⟨i,h1,h2⟩:=VJ hy;exact .inr ⟨i,h1,h2,by have:=(ct6.1 h1).1;omega⟩
   have hbxlt:∀ i n,bx[i]? = cs6 n->i<PN:=λi n hi=>by have:=(ct6.1 hi).1;omega
   have henvp:∀ i n,bx[i]? = cs6 n->env1 (PN+i)=env n:=λi n hi=>by
    have ⟨b,_,_,hne⟩:=hlive n (gq _ (tQ hi));have:=hbxlt i n hi;have:=x'.envp (PN+i) Y Y (by rw[K7 hbl hi];exact hne);rw[this,K7 hbl hi]
   have eenv:∀ i o,(owr++owb)[i]? = cs6 o->gS (kO bx 0++lV (owr++owb) base) env env1 (base+i)=sm env1 o:=λi o hi=>by
    unfold gS;rw[hRres i o hi];simp only[iY,hRres i o hi];cases o <;> rfl
   have hhead:bx≠[]->gS (kO bx 0++lV (owr++owb) base) env env1 (bx.headD 0)=env1 PN:=λhne=>by
    have ⟨n0,r,hbx⟩:=List.exists_cons_of_ne_nil hne;have h0:bx[0]? = cs6 (bx.headD 0):=by rw[hbx];rfl
    unfold gS;rw[hRbox 0 _ h0];simp only[iY,hRbox 0 _ h0,kz]
   have ⟨d1,d2⟩:=b3 (λhal=>hhead (λhnil=>by
     have h0:jN ps=0:=by rw[← hlen,hnil];rfl
     rw[h0] at hal;cases hal)) (λi o hi=>eenv i o (by rw[nJ (ct6.1 hi).1];exact hi))
   have hkeepE:∀ n,env n ≠ .un->gS (kO bx 0++lV (owr++owb) base) env env1 n=env n:=λn hn=>by
    unfold gS;cases hl:cD (kO bx 0++lV (owr++owb) base) n with
    | none=>rfl
    | some y =>
     obtain⟨i,h1,rfl⟩|⟨i,h1,rfl,hi⟩:=hRinv n y hl
     .simp only[iY,hl];exact henvp i n h1
     .exact absurd (by have:=m.nm (base+i);rw[hun i hi] at this;exact this) hn
   have xc:cY w w1 (DX env (bx++jw cx)):=⟨m'.os,m'.tape,m'.output,m'.dr,m'.size,m'.fr,x'.shape⟩
   have x0:=m.xt xc (λk ⟨n,l,hn,he⟩=>by have ⟨b,hb,hm,_⟩:=hlive n hn;exact⟨n,b,l,hb,hm,he⟩) hkeepE;have xg:dQ A env w A' (gS (kO bx 0++lV (owr++owb) base) env env1) w1:=⟨⟨λb hb=>hAA b (hAs b hb),x0.envb,x0.envn,x0.envv,x0.keep,x0.shape,x0.lop⟩,x0.dfo⟩
   have hHole:∀ i∈mr ps,∀ v s,env1 (HN+i) = .val v s->ax A' (gS (kO bx 0++lV (owr++owb) base) env env1) w1 s v:=λi hi v s he=>by
    rw[← hols.1] at hi;obtain⟨q,hq,rfl⟩:=cv1.1 hi;have h1:=holv q hq;have hlq:=hxl q.1 (hols.1▸si (f:=(·.1)) hq);have h2:=x'.envp (HN+q.1) (by simp only[HN,PN];omega) (by simp only[HN,QN] at hlq ⊢;omega) (by rw[h1];simp);rw[h2,h1] at he;cases he;exact DA xg _ _ (hols.2 q hq)
   have ⟨d3,d4⟩:=c3 hHole hhead (λk q hq=>by
     have:=eenv (iy rs+k) q (by rw[pn Y,b2,nW];exact hq)
     rwa [← jv] at this)
    (λk q hq=>by
     unfold gS;rw[hRbox k q hq];simp only[iY,hRbox k q hq,gD])
   have hlookA:∀ q b k l,dK S'.H q = .live b->b.mut=cs8->env1 q = .blk k l->q ∉ (f1++f2).map (·.1)→¬ A' k:=λq b k l hq hbm he hqn hA'=>by
    have mf:=(m'.freeze hfo).1;have:dM (f1++f2) (dK S'.H) q = .live b:=by rw[rq hqn];exact hq
    exact (mf.live_blk this he).2 hbm (hA'2 k hA')
   suffices hk:Mod w0 N0 A' (gS (kO bx 0++lV (owr++owb) base) env env1) (dM (gV (bx.headD 0) ps z bx (base+iy rs)++(nV (bx.headD 0) rs y base++(jd ps z (base+iy rs)++uA cx))) hs') w1/\dQ As env w A' (gS (kO bx 0++lV (owr++owb) base) env env1) w1 by
    exact⟨_,hk.1,hk.2,Yu d1⟩
   have hnew:∀{l:List (Nat×Nm)}{os:List (Option Nat)}{n0:Nat},lm A' env1 (dK S'.H) (gS (kO bx 0++lV (owr++owb) base) env env1) w1 os l (base+n0)->(∀ i o,os[i]? = cs6 o->(owr++owb)[n0+i]? = cs6 o)→∀ n x,(n,x)∈l →
     ∃ b,x = .live b/\b.mut=cs8/\((∃ m b0,cD (kO bx 0++lV (owr++owb) base) n=cs6 (cs6 m)/\dK S'.H m = .live b0/\b0.mut=cs8 ∧
      (∀ k len,env1 m = .blk k len->mS A' (gS (kO bx 0++lV (owr++owb) base) env env1) w1 k len b)/\(env1 m = .nil→∃ E t,b = .row E t []))∨(cD (kO bx 0++lV (owr++owb) base) n=cs6 ct4∧∃ E t,b = .row E t [])):=by
    intro l os n0 hl hos n x hx;have:∀{os:List (Option Nat)}{l:List (Nat×Nm)}{k0:Nat},lm A' env1 (dK S'.H) (gS (kO bx 0++lV (owr++owb) base) env env1) w1 os l k0→∀ n x,(n,x)∈l→∃ i o b',os[i]? = cs6 o/\n=k0+i/\x = .live b'∧b'.mut=cs8 ∧
      ((∃ q b,o=cs6 q/\dK S'.H q = .live b/\b.mut=cs8/\(∀ k len,env1 q = .blk k len->mS A' (gS (kO bx 0++lV (owr++owb) base) env env1) w1 k len b')/\(env1 q = .nil→∃ E t,b' = .row E t []))∨(o=ct4∧∃ E t,b' = .row E t [])):=by
     intro os
     induction os with
     | nil=>intro l k0 hl n x hx;cases l with
      | nil=>cases hx
      | cons p l=>exact hl.elim
     | cons o os ih =>
      intro l k0 hl n x hx;cases l with
      | nil=>cases hx
      | cons p l =>
       have ⟨m',y'⟩:=p;have ⟨⟨hm,b',g1,g2,g3⟩,hr⟩:=hl;obtain e|hx:=dm.1 hx
       .cases e;exact⟨0,o,b',rfl,Y,g1,g2,g3⟩
       .have ⟨i,o',b'',k1,k2,k3⟩:=ih hr n x hx;exact⟨i+1,o',b'',by simpa using k1,Y,k3⟩
    obtain⟨i,o,b',k1,rfl,k3,k4,k5⟩:=this hl n x hx;have hr:=hRres _ _ (hos i o k1);rw[← jv] at hr;refine⟨b',k3,k4,?_⟩;obtain⟨q,b,rfl,g1,g2,g3,g4⟩|⟨rfl,g1⟩:=k5
    .exact .inl ⟨q,b,hr,g1,g2,g3,g4⟩
    .exact .inr ⟨hr,g1⟩
   refine Mod.retn (R:=kO bx 0++lV (owr++owb) base) (U:=gV (bx.headD 0) ps z bx (base+iy rs)++(nV (bx.headD 0) rs y base++(jd ps z (base+iy rs)++uA cx))) (A':=A') ms m' x'.shape ?_ ?_ ?_ ?_ ?_ hAA hA1' ?_
   .intro n x hx;obtain hx|hx:=dX.1 hx
    .have ⟨i,b,b0,h1,h2,h3,h4,h5,h6,h7⟩:=d4 n x hx;rw[gD] at h4 h6 h7;exact .inr ⟨b,h2,h3,.inl ⟨PN+i,b0,hRbox i n h1,h4,h5,h6,h7⟩⟩
    .obtain hx|hx:=dX.1 hx
     .exact .inr (hnew (n0:=0) (by rw[kz];exact d2) (λi o hi=>by rw[gD,nJ (ct6.1 hi).1];exact hi) n x hx)
     .obtain hx|hx:=dX.1 hx
      .exact .inr (hnew d3 (λi o hi=>by rw[pn Y,b2,nW];exact hi) n x hx)
      .exact .inl (O8 hx).1
   .intro n hn;have ⟨y',hy⟩:=cE5.1 hn;simp only[kV];obtain⟨i,h1,_⟩|⟨i,h1,rfl,hi⟩:=hRinv n y' hy
    .exact gq _ (c4 n (tQ h1))
    .refine gU _ ?_;by_cases hlt':i<iy rs
     .refine gq _ ?_;obtain⟨b',_,hmem,_⟩:=d2.get.2 i _ (by rw[nJ Y] at h1;exact h1);exact si (f:=(·.1)) hmem
     .refine gU _ (gq _ ?_);obtain⟨b',_,hmem,_⟩:=d3.get.2 (i-iy rs) _ (by rw[pn Y,b2] at h1;exact h1);have:=si (f:=(·.1)) hmem
      rwa [show base+iy rs+(i-iy rs)=base+i from by omega] at this
   .intro n n' q hn hn';obtain⟨i,h1,h2⟩|⟨i,h1,rfl,_⟩:=hRinv n _ hn <;> obtain⟨i',h1',h2'⟩|⟨i',h1',rfl,_⟩:=hRinv n' _ hn'
    .simp only[cy] at h2 h2';have:i=i':=Y;subst this;rw[h1] at h1';exact Option.some.inj h1'
    .simp only[cy] at h2;have:=(hownS i' q h1').1;have:=hbxlt _ _ h1;omega
    .simp only[cy] at h2';have:=(hownS i q h1).1;have:=hbxlt _ _ h1';omega
    .rw[(hownS i q h1).2.2 i' h1']
   .intro n hn;have ⟨y',hy⟩:=cE5.1 hn;obtain⟨i,h1,rfl⟩|⟨i,h1,rfl,h2⟩:=hRinv n y' hy
    .have hmem:n∈bx++jw cx:=gq _ (tQ h1);have ⟨b,g2',g3',_⟩:=hlive n hmem;exact .inr ⟨b,by rw[hsb n hmem];exact g2',g3',by rw[vn hy];exact henvp i n h1⟩
    .exact .inl (hsu i h2)
   .rintro k ⟨n,l,hn,he⟩;have ⟨b,g2',g3',_⟩:=hlive n hn;refine⟨n,b,l,?_,by rw[hsb n hn];exact g2',g3',he⟩;simp only[kV,Tb];obtain hn|hn:=dX.1 hn
    .exact gq _ (c4 n hn)
    .exact gU _ (gU _ (gU _ hn))
   .rintro q b k l hq hbm he ⟨n,hn⟩;refine hlookA q b k l hq hbm he λhmem=>?_;obtain⟨i,h1,h2⟩|⟨i,h1,rfl,_⟩:=hRinv n _ hn
    .simp only[cy] at h2;have:=hlt q hmem;have:=hbxlt _ _ h1;omega
    .exact (hownS i q h1).2.1 hmem
  unfold w9;cases hk:Dk ps rs with
  | true =>
   have ⟨mf,xf⟩:=m.freeze a1;have hback:∀ b,iQ A1 env1 (f1++f2) b->iQ A env fz b∨((DX env (bx++jw cx) b∨w.heap.size<=b)/\b<w1.heap.size):=by
    intro b hb;have hfo:qB (dK S'.H) (f1++f2):=by
     have ⟨b1,_⟩:=BA (A':=iQ A1 env1 (f1++f2)) (env':=env1) m' hA2 (bx.headD 0) rs y _ _ f1 owr base ho hres hF1 (.inr λb hb=>hb) hxr;have ⟨c1,_⟩:=w7 (A':=iQ A1 env1 (f1++f2)) (env':=env1) m' hA2 (bx.headD 0) ps z f2 owb bx 0 base hob hF2 (.inr λb hb=>hb) hlen;intro n b hh;obtain hh|hh:=dX.1 hh
     .exact b1 n b hh
     .exact c1 n b hh
    have hAlt:=(m'.freeze hfo).1.Alt b hb;obtain hb|⟨n,x,l,hx,he⟩:=hb
    .obtain h1|h1|h1:=m'.fresh b hb
     .exact .inl h1
     .exact .inr ⟨.inl h1,hAlt⟩
     .exact .inr ⟨.inr h1,hAlt⟩
    .have ⟨E,t,xs,hl,_⟩:=hfo n x hx;obtain h1|h1:=m'.own n _ b l hl rfl he
     .exact .inr ⟨.inl h1,hAlt⟩
     .exact .inr ⟨.inr h1,hAlt⟩
   have ⟨env',k1,k2,k3⟩:=fin (iQ A env fz) (iQ A1 env1 (f1++f2)) (dM fz h) mf (λn hn=>rq (hdj n hn)) (λi hi=>by
     rw[rq]
     .exact hun i hi
     .intro hmem;have ⟨⟨n,x⟩,hx,he⟩:=cv1.1 hmem;simp only at he;subst he;have ⟨E,t,xs,hl,_⟩:=a1 _ _ hx;rw[hun i hi] at hl;cases hl)
    (λb hb=>.inl hb) (λb hb=>.inl (x'.imm b hb)) (λb hb=>hb) hback (.inr λb hb=>hb) (.inr λb hb=>hb)
   refine⟨_,env',?_,xf.trans k2,k3⟩;rw[SH];exact k1
  | false =>
   have hpl:vN rs=cs8/\oD ps=true:=by
    simpa[Dk] using hk
   have ⟨env',k1,k2,k3⟩:=fin A A h m (λn hn=>rfl) hun (λb hb=>hb) (λb hb=>hb) (λb hb=>.inl (x'.imm b (.inl hb))) (λb hb=>.inl hb) (.inl hpl.1) (.inl hpl.2);refine⟨_,env',?_,k2,k3⟩;rw[js];exact k1
theorem sX.put{b w D o}:∀{a:List Deferred},sX b w a->(∀ e∈a,e.target ≠ .collected D)->sX b (w.putObj D o) a
 | [],_,_=>trivial
 | _::_,⟨E,c,h2,h3,h4,h5⟩,d=>⟨E,c,h2,by rw[cx0 λe=>d _ (dU ..) (by rw[c,e])];exact h3,h4,h5.put λe he=>d e (eZ _ he)⟩
theorem ia.leaves{P g N0 A env F fn}{R:Ending->cu6->Prop}:∀{b:List Deferred}{a:Act}{w:cu6},a.defers=b->ia g N0 A env F a w →
  (∀ w',ia g N0 A env F {a with defers:=[]} w'→uv A env w A env w'→LeavesIn cC1 0 P fn a.tmps R [] .returning w')->LeavesInM cC1 0 P fn a.tmps R b .returning w
 | [],a,w,e,t,k=>k w ⟨t.m,t.len,t.f,aQ⟩ dQ.refl.ext0
 | d::b,a,w,e,t,k=>by
  have h:=t.dfr;rw[e] at h;obtain⟨D,rfl,h1,c,h3,h4⟩:=h;have x:=E4 (A:=A) (env:=env) (o' := .deferred ct4) c rfl rfl;exact⟨aw,.inl ⟨D,_,rfl,run_takeDeferred c,ia.leaves (a:={a with defers:=b}) rfl
   ⟨t.m.put c rfl rfl h1 (.inl aw),t.len,λi=>Ga x _ _ (.inl aw) (t.f i),h4.put h3⟩ λw' t' x'=>k w' t' (x.ext0.trans x')⟩⟩
variable{f:cy6}{fn:cN5}{code:cE3}
theorem VA(post:bG ps->jK rs×gz ps->Prop)(hf:P.funcs[f]? = cs6 fn)(hb:fn.body=cs6 code)(hs:iF P sp)(ik:P.follows .mixedOrders=cs8)(an:bG ps->bL)(hl:∀ d,∀ x∈jD code,∀ r,xp (an d).ln x r->(an d).lo r)
  {base} {h} {dd} (e1:(iC ct4 ps svs).run h=cs6 ((dd,fz,bx,cx),q1)) (hnm:CC ps rs fz bx cx=cs8)
  (hun:∀ i,i<iy rs+jZ ps->h (base+i) = .un) (vc:xO ps dd->xo (CW ps dd fn.ntmps) (sx P sp (an dd) code (BV P ps rs fn.results.toList (post dd))))
  {w0} {N0} {A} {env} {w} (hG:N0.g=sp.gl) (m:Mod w0 N0 A env h w) (hd:aL A env w svs vs) :
  Calls P f vs.toArray w λe w'=>∃ v y,e = .returned v/\post dd y∧∃ A' env',Mod w0 N0 A' env' (dM (w9 ps rs y base fz bx cx) h) w'∧dQ A env w A' env' w'∧ax A' env' w' (wm (mw (bx.headD 0) rs y.1 base)) v:=by
 have ⟨a4,Nc,Ac,envc,hNg,_,mc,dargs,fin⟩:=VT e1 hnm hun m hd
 have hvc:=vc a4
 rw[IW] at hvc
 have hvl:=kr dargs
 refine callsIn_wide.1 (callsIn_of_wp_marks (n:=0) hf hb trivial (Nw (ro:=ct4) (N0:=Nc) ⟨hs,hNg.trans hG⟩ ik code (λx hx=>⟨rfl,hl dd x hx⟩) _ _ _ Ac envc _ w hvc ⟨mc,?_,?_,aQ⟩ ?_))
 .simp only[St.fs,CW,Ft,Array.size_append,Array.size_replicate];omega
 .intro i;simp only[St.fs,CW];obtain hj|⟨s,h1,h2⟩:=H1 (l:=iK ps dd 0 0) (n:=fn.ntmps) (i:=i)
  .rw[hj];simp only[ax]
  .rw[h2];have ⟨v,hv,hdv⟩:=B5 i s dargs h1;have hi:=(ct6.1 hv).1;have:(vs.toArray++cH0 (fn.ntmps-vs.toArray.size) undef).getD i undef=v:=by
    have h3:(vs.toArray++cH0 (fn.ntmps-vs.toArray.size) undef)[i]? = cs6 v:=by
     rw[Array.getElem?_append_left (by simpa using hi)];simpa using hv
    simp only[sK,h3,jb]
   rw[this];exact hdv
 .intro ex S' A1 env1 act w1 hK t' x';have hend:∃ rsv y f1 owr z f2 owb,xT P fn.results.toList S'.sl (dK S'.H)=cs6 rsv/\n9 (cI0 0 (jN ps)) rs rsv (dK S'.H)=cs6 (y,f1,owr)/\nD ps 0 (dK S'.H)=cs6 (z,f2,owb) ∧
    CD (f1++f2) (owr++owb)=cs8/\FB (f1++f2)=cs8/\post dd (y,z)/\(ex = .normal∨ex = .ret):=by
   unfold BV at hK;split at hK
   .exact hK.elim
   .rename_i hex;split at hK
    .exact hK.elim
    .rename_i rsv hts;split at hK
     .rename_i y f1 ow z f2 ow2 h1 h2;split at hK
      .rename_i h3 h4;refine⟨rsv,y,f1,ow,z,f2,ow2,hts,h1,h2,h3,h4,hK,?_⟩;cases ex with
       | normal=>exact .inl rfl
       | ret=>exact .inr rfl
       | exit i=>exact absurd rfl (hex i)
      .exact hK.elim
     .exact hK.elim
  have ⟨rsv,y,f1,owr,z,f2,owb,hts,ho,hob,hown,hlt,hpost,hex⟩:=hend;have key:=ia.leaves (P:=P) (fn:=fn) (R:=λe w'=>∃ v y,e = .returned v/\post dd y∧∃ (A':Nat->Prop) (env':bt),Mod w0 N0 A' env' (dM (w9 ps rs y base fz bx cx) h) w'∧dQ A env w A' env' w'∧ax A' env' w' (wm (mw (bx.headD 0) rs y.1 base)) v) rfl t' λw2 t2 x2=>by
   have ⟨rvs,hrun,hres⟩:=aa3 t2.m t2.f hts;exact⟨_,hrun,_,(y,z),rfl,hpost,fin S' A1 env1 w2 t2.m (x'.trans x2) rsv rvs y f1 owr z f2 owb hres ho hob hown hlt⟩
  obtain rfl|rfl:=hex <;> exact key
def Ax:(rs:List RK)->jK rs->jK rs->List Prop
 | [],_,_=>[]
 | _::rs,x,y=>(x.1=y.1)::Ax rs x.2 y.2
def qE:(ps:List PK)->gz ps->gz ps->List Prop
 | [],_,_=>[]
 | .val _::ps,x,y=>qE ps x y
 | .agg _::ps,x,y=>qE ps x y
 | .own _ _::ps,x,y=>qE ps x y
 | .ago _::ps,x,y=>qE ps x y
 | .fn _ _::ps,x,y=>qE ps x y
 | .nils::ps,x,y=>qE ps x y
 | .yld _ _::ps,x,y=>qE ps x y
 | .box _ _::ps,x,y=>(x.1=y.1)::qE ps x.2 y.2
 | .row _ _::ps,x,y=>(x.1=y.1)::qE ps x.2 y.2
theorem PC:∀{rs:List RK}{x y:jK rs},bQ (Ax rs x y)->x=y
 | [],x,y,_=>rfl
 | _::rs,x,y,h=>cQ0 h.1 (PC (rs:=rs) h.2)
theorem xY:∀{ps:List PK}{x y:gz ps},bQ (qE ps x y)->x=y
 | [],x,y,_=>rfl
 | .val _::ps,x,y,h=>xY (ps:=ps) h
 | .agg _::ps,x,y,h=>xY (ps:=ps) h
 | .own _ _::ps,x,y,h=>xY (ps:=ps) h
 | .ago _::ps,x,y,h=>xY (ps:=ps) h
 | .fn _ _::ps,x,y,h=>xY (ps:=ps) h
 | .nils::ps,x,y,h=>xY (ps:=ps) h
 | .yld _ _::ps,x,y,h=>xY (ps:=ps) h
 | .box _ _::ps,x,y,h=>cQ0 h.1 (xY h.2)
 | .row _ _::ps,x,y,h=>cQ0 h.1 (xY h.2)
theorem Ph:∀{rs:List RK}{x:jK rs},bQ (Ax rs x x)
 | [],_=>trivial
 | _::rs,x=>⟨rfl,Ph (rs:=rs)⟩
theorem xe:∀{ps:List PK}{x:gz ps},bQ (qE ps x x)
 | [],_=>trivial
 | .val _::ps,x=>xe (ps:=ps)
 | .agg _::ps,x=>xe (ps:=ps)
 | .own _ _::ps,x=>xe (ps:=ps)
 | .ago _::ps,x=>xe (ps:=ps)
 | .fn _ _::ps,x=>xe (ps:=ps)
 | .nils::ps,x=>xe (ps:=ps)
 | .yld _ _::ps,x=>xe (ps:=ps)
 | .box _ _::ps,x=>⟨rfl,xe⟩
 | .row _ _::ps,x=>⟨rfl,xe⟩
theorem Ct.ok(c:Ct)(hf:P.funcs[f]? = cs6 fn)(hb:fn.body=cs6 code)(hs:iF P sp)(a:P.follows .mixedOrders=cs8)(b:bG c.ps->bL)(hl:∀ d,∀ x∈jD code,∀ r,xp (b d).ln x r->(b d).lo r)
  (vc:Af c.ps λd=>xO c.ps d->qf (c.pre d)->xo (CW c.ps d fn.ntmps) (sx P sp (b d) code (BV P c.ps c.rs fn.results.toList λy=>qf (Ax c.rs y.1 (c.out d).1++qE c.ps y.2 (c.out d).2)))):mG P sp.gl f c.spec:=by
 intro base svs h d r e hp w0 N0 A env w vs hG m hd
 obtain⟨⟨n,fz,bx,cx⟩,q1,q2,e1,g,rfl⟩:=Q.run_bind _ _ _ e
 split at g
 case h_2=>cases g
 rename_i i
 obtain⟨rfl,j⟩:=EE g
 refine (VA (λd y=>qf (Ax c.rs y.1 (c.out d).1++qE c.ps y.2 (c.out d).2)) hf hb hs a b hl e1 i j (λhw=>H2.1 vc n hw (zl.2 hp)) hG m hd).mono ?_
 rintro e' w' ⟨v,y,rfl,hy,A',env',h1,h2,h3⟩
 have ⟨k,l⟩:=tf.1 (zl.1 hy)
 have:y=c.out n:=cQ0 (PC k) (xY l)
 subst this
 exact⟨v,rfl,(),A',env',aQ,h1,h2,h3⟩
theorem Cn.ok(c:Cn)(hf:P.funcs[f]? = cs6 fn)(hb:fn.body=cs6 code)(hs:iF P sp)(a:P.follows .mixedOrders=cs8)(g:bG c.ps->bL)(hl:∀ d,∀ x∈jD code,∀ r,xp (g d).ln x r->(g d).lo r)
  (vc:Af c.ps λd=>xO c.ps d->qf (c.pre d)->xo (CW c.ps d fn.ntmps) (sx P sp (g d) code (BV P c.ps c.rs fn.results.toList (c.post d)))):mG P sp.gl f c.spec:=by
 intro b svs h d r e hp w0 N0 A env w vs hG m hd
 obtain⟨⟨dd,fz,bx,cx⟩,q1,q2,e1,i,rfl⟩:=Q.run_bind _ _ _ e
 split at i
 case h_2=>cases i
 rename_i j
 obtain⟨rfl,k⟩:=EE i
 refine (VA c.post hf hb hs a g hl e1 j k (λhw=>H2.1 vc dd hw (zl.2 hp)) hG m hd).mono ?_
 rintro e' w' ⟨v,y,rfl,hy,A',env',h1,h2,h3⟩
 refine⟨v,rfl,y,A',env',hy,?_,h2,h3⟩
 show Mod w0 N0 A' env' (dM ((DD c.ps c.rs b fz bx cx).map λp=>(p.1,p.2 y)) h) w'
 rw[RN];exact h1
def Ct.nspec(c:Ct):Spec:=λbase svs=>(iC ct4 c.ps svs).bind λp=>match CC c.ps c.rs p.2.1 p.2.2.1 p.2.2.2 with
 | true=>vM base (iy c.rs+jZ c.ps) (.nd (jK c.rs×gz c.ps) (Vf c.rs c.ps) (c.pre p.1) (λy=>qf (Ax c.rs y.1 (c.out p.1).1++qE c.ps y.2 (c.out p.1).2)) (λ_=>⟨c.out p.1,zl.2 (tf.2 ⟨Ph,xe⟩)⟩)
   (λy=>wm (mw (p.2.2.1.headD 0) c.rs y.1 base)) (DD c.ps c.rs base p.2.1 p.2.2.1 p.2.2.2))
 | false => .fail
theorem Vr{h dl d}:∀{k n:Nat}{r:List Nat},(vM n k dl).run h=cs6 (d,r)→∀ a,(vM n k a).run h=cs6 (a,r)
 | 0,n,r,e,a=>by
  simp only[vM,Q.run,cy,ck] at e ⊢;exact⟨aQ,e.2⟩
 | k+1,n,r,e,a=>by
  simp only[vM,Q.run] at e ⊢;split at e
  .rename_i p q hk;obtain⟨rfl,rfl⟩:=e;split at hk
   next hun=>have:=Vr hk a;rw[this]
   .cases hk
  .cases e
universe u v
theorem Q.bind_run1{h:cq}{α:Type u}{β:Type v}(q:Q α)(f:α->Q β){a:α}{d:List Nat}{b:β}{r2:List Nat}(c:q.run h=cs6 (a,d))(h2:(f a).run h=cs6 (b,r2)):(q.bind f).run h=cs6 (b,d++r2):=by
 induction q generalizing d with
 | ret x=>simp only[Q.run,cy,ck] at c;obtain⟨rfl,rfl⟩:=c;simpa[Q.bind] using h2
 | ask n k ih =>
  simp only[Q.run] at c;split at c
  next x y hk=>obtain⟨rfl,rfl⟩:=c;simp only[Q.bind,Q.run,ih _ hk,kQ]
  .cases c
 | fail=>cases c
theorem Ct.named{G}{c:Ct}(ok:mG P G f c.spec):mG P G f c.nspec:=by
 intro a svs h d r e hp w0 N0 A env w vs hG m hd
 obtain⟨⟨b,fz,bx,cx⟩,q1,q2,e1,g,rfl⟩:=Q.run_bind _ _ _ e
 split at g
 case h_2=>cases g
 obtain⟨rfl,hun⟩:=EE g
 have e3:=Vr g (.det (c.pre b) (wm (mw (bx.headD 0) c.rs (c.out b).1 a)) (w9 c.ps c.rs (c.out b) a fz bx cx))
 have e4:(c.spec a svs).run h=cs6 (.det (c.pre b) (wm (mw (bx.headD 0) c.rs (c.out b).1 a)) (w9 c.ps c.rs (c.out b) a fz bx cx),q1++q2):=by
  refine Q.bind_run1 _ _ e1 ?_;simp_all
 refine (ok a svs h _ _ e4 hp w0 N0 A env w vs hG m hd).mono ?_
 rintro e' w' ⟨v,he,x,A',env',_,h1,h2,h3⟩
 refine⟨v,he,c.out b,A',env',zl.2 (tf.2 ⟨Ph,xe⟩),?_,h2,h3⟩
 show Mod w0 N0 A' env' (dM ((DD c.ps c.rs a fz bx cx).map λp=>(p.1,p.2 (c.out b))) h) w'
 rw[RN];exact h1
end
end Go.SX
namespace Go.SX
open Go.ChangeShapes Go.WideShapes Go.ChangeAt Go.RowKit
universe u v
def zR(P:cu2)(f:CT->ct5->Bool):List Field->CT->Nat->Bool
 | [],_,_=>ct2
 | [fd],t,o=>f t fd.type&&ct7 fd.offset o&&ct7 (P.cellsOf fd.type) t.size
 | fd::g::r,.pair a b,o=>f a fd.type&&ct7 fd.offset o&&ct7 (P.cellsOf fd.type) a.size&&zR P f (g::r) b (o+a.size)
 | _,_,_=>ct2
def A4(P:cu2)(f:CT->ct5->Bool)(e:ct5):Nat->CT->Bool
 | 0,_=>ct2
 | 1,t=>f t e&&ct7 (P.cellsOf e) t.size
 | n+2,.pair a b=>f a e&&ct7 (P.cellsOf e) a.size&&A4 P f e (n+1) b
 | _,_=>ct2
def pt(P:cu2):Nat->CT->ct5->Bool
 | 0,_,_=>ct2
 | n+1,t,τ=>match P.underlying τ,t with
  | some (.int k),.int k'=>j3 k k'
  | some .bool,.bool=>cs8
  | some .string,.str=>cs8
  | some (.slice e),.sl u=>pt P n u e&&ct7 (P.cellsOf e) u.size
  | some (.struct fs),t=>zR P (pt P n) fs.toList t 0
  | some (.array k e),t=>A4 P (pt P n) e k t
  | _,_=>ct2
section
variable {H:Type} {enc:ct5×ct8->H} {P:cu2} {w:cu6} {base:Nat} {held:Bool}
variable{t:CT}
theorem CG{A}{cs:List ct8}{o a d}(hs:a=t.size)(h:Rd A w t (λj=>((cs.drop o).take a)[j]?) 0 d):Rd A w t (λj=>cs[j]?) o d:=by
 have:=Fo h o
 rw[gD] at this
 refine jM (λ_ h=>h) (λ_ _ _=>rfl) t _ _ _ _ (λj hj=>?_) this
 simp_all
theorem Vp{A}{f:CT->ct5->Bool}{cs:List ct8}{n}
  (m:∀ t τ cs x,f t τ=cs8->cC2 enc P w base (λ_=>cs8) held n τ cs=cs6 x→∃ d,Rd A w t (λj=>cs[j]?) 0 d) :
  ∀ v t o,zR P f v t o=cs8->(∀ c∈v,∃ x,cC2 enc P w base (λ_=>cs8) held n c.type ((cs.drop c.offset).take (P.cellsOf c.type))=cs6 x)→∃ d,Rd A w t (λj=>cs[j]?) o d
 | [c],t,o,h,k=>by
  simp only[zR,fB] at h;obtain⟨⟨p,e⟩,i⟩:=h;have e:=bH e;have i:=bH i;have ⟨x,k⟩:=k c aw;have ⟨d,l⟩:=m t c.type _ x p k;rw[e] at l;exact⟨d,CG i l⟩
 | c::g::r,.pair a b,o,h,k=>by
  simp only[zR,fB] at h;have ⟨⟨⟨p,e⟩,i⟩,h4⟩:=h;have e:=bH e;have i:=bH i;have ⟨x,q⟩:=k c aw;have ⟨d,l⟩:=m a c.type _ x p q;rw[e] at l;have ⟨d',s⟩:=Vp m (g::r) b (o+a.size) h4 (λu hm=>k u (eZ _ hm));exact⟨(d,d'),CG i l,s⟩
theorem Yi{A}{f:CT->ct5->Bool}{cs:List ct8}{n e}
  (m:∀ t τ cs x,f t τ=cs8->cC2 enc P w base (λ_=>cs8) held n τ cs=cs6 x→∃ d,Rd A w t (λj=>cs[j]?) 0 d) :
  ∀ k t i,A4 P f e k t=cs8->(∀ j,i<=j->j<i+k→∃ x,cC2 enc P w base (λ_=>cs8) held n e ((cs.drop (j*P.cellsOf e)).take (P.cellsOf e))=cs6 x)→∃ d,Rd A w t (λj=>cs[j]?) (i*P.cellsOf e) d
 | 1,t,i,h,g=>by
  simp only[A4,fB] at h;obtain⟨l,c⟩:=h;have c:=bH c;have ⟨x,g⟩:=g i Y Y;have ⟨d,o⟩:=m t e _ x l g;exact⟨d,CG c o⟩
 | k+2,.pair a b,i,h,g=>by
  simp only[A4,fB] at h;have ⟨⟨l,c⟩,h4⟩:=h;have c:=bH c;have ⟨x,p⟩:=g i Y Y;have ⟨d,o⟩:=m a e _ x l p;have ⟨d',hd'⟩:=Yi m (k+1) b (i+1) h4 (λj l c=>g j Y Y);refine⟨(d,d'),CG c o,?_⟩;grind
theorem aS4{α:Type}(n)(p:Nat->α->Prop)(h:∀ i,i<n→∃ a,p i a):∃ l,V l=n∧∀ i (b:i<V l),p i l[i]:=by
 induction n with
 | zero=>exact⟨[],rfl,λi b=>by simp at b⟩
 | succ n ih =>
  have ⟨l,hl,hp⟩:=ih λi b=>h i Y;have ⟨a,ha⟩:=h n Y;refine⟨l++[a],by simp[hl],λi b=>?_⟩;grind
theorem ac9(b off n):(⟨b,off,ct4⟩:Addr).add n=⟨b,off+n,ct4⟩:=by
 unfold cV8
 simp_all
theorem Zc{k n}(h:(Lit.int k n).wf=cs8):k.has n:=by
 simp only[Lit.wf,fB,pJ] at h;exact h
theorem LX:∀ n t(τ:ct5)(fuel:Nat)(cs:List ct8)(x:DataW H×List cL7),pt P n t τ=cs8->cC2 enc P w base (λ_=>cs8) held fuel τ cs=cs6 x →
  ∃ d,Rd (λb=>b<w.heap.size) w t (λj=>cs[j]?) 0 d
 | 0,t,τ,fuel,cs,x,h,_=>by cases h
 | n+1,t,τ,fuel,cs,x,h,hx=>by
  unfold pt at h;split at h
  next k k' hu=>cases kI h;obtain⟨m,rfl,_,hw⟩:=DataW.trod_int hu hx;exact⟨m,aw,Zc hw⟩
  next hu=>obtain⟨b,rfl,_⟩:=DataW.trod_bool hu hx;exact⟨b,by simp[Rd]⟩
  next hu=>obtain⟨s,rfl,_,hs⟩:=DataW.trod_string hu hx;exact⟨s,aw,hs⟩
  .rename_i e u hu;simp only[fB] at h;have ⟨h1,h2⟩:=h;have h2:=bH h2;obtain⟨rfl,_⟩|⟨a,len,cap,elems,rest,m,_,rfl,_,_,hl,hm,hlen,hel,hsp,_⟩:=DataW.trod_slice hu hx
   .exact⟨[],xk.2 ⟨_,rfl,aw,.inl ⟨⟨_,rfl⟩,rfl⟩⟩⟩
   .have hcap:=(hsp rfl)
    by_cases h0:cap=0
    .have:len=0:=Y;subst this h0;exact⟨[],xk.2 ⟨_,rfl,aw,.inl ⟨⟨_,rfl⟩,rfl⟩⟩⟩
    · -- the cells that are there
     have first:∃ v,w.cell? a=cs6 v:=by
      have hb:∃ cs',w.cells? base (a.add 0) (P.cellsOf e)=cs6 cs':=by
       by_cases hl0:0<len
       .have:=hel 0 hl0;rw[Nat.zero_mul] at this;have hs:∃ y,elems[0]? = cs6 y:=⟨_,cT Y⟩
        have ⟨y,hy⟩:=hs;rw[hy,cF9] at this;grind
       .have:=hcap.2 0 Y;have hz:(len+0)*P.cellsOf e=0:=by
         simp_all
        rw[hz] at this;have hs:∃ y,rest[0]? = cs6 y:=⟨_,cT Y⟩
        have ⟨y,hy⟩:=hs;rw[hy,cF9] at this;grind
      have ⟨cs',hcs⟩:=hb;have ⟨_,hl1,hl2⟩:=cR3 hcs;have hp:=u.size_pos;have:=hl2 0 Y;refine⟨cs'[0]'Y,?_⟩;rw[cT Y] at this;simpa[cV8] using this
     have ⟨v0,hv0⟩:=first
     have hspot:=World.cell?_spot hv0;have ⟨b,off,spot⟩:=a;simp only at hspot;subst hspot;have hlt:b<w.heap.size:=by
      unfold World.cell? at hv0;simp only at hv0;split at hv0
      next c E sp hb=>exact (cu3.1 hb).1
      .cases hv0
     have ⟨xs,hxl,hxp⟩:=aS4 len (λi d=>Rd (λb=>b<w.heap.size) w u (λo=>w.cell? ⟨b,o,ct4⟩) (off+i*u.size) d) λi hi=>by
      have:=hel i hi;rw[cT Y,cF9] at this;have ⟨cs',hcs,ht⟩:=this;have ⟨_,hl1,hl2⟩:=cR3 hcs;have ⟨d,hd⟩:=LX n u e _ cs' _ h1 ht;refine⟨d,?_⟩;have:=Fo hd (off+i*u.size);rw[gD] at this;refine jM (λ_ h=>h) (λ_ _ _=>rfl) u _ _ _ _ (λj hj=>?_) this;have:=hl2 j Y;rw[ac9,ac9,h2] at this;rw[nW,← this]
     subst hxl;exact⟨xs,xk.2 ⟨_,rfl,Y,.inr ⟨b,off,cap,rfl,hl,hm,hlt,λi hi=>hxp i hi⟩⟩⟩
  .rename_i t' fs hu;have ⟨xs,m,_,_,hl,hlen,hf⟩:=DataW.trod_struct hu hx;refine Vp (n:=m) (λt τ cs x h1 h2=>LX n t τ m cs x h1 h2) fs.toList _ 0 h λfd hm=>?_;obtain⟨i,hi,rfl⟩:=cv8.1 hm;have:=hf i fs[i] (Array.getElem?_eq_getElem (by simpa using hi));have hi':i<fs.size:=by simpa using hi
   rw[cT Y] at this;exact⟨_,by simpa using this⟩
  .rename_i t' k e hu;have ⟨xs,m,_,_,hl,hlen,hf⟩:=DataW.trod_array hu hx;have:=Yi (n:=m) (cs:=cs) (e:=e) (λt τ cs x h1 h2=>LX n t τ m cs x h1 h2) k _ 0 h λj _ hj=>by
    have:=hf j Y;rw[cT Y] at this;exact⟨_,this⟩
   simpa using this
  .cases h
abbrev u7:=List (Bool×CT)
def na:u7->List PK
 | []=>[]
 | (cs8,t)::r => .agg t::na r
 | (ct2,t)::r => .val t::na r
def FK:(l:u7)->gz (na l)
 | []=>()
 | (cs8,_)::r=>FK r
 | (ct2,_)::r=>FK r
def Ho(l:u7):Ct:=⟨na l,[.val .bool],λ_=>[],λ_=>((cs8,()),FK l)⟩
def BS(P:cu2)(τ:ct5):Bool:=match P.underlying τ with
 | some (.struct _)=>cs8
 | some (.array _ _)=>cs8
 | _=>ct2
def LQ:CT->Bool
 | .pair _ _=>ct2
 | _=>cs8
def HL(P:cu2):u7->List ct5->Bool
 | [],[]=>cs8
 | (b,t)::r,τ::τs=>(match b,BS P τ with|true,cs8=>cs8|false,ct2=>LQ t|_,_=>ct2)&&pt P 12 t τ&&ct7 (P.cellsOf τ) t.size&&HL P r τs
 | _,_=>ct2
variable{b0:Nat}{τ:ct5}{v:ct8}
theorem b96{r}(h:BS P τ=cs8)(hv:cB0 P w r b0 τ v):∃ vs,v = .agg vs/\vs.size=P.cellsOf τ:=by
 unfold BS at h
 unfold cB0 at hv
 grind
theorem aA6{r}(ht:P.underlying τ=cs6 .bool)(h:cB0 P w r b0 τ v):∃ b,v = .bool b:=by
 simp only[cB0,ht,Cell.okWide] at h
 cases v <;> simp_all[Cell.ok]
theorem b37{r n}(hf:LQ t=cs8)(d:BS P τ=ct2)(h:pt P n t τ=cs8)(hv:cB0 P w r b0 τ v):v.cells = #[v]:=by
 cases n with
 | zero=>cases h
 | succ n =>
  unfold pt at h;split at h
  next k k' b=>obtain⟨m,rfl⟩:=okWide_int b hv;rfl
  next b=>obtain⟨m,rfl⟩:=aA6 b hv;rfl
  next b=>obtain⟨m,rfl⟩:=okWide_string b hv;rfl
  next e u b=>obtain⟨a,l,c,rfl⟩:=okWide_slice b hv;rfl
  next t' fs b=>unfold BS at d;rw[b] at d;cases d
  next t' k e b=>unfold BS at d;rw[b] at d;cases d
  .cases h
theorem aT9(k):j3 k k=true:=by cases k <;> rfl
theorem bW7{xs}:iP t t xs=cs6 xs:=by unfold iP;rw[dif_pos rfl]
theorem Nf{h}:∀ t d rest,(mB t (cS t d++rest)).run h=cs6 ((d,rest,[]),[])
 | .int k,d,rest=>by simp only[cS,kQ,x9,mB,aT9];rfl
 | .bool,d,rest=>rfl
 | .str,d,rest=>rfl
 | .sl t,d,rest=>by simp only[cS,kQ,x9,mB,bW7];rfl
 | .pair a b,d,rest=>by
  have bindrun:∀{α β:Type}(q:Q α)(f:α->Q β)(x:α)(y:β),q.run h=cs6 (x,[])->(f x).run h=cs6 (y,[])->(q.bind f).run h=cs6 (y,[]):=by
   intro α β q
   induction q with
   | ret a=>intro f x y h1 h2;simp only[Q.run,cy,ck] at h1;rw[← h1.1] at h2;exact h2
   | ask n k ih =>
    intro f x y h1 h2;simp only[Q.run] at h1;grind
   | fail=>intro f x y h1 h2;cases h1
  simp only[cS,gI,mB];refine bindrun _ _ _ _ (Nf a d.1 (cS b d.2++rest)) ?_;exact bindrun _ _ _ _ (Nf b d.2 rest) rfl
theorem Q.bind_run0{h:cq}{α:Type u}{β:Type v}(q:Q α)(f:α->Q β)(x:α)(y:β)(b:q.run h=cs6 (x,[]))(c:(f x).run h=cs6 (y,[])):(q.bind f).run h=cs6 (y,[]):=by
 cases q with
 | ret a=>simp only[Q.run,cy,ck] at b;rw[← b.1] at c;exact c
 | ask n k =>
  simp only[Q.run] at b;grind
 | fail=>cases b
theorem cj0(hf:LQ t=cs8)(d):cS t d=[Gh t d]:=by
 cases t <;> first|rfl|cases hf
def Ed:u7->Bool
 | []=>cs8
 | (b,t)::r=>(b||LQ t)&&Ed r
theorem Kk{h}:∀ l d,Ed l=cs8->(iC ct4 (na l) (iK (na l) d 0 0)).run h=cs6 ((d,[],[],[]),[])
 | [],d,_=>rfl
 | (cs8,t)::r,d,a=>by
  simp only[Ed,fB] at a;refine Q.bind_run0 _ _ _ _ (by have:=Nf (h:=h) t d.1 [];rw[js] at this;exact this) ?_;exact Q.bind_run0 _ _ _ _ (Kk r d.2 a.2) rfl
 | (ct2,t)::r,d,a=>by
  simp only[Ed,fB,Bool.false_or] at a;refine Q.bind_run0 _ _ _ _ (by have:=Nf (h:=h) t d.1 [];rw[js,cj0 a.1] at this;exact this) ?_;exact Q.bind_run0 _ _ _ _ (Kk r d.2 a.2) rfl
theorem Yc{r b0}:∀ l(τs:List ct5)(vs:List ct8)(i:List (DataW H))(ps:List cL7),HL P l τs=cs8->cF6 enc P w base (λ_=>cs8) held τs vs i ps →
  (∀(j:Nat) t v,τs[j]? = cs6 t->vs[j]? = cs6 v->cB0 P w r b0 t v)->Ed l=cs8∧∃ d,aL (λb=>b<w.heap.size) (λ_=>.un) w (iK (na l) d 0 0) vs
 | [],[],vs,i,ps,h,e,hv=>by
  obtain⟨rfl,_,_⟩:=trodAll_nil e;exact⟨rfl,(),by simp[na,iK,aL]⟩
 | (b,t)::l,τ::τs,vs,i,ps,h,e,hv=>by
  obtain⟨v,a,d,k,p,q,rfl,rfl,rfl,h0,hr⟩:=trodAll_cons e;simp only[HL,fB] at h;have ⟨⟨⟨m,y⟩,n⟩,h4⟩:=h;have n:=bH n;have ⟨z,A,B⟩:=Yc l τs a k q h4 hr (λj t v e o=>hv (j+1) t v (by simpa using e) (by simpa using o));have f:=hv 0 τ v rfl rfl;have ⟨g,hf⟩:=h0;have ⟨S,c⟩:=LX 12 t τ g _ _ y hf;cases b with
  | true =>
   have u:BS P τ=true:=by
    grind
   obtain⟨us,rfl,x⟩:=b96 u f;refine⟨by simp[Ed,z],(S,A),?_⟩;refine⟨_,a,rfl,⟨us,rfl,ML (by simpa using x.trans n) (by simpa[Value.cells] using c)⟩,B⟩
  | false =>
   have D:BS P τ=false:=by
    grind
   rw[D] at m;refine⟨by simp[Ed,z,m],(S,A),?_⟩;have hc:=b37 m D y f;rw[hc] at c;exact⟨v,a,rfl,S6 (rest:=[]) (by simpa using c),B⟩
def GlobsOK(w:cu6)(G:vf):Prop:=∀ g x,G g=cs6 x->g<w.heap.size/\Rd (λb=>b<w.heap.size) w x.1 (λo=>w.cell? ⟨g,o,ct4⟩) 0 x.2
variable{f:cy6}{τs:List ct5}{ds:List (DataW H)}{ps:List cL7}
theorem law_walkG{G}(hG:GlobsOK w G){l}(ok:mG P G f (Ho l).spec){r args}(hl:HL P l τs=cs8)
  (ht:cF6 enc P w base (λ_=>cs8) held τs args.toList ds ps) (hv:∀(j:Nat) t v,τs.toArray[j]? = cs6 t->args[j]? = cs6 v->cB0 P w r b0 t v) :
  Calls P f args w λe w'=>e = .returned (.bool cs8)/\Below w.heap.size w w':=by
 have ⟨hok,d,hd⟩:=Yc l τs args.toList ds ps hl ht (λj t v h1 h2=>hv j t v (by simpa using h1) (by simpa using h2))
 have hkeep:Dk (na l) [.val .bool]=false:=by
  have:∀ l,oD (na l)=true:=by
   intro l
   induction l with
   | nil=>rfl
   | cons x l ih=>have ⟨b,t⟩:=x;cases b <;> exact ih
  simp only[Dk,this,vN,CT.plain,Bool.and_self,cV1]
 have hbU:∀ nb,gV 0 (na l) (FK l) [] nb=[]:=by
  intro nb
  induction l with
  | nil=>rfl
  | cons x l ih =>
   have ⟨b,t⟩:=x;have:∀ l,gV 0 (na l) (FK l) [] nb=[]:=by
    intro l
    induction l with
    | nil=>rfl
    | cons x l ih=>have ⟨b,t⟩:=x;cases b <;> exact ih
   cases b <;> exact this l
 have hnU:∀(l:u7) nb,jd (na l) (FK l) nb=[]:=by
  intro l nb
  induction l with
  | nil=>rfl
  | cons x l ih=>have ⟨b,t⟩:=x;cases b <;> exact ih
 have hnB:∀(l:u7),jZ (na l)=0:=by
  intro l
  induction l with
  | nil=>rfl
  | cons x l ih=>have ⟨b,t⟩:=x;cases b <;> exact ih
 have hxI:∀(l:u7),mr (na l)=[]:=by
  intro l
  induction l with
  | nil=>rfl
  | cons x l ih=>have ⟨b,t⟩:=x;cases b <;> exact ih
 have hxO:FZ (na l) [.val .bool]=true:=by simp only[FZ,wO,hxI];rfl
 have hrun:((Ho l).spec 0 (iK (na l) d 0 0)).run (λ_=>.un)=cs6 (Dl.det [] (.bool cs8) [],[]):=by
  unfold Ct.spec;refine Q.bind_run0 _ _ _ _ (Kk l d hok) ?_;simp only[CC,hxO,jw,js,Gt,Is,Ho,w9,hkeep,hbU,hnU,hnB,uA,nV,mw,wm,Gh,cS,iy,vM,List.headD_nil];rfl
 have m:Mod w ⟨λ_=>False,λb=>b<w.heap.size,G⟩ (λb=>b<w.heap.size) (λ_=>.un) (λ_=>.un) w :=
  ⟨rfl,rfl,rfl,dq _,dq _,λ_ _ _=>rfl,λ_ h=>h,λ_=>rfl,λ_ _ _ _ h=>(by cases h),λ_ _ _ _ _ _ _ h=>(by cases h),λb hb=>.inl hb,hG⟩
 have:=ok 0 (iK (na l) d 0 0) (λ_=>.un) _ _ hrun trivial w _ _ _ w args.toList rfl m hd
 refine Calls.mono this ?_
 rintro e w' ⟨v,rfl,x,A',env',_,hm,_,hden⟩
 simp only[Dl.val,ax] at hden
 exact⟨by rw[hden],hm.os,hm.tape,hm.output,hm.size,λk hk=>hm.fr k hk (λh=>h)⟩
theorem law_walk{l}(ok:mG P (λ_=>ct4) f (Ho l).spec){r a}(hl:HL P l τs=cs8)
  (ht:cF6 enc P w base (λ_=>cs8) held τs a.toList ds ps) (hv:∀(j:Nat) t v,τs.toArray[j]? = cs6 t->a[j]? = cs6 v->cB0 P w r b0 t v) :
  Calls P f a w λe w'=>e = .returned (.bool cs8)/\Below w.heap.size w w':=law_walkG (λg x h=>by cases h) ok hl ht hv
def Rw(P:cu2):List ct5->Bool
 | []=>cs8
 | t::r=>P.readableRec t&&cs7 (t<P.types.size)&&Rw P r
theorem trodAll_below(i:laidOutB P=cs8):∀{τs:List ct5}{vs:List ct8}{a:List (DataW H)}{ps:List cL7}{c:cu6},Rw P τs=cs8 →
  cF6 enc P w 0 (λ_=>cs8) cs8 τs vs a ps->Below w.heap.size w c->cF6 enc P c 0 (λb=>cs7 (b<w.heap.size)) cs8 τs vs a ps
 | [],vs,a,ps,c,_,h,f=>by
  obtain⟨rfl,rfl,rfl⟩:=trodAll_nil h;exact trodAll_mk0
 | τ::τs,vs,a,ps,c,e,h,f=>by
  obtain⟨v,vs',d,ds',p,q,rfl,rfl,rfl,j,g⟩:=trodAll_cons h;simp only[Rw,fB,pJ] at e;have lt:∀ x∈p,x.block<w.heap.size:=by
   have ⟨m,hm⟩:=j;exact DataW.trod_lt m _ _ _ hm
  exact trodAll_cons_mk (Below.trod i e.1.1 e.1.2 j f lt) (trodAll_below i e.2 g f)
end
end Go.SX
namespace Go.SX
def mC(fn:cN5):cE3:=match fn.body with
 | some c=>c
 | none => .skip
def Ct.vc(P:cu2)(sp:d8)(c:Ct)(fn:cN5)(an:bG c.ps->bL):Prop :=
 Af c.ps λd=>xO c.ps d->qf (c.pre d)->xo (CW c.ps d fn.ntmps) (sx P sp (an d) (mC fn) (BV P c.ps c.rs fn.results.toList λy=>qf (Ax c.rs y.1 (c.out d).1++qE c.ps y.2 (c.out d).2)))
structure Cc (p:Prop):Prop where
 out:p
variable{q:Prop}
theorem Bi{p:Prop}(h:p=q)(v:q):Cc p:=⟨Eq.mpr h v⟩
variable{f:cy6}{fn:cN5}
theorem Ct.okH{P sp}(c)(hf:P.funcs[f]? = cs6 fn)(hb:(fn.body,jD (mC fn))=(cs6 (mC fn),[]))(hs:iF P sp)(ik:P.follows .mixedOrders=cs8)(an)
  (vc:Cc (Ct.vc P sp c fn an)):mG P sp.gl f c.spec:=c.ok hf (dL cN0 hb) hs ik an (λd x hx=>by rw[show jD (mC fn)=[] from dL cJ3 hb] at hx;cases hx) vc.out
variable{x:Array Tmp×cE3×cE3}
theorem Ct.okY{P sp}(c)(hf:P.funcs[f]? = cs6 fn)(hb:(fn.body,jD (mC fn))=(cs6 (mC fn),[x]))(hs:iF P sp)(ik:P.follows .mixedOrders=cs8)(an:bG c.ps->bL)(hl:∀ d r,xp (an d).ln x r->(an d).lo r)
  (vc:Cc (Ct.vc P sp c fn an)):mG P sp.gl f c.spec:=c.ok hf (dL cN0 hb) hs ik an (λd y hy=>by rw[show jD (mC fn)=[x] from dL cJ3 hb] at hy;rw[iV.1 hy];exact hl d) vc.out
def Cn.vc(P:cu2)(sp:d8)(c:Cn)(fn:cN5)(an:bG c.ps->bL):Prop :=
 Af c.ps λd=>xO c.ps d->qf (c.pre d)->xo (CW c.ps d fn.ntmps) (sx P sp (an d) (mC fn) (BV P c.ps c.rs fn.results.toList (c.post d)))
theorem Cn.okH{P sp}(c)(hf:P.funcs[f]? = cs6 fn)(hb:(fn.body,jD (mC fn))=(cs6 (mC fn),[]))(hs:iF P sp)(ik:P.follows .mixedOrders=cs8)(an)
  (vc:Cc (Cn.vc P sp c fn an)):mG P sp.gl f c.spec:=c.ok hf (dL cN0 hb) hs ik an (λd x hx=>by rw[show jD (mC fn)=[] from dL cJ3 hb] at hx;cases hx) vc.out
theorem Cn.okY{P sp}(c)(hf:P.funcs[f]? = cs6 fn)(hb:(fn.body,jD (mC fn))=(cs6 (mC fn),[x]))(hs:iF P sp)(ik:P.follows .mixedOrders=cs8)(an:bG c.ps->bL)(hl:∀ d r,xp (an d).ln x r->(an d).lo r)
  (vc:Cc (Cn.vc P sp c fn an)):mG P sp.gl f c.spec:=c.ok hf (dL cN0 hb) hs ik an (λd y hy=>by rw[show jD (mC fn)=[x] from dL cJ3 hb] at hy;rw[iV.1 hy];exact hl d) vc.out
def bb6(G:vf):d8:=⟨λ_=>ct4,G,ct4⟩
theorem aC{P G}:iF P (bb6 G):=λf s h=>by cases h
def Gi(sp:d8)(f:cy6)(s:Spec):d8:=⟨λg=>match ct7 g f with
 | true=>cs6 s
 | false=>sp.fn g,sp.gl,sp.yl⟩
variable{s:Spec}
theorem C{P sp}(h:iF P sp)(hs:mG P sp.gl f s):iF P (Gi sp f s):=λg t e=>by
 unfold Gi at e
 simp only at e
 split at e
 next hb=>cases e;rw[bH hb];exact hs
 .exact h g t e
def ba2(sp:d8)(s:Spec):d8:=⟨sp.fn,sp.gl,cs6 s⟩
theorem Xg{P sp}(h:iF P sp):iF P (ba2 sp s):=h
def bF3(sp:d8)(d:Nat):d8:=Gi sp (4000000000+d) λ_ _=>.fail
variable{d:Nat}
theorem JW{P sp}(h:iF P sp):iF P (bF3 sp d):=C h λ_ _ _ _ _ e=>by cases e
def aF6(sp:d8)(d:Nat):d8:=Gi sp (4100000000+d) λ_ _=>.fail
theorem Wj{P sp}(h:iF P sp):iF P (aF6 sp d):=C h λ_ _ _ _ _ e=>by cases e
def br2(sp:d8)(d p off:Nat):d8:=Gi sp (4600000000+d) λ_ _=>.ask p λ_=>.ask off λ_=>.fail
theorem am5{P sp p off}(h:iF P sp):iF P (br2 sp d p off):=C h λ_ _ _ _ _ e=>by simp[Q.run] at e
def aC1(sp:d8)(d:Nat):d8:=Gi sp (4700000000+d) λ_ _=>.fail
theorem Mz{P sp}(h:iF P sp):iF P (aC1 sp d):=C h λ_ _ _ _ _ e=>by cases e
variable{y:Prop}
theorem b65{b:Bool}{n:Prop}:au b y n↔(b=cs8->y)/\(b=ct2->n):=by cases b <;> simp[au]
variable{n:Int}
theorem aJ(h : -9223372036854775808<=n)(h':n<=9223372036854775807):ct0.wrap n=n:=IntWalk.i64_in n ⟨h,h'⟩
theorem vX(h:0<=n)(h':n<=4294967295):ct3.wrap n=n:=IntWalk.u32_in n ⟨h,h'⟩
theorem V0(h:0<=n)(h':n<=18446744073709551615):ct9.wrap n=n:=IntWalk.u64_in n ⟨h,h'⟩
variable{n:Prop}
theorem Wd:au cs8 y n↔y:=tZ
theorem lP:au ct2 y n↔n:=tZ
variable{α:Type}
theorem cW [Inhabited α] {xs:List α} {i:Int} (h0:0<=i) (h1:i<V xs):T xs (M i) cs5∈xs:=by
 have h:M i<V xs:=Y
 rw[cK,cT h];exact List.getElem_mem h
theorem xz{a b:Int}(ha:0<=a):0<=a.tmod b:=Int.tmod_nonneg b ha
theorem xV{a b:Int}(ha:0<=a)(hb:0<b):a.tmod b<b:=Int.tmod_lt_of_pos a hb
theorem ay{b}(hy:b=cs8->y)(hn:b=ct2->n):au b y n:=b65.2 ⟨hy,hn⟩
theorem aa8(n) : -9223372036854775808<=ct0.wrap n/\ct0.wrap n<=9223372036854775807:=IntKind.wrap_has .i64 n
theorem WX(n):0<=ct3.wrap n/\ct3.wrap n<=4294967295:=IntKind.wrap_has .u32 n
theorem ao1 [Inhabited α] {p:α->Prop} {xs} (h:∀ x∈xs,p x) {i:Int} (h0:0<=i) (h1:i<V xs):p (T xs (M i) cs5):=h _ (cW h0 h1)
theorem lz{p:Prop} [Decidable p] (h:(!decide p)=cs8):¬ p:=bg (by simpa only[sS] using h)
theorem lq{p:Prop} [Decidable p] (h:(!decide p)=ct2):p:=aX (by simpa only[BE] using h)
theorem rI{a b}(hy:a=cs8∨b=cs8->y)(hn:a=ct2->b=ct2->n):au (bif a then cs8 else b) y n:=by
 cases a with
 | true=>exact hy (.inl rfl)
 | false=>cases b with
  | true=>exact hy (.inr rfl)
  | false=>exact hn rfl rfl
theorem uZ{a b}(hy:a=cs8->b=cs8->y)(hn:a=ct2∨b=ct2->n):au (bif a then b else ct2) y n:=by
 cases a with
 | false=>exact hn (.inl rfl)
 | true=>cases b with
  | true=>exact hy rfl rfl
  | false=>exact hn (.inr rfl)
theorem kW [Inhabited α] {l} {i} {a:α} (h:i<V l):T (l.set i a) i cs5=a:=by
 rw[cK,List.getElem?_set_self h];rfl
variable{j:Int}
theorem F0 [Inhabited α] {q:α->Bool} {l} (h0:0<=j) (h1:j<V l) (h2:∀ x∈l.take (M j),q x=ct2) (h3:q (T l (M j) cs5)=cs8) :
  j=if l.findIdx q<V l then (l.findIdx q:Int) else -1:=by
 have hj:M j<V l:=Y
 rw[cK,cT hj,jb] at h3
 have e:=(List.findIdx_eq hj).2 ⟨h3,λk hk=>h2 _ (List.mem_take_iff_getElem.2 ⟨k,Y,rfl⟩)⟩
 rw[e,ao hj];omega
theorem Ii [Inhabited α] {q:α->Bool} {l} (h1:¬ j<V l) (h2:∀ x∈l.take (M j),q x=ct2) :
  (-1:Int)=if l.findIdx q<V l then (l.findIdx q:Int) else -1:=by
 rw[gE Y] at h2
 rw[List.findIdx_eq_length_of_false h2,I (Nat.lt_irrefl _)]
theorem yD [Inhabited α] {P:α->Prop} {l} (h0:0<=j) (h1:j<V l) (h2:∀ x∈l.take (M j),P x) (h3:P (T l (M j) cs5)) :
  ∀ x∈l.take (M (j+1)),P x:=by
 intro x hx
 have hj:M j<V l:=Y
 rw[show M (j+1)=M j+1 by omega,cR8,cT hj] at hx
 rw[cK,cT hj,jb] at h3
 obtain hx|hx:=dX.1 hx
 .exact h2 x hx
 .simp at hx;rw[hx];exact h3
theorem nq [Inhabited α] {l:List α} {k:Int} (h0:0<=k) (h1:k<V l):l.take (M (k+1))=l.take (M k)++[T l (M k) cs5]:=by
 have e:M (k+1)=M k+1:=Y
 have hk:M k<V l:=Y
 rw[e,cR8,cT hk,cK,cT hk]
 rfl
theorem Ok{a b:Prop} [Decidable a] [Decidable b]:(bif decide a then cs8 else decide b)=cs7 (a∨b):=by by_cases h:a <;> simp[h]
theorem Dt{a b:Prop} [Decidable a] [Decidable b]:(bif decide a then decide b else ct2)=cs7 (a/\b):=by by_cases h:a <;> simp[h]
theorem a81{a b:Prop} [Decidable a] [Decidable b]:(bif !decide a then !decide b else ct2)=cs7 (¬ a∧¬ b):=by by_cases h:a <;> simp[h]
theorem a91{a b:Prop} [Decidable a] [Decidable b]:(bif !decide a then cs8 else decide b)=cs7 (¬ a∨b):=by by_cases h:a <;> simp[h]
theorem cq8{a:Prop} [Decidable a]:(!decide a)=cs7 (¬ a):=by by_cases h:a <;> simp[h]
theorem aI{p:Prop}(h:p:=by repeat' first|exact trivial|refine⟨trivial,?_⟩|refine⟨(by with_reducible rfl),?_⟩|refine⟨aJ (by omega) (by omega),?_⟩|refine⟨rfl,?_⟩):p:=h
theorem cG{X}{P:Bool->Prop}(h:P X):∀ b,b=X->P b:=λ_ e=>e▸h
theorem cH{p:Prop}(k:q)(h:p:=by first|(simp;done)|(simp;omega)|(simp;intros;omega)|(simp +contextual;done)):p/\q:=⟨h,k⟩
theorem g9{p:Prop}(k:q)(h:p:=by first|exact trivial|with_reducible rfl|exact aJ (by omega) (by omega)):p/\q:=⟨h,k⟩
theorem wD{p:Prop}(k:q)(h:p:=by with_reducible rfl):p/\q:=⟨h,k⟩
theorem bT{p:Prop} [Decidable p] {A B:Prop} (a:p->A) (b:¬p->B):au (decide p) A B:=ay (λh=>a (aX h)) λh=>b (bg h)
variable{B:Type}
def fE{A:Type}:Qn (A×B):=⟨λk=>∀(a:A)(b:B),k (a,b),λ_ h i=>h i.1 i.2,λk=>∃ (a:A) (b:B),k (a,b),λ_ ⟨a,b,h⟩=>⟨_,h⟩⟩
variable{S:Type}
def ot{A:Type}:Qn (A×B×S):=⟨λk=>∀(a:A)(b:B)(c:S),k (a,b,c),λ_ h i=>h i.1 i.2.1 i.2.2,λk=>∃ (a:A) (b:B) (c:S),k (a,b,c),λ_ ⟨a,b,c,h⟩=>⟨_,h⟩⟩
def HW{A D:Type}:Qn (A×B×S×D):=⟨λk=>∀(a:A)(b:B)(c:S)(d:D),k (a,b,c,d),λ_ h i=>h i.1 i.2.1 i.2.2.1 i.2.2.2,λk=>∃ (a:A) (b:B) (c:S) (d:D),k (a,b,c,d),λ_ ⟨a,b,c,d,h⟩=>⟨_,h⟩⟩
def bz{A:Type 1}(k:Nat)(c:A)(r:Nat->Option A):Nat->Option A:=λn=>match ct7 n k with|true=>cs6 c|false=>r n
def cm{A:Type 1}:Nat->Option A:=λ_=>ct4
def aS{A:Type}:A->bL:=λ_=>{}
end Go.SX
namespace Go.RS
open Go.SX Go.Proofs
def vh(b:Bool):Prop:=b->(b->b)/\True
def sD(b:Bool):Prop:=b->b
def zGc(b:Bool):Prop:=b=ct2 → !b
def ap:Int->Int:=ct1 .i64
def N {α} [Inhabited α] (l:List α) (i:Int):α:=T l (M i) cs5
def O {α} (l:List α):Int:=V l
def zTe:Int:=1099511627776
def rk {α} [Inhabited α] (l:List α) (i:Nat):α:=T l i cs5
abbrev N9(x:Int):Prop := -9223372036854775808<=x/\x<=9223372036854775807
abbrev B6:CT := .pair (.pair (.int .u32) (.int .i64)) (.int .i64)
abbrev cBlocks:CT := .pair B6 (.pair B6 (.pair B6 (.pair B6 (.pair B6 (.pair B6 (.pair B6 B6))))))
def blocksV:cBlocks.D:=(((0,8),1),((2130706432,8),2),((167772160,8),3),((2886729728,12),3),((3232235520,16),3),((2851995648,16),4),((3758096384,4),5),((4026531840,4),6))
abbrev zD:CT := .int .u32
abbrev Rj:Nat->CT
 | 0=>zD
 | n+1 => .pair zD (Rj n)
def ZG:(n:Nat)->Z->(Rj n).D
 | 0,l=>l.headD 0
 | n+1,l=>(l.headD 0,ZG n l.tail)
abbrev cSt8:CT := .pair zD (.pair zD (.pair zD (.pair zD (.pair zD (.pair zD (.pair zD zD))))))
def startV8:cSt8.D:=(0x6a09e667,0xbb67ae85,0x3c6ef372,0xa54ff53a,0x510e527f,0x9b05688c,0x1f83d9ab,0x5be0cd19)
abbrev cKeys:CT:=Rj 63
def keysV:cKeys.D:=ZG 63 [1116352408,1899447441,3049323471,3921009573,961987163,1508970993,2453635748,2870763221,3624381080,310598401,607225278,1426881987,1925078388,2162078206,2614888103,3248222580,3835390401,4022224774,264347078,604807628,770255983,1249150122,1555081692,1996064986,2554220882,2821834349,2952996808,3210313671,3336571891,3584528711,113926993,338241895,666307205,773529912,1294757372,1396182291,1695183700,1986661051,2177026350,2456956037,2730485921,2820302411,3259730800,3345764771,3516065817,3600352804,4094571909,275423344,430227734,506948616,659060556,883997877,958139571,1322822218,1537002063,1747873779,1955562222,2024104815,2227730452,2361852424,2428436474,2756734187,3204031479,3329325298]
def GL:vf:=(λn=>match n with|1=>cs6 ⟨cBlocks,blocksV⟩|0=>cs6 ⟨cSt8,startV8⟩|2=>cs6 ⟨cKeys,keysV⟩|_=>ct4)
theorem ik:Tryz.prog.follows .mixedOrders=true:=Tryz.checked.mixed
abbrev cI:CT := .int .i64
abbrev bc:CT := .int .u8
abbrev dB:CT := .int .u32
abbrev TZ:CT := .int .u64
abbrev iA:CT := .pair (.sl bc) cI
abbrev yw:CT := .pair cI cI
abbrev AE:CT := .pair cI cI
abbrev Rc:CT := .pair dB (.pair dB (.pair cI (.pair cI cI)))
def bX(c:Z×Int):Prop:=0<=c.2/\c.2<=V c.1
variable{f:cy6}{fn:cN5}{q:Prop}
theorem jV{sp c}(hf:Tryz.prog.funcs[f]? = cs6 fn)(hs:iF Tryz.prog sp)(an)(vc:q)(hb:(fn.body,jD (mC fn))=(cs6 (mC fn),[]):=by kernel_rfl)(he:Cn.vc Tryz.prog sp c fn an=q:=by kernel_rfl):mG Tryz.prog sp.gl f c.spec:=Cn.okH c hf hb hs ik an (Bi he vc)
theorem aG{sp c}(hf:Tryz.prog.funcs[f]? = cs6 fn)(hs:iF Tryz.prog sp)(an)(vc:q)(hb:(fn.body,jD (mC fn))=(cs6 (mC fn),[]):=by kernel_rfl)(he:Ct.vc Tryz.prog sp c fn an=q:=by kernel_rfl):mG Tryz.prog sp.gl f c.spec:=Ct.okH c hf hb hs ik an (Bi he vc)
abbrev aB(f:cy6)(s:Go.SX.Spec):=mG Tryz.prog GL f s
abbrev aq4:=Int×Int
abbrev cf4:=List (List aq4×Int×Int×Bool×List (aq4×Z×Int)×Int×Int×Int×Int×Int×aq4×Bool×Bool×Int×Int)×List (Int×Int×Int×Int×Int×Int)×List (Int×Int×Bool×aq4×Z×Int)
abbrev cs3:=List (aq4×Z×Int)×Int×Z×aq4×Int
abbrev ag3:=cf4×Int×Int×Int×List cs3×Z×List (Int×Int×Int×Int×Int×Z)×List (Int×Int×Z)×List (Int×Int×Int×Int×Int)
abbrev cr2:=Int×Int×Int×Int×Int×Int×Int×Int×Bool×Bool×Int×Int×Int×Int×Int×Int×Int
abbrev ar2:=List cr2×Z×ag3×Bool
abbrev bg4:=List Z
abbrev cr3:=Bool×Int×Int
abbrev bh5:=List cr3
abbrev bL9:=Int×Z
abbrev cq7:=List aq4
abbrev cr4:=Z×Int
abbrev cr5:=Int×Int×Int×Int×Int×Int×Int
abbrev cr6:=List bL9
abbrev cr7:=Int×Int×Int×Z
abbrev cr8:=Int×Nat
abbrev cr9:=Int×Int×Int×Int×Int×Int×Int×Int
abbrev cs1:=List (Int×Int×Int)
abbrev cs4:=Int×Z×aq4×Int
def bV6:Ct:=⟨[.val (.sl bc),.val cI],[.box 86 iA],λd=>[0<=d.2.1],λd=>(((if (V d.1:Int)<=d.2.1 then d.1 else d.1.take (M d.2.1),0),()),())⟩
def aH(a:Int):=a<=9223372036854775807
def aq(a:Int):=(-9223372036854775808)<=a/\aH a
def aF(a b:Int):=0<=a/\a<=b
def aM(a:Z):=V a<=cu5/\ ∀(b:Int),b∈a->aF b 255
def am(a:Int)(b c:Prop):=0<=a/\b/\c
def bo(a b:Int)(c d:Prop):=am a (a<=b) (c/\d)
def fN(a:Z)(b c:Int):=cZ a (M b) (M c)
def J(a:Prop):=a/\True
def av(a b:Int):=cs7 (a<b)
theorem bc2:
 ∀ a b,aM a/\J (aq b)->0<=b->au (av b (O a)) (bo 0 b (b<=O a) ((fN a 0 b,(0:Int))=(if O a<=b then a else take (M b) a,(0:Int)))) ((a,(0:Int))=(if O a<=b then a else take (M b) a,(0:Int))):= by
  delta O aq aH aM am bo fN J av aF
  rintro x y ⟨-,⟨h0,h1⟩,-⟩ h
  refine bT (λhb=>?_) (λhb=>?_)
  .refine⟨Y,h,Y,?_⟩
   rw[I Y]
   simp[cZ]
  .rw[ao Y]
theorem VY:aB 5 bV6.spec:=aG Tryz.func5 aC aS bc2
def bp6:Cn:=⟨[.box 86 iA,.val cI],[.val cI],λd=>[bX d.1,d.2.1<=256],λd y=>0<=y.1.1/\(y.1.1<d.2.1∨y.1.1=0)/\bX y.2.1,λd h=>⟨((0,()),(d.1,())),by simp,by simp,h.1⟩⟩
def aK(a:Prop):=J (a->a)
def bN(a:Bool):=!a->aK ( !a)
def br(a b:Bool):=bif a then cs8 else b
def bw(a:Bool):=a=ct2-> !a
def aA(a:Int):=ap (a+1)
def kx(a b:Bool)(c d:Prop):=bN a/\bw a/\au b c d
def nG(a b:Bool)(c d:Prop):=∀(e:Bool),e=a->kx e (br e b) c d
def D7(a b:Int):=cx2 (ap a) b<b∨cx2 (ap a) b=0
def rB(a:Z)(b c:Int):=(aM a/\aq b)/\J (aq c)
def gP(a b:Int)(c:Bool)(d e:Prop):=am a (a<b) (au c d e)
theorem a65:
 ∀ a b c,rB a b c->bX (a,b)/\c<=256->nG (cs7 (O a<=b)) (av c 1) (am 0 (0<c∨(0:Int)=(0:Int)) (bX (a,b))) (gP b (O a) (av 256 c) False (c≠0/\am (cx2 (ap (N a b)) c) (D7 (N a b) c) (bX (a,aA b)))):= by
  delta N O ap aq aH aM bN aK br am bw aA J nG av D7 kx rB aF gP
  rintro l p n ⟨⟨⟨hl,hw⟩,h0,h1⟩,⟨h2,h3⟩,-⟩⟨⟨hc1,hc2⟩,hn⟩
  simp only[cu5] at hl hc1 hc2
  (repeat (refine cG ?_;repeat refine cH ?_))
  refine ay (λhb=>?_) (λhb=>?_)
  .exact⟨Y,aw,hc1,hc2⟩
  .simp at hb
   have ⟨hb1,hb2⟩:=hb
   have ⟨hm0,hm1⟩:=hw _ (cW hc1 hb1)
   rw[aJ Y Y,aJ Y Y]
   refine⟨hc1,hb1,bT (λhb=>?_) (λhb=>?_)⟩
   .have:=hb;omega
   .exact⟨Y,xz hm0,.inl (xV hm0 Y),by simp only[bX];omega⟩
theorem bP7:aB 12 bp6.spec:=jV Tryz.func12 aC aS a65
def ay6:Cn:=⟨[.box 86 iA,.val cI],[.val cI],λd=>[bX d.1],λd y=>0<=y.1.1/\(y.1.1<d.2.1∨y.1.1=0)/\bX y.2.1,λd h=>⟨((0,()),(d.1,())),by simp,by simp,h.1⟩⟩
theorem br0:
 ∀ a b c,rB a b c->aF b (O a)->nG (cs7 (O a<=b)) (av c 1) (am 0 (0<c∨(0:Int)=(0:Int)) (bX (a,b))) (gP b (O a) (av 256 c) (bX (a,aA b)/\(256:Int)<=(256:Int)/\ ∀ d e f,am d (d<256∨d=0) (bX (e,f))->c≠0/\am (cx2 (ap (ap (256*ap (N a b))+d)) c) (D7 (ap (256*ap (N a b))+d) c) (bX (e,f))) (c≠0/\am (cx2 (ap (N a b)) c) (D7 (N a b) c) (bX (a,aA b)))):= by
  delta N O ap aq aH aM bN aK br am bw aA J nG av D7 kx rB aF gP
  rintro l p n ⟨⟨⟨hl,hw⟩,h0,h1⟩,⟨h2,h3⟩,-⟩⟨hc1,hc2⟩
  simp only[cu5] at hl hc1 hc2
  (repeat (refine cG ?_;repeat refine cH ?_))
  refine ay (λhb=>?_) (λhb=>?_)
  .exact⟨Y,aw,hc1,hc2⟩
  .simp at hb
   have ⟨hb1,hb2⟩:=hb
   have ⟨hm0,hm1⟩:=hw _ (cW hc1 hb1)
   rw[aJ Y Y,aJ (n:=T l (M p) cs5) Y Y]
   refine⟨hc1,hb1,ay (λhb=>?_) (λhb=>?_)⟩
   .refine⟨by simp only[bX];omega,Y,?_⟩
    rintro r l2 p2 ⟨hr0,hr1,hr2⟩
    rw[aJ (n:=256*_) Y Y,aJ Y Y]
    exact⟨Y,xz Y,.inl (xV Y Y),hr2⟩
   .exact⟨Y,xz hm0,.inl (xV hm0 Y),by simp only[bX];omega⟩
theorem QX:aB 12 ay6.spec:=jV Tryz.func12 (C aC bP7) aS br0
open Go.SX
def xs(k a:Nat):Nat:=a ^^^ a/2^k
def mu(c a:Nat):Nat:=a*c%18446744073709551616
def LJ(x:Nat):Nat:=xs 31 (mu 10723151780598845931 (xs 27 (mu 13787848793156543929 (xs 30 ((x+11400714819323198485)%18446744073709551616)))))
def pL(x:Int):Int:=(LJ (M x):Int)
theorem aZ4{k a}(ha:a<18446744073709551616):xs k a<18446744073709551616:=by
 have h1:a<2^64:=Y
 have h2:a/2^k<2^64:=cR9 (cT9 _ _) h1
 have h3:=Nat.xor_lt_two_pow h1 h2
 unfold xs
 omega
theorem Pq{c a}:mu c a<18446744073709551616:=by unfold mu;omega
theorem bH4(x):LJ x<18446744073709551616:=by
 unfold LJ
 exact aZ4 Pq
theorem Vh(x):0<=pL x/\pL x<=18446744073709551615:=by
 have:=bH4 (M x)
 unfold pL
 omega
theorem SL(n:Nat):ct9.wrap (n:Int)=((n%18446744073709551616:Nat):Int):=by
 rw[IntKind.wrap_u64,Int.natCast_emod]
 rfl
theorem bg7(n k:Nat)(hk:k<=64):fm .u64 (n:Int) (k:Int)=((n/2^k:Nat):Int):=by
 unfold fm
 have:min (M (k:Int)) ct9.bits=k:=by simp only[cC3,cv6];omega
 rw[this,F4 _ (cQ9 (cX8 aD)),Int.natCast_ediv,Int.natCast_pow]
 rfl
theorem Pf(n k:Nat)(hk:k<=64)(hn:n<18446744073709551616):bits .xor .u64 (n:Int) (fm .u64 (n:Int) (k:Int))=(xs k n:Int):=by
 rw[bg7 n k hk]
 exact bits_xor_u64_nat _ _ hn (cR9 (cT9 _ _) hn)
theorem V3(n c:Nat):ct9.wrap ((n:Int)*(c:Int))=(mu c n:Int):=by
 rw[← Int.natCast_mul,SL];rfl
end Go.RS
namespace Go.RS
open Go.SX Go.Proofs
def bR0:Cn:=⟨[.box 86 iA],[.val cI],λd=>[bX d.1],λd y=>bX y.2.1 ∧ -9223372036854775808<=y.1.1/\y.1.1<=9223372036854775807,λd h=>⟨((0,()),(d.1,())),h.1,by simp,by simp⟩⟩
def aY(a:Int):=cs7 (a=0)
def bI(a:Int):=[a]
def BU(a:Int)(b c:Prop):=∀(d:Z)(e:Int),am a b (bX (d,e))->bX (d,e)/\c
def SE:=(9223372036854775807:Int)::(-9223372036854775808:Int)::(1125899906842624:Int)::(1125899906842625:Int)::(65535:Int)::(65536:Int)::(255:Int)::(256:Int)::(1023:Int)::(1024:Int)::(65534:Int)::(65535:Int)::(4294967296:Int)::bI 4611686018427387905
def bP(a b:Int)(c d:Prop):=am a (a<b) (c/\d)
def gO(a:Int):=cs7 (a=1)
theorem b92:
 ∀ a b,J (aM a/\aq b)->aF b (O a)->bX (a,b)/\ ∀ c d e,am c (c<10∨c=0) (bX (d,e))->au (aY c) (bX (d,e)/\ ∀ f,BU f (f<3∨f=0) (aq (ap ((-1) -f)))) (au (gO c) (bX (d,e)/\ ∀ f g h,am f (f<14∨f=0) (bX (g,h))->bP f (O SE) (bX (g,h)) (aq (N SE f))) (au (cs7 (c=2)) (bX (d,e)/\ ∀ f,BU f (f<256∨f=0) (∀ g,BU g (g<256∨g=0) (aq (ap (ap (256*f)+g))))) (bX (d,e)/\ ∀ f,BU f (f<40∨f=0) (aq f)))):= by
  delta N O ap aq aH aM am aY J bI BU SE bP gO aF
  rintro l p-h
  refine⟨h,?_⟩
  rintro r l2 p2 ⟨h1,h2,h3⟩
  refine ay (λhb=>⟨h3,?_⟩) (λhb=>ay (λhb=>⟨h3,?_⟩) (λhb=>ay (λhb=>⟨h3,?_⟩) (λhb=>⟨h3,?_⟩)))
  .rintro a l4 p4 ⟨h4,h5,h6⟩
   exact⟨h6,aa8 _⟩
  .rintro a l4 p4 ⟨h4,h5,h6⟩
   refine⟨h4,by simp;omega,h6,?_⟩
   exact ao1 (p:=λv => -9223372036854775808<=v/\v<=9223372036854775807) aw h4 (by simp;omega)
  .rintro a l4 p4 ⟨h4,h5,h6⟩
   refine⟨h6,?_⟩
   rintro a l4 p4 ⟨h4,h5,h6⟩
   exact⟨h6,aa8 _⟩
  .rintro a l4 p4 ⟨h4,h5,h6⟩
   exact⟨h6,Y,Y⟩
theorem aS7:aB 94 bR0.spec:=jV Tryz.func94 (C aC QX) aS b92
def Ar(x n:Int):Int:=(ct1 .i64 (x.tmod n+n)).tmod n
def bH3:Ct:=⟨[.val cI,.val cI],[.val cI],λd=>[d.2.1≠0],λd=>((Ar d.1 d.2.1,()),())⟩
def dP(a b:Int):=aq a/\J (aq b)
theorem bH6:
 ∀ a b,dP a b->(b=0->False)->b≠0/\b≠0/\cx2 (ap (cx2 a b+b)) b=Ar a b:= by
  delta ap aq aH J dP
  rintro x n-h
  exact⟨h,h,rfl⟩
theorem co6:aB 48 bH3.spec:=aG Tryz.func48 aC aS bH6
def bg1:Ct:=⟨[.val TZ],[.val TZ],λ_=>[],λd=>((pL d.1,()),())⟩
def RO(a:Int):=ct1 ct9 (bits cx8 ct9 (ct1 ct9 (a+11400714819323198485)) (fm ct9 (ct1 ct9 (a+11400714819323198485)) 30)*13787848793156543929)
def dN(a b:Prop):=J a->True->b
def OH(a:Int):=ct1 ct9 (bits cx8 ct9 (RO a) (fm ct9 (RO a) 27)*10723151780598845931)
theorem bG1:
 ∀ a,dN (aF a 18446744073709551615) (am 30 ((0:Int)<=(27:Int)) ((0:Int)<=(31:Int)/\bits cx8 ct9 (OH a) (fm ct9 (OH a) 31)=pL a)):= by
  delta am J RO dN OH aF
  rintro x ⟨⟨h0,h1⟩,-⟩ -
  refine⟨aD,aD,aD,?_⟩
  have h0:=h0
  obtain⟨n,rfl⟩:=tj h0
  have e0:ct9.wrap ((n:Int)+11400714819323198485)=(((n+11400714819323198485)%18446744073709551616:Nat):Int):=SL (n+11400714819323198485)
  have hm:(n+11400714819323198485)%18446744073709551616<18446744073709551616:=Y
  have e1:=Pf _ 30 aD hm
  have e2:=V3 (xs 30 ((n+11400714819323198485)%18446744073709551616)) 13787848793156543929
  have e3:=Pf _ 27 aD (Pq (c:=13787848793156543929) (a:=xs 30 ((n+11400714819323198485)%18446744073709551616)))
  have e4:=V3 (xs 27 (mu 13787848793156543929 (xs 30 ((n+11400714819323198485)%18446744073709551616)))) 10723151780598845931
  have e5:=Pf _ 31 aD (Pq (c:=10723151780598845931) (a:=xs 27 (mu 13787848793156543929 (xs 30 ((n+11400714819323198485)%18446744073709551616)))))
  have c1:((30:Nat):Int)=30:=rfl
  have c2:((27:Nat):Int)=27:=rfl
  have c3:((31:Nat):Int)=31:=rfl
  have c4:((13787848793156543929:Nat):Int)=13787848793156543929:=rfl
  have c5:((10723151780598845931:Nat):Int)=10723151780598845931:=rfl
  rw[c1] at e1
  rw[c4] at e2
  rw[c2] at e3
  rw[c5] at e4
  rw[c3] at e5
  rw[e0,e1,e2,e3,e4,e5]
  unfold pL LJ
  rw[cv6]
theorem ao9:aB 202 bg1.spec:=aG Tryz.func202 aC aS bG1
abbrev lZ:Type:=Int×Int×Int×Int×Int
def Ff(h x:Int):Int:=pL (bits .xor .u64 h (ct1 .u64 x))
def vG(seed:Int)(k:lZ):Int:=Ff (Ff (Ff (Ff (Ff (pL (ct1 .u64 seed)) k.1) k.2.1) k.2.2.1) k.2.2.2.1) k.2.2.2.2
theorem IA(s)(k):0<=vG s k/\vG s k<=18446744073709551615:=Vh _
def HO(seed:Int)(k:lZ)(j:Int):Int:=([k.1,k.2.1,k.2.2.1,k.2.2.2.1,k.2.2.2.2].take (M j)).foldl Ff (pL (ct1 .u64 seed))
def ab2:Ct:=⟨[.val cI,.agg Rc],[.val TZ],λ_=>[],λd=>((vG d.1 d.2.1,()),())⟩
def aV3:bG ab2.ps->bL:=(λd=>{loops:=(bz 3 (λS=>{ι:=Int×Int,qn:=fE,μ:=λi=>M (5-i.1),inv:=λi=>0<=i.1/\i.1<=5/\i.2=HO d.1 d.2.1 i.1,keep:=[23],slots:=λi=>[(5,.int .u64 i.2),(24,.int .i64 i.1)]}) cm)})
def bp(a b:Int)(c d:Prop):=a=a/\b=b/\c/\d
def bh(a b c:Int)(d e:Prop):=bp a b (c=c) (d/\e)
def aT(a:Int):=aF a 4294967295
def bZ(a b:Int):=M a<M b
def bi(a b c:Int):=bZ (a -b) (a -c)
theorem bA4:
 ∀ a b c d e f,aq a/\J (aT b/\aT c/\aq d/\aq e/\aq f)->True->(∃ g h,am g (g<=5) (h=HO a (b,c,d,e,f) g)/\pL (ct1 ct9 a)=h/\bh (ap b) (ap c) d (e=e) (f=f/\J (0=g)))/\ ∀ g h,am g (g<=5) (h=HO a (b,c,d,e,f) g)->au (av g 5) (am g (g<(↑((5:Nat)):Int)) (∃ i j,am i (i<=5) (j=HO a (b,c,d,e,f) i)/\bi 5 i g/\pL (bits cx8 ct9 h (ct1 ct9 (SX.pickI (ap b::ap c::d::e::bI f) (M g))))=j/\bh (ap b) (ap c) d (e=e) (f=f/\J (aA g=i)))) (h=vG a (b,c,d,e,f)):= by
  delta ap aq aH bh aT bp bi bZ am aA J bI av aF
  rintro x a b c e f ⟨-,⟨⟨a0,a1⟩,⟨b0,b1⟩,⟨c0,c1⟩,⟨e0,e1⟩,f0,f1⟩,-⟩ -
  refine⟨⟨0,_,⟨Y,Y,rfl⟩,aI⟩,?_⟩
  rintro j h ⟨h0,h1,rfl⟩
  refine bT (λhj=>?_) (λhj=>?_)
  .refine⟨h0,Y,j+1,HO x (a,b,c,e,f) (j+1),⟨Y,Y,rfl⟩,Y,?_,rfl,rfl,rfl,rfl,rfl,aJ Y Y,aQ⟩
   rw[aJ (n:=a) Y Y,aJ (n:=b) Y Y]
   have:j=0∨j=1∨j=2∨j=3∨j=4:=Y
   obtain rfl|rfl|rfl|rfl|rfl:=this <;> rfl
  .have:j=5:=Y
   subst this
   rfl
theorem X1:aB 328 ab2.spec:=aG Tryz.func328 (C aC ao9) aV3 bA4
def rE(way seed:Int)(k:lZ)(count n:Int):Int×Int :=
 if n<1∨16<n∨count<0∨way<1∨3<way then (0,1) else
  (if way=1 then (vG seed k).tmod n else if way=2 then (vG seed (k.1,k.2.1,0,0,0)).tmod n else count.tmod n,0)
def bd7:Ct:=⟨[.val cI,.val cI,.agg Rc,.val cI,.val cI],[.val cI,.val cI],λ_=>[],λd=>(((rE d.1 d.2.1 d.2.2.1 d.2.2.2.1 d.2.2.2.2.1).1,(rE d.1 d.2.1 d.2.2.1 d.2.2.2.1 d.2.2.2.2.1).2,()),())⟩
def bJ(a b:Int)(c d:Prop):=aq a/\aq b/\c/\d
def ry(a b c:Bool)(d e:Prop):=a=br b c->bN a/\d/\e
def da(a:Int):=av a 0
def NZ(a b c d e:Int)(f:lZ)(g:Int):=ct1 ct9 a≠0/\ap (cx2 b c)=(rE d e f g a).1/\0=(rE d e f g a).2
def yY(a b c:Bool)(d e:Prop):=∀(f:Bool),ry f a b (bw f) (au (br f c) d e)
theorem bc3:
 ∀ a b c d e f g h i,bJ a b (aT c/\aT d/\aq e/\aq f/\aq g) (dP h i)->True-> ∀ j,j=av i 1->bN j/\bw j/\yY j (av 16 i) (da h) (0=(rE a b (c,d,e,f,g) h i).1/\1=(rE a b (c,d,e,f,g) h i).2) (au (gO a) (NZ i (vG b (c,d,e,f,g)) (ct1 ct9 i) a b (c,d,e,f,g) h) (au (cs7 (a=2)) (NZ i (vG b (c,d,0,0,0)) (ct1 ct9 i) a b (c,d,e,f,g) h) (au (cs7 (a=3)) (NZ i (ct1 ct9 h) (ct1 ct9 i) a b (c,d,e,f,g) h) (0=(rE a b (c,d,e,f,g) h i).1/\1=(rE a b (c,d,e,f,g) h i).2)))):= by
  delta ap aq aH bN aK aT br bw bJ ry J dP da av NZ yY gO aF
  rintro x s a b c e f cnt n ⟨-,-,-,⟨c0,c1⟩,⟨n0,n1⟩,-⟩ -
  (repeat (refine cG ?_;repeat refine cH ?_))
  refine ay (λh=>?_) (λh=>?_)
  .simp at h
   unfold rE;rw[ao Y];exact⟨rfl,rfl⟩
  .simp at h
   rw[V0 (n:=n) Y Y]
   have hr:∀ k,0<=(vG s k).tmod n/\(vG s k).tmod n<n:=λk=>⟨xz (IA _ _).1,xV (IA _ _).1 Y⟩
   unfold rE
   refine ay (λhx=>?_) (λhx=>ay (λhy=>?_) (λhy=>ay (λhz=>?_) (λhz=>?_)))
   .simp at hx
    subst hx
    have:=hr (a,b,c,e,f)
    rw[I Y,ao rfl,aJ Y Y]
    exact⟨Y,rfl,rfl⟩
   .simp at hx hy
    subst hy
    have:=hr (a,b,0,0,0)
    rw[I Y,I Y,ao rfl,aJ Y Y]
    exact⟨Y,rfl,rfl⟩
   .simp at hx hy hz
    subst hz
    have q0:=xz (b:=n) (a:=cnt) Y
    have q1:=xV (b:=n) (a:=cnt) Y Y
    rw[I Y,I Y,I Y,V0 (n:=cnt) Y Y,aJ Y Y]
    exact⟨Y,rfl,rfl⟩
   .simp at hx hy hz
    rw[ao Y]
    exact⟨rfl,rfl⟩
theorem ch4:aB 321 bd7.spec:=aG Tryz.func321 (C aC X1) aS bc3
abbrev yB:CT := .pair dB cI
abbrev aJ2:CT := .pair dB cI
abbrev ZP:CT := .pair aJ2 (.pair (.sl cI) cI)
abbrev eM:CT := .pair (.sl yB) (.pair dB (.pair cI (.pair .bool (.pair (.sl ZP) (.pair cI (.pair dB (.pair cI (.pair cI (.pair cI (.pair yw (.pair .bool (.pair .bool (.pair cI cI)))))))))))))
abbrev u9:CT := .pair (.sl ZP) (.pair cI (.pair (.sl cI) (.pair AE cI)))
abbrev b59:Type:=Int×Int
abbrev cF:Type:=b59×Z×Int
abbrev ar:Type:=List aq4×Int×Int×Bool×List cF×Int×Int×Int×Int×Int×aq4×Bool×Bool×Int×Int
abbrev NState:Type:=List cF×Int×Z×aq4×Int
def aV(n:ar):=n.1
def kX(n:ar):=n.2.1
def ah5(n:ar):=n.2.2.1
def qy(n:ar):=n.2.2.2.1
def ce(n:ar):=n.2.2.2.2.1
def pI(n:ar):=n.2.2.2.2.2.1
def wj(n:ar):=n.2.2.2.2.2.2.1
def xu(n:ar):=n.2.2.2.2.2.2.2.1
def sw(n:ar):=n.2.2.2.2.2.2.2.2.1
def GF(n:ar):=n.2.2.2.2.2.2.2.2.2.1
def nI(n:ar):=n.2.2.2.2.2.2.2.2.2.2.1
def pF(n:ar):=n.2.2.2.2.2.2.2.2.2.2.2.1
def g7(n:ar):=n.2.2.2.2.2.2.2.2.2.2.2.2.1
def mD(n:ar):=n.2.2.2.2.2.2.2.2.2.2.2.2.2.1
def LO(n:ar):=n.2.2.2.2.2.2.2.2.2.2.2.2.2.2
def cR(s:NState):=s.1
def xP(s:NState):=s.2.1
def oh(s:NState):=s.2.2.1
def zt(s:NState):=s.2.2.2.1
def p9(s:NState):=s.2.2.2.2
theorem It(n):bits .and .i64 n 65535=n%65536:=by
 have h127:(cw8 64 65535).toNat=2^16-1:=aD
 have key:(cw8 64 n &&& cw8 64 65535).toNat=(n%((2^64:Nat):Int)).toNat%2^16:=by
  rw[BitVec.toNat_and,BitVec.toNat_ofInt,h127,H8]
 show ct0.wrap ((cw8 64 n &&& cw8 64 65535).toNat:Nat)=n%65536
 rw[key,IntKind.wrap_i64]
 omega
variable{n:Int}
theorem bn7(h0:0<=n)(h1:n<=18446744073709551615):bits .and .u64 n 65535=n%65536:=by
 rw[u64_and n 65535 h0 Y aD aD]
 have:(M n &&& M 65535)=M n%65536:=H8 (M n) 16
 rw[this];omega
def xU(speed a:Int):Int:=if speed<0∨1000000<speed∨a<0∨1125899906842624<a then 0 else speed*(a/1000000)+speed*(a%1000000)/1000000
theorem bF8{speed a}:0<=xU speed a/\xU speed a<=2251799813685248:=by
 unfold xU
 split
 .omega
 next h=>have a1:0<=a/1000000:=Y;have a2:a/1000000<=1125899907:=Y;have a3:0<=a%1000000:=Y;have a4:a%1000000<=999999:=Y;have b1:0<=speed*(a/1000000):=cG0 Y a1;have b2:speed*(a/1000000)<=1000000*1125899907:=cG1 Y a2 a1 Y;have b3:0<=speed*(a%1000000):=cG0 Y a3;have b4:speed*(a%1000000)<=1000000*999999:=cG1 Y a4 a3 Y;omega
variable{x:Int}
theorem a43{a}(h:¬ (x<0∨1000000<x∨a<0∨1125899906842624<a)) :
  ct1 ct0 (ct1 ct0 (x*ct1 ct0 (cB9 a 1000000))+ct1 ct0 (cB9 (ct1 ct0 (x*cx2 a 1000000)) 1000000))=xU x a:=by
 have h2:=bF8 (speed:=x) (a:=a)
 unfold xU at h2 ⊢
 rw[I h] at h2 ⊢
 have a1:0<=a/1000000:=Y
 have a2:a/1000000<=1125899907:=Y
 have a3:0<=a%1000000:=Y
 have a4:a%1000000<=999999:=Y
 have b1:=cG0 Y a1
 have b2:=cG1 Y a2 a1 Y
 have b3:0<=x*(a%1000000):=cG0 Y a3
 have b4:x*(a%1000000)<=1000000*999999:=cG1 Y a4 a3 Y
 rw[FJ Y,Hn Y,aJ (n:=a/1000000) Y Y,aJ (n:=x*(a/1000000)) Y Y,
  aJ (n:=x*(a%1000000)) Y Y,FJ b3,aJ (n:=x*(a%1000000)/1000000) Y Y,aJ Y Y]
def bC4:Ct:=⟨[.val cI,.val cI],[.val cI],λ_=>[],λd=>((xU d.1 d.2.1,()),())⟩
def wR(a:Int):=av 1125899906842624 a
theorem av9:
 ∀ a b,dP a b->True-> ∀ c,c=da a->bN c/\bw c/\ ∀ d,ry d c (av 1000000 a) (bw d) (yY d (da b) (wR b) (0=xU a b) ((1000000:Int)≠(0:Int)/\(1000000:Int)≠(0:Int)/\(1000000:Int)≠(0:Int)/\ap (ap (a*ap (cB9 b 1000000))+ap (cB9 (ap (a*cx2 b 1000000)) 1000000))=xU a b)):= by
  delta ap aq aH bN aK br bw ry J dP da av yY wR
  rintro x a - -
  (repeat (refine cG ?_;repeat refine cH ?_))
  refine ay (λh=>?_) (λh=>?_)
  .simp at h
   unfold xU;rw[ao Y]
  .simp at h
   refine⟨Y,Y,Y,a43 Y⟩
theorem aK9:aB 327 bC4.spec:=aG Tryz.func327 aC aS av9
def Xi(n:ar):Bool:=cs7 (0<=xu n/\xu n<=5/\0<=sw n/\sw n<=65535/\0<=GF n/\GF n<=1000000)
def rN(n:ar):Int:=if Xi n then 0 else 1
def bc9:Ct:=⟨[.agg eM],[.val cI],λ_=>[],λd=>((rN d.1,()),())⟩
def cQ(a:Bool)(b c:Prop):=bN a/\bN a/\b/\c
def lO(a b:Bool)(c d:Prop):=∀(e:Bool),e=a->cQ e (bw e) (au (br e b) c d)
def EY(a b c d:Bool)(e f:Prop):=∀(g:Bool),g=a->cQ g (bw g) (∀(h:Bool),h=br g b->cQ h (bw h) (lO (br h c) d e f))
def EA(a b c d e:Bool)(f g:Prop):=∀(h:Bool),h=a->cQ h (bw h) (EY (br h b) c d e f g)
theorem aF9:
 ∀ a,dN (CT.wf eM a) (∀ b,b=da a.2.2.2.2.2.2.2.1->cQ b (bw b) (EA (br b (av 5 a.2.2.2.2.2.2.2.1)) (da a.2.2.2.2.2.2.2.2.1) (av 65535 a.2.2.2.2.2.2.2.2.1) (da a.2.2.2.2.2.2.2.2.2.1) (av 1000000 a.2.2.2.2.2.2.2.2.2.1) (1=rN a) (0=rN a))):= by
  delta bN aK br cQ bw lO J EA EY da av dN
  rintro d - -
  (repeat (refine cG ?_;repeat refine cH ?_))
  unfold rN Xi xu sw GF
  generalize d.2.2.2.2.2.2.2.1=i
  generalize d.2.2.2.2.2.2.2.2.1=b
  generalize d.2.2.2.2.2.2.2.2.2.1=s
  refine ay (λh=>?_) (λh=>?_)
  .simp at h
   rw[I (by simp;omega)]
  .simp at h
   rw[ao (by simp;omega)]
theorem bT0:aB 235 bc9.spec:=aG Tryz.func235 aC aS aF9
abbrev wI(n:Int):Int:=ct0.wrap n
def ch0(n:ar)(sent a:Int):Int:=wI (wI (sw n+sent)+xU (GF n) a)
def xK(n:ar)(sent a:Int):Int:=ch0 n sent a%65536
def ch1:Ct:=⟨[.val cI,.box 133 eM,.box 3 cI],[.val cI],λ_=>[],λd=>((xK d.2.1 d.1 d.2.2.1,()),(d.2.1,d.2.2.1,()))⟩
theorem by3:
 ∀ a b c,aq a/\CT.wf eM b/\J (aq c)->True->bits cw3 ct0 (ap (ap (b.2.2.2.2.2.2.2.2.1+a)+xU b.2.2.2.2.2.2.2.2.2.1 c)) 65535=xK b a c/\b=b/\c=c:= by
  delta ap aq aH J
  rintro x d a - -
  exact⟨It _,rfl,rfl⟩
theorem aQ1:aB 326 ch1.spec:=aG Tryz.func326 (C aC aK9) aS by3
def pj(n:ar)(s:NState)(port a asked dst:Int):Int :=
 if xu n=1 then sw n else if xu n=2 then xK n (xP s) a
 else if xu n=3 then (if port<0∨V (oh s)<=port then xK n 0 a else xK n (T (oh s) (M port) cs5) a)
 else if xu n=4 then asked else if xu n=5 then vG (sw n) (0,dst,0,xP s,0)%65536 else 0
def by8:Ct:=⟨[.agg eM,.agg u9,.val cI,.val cI,.val cI,.val dB],[.val cI],λ_=>[],λd=>((pj d.1 d.2.1 d.2.2.1 d.2.2.2.1 d.2.2.2.2.1 d.2.2.2.2.2.1,()),())⟩
def cU(a:Z):=V a<=cu5/\ ∀(b:Int),b∈a->aq b
def dC(a b:Int)(c:Z)(d:Int):=(aT a/\aq b)/\cU c/\aq d
def dh(a:List cF):=V a<=cu5/\ ∀(b:cF),b∈a->dC b.1.1 b.1.2 b.2.1 b.2.2
def dE(a:Prop):=(a->a)/\aK a
def gv(a:Bool):=!a->dE ( !a)
def iD(a:List cF)(b:Int)(c:Z)(d e f:Int):=dh a/\aq b/\cU c/\(aq d/\aq e)/\aq f
theorem aY7:
 ∀ a b c d e f g h i j k,CT.wf eM a/\iD b c d e f g/\bJ h i (aq j) (J (aT k))->True->au (gO a.2.2.2.2.2.2.2.1) (a.2.2.2.2.2.2.2.2.1=pj a (b,c,d,(e,f),g) h i j k) (au (cs7 (a.2.2.2.2.2.2.2.1=2)) (xK a c i=pj a (b,c,d,(e,f),g) h i j k) (au (cs7 (a.2.2.2.2.2.2.2.1=3)) (∀ l,l=da h->cQ l (gv l) (bw l/\au (br l (cs7 (O d<=h))) (xK a 0 i=pj a (b,c,d,(e,f),g) h i j k) (am h (h<O d) (xK a (N d h) i=pj a (b,c,d,(e,f),g) h i j k)))) (au (cs7 (a.2.2.2.2.2.2.2.1=4)) (j=pj a (b,c,d,(e,f),g) h i j k) (au (cs7 (a.2.2.2.2.2.2.2.1=5)) (ap (bits cw3 ct9 (vG a.2.2.2.2.2.2.2.2.1 (0,k,0,c,0)) 65535)=pj a (b,c,d,(e,f),g) h i j k) (0=pj a (b,c,d,(e,f),g) h i j k))))):= by
  delta N O ap aq aH dh dC bN aK cU aT br am cQ bw bJ gv iD J dE da av gO aF
  rintro d r se ps t1 t2 ba port a asked dst - -
  unfold pj xu sw xP oh
  simp only
  refine ay (λh=>?_) (λh=>?_)
  .rw[ao (aX h)]
  have h1:=bg h
  rw[I h1]
  refine ay (λh=>?_) (λh=>?_)
  .rw[ao (aX h)]
  have h2:=bg h
  rw[I h2]
  refine ay (λh=>?_) (λh=>?_)
  .rw[ao (aX h)]
   (repeat (refine cG ?_;repeat refine cH ?_))
   refine ay (λh=>?_) (λh=>?_)
   .simp at h
    rw[ao h]
   .simp at h
    exact⟨Y,Y,by rw[I Y]⟩
  have h3:=bg h
  rw[I h3]
  refine ay (λh=>?_) (λh=>?_)
  .rw[ao (aX h)]
  have h4:=bg h
  rw[I h4]
  refine bT (λh=>?_) (λh=>?_)
  .rw[ao h]
   have hr:=IA d.2.2.2.2.2.2.2.2.1 (0,dst,0,se,0)
   rw[bn7 hr.1 hr.2,aJ Y Y]
  .rw[I h]
theorem T9:aB 316 by8.spec:=aG Tryz.func316 (C (C aC aQ1) X1) aS aY7
def fu(n:Int)(w k:Nat):Z:=(List.range k).map λj=>n/256^(w-1-j)%256
def wB(n w:Int):Prop:=w<1∨7<w∨n<0∨256^M w<=n
instance (n w:Int):Decidable (wB n w):=by unfold wB;infer_instance
def putB(b:Z)(n w:Int):Z:=if wB n w then [] else b++fu n (M w) (M w)
def DJ(n w:Int):Int:=if wB n w then 1 else 0
def gk(l:Z):Int:=l.foldl (λn x=>n*256+x) 0
def bM(b:Z)(at' w:Int):Int:=if w<1∨7<w∨at'<0∨V b-w<at' then 0 else gk ((b.drop (M at')).take (M w))
def lS(b:Z)(at' w:Int):Int:=if w<1∨7<w∨at'<0 then 1 else if V b-w<at' then 3 else 0
def oc(n:Int):Int:=if n=0 then 0 else (n-1)%65535+1
def dS:Bool->Z->Int
 | _,[]=>0
 | hi,x::r=>(if hi then x*256 else x)+dS (!hi) r
def fI(n:Int):Bool:=cs7 (0<=n/\n<=65535)
theorem ah3(a b:Nat)(ha:a<9223372036854775808)(hb:b<9223372036854775808):bits .or .i64 (a:Int) (b:Int)=((a ||| b:Nat):Int):=by
 have h:a ||| b<2^63:=Nat.or_lt_two_pow Y Y
 have c:(cw8 64 (a:Int) ||| cw8 64 (b:Int)).toNat=a ||| b:=by
  grind
 show ct0.wrap ((cw8 64 (a:Int) ||| cw8 64 (b:Int)).toNat:Nat)=_
 rw[c,aJ Y Y]
theorem UM(h0:0<=n)(h1:n<=36028797018963967):gd .i64 n 8=n*256:=by
 show ct0.wrap (n*2^(min 8 64))=_
 rw[aJ (by simp;omega) (by simp;omega)];rfl
theorem Wv(a:0<=n)(h1:n<=36028797018963966)(h2:0<=x)(h3:x<=255):bits .or .i64 (gd .i64 n 8) (ct1 .i64 x)=n*256+x:=by
 rw[UM a Y,aJ Y Y]
 obtain⟨m,rfl⟩:=tj a
 obtain⟨y,rfl⟩:=tj h2
 have:=ah3 (m*256) y Y Y
 rw[nat_join 8 (m*256) y Y Y] at this
 simp_all
theorem Fp{k:Nat}(h0:0<=n)(hk:k<8):fm .i64 n (8*k)=n/256^k:=by
 unfold fm
 have hm:min (M ((8*(k:Int)))) ct0.bits=8*k:=by simp only[cC3];omega
 rw[hm,F4 _ (cQ9 (cX8 aD)),Int.pow_mul]
 rfl
theorem Sz{w}(h0:1<=w)(h1:w<=7):gd .i64 1 (ct1 .i64 (8*w))=256^M w:=by
 have:w=1∨w=2∨w=3∨w=4∨w=5∨w=6∨w=7:=Y
 obtain rfl|rfl|rfl|rfl|rfl|rfl|rfl:=this <;> decide
theorem ah9(n)(w k):fu n w (k+1)=fu n w k++[n/256^(w-1-k)%256]:=by
 unfold fu;rw[ni,kV];rfl
theorem Ay(n)(w k):V (fu n w k)=k:=by unfold fu;simp
theorem RQ(l)(x):gk (l++[x])=gk l*256+x:=by unfold gk;rw[lr];rfl
theorem Ln:∀ k l,V l<=k->(∀ x∈l,0<=x/\x<=255)->0<=gk l/\gk l<256^k:=by
 intro k
 induction k with
 | zero =>
  intro l hl _;have:l=[]:=Be Y;subst this;exact⟨aD,aD⟩
 | succ k ih =>
  intro l hl hx;obtain rfl|⟨m,x,rfl⟩:=List.eq_nil_or_concat l
  .grind
  .rw[List.concat_eq_append] at hl hx ⊢;have h1:=ih m (by simp at hl;omega) (λy hy=>hx y (gq _ hy));have h2:=hx x aw;rw[RQ,Int.pow_succ];omega
theorem bC5{l}(hl:V l<=6)(hx:∀ x∈l,0<=x/\x<=255):0<=gk l/\gk l<=281474976710655:=by
 have:=Ln 6 l hl hx
 omega
theorem ce5(h:65535<n):oc (n/65536+n%65536)=oc n:=by
 unfold oc
 rw[I (by omega),I (by omega)];omega
theorem bz1(h0:0<=n)(h1:n<=65535):oc n=n:=by
 unfold oc;split
 .omega
 .omega
theorem ME(h0:0<=n):0<=oc n/\oc n<=65535:=by unfold oc;split <;> omega
theorem KT(hi)(a b):dS hi (a++b)=dS hi a+dS (if V a%2=0 then hi else !hi) b:=by
 induction a generalizing hi with
 | nil=>simp[dS]
 | cons x a ih =>
  rw[kQ,dS,dS,ih,Int.add_assoc];grind
theorem M8(hi)(l)(a:∀ x∈l,0<=x/\x<=255):0<=dS hi l/\dS hi l<=65280*V l:=by
 induction l generalizing hi with
 | nil=>simp[dS]
 | cons x l ih =>
  have h1:=ih (!hi) (λy hy=>a y (eZ _ hy));have h2:=a x dU;rw[dS,fa];omega
variable{j:Int}
theorem LL{l:Z}(h0:0<=j)(h1:j<V l):l.take (M (j+1))=l.take (M j)++[T l (M j) cs5]:=by
 have a:M j<V l:=Y
 rw[show M (j+1)=M j+1 from by omega,Df a,cK,cT a,jb]
def bw6:Ct:=⟨[.val (.sl bc)],[.own 5 bc],λd=>[(V d.1:Int)<=1099511627776],λd=>((d.1,()),())⟩
def aR(a:Z):=O a<=1099511627776
def bR(a:Nat):=a<=140737488355328
def kw(a b c:Prop):=∀(d:Bool),(d->a)->au d b c
def fL(a:Z):=[]=a
theorem b55:
 ∀ a,J (aM a)->aR a->kw (V a=0) (fL a) (bR ((0+V a)*1)/\a=a):= by
  delta O aM aR bR J kw aF fL
  rintro x ⟨⟨hl,-⟩,-⟩ h b hb
  refine ay (λh1=>?_) (λh1=>⟨Y,rfl⟩)
  simp_all
theorem po:aB 44 bw6.spec:=aG Tryz.func44 aC aS b55
def aj0:Ct:=⟨[.val (.sl bc),.val cI,.val cI],[.own 5 bc,.val cI],λd=>[(V d.1:Int)<=1099511627776],λd=>((putB d.1 d.2.1 d.2.2.1,DJ d.2.1 d.2.2.1,()),())⟩
def bV5:bG aj0.ps->bL:=(λd=>{loops:=(bz 5 (λS=>{ι:=Int×Z,qn:=fE,μ:=λi=>M (d.2.2.1-i.1),inv:=λi=>0<=i.1/\i.1<=d.2.2.1/\i.2=d.1++fu d.2.1 (M d.2.2.1) (M i.1),keep:=[1,2],slots:=λi=>[(8,.own 524288 1),(9,.int .i64 (8*(d.2.2.1-1-i.1)))],names:=λi=>[(524288,.live (.row 5 bc i.2))]}) cm)})
def gb(a b:Z):=bR ((V a+V b)*1)
def fH(a:Int):=cs7 (0<=a)
def f9(a b:Int)(c d:Z):=am a (a<=b) (c=d)
def Ni(a:Int)(b:Bool)(c:Prop)(d:Bool)(e f:Prop):=∀(g:Bool),g=av a 1->bN g/\bw g/\ ∀(h:Bool),ry h g (av 7 a) (bw h) (∀(i:Bool),ry i h b ( !i->( !i-> !i)/\c) (gv i/\bw i/\au (br i d) e f))
theorem cm3:
 ∀ a b c,aM a/\dP b c->aR a->Ni c (da b) (J (0<=ap (8*c))) (cs7 (gd ct0 1 (ap (8*c))<=b)) (fL (putB a b c)/\1=DJ b c) (aR a/\(∃ d e,f9 d c e (a++fu b (M c) (M d))/\bp b c (ap (8*ap (c -1))=8*(c -1 -d)) (J (a=e)))/\ ∀ d e,f9 d c e (a++fu b (M c) (M d))->au (fH (8*(c -1 -d))) (am (8*(c -1 -d)) (gb e (bI (ct1 cw0 (fm ct0 b (8*(c -1 -d)))))) (∃ f g,f9 f c g (a++fu b (M c) (M f))/\bi c f d/\bp b c (ap (8*(c -1 -d) -8)=8*(c -1 -f)) (J (e++bI (ct1 cw0 (fm ct0 b (8*(c -1 -d))))=g)))) (e=putB a b c/\0=DJ b c)):= by
  delta O ap aq aH aM bN aK bp aR br bi bZ am gb bw bR gv ry J bI dP dE da av fH f9 Ni aF fL
  rintro b n w ⟨-,⟨n0,n1⟩,⟨w0,w1⟩,-⟩ hl
  rintro f rfl
  refine⟨aw,aw,?_⟩
  rintro f rfl
  refine⟨aw,aw,?_⟩
  rintro f rfl
  have c:(!(bif (bif cs7 (w<1) then cs8 else cs7 (7<w)) then cs8 else cs7 (n<0)))=cs8->1<=w/\w<=7/\0<=n:=by
   simp_all
  refine⟨aw,λh=>⟨λ_=>h,by have:=c h;rw[aJ Y Y];omega,aQ⟩,λh=>⟨λ_=>h,λ_=>h,aQ⟩,aw,?_⟩
  refine ay (λe=>?_) (λe=>?_)
  .have d:wB n w:=by
    unfold wB
    by_cases h:1<=w/\w<=7
    .rw[Sz h.1 h.2] at e
     grind
    .omega
   rw[putB,DJ,ao d,ao d];exact⟨rfl,rfl⟩
  .have hw:=c (by
    cases h:(bif (bif cs7 (w<1) then cs8 else cs7 (7<w)) then cs8 else cs7 (n<0)) with
    | false=>rfl
    | true=>rw[h] at e;simp at e)
   have ⟨h1,h7,hn⟩:=hw
   rw[Sz h1 h7] at e
   have a:¬ wB n w:=by
    unfold wB
    simp_all
   rw[putB,DJ,I a,I a]
   refine⟨hl,⟨0,b,⟨Y,Y,by simp[fu]⟩,rfl,rfl,by rw[aJ (n:=w-1) Y Y,aJ Y Y];omega,rfl,aQ⟩,?_⟩
   rintro k ys ⟨k0,k1,rfl⟩
   refine bT (λhk=>?_) (λhk=>?_)
   .have ⟨j,hj⟩:=tj (show 0<=w-1-k by omega)
    rw[hj,Fp hn Y,IntKind.wrap_u8']
    have hbl:=Ay n (M w) (M k)
    refine⟨Y,by simp;omega,k+1,_,⟨Y,Y,rfl⟩,Y,rfl,rfl,by rw[aJ Y Y];omega,?_,aQ⟩
    rw[show M (k+1)=M k+1 from by omega,ah9,gI,show M w-1-M k=j from by omega]
   .grind
theorem RE:aB 216 aj0.spec:=aG Tryz.func216 (C aC po) bV5 cm3
def XB:Ct:=⟨[.val (.sl bc),.val cI,.val cI],[.val cI,.val cI],λd=>[(V d.1:Int)<=9223372036854775807],λd=>((bM d.1 d.2.1 d.2.2.1,lS d.1 d.2.1 d.2.2.1,()),())⟩
def cb0:bG XB.ps->bL:=(λd=>{loops:=(bz 7 (λS=>{ι:=Int×Int,qn:=fE,μ:=λi=>M (d.2.2.1-i.1),inv:=λi=>0<=i.1/\i.1<=d.2.2.1/\i.2=gk (((d.1.drop (M d.2.1)).take (M d.2.2.1)).take (M i.1)),keep:=[34,35],slots:=λi=>[(8,.int .i64 i.2),(36,.int .i64 i.1)]}) cm)})
def eh(a b:Int)(c d e f:Prop):=au (av a b) (am a c d) (e/\f)
def NS(a b c d:Int)(e:Z):=am a (a<=b) (c=gk (take (M a) (take (M b) (List.drop (M d) e))))
def ut(a:Z)(b c:Int):=fN a b (ap (b+c))
def ou(a:Z):=O a=O a
theorem a28:
 ∀ a b c,aM a/\dP b c->aH (O a)-> ∀ d,d=av c 1->bN d/\bw d/\yY d (av 7 c) (da b) (0=bM a b c/\1=lS a b c) (au (av (ap (O a -c)) b) (0=bM a b c/\3=lS a b c) (bo b (ap (b+c)) (ap (b+c)<=O a) ((∃ e f,NS e c f b a/\0=f/\ut a b c=ut a b c/\ou (ut a b c)/\J (0=e))/\ ∀ e f,NS e c f b a->eh e (O (ut a b c)) (e<O (ut a b c)) ((0:Int)<=(8:Int)/\ ∃ g h,NS g c h b a/\bi c g e/\bits BinOp.or ct0 (gd ct0 f 8) (ap (N (ut a b c) e))=h/\ut a b c=ut a b c/\ou (ut a b c)/\J (aA e=g)) (f=bM a b c) (0=lS a b c)))):= by
  delta N O ap aq aH aM bN aK br bi bZ am bw ry bo eh fN aA J dP da av NS yY ut ou aF
  rintro b a w ⟨⟨hl0,hx⟩,⟨a0,a1⟩,⟨w0,w1⟩,-⟩ hl
  (repeat (refine cG ?_;repeat refine cH ?_))
  unfold bM lS
  refine ay (λg=>?_) (λg=>?_)
  .grind
  have h:¬ (w<1∨7<w∨a<0):=by simp[lY] at g;omega
  rw[aJ Y Y,I h]
  refine ay (λd=>?_) (λd=>?_)
  .simp_all
  have d:=bg d
  rw[I Y,I d,aJ Y Y]
  have c:cZ b (M a) (M (a+w))=(b.drop (M a)).take (M w):=by
   unfold cZ;rw[List.drop_take,show M (a+w)-M a=M w from by omega]
  rw[c]
  have hlen:V ((b.drop (M a)).take (M w))=M w:=by rw[fF,gR];omega
  have e:∀ y∈(b.drop (M a)).take (M w),0<=y/\y<=255:=λy e=>hx y (zo (te e))
  generalize (b.drop (M a)).take (M w)=m at *
  refine⟨Y,Y,Y,⟨0,0,⟨Y,Y,by simp[gk]⟩,aI⟩,?_⟩
  rintro j n ⟨f,j1,rfl⟩
  refine bT (λi=>?_) (λi=>?_)
  .have ht:=LL f Y
   have ⟨x0,x1⟩:=e _ (cW f Y)
   have hb:=bC5 (l:=m.take (M j)) (by rw[fF];omega) (λy h=>e y (te h))
   refine⟨f,i,Y,j+1,_,⟨Y,Y,rfl⟩,Y,?_,rfl,rfl,aJ Y Y,aQ⟩
   rw[ht,RQ,Wv hb.1 Y x0 x1]
  .grind
theorem CL:aB 211 XB.spec:=aG Tryz.func211 aC cb0 a28
def Ux:Ct:=⟨[.val cI],[.val cI],λd=>[0<=d.1],λd=>((oc d.1,()),())⟩
def ba1:bG Ux.ps->bL:=(λd=>{loops:=(bz 1 (λS=>{ι:=Int,μ:=λi=>M i,inv:=λi=>0<=i/\i<=9223372036854775807/\oc i=oc d.1,keep:=[],slots:=λi=>[(0,.int .i64 i)]}) cm)})
theorem bV1:
 ∀ a,J (aq a)->0<=a->(∃ b,am b (aH b) (oc b=oc a)/\J (a=b))/\ ∀ b,am b (aH b) (oc b=oc a)->au (av 65535 b) ((0:Int)<=(16:Int)/\ ∃ c,am c (aH c) (oc c=oc a)/\bZ c b/\J (ap (fm ct0 b 16+bits cw3 ct0 b 65535)=c)) (b=oc a):= by
  delta ap aq aH bZ am J av
  rintro n ⟨⟨n0,n1⟩,-⟩ h
  refine⟨⟨n,⟨h,n1,rfl⟩,rfl,aQ⟩,?_⟩
  rintro m ⟨a,m1,b⟩
  refine bT (λc=>?_) (λc=>?_)
  .have e:=Fp (k:=2) a Y
   have e2:(8:Int)*((2:Nat):Int)=16:=rfl
   rw[e2] at e
   rw[e,It,aJ Y Y]
   have e3:(256:Int)^2=65536:=rfl
   rw[e3]
   exact⟨Y,_,⟨Y,Y,by rw[ce5 c,b]⟩,Y,rfl,aQ⟩
  .rw[← b,bz1 a Y]
theorem Um:aB 299 Ux.spec:=aG Tryz.func299 aC ba1 bV1
theorem aI5(h0:0<=j)(h1:j<=9223372036854775807):bits .and .i64 j 1=j%2:=by
 obtain⟨m,rfl⟩:=tj h0
 have a:(cw8 64 (m:Int) &&& cw8 64 1).toNat=m%2:=by
  simp_all
 show ct0.wrap ((cw8 64 (m:Int) &&& cw8 64 1).toNat:Nat)=_
 rw[a,aJ Y Y];omega
theorem bw0(h0:0<=n)(h1:n<=36028797018963967):gd .i64 n (ct1 .i64 (8*ct1 .i64 (1-1)))=n:=by
 show ct0.wrap (n*2^(min 0 64))=_
 rw[aJ (by simp;omega) (by simp;omega)];simp
def ZM:Ct:=⟨[.val (.sl bc)],[.val cI],λd=>[(V d.1:Int)<=1099511627776],λd=>((oc (dS cs8 d.1),()),())⟩
def ay5:bG ZM.ps->bL:=(λd=>{loops:=(bz 3 (λS=>{ι:=Int×Int,qn:=fE,μ:=λi=>M (V d.1-i.1),inv:=λi=>0<=i.1/\i.1<=V d.1/\i.2=dS cs8 (d.1.take (M i.1))/\0<=i.2/\i.2<=65280*i.1,keep:=[0,6,7],slots:=λi=>[(3,.int .i64 i.2),(8,.int .i64 i.1)]}) cm)})
def M4(a:Int)(b:Z)(c:Int):=bo a (O b) (c=dS cs8 (take (M a) b)) (aF c (65280*a))
def tW(a:Z)(b c:Prop):=J (aM a)->aR a->b/\c
theorem bA8:
 ∀ a,tW a (∃ b c,M4 b a c/\a=a/\0=c/\a=a/\ou a/\J (0=b)) (∀ b c,M4 b a c->eh b (O a) (b<O a) (0<=ap (8*ap (1 -bits cw3 ct0 b 1))/\ ∃ d e,M4 d a e/\bi (O a) d b/\a=a/\ap (c+gd ct0 (ap (N a b)) (ap (8*ap (1 -bits cw3 ct0 b 1))))=e/\a=a/\ou a/\J (aA b=d)) (0<=c) (oc c=oc (dS cs8 a))):= by
  delta N O ap aM aR bi bZ am bo eh aA J av M4 ou tW aF
  rintro l ⟨⟨-,hx⟩,-⟩ hl
  refine⟨⟨0,0,⟨Y,Y,by simp[dS],Y,Y⟩,aI⟩,?_⟩
  rintro j n ⟨b,j1,rfl,n0,n1⟩
  refine bT (λc=>?_) (λc=>?_)
  .have ⟨f,x1⟩:=hx _ (cW b c)
   have ht:=LL b c
   have d:=KT cs8 (l.take (M j)) [T l (M j) cs5]
   rw[← ht] at d
   generalize T l (M j) cs5=x at *
   have hb:=aI5 b Y
   rw[hb]
   have a:V (l.take (M j))=M j:=by rw[fF];omega
   rw[a] at d
   have g:0<=ct1 .i64 (8*ct1 .i64 (1-j%2))/\gd .i64 (ct1 .i64 x) (ct1 .i64 (8*ct1 .i64 (1-j%2)))=(if j%2=0 then x*256 else x):=by
    rw[aJ (n:=x) Y Y]
    by_cases e:j%2=0
    .rw[e,ao rfl];exact⟨aD,UM f Y⟩
    .rw[show j%2=1 from by omega,I aD]
     exact⟨aD,bw0 f Y⟩
   rw[g.2]
   refine⟨b,c,g.1,j+1,dS cs8 (l.take (M (j+1))),⟨Y,Y,rfl,?_,?_⟩,Y,rfl,?_,rfl,rfl,aJ Y Y,aQ⟩
   all_goals rw[d]
   all_goals by_cases e:j%2=0
   all_goals first
    | rw[ao (show M j%2=0 by omega)]
    | rw[I (show ¬ M j%2=0 by omega)]
   all_goals simp only[dS,e,if_true,if_false,cV1,GQ]
   all_goals try omega
   all_goals rw[aJ Y Y]
   all_goals omega
  .rw[gE Y] at n0 ⊢
   exact⟨n0,rfl⟩
theorem aJ5:aB 266 ZM.spec:=aG Tryz.func266 (C aC Um) ay5 bA8
def bT9:Ct:=⟨[.val (.sl bc)],[.val cI],λd=>[(V d.1:Int)<=1099511627776],λd=>((65535-oc (dS cs8 d.1),()),())⟩
def sZ(a:Z):=65535 -oc (dS cs8 a)
theorem cp9:
 ∀ a,tW a (aR a) (ap (sZ a)=sZ a):= by
  delta O ap aM aR J sZ tW aF
  rintro l ⟨⟨-,hx⟩,-⟩ hl
  have:=ME (M8 cs8 l hx).1
  exact⟨hl,aJ Y Y⟩
theorem Dh:aB 217 bT9.spec:=aG Tryz.func217 (C aC aJ5) aS cp9
def ci7:Ct:=⟨[.val cI],[.val .bool],λd=>[],λd=>((fI d.1,()),())⟩
def bq(a b:Bool):=bif a then b else ct2
def zj(a b c:Bool):=∀(d:Bool),d=a->(d->aK d)/\(d->d)/\bq d b=c
def Bn(a:Int)(b c:Bool):=dN (aq a) (zj (fH a) b c)
def EJ:=∀(a:Int),Bn a (cs7 (a<=65535)) (fI a)
theorem aH0:
 EJ:= by
 delta aq aH aK bq J Bn dN fH EJ zj
 unfold fI
 simp_all
theorem aO5:aB 231 ci7.spec:=aG Tryz.func231 aC aS aH0
end Go.RS
