/- SX, part 16: regions: from the symbolic run to the real one; the run as the kernel computes it. -/
import Derived.Test.YtpdpkobkpacbnaaGreatDoorSx15
import Derived.Scope
set_option linter.unusedVariables false
namespace Go.SX
def Dh(k:Nat):List Edge->Bool
 | []=>true
 | e::r=>(match Region.binds .any e with|true=>Nat.blt e.on k|false=>true)&&Dh k r
def Ah:Nat->List Oper->Bool
 | _,[]=>true
 | k,o::r=>Dh k o.after.toList&&Ah (k+1) r
section
variable {P:Program} {sp:fh} {ops:Array Oper} {msk:List Nat} {w0:World} {N0:f5} {K:FS->Prop} {Q:Exit->Act->World->Prop}
theorem PO{k:Nat}:∀{es:List Edge},Dh k es=true→∀ e∈es,Region.binds .any e=true->e.on<k
 | e::r,h,e',a,hb=>by
  simp only[Dh,dK] at h;rcases dL.1 a with rfl|a
  .simp_all
  .exact PO h.2 e' a hb
theorem RF:∀{l:List Oper}{k:Nat},(∀ j,l[j]? = ops[k+j]?)->Ah k l=true→∀ j o,k<=j->ops[j]? = some o->j<k+l.length→∀ e∈o.after,Region.binds .any e=true->e.on<j
 | [],k,_,_,j,o,h1,_,b,_,_,_=>by simp at b;omega
 | o0::l,k,f,h,j,o,h1,c,b,e,g,i=>by
  simp only[Ah,dK] at h;by_cases d:j=k
  .subst d;have h0:ops[j]? = some o0:=by simpa using (f 0).symm
   rw[h0] at c;cases c;exact PO h.1 e (by simpa using g) i
  .exact RF (λj=>by have:=f (j+1);simpa[gP,uz 1 j] using this) h.2 j o (by omega) c (by simp at b;omega) e g i
def LP(ops:Array Oper)(k:Nat)(listed:Array Bool):Prop:=∀ j,listed[j]? = if j<ops.size then some (decide (j<k)) else none
theorem Qc(c:∀ i j,yU msk i j=true->rP ops i j)(d:Ah 0 ops.toList=true):∀(l:List Oper)(k:Nat)(a:Array Bool)(log:pf)(F:FS),(∀ j,l[j]? = ops[k+j]?)->LP ops k a →
  k+l.length=ops.size->vx P sp ops msk K l k log F->wa P sp ops msk K l.length a log F
 | [],k,a,log,F,_,g,p,h=>by
  refine⟨?_,h⟩;cases hr:Region.ready .any ops a with
  | nil=>rfl
  | cons i r =>
   have hi:i∈Region.ready .any ops a:=by rw[hr];simp
   obtain⟨f,o,ho,_⟩:=mem_ready.1 hi;have b:=(Array.getElem?_eq_some_iff.1 ho).1;rw[qH,g i,am b] at f;simp at p f;omega
 | o::l,k,a,log,F,v,g,p,h=>by
  have f:ops[k]? = some o:=by simpa using (v 0).symm
  have b:=(Array.getElem?_eq_some_iff.1 f).1;simp only[vx] at h;unfold sm at h;rw[f] at h;obtain⟨st,r,h1,h2,h3,h4⟩:=h;have q:=RF (ops:=ops) aA d;have s:∀ j,j<k->a.getD j false=true:=λj t=>by
   rw[qH,g j,am ab];simp[t]
  refine aa4 c f h2 l.length a log F ?_ ?_ h1 h3 λw u=>?_
  .intro j oj hoj t e x y;have m:=(Array.getElem?_eq_some_iff.1 hoj).1;rw[qH,g j,am m] at t;grind
  .refine mem_ready.2 ⟨?_,o,f,λe x y=>s _ (q k o (Nat.zero_le _) f (by simpa using b) e x y)⟩;rw[qH,g k,am b];simp
  .refine Qc c d l (k+1) _ _ w (λj=>by have:=v (j+1);simpa[gP,uz 1 j] using this) ?_ (by simp at p;omega) (h4 w u);intro j;by_cases n:k=j
   .subst n;rw[Array.getElem?_setIfInBounds_self_of_lt (by
     have:=g k;rw[am b] at this;exact (Array.getElem?_eq_some_iff.1 this).1),am b]
    simp
   .rw[Af n,g j];split
    .congr 1;rw[decide_eq_decide];omega
    .rfl
theorem Iv(m:jo P sp/\N0.g=sp.gl){p:Nat->Prop}{e:aZ}{q:World}
  (k:∀ f A' env' l j,K f->ij w0 N0 A' env' f l j->dB p e q A' env' j->Q .normal l j) :
  ∀(c:Nat)(b:Array Bool)(log:pf)(F:FS)(A:Nat->Prop)(env:aZ)(a:Act)(w:World),wa P sp ops msk K c b log F->ij w0 N0 A env F a w->dB p e q A env w →
   wpAny P .any ops Q c b a w
 | 0,_,_,F,A,env,a,w,h,t,x=>⟨h.1,k _ _ _ _ _ h.2 t x⟩
 | c+1,b,log,F,A,env,a,w,h,t,x=>by
  refine⟨λh0=>k _ _ _ _ _ (h.1 h0) t x,λi hi=>?_⟩;have d:=h.2 i hi;unfold sm at d;unfold wpOp;split at d
  next n=>simp only[n];exact Iv m k c _ _ F A env a w d t x
  next o n=>simp only[n];obtain⟨st,r,h1,h2,_,h4⟩:=d;exact (Hq m t h1 h2).2 _ _ λf A' env' l j hF t' x'=>Iv m k c _ _ f A' env' l j (h4 f hF) t' (x.trans x')
theorem Nk(f:jo P sp/\N0.g=sp.gl){i:Nat->Prop}{b:aZ}{m:World}
  (n:∀ c A' env' e d,K c->ij w0 N0 A' env' c e d->dB i b m A' env' d->Q .normal e d) :
  ∀(l:List Oper)(k:Nat)(log:pf)(F:FS)(A:Nat->Prop)(env:aZ)(a:Act)(w:World),(∀ j,l[j]? = ops[k+j]?)->vx P sp ops msk K l k log F->ij w0 N0 A env F a w->dB i b m A env w →
   wpOps P ops Q (List.range' k l.length) a w
 | [],k,log,F,A,env,a,w,_,h,t,x=>n _ _ _ _ _ h t x
 | o::l,k,log,F,A,env,a,w,p,h,t,x=>by
  have q:ops[k]? = some o:=by simpa using (p 0).symm
  simp only[vx] at h;unfold sm at h;rw[q] at h;obtain⟨st,r,h1,h2,_,h4⟩:=h;rw[dM,List.range'_succ,wpOps_cons];unfold wpOp;simp only[q];exact (Hq f t h1 h2).2 _ _ λc A' env' e d hF t' x' =>
   Nk f n l (k+1) _ c A' env' e d (λj=>by have:=p (j+1);simpa[gP,uz 1 j] using this) (h4 c hF) t' (x.trans x')
theorem ij.drew{A:Nat->Prop}{env:aZ}{F:FS}{a:Act}{w:World}(t:ij w0 N0 A env F a w):ij w0 N0 A env F a w.drew/\dB A env w A env w.drew:=by
 have u:mB (λ_=>False) (λ_=>False) A env F.h w A env F.h w.drew:=mB.none (cY.drew w _)
 have x:=t.m.ext u
 exact⟨⟨t.m.upd u,t.len,λi=>yl x _ _ (t.f i),t.dfr⟩,x⟩
theorem ah4(f:jo P sp/\N0.g=sp.gl)(c:P.follows .mixedOrders=true){id:Nat}{b:Bool}{A:Nat->Prop}{env:aZ}{F:FS}{a:Act}{w:World}(hd:b=true->Ah 0 ops.toList=true/\msk=Es ops.toList [])
  (t:ij w0 N0 A env F a w) (h:vx P sp ops msk K ops.toList 0 [] F)
  (i:∀ k A' env' l e,K k->ij w0 N0 A' env' k l e->dB A env w A' env' e->Q .normal l e):(Code.region id ops b).wp P Q a w:=by
 cases b with
 | false =>
  refine wp_region ?_;have:=Nk f i ops.toList 0 [] F A env a w aA h t dB.refl;rw[List.range_eq_range'];simpa using this
 | true =>
  obtain⟨d,hm⟩:=hd rfl;subst hm;obtain⟨t',x'⟩:=t.drew;refine wp_region_any c ?_;have:=Qc (Qz ops.toList 0 [] aA rfl (by simp[te])) d ops.toList 0 (Array.replicate ops.size false) [] F aA (λj=>by
   rw[Array.getElem?_replicate];split <;> simp) aA h
  have h2:=Iv f i _ _ _ F A env a w.drew this t' x';simpa using h2
end
structure St where
 sl:List SV
 H:List (Nat×Nm)
def eI:List (Nat×Nm)->Nat->Nm
 | [],_ => .un
 | (m,b)::r,n=>match Nat.beq n m with
  | true=>b
  | false=>eI r n
def St.fs(S:St):FS:=⟨S.sl,eI S.H⟩
theorem J3:∀(H:List (Nat×Nm)),eI H=cZ H (λ_=>.un)
 | []=>rfl
 | (m,b)::r=>by
  funext n;simp only[eI,cZ,bN.set];by_cases h:n=m
  .subst h;simp
  .have:Nat.beq n m=false:=by
    cases hb:Nat.beq n m with
    | false=>rfl
    | true=>exact absurd (bG hb) h
   rw[this,af h,J3 r]
theorem ZK(u H:List (Nat×Nm)):eI (u++H)=cZ u (eI H):=by
 rw[J3,J3,Gi]
def ao(b:Bool)(y n:Prop):Prop:=match b with
 | true=>y
 | false=>n
def qo:List Prop->Prop->Prop
 | [],q=>q
 | p::r,q=>p/\qo r q
theorem wM{l:List Prop}{q:Prop}:qo l q↔bV l/\q:=by
 induction l with
 | nil=>simp[qo,bV]
 | cons p l ih=>simp[qo,bV,ih,and_assoc]
def FH(v:SV)(k:SV->Prop):Prop:=match v with
 | .int a b=>k (.int a b)
 | .bool b=>k (.bool b)
 | .str s=>k (.str s)
 | .dsl t xs=>k (.dsl t xs)
 | .dsx t xs=>k (.dsx t xs)
 | .nilsl=>k .nilsl
 | .own n s=>k (.own n s)
 | .ptr n o=>k (.ptr n o)
 | .eptr n s i o=>k (.eptr n s i o)
 | .dptr t d o=>k (.dptr t d o)
 | .nilp=>k .nilp
 | .fn f c=>k (.fn f c)
 | .agg c=>k (.agg c)
 | .tup c=>k (.tup c)
 | .opt b v=>k (.opt b v)
 | .cv v=>k (.cv v)
 | .gl g=>k (.gl g)
 | .csl n l=>k (.csl n l)
 | .mapp n=>k (.mapp n)
 | .junk=>k .junk
theorem FW(v:SV)(k:SV->Prop):FH v k=k v:=by cases v <;> rfl
def zw:List SV->(List SV->Prop)->Prop
 | [],k=>k []
 | x::xs,k=>FH x λy=>zw xs λys=>k (y::ys)
theorem Ou:∀(l:List SV)(k:List SV->Prop),zw l k=k l
 | [],k=>rfl
 | x::xs,k=>by simp only[zw,FW,Ou xs]
def AU(v:SV)(k:SV->Prop):Prop:=FH v λv=>match v with
 | .agg c=>zw c λc=>k (.agg c)
 | .tup c=>zw c λc=>k (.tup c)
 | .fn f c=>zw c λc=>k (.fn f c)
 | .opt b v=>FH v λv=>k (.opt b v)
 | v=>k v
theorem HF(v:SV)(k:SV->Prop):AU v k=k v:=by
 unfold AU;rw[FW];cases v <;> simp only[Ou,FW]
def Am:List SV->(List SV->Prop)->Prop
 | [],k=>k []
 | x::xs,k=>AU x λy=>Am xs λys=>k (y::ys)
theorem Io:∀(l:List SV)(k:List SV->Prop),Am l k=k l
 | [],k=>rfl
 | x::xs,k=>by simp only[Am,HF,Io xs]
def Dt(v:SV)(k:SV->Prop):Prop:=AU v λv=>match v with
 | .tup c=>Am c λc=>k (.tup c)
 | .opt b v=>AU v λv=>k (.opt b v)
 | v=>k v
theorem Lq(v:SV)(k:SV->Prop):Dt v k=k v:=by
 unfold Dt;rw[HF];cases v <;> simp only[Io,HF]
def wo:List Nat->(List Nat->Prop)->Prop
 | [],k=>k []
 | n::r,k=>wo r λr=>k (n::r)
theorem DI:∀(l:List Nat)(k:List Nat->Prop),wo l k=k l
 | [],k=>rfl
 | n::r,k=>by simp only[wo,DI r]
def D5(b:Nm)(k:Nm->Prop):Prop:=match b with
 | .un=>k .un
 | .dead=>k .dead
 | .live b=>match b with
  | .cells E cs=>Am cs λcs=>k (.live (.cells E cs))
  | .row E t xs=>k (.live (.row E t xs))
  | .frz E t xs=>k (.live (.frz E t xs))
  | .mp kk vk l=>k (.live (.mp kk vk l))
  | .opn E t xs i cs=>Am cs λcs=>k (.live (.opn E t xs i cs))
theorem Ph(b:Nm)(k:Nm->Prop):D5 b k=k b:=by
 cases b with
 | live b=>cases b <;> simp only[D5,Io]
 | _=>rfl
def Cy:List SV->Nat->SV->(List SV->Prop)->Prop
 | [],_,_,k=>k []
 | _::xs,0,v,k=>k (v::xs)
 | x::xs,n+1,v,k=>Cy xs n v λys=>k (x::ys)
theorem ME:∀(l:List SV)(n:Nat)(v:SV)(k:List SV->Prop),Cy l n v k=k (l.set n v)
 | [],n,v,k=>by simp[Cy]
 | x::xs,0,v,k=>rfl
 | x::xs,n+1,v,k=>by simp only[Cy,ME xs,List.set_cons_succ]
def EQ:List (Nat×Nm)->List (Nat×Nm)->(List (Nat×Nm)->Prop)->Prop
 | [],H,k=>k H
 | (n,b)::r,H,k=>EQ r H λH'=>D5 b λb'=>k ((n,b')::H')
theorem KN:∀(u H:List (Nat×Nm))(k:List (Nat×Nm)->Prop),EQ u H k=k (u++H)
 | [],H,k=>rfl
 | (n,b)::r,H,k=>by simp only[EQ,KN r,Ph,me]
def qy(S:St)(dst:Option Tmp)(v:SV)(upd:List (Nat×Nm))(k:St->Prop):Prop:=match S with
 | ⟨sl,H⟩=>EQ upd H λH=>match dst with
  | some d=>Dt v λv=>Cy sl d v λsl=>k ⟨sl,H⟩
  | none=>k ⟨sl,H⟩
theorem UM(S:St)(dst:Option Tmp)(v:SV)(a:List (Nat×Nm))(k:St->Prop):qy S dst v a k=k ⟨jB S.sl dst v,a++S.H⟩:=by
 unfold qy
 simp only
 rw[KN]
 cases dst with
 | none=>rfl
 | some d=>simp only[Lq,ME,jB]
def wQ{X:Type}(x:X):List (Nat×(X->Nm))->List (Nat×Nm)
 | []=>[]
 | (n,f)::r=>(n,f x)::wQ x r
theorem Nl{X:Type}(x:X):∀(u:List (Nat×(X->Nm))),wQ x u=u.map λp=>(p.1,p.2 x)
 | []=>rfl
 | (n,f)::r=>by simp[wQ,Nl x r]
def Ix(dst:Option Tmp)(S:St)(k:St->Prop):iU->Prop
 | .go (.det pre v upd)=>qo pre (qy S dst v upd k)
 | .go (.nd X qn pre R _ v upd)=>qo pre (qn.all λx=>R x->qy S dst (v x) (wQ x upd) k)
 | .split g (.det pre v upd)=>ao g (qo pre (qy S dst v upd k)) (qy S dst (.cv undef) [] k)
 | .split g (.nd X qn pre R _ v upd)=>ao g (qo pre (qn.all λx=>R x->qy S dst (v x) (wQ x upd) k)) (qy S dst (.cv undef) [] k)
theorem Oc{dst:Option Tmp}{S:St}{k:St->Prop}{o:iU}(h:Ix dst S k o):o.pre∧∀ e,lQ o dst S.fs e→∃ f,f.fs=e/\k f:=by
 have l:∀ v u,qy S dst v u k→∃ f:St,f.fs=⟨jB S.sl dst v,cZ u (eI S.H)⟩/\k f:=λv u r=>by
  rw[UM] at r;exact⟨_,by simp only[St.fs,ZK],r⟩
 have m:∀{X:Type}{j:Qn X}{R:X->Prop}{v:X->SV}{a:List (Nat×(X->Nm))},(j.all λx=>R x->qy S dst (v x) (wQ x a) k)→∀(x:X),R x →
   ∃ f:St,f.fs=⟨jB S.sl dst (v x),cZ (a.map λp=>(p.1,p.2 x)) (eI S.H)⟩/\k f:=λ{X j R v a} c x n=>by
  have:=j.hall _ c x n;rw[Nl] at this;exact l _ _ this
 cases o with
 | go d =>
  cases d with
  | det pre v a =>
   obtain⟨i,c⟩:=wM.1 h;exact⟨i,by rintro e ⟨x,_,rfl⟩;exact l _ _ c⟩
  | nd X j pre R q v a =>
   obtain⟨i,c⟩:=wM.1 h;refine⟨i,?_⟩;rintro e ⟨x,n,rfl⟩;exact m c x n
 | split g d =>
  cases d with
  | det pre v a =>
   cases g with
   | true =>
    obtain⟨i,c⟩:=wM.1 (show qo pre (qy S dst v a k) from h);exact⟨λ_=>i,by rintro e (⟨_,x,_,rfl⟩|⟨b,_⟩);exact l _ _ c;cases b⟩
   | false =>
    exact⟨λb=>(by cases b),by rintro e (⟨b,_⟩|⟨_,rfl⟩);cases b;exact l (.cv undef) [] h⟩
  | nd X j pre R q v a =>
   cases g with
   | true =>
    obtain⟨i,c⟩:=wM.1 (show qo pre (j.all λx=>R x->qy S dst (v x) (wQ x a) k) from h);refine⟨λ_=>i,?_⟩;rintro e (⟨_,x,n,rfl⟩|⟨b,_⟩)
    .exact m c x n
    .cases b
   | false =>
    exact⟨λb=>(by cases b),by rintro e (⟨b,_⟩|⟨_,rfl⟩);cases b;exact l (.cv undef) [] h⟩
def GF(v:SV)(k:SV->Prop):Prop:=match v with
 | .int c e=>∀ n:Int,n=e->k (.int c n)
 | .bool e=>∀ b:Bool,b=e->k (.bool b)
 | .opt g v=>match v with
  | .int c e=>∀ n:Int,n=e->k (.opt g (.int c n))
  | .bool e=>∀ b:Bool,b=e->k (.opt g (.bool b))
  | v=>k (.opt g v)
 | v=>k v
theorem aD0{v:SV}{k:SV->Prop}(h:GF v k):k v:=by
 unfold GF at h
 grind
def HW:List SV->Nat->(List SV->Prop)->Prop
 | [],_,k=>k []
 | v::l,0,k=>GF v λv=>k (v::l)
 | v::l,n+1,k=>HW l n λl=>k (v::l)
theorem Mt:∀{l:List SV}{n:Nat}{k:List SV->Prop},HW l n k->k l
 | [],_,k,h=>h
 | v::l,0,k,h=>aD0 (v:=v) h
 | v::l,n+1,k,h=>Mt (l:=l) h
def EL(gs:List Nat)(dst:Option Tmp)(k:St->Prop)(S:St):Prop:=match dst with
 | some d=>match oG d gs with
  | true=>match S with
   | ⟨sl,H⟩=>HW sl d λsl=>k ⟨sl,H⟩
  | false=>k S
 | none=>k S
theorem KK{gs:List Nat}{dst:Option Tmp}{k:St->Prop}{S:St}(h:EL gs dst k S):k S:=by
 unfold EL at h
 split at h
 .split at h
  .exact Mt h
  .exact h
 .exact h
def xI(all:List Oper):List Oper->List Nat
 | []=>[]
 | o::l=>match o.guard with
  | some (j,_)=>match nK all j with
   | some oj=>match oj.dst with
    | some d=>match oG d (xI all l) with
     | true=>xI all l
     | false=>d::xI all l
    | none=>xI all l
   | none=>xI all l
  | none=>xI all l
def Ek(P:Program)(sp:fh)(all:List Oper)(gs:List Nat)(k:St->Prop):List Oper->St->Prop
 | [],S=>k S
 | o::l,S=>match (ng P sp all o S.sl).run (eI S.H) with
  | some (st,_)=>Ix o.dst S (EL gs o.dst (Ek P sp all gs k l)) st
  | none=>False
def If:SV->SV->Option (List Prop)
 | .int k n,.int k' m=>match lH k k' with
  | true=>some [n=m]
  | false=>none
 | .bool b,.bool c=>some [b=c]
 | .str b,.str c=>some [b=c]
 | .dsl t xs,.dsl t' ys=>match gX t' t ys with
  | some zs=>some [xs=zs]
  | none=>none
 | .dsx t xs,.dsx t' ys=>match gX t' t ys with
  | some zs=>some [xs=zs]
  | none=>none
 | .nilsl,.nilsl=>some []
 | .nilp,.nilp=>some []
 | .own n s,.own m z=>match Nat.beq n m,Nat.beq s z with
  | true,true=>some []
  | _,_=>none
 | .ptr n s,.ptr m z=>match Nat.beq n m,Nat.beq s z with
  | true,true=>some []
  | _,_=>none
 | _,_=>none
theorem Yv{u v:SV}{ps:List Prop}(h:If u v=some ps)(a:bV ps):u=v:=by
 unfold If at h
 split at h
 .split at h
  next hk=>cases mo hk;cases h;rw[a.1]
  .cases h
 .cases h;rw[a.1]
 .cases h;rw[a.1]
 .split at h
  next zs hc=>obtain⟨b,c⟩:=jR hc;subst b;subst c;cases h;rw[a.1]
  .cases h
 .split at h
  next zs hc=>obtain⟨b,c⟩:=jR hc;subst b;subst c;cases h;rw[a.1]
  .cases h
 .rfl
 .rfl
 .split at h
  .simp_all
  .cases h
 .split at h
  .simp_all
  .cases h
 .cases h
def Dn:List Nat->List Nat->Bool
 | [],[]=>true
 | a::l,b::m=>Nat.beq a b&&Dn l m
 | _,_=>false
theorem K6:∀{l m:List Nat},Dn l m=true->l=m
 | [],[],_=>rfl
 | a::l,b::m,h=>by
  simp only[Dn,dK] at h;rw[bG h.1,K6 h.2]
def Fy:List Nat->List Nat->Bool
 | [],_=>true
 | a::l,m=>oG a m&&Fy l m
theorem PD:∀{l m:List Nat},Fy l m=true→∀ n∈l,n∈m
 | a::l,m,h,n,c=>by
  simp only[Fy,dK] at h;rcases dL.1 c with rfl|c
  .exact xU.1 h.1
  .exact PD h.2 n c
def Eo:iU->Option SV
 | .go (.det [] v [])=>some v
 | _=>none
theorem Hn{a:iU}{v:SV}(h:Eo a=some v):a = .go (.det [] v []):=by
 unfold Eo at h
 grind
def IK:iU->Option (List (Nat×Nm))
 | .go (.det _ _ u)=>some u
 | _=>none
theorem WZ{a:iU}{u:List (Nat×Nm)}(h:IK a=some u):∃ p v,a = .go (.det p v u):=by
 unfold IK at h
 grind
def D8(t:nY)(v:SV)(h:bN):Option (List Prop):=match t.q.run h with
 | some (st,r)=>match Eo st with
  | some v1=>match Dn r t.rd with
   | true=>If v1 v
   | false=>none
  | none=>none
 | none=>none
def El(s t:nY):Option (List Prop):=match IK s.st,Eo t.st with
 | some u,some v=>match Fy t.rd s.wr with
  | true=>match D8 t v s.old,D8 t v (cZ u s.old) with
   | some p,some q=>some (p++q)
   | _,_=>none
  | false=>none
 | _,_=>none
def IX(s t:nY):Option (List Prop):=match oR s.wr t.wr&&oR s.swr t.srd&&oR s.swr t.swr&&oR t.swr s.srd with
 | true=>match (match oR s.wr t.rd with|true=>some []|false=>El s t),(match oR t.wr s.rd with|true=>some []|false=>El t s) with
  | some p,some q=>some (p++q)
  | _,_=>none
 | false=>none
def Bi(msk:List Nat)(i:Nat)(t:nY):pf->Option (List Prop)
 | []=>some []
 | (j,s)::r=>match yU msk j i||F0 s t with
  | true=>Bi msk i t r
  | false=>match IX s t with
   | some ps=>match Bi msk i t r with
    | some qs=>some (ps++qs)
    | none=>none
   | none=>none
theorem Ql{t:nY}{v:SV}{h:bN}{ps:List Prop}(e:D8 t v h=some ps)(hp:bV ps):t.q.run h=some (.go (.det [] v []),t.rd):=by
 unfold D8 at e
 split at e
 next st r hr=>
  split at e
  .rename_i v1 h1;split at e
   next h2=>rw[hr,Hn h1,K6 h2,Yv e hp]
   .cases e
  .cases e
 .cases e
theorem LR{s t:nY}{ps:List Prop}(e:El s t=some ps)(hp:bV ps):GU s t:=by
 unfold El at e
 split at e
 next u v hu hv=>
  split at e
  .rename_i hs;split at e
   .rename_i p q h1 h2;cases e;obtain⟨c1,c2⟩:=pO.1 hp;obtain⟨pre,v0,a⟩:=WZ hu;refine⟨pre,v0,u,a,PD hs,?_,?_⟩
    .rw[Hn hv];exact Ql h1 c1
    .rw[Hn hv];exact Ql h2 c2
   .cases e
  .cases e
 .cases e
theorem Yf{s t:nY}{ps:List Prop}(e:IX s t=some ps)(hp:bV ps):tB s t:=by
 unfold IX at e
 split at e
 next b=>
  simp at b;obtain⟨⟨⟨b1,b2⟩,b3⟩,b4⟩:=b;split at e
  .rename_i p q h1 h2;cases e;obtain⟨c1,c2⟩:=pO.1 hp;refine⟨?_,pN b1,?_,pN b2,pN b3,pN b4⟩
   .split at h1
    next a=>exact .inl (pN a)
    .exact .inr (LR h1 c1)
   .split at h2
    next a=>exact .inl (pN a)
    .exact .inr (LR h2 c2)
  .cases e
 .cases e
theorem Jr{msk:List Nat}{i:Nat}{t:nY}:∀{l:pf}{ps:List Prop},Bi msk i t l=some ps->bV ps->ER msk i t l
 | [],_,_,_=>λp b=>by cases b
 | (j,s)::r,ps,e,b=>by
  simp only[Bi] at e;split at e
  .rename_i c;intro p a;rcases dL.1 a with rfl|a
   .simp at c;exact c.imp id Tt
   .exact Jr e b p a
  .split at e
   .rename_i p1 h1;split at e
    .rename_i q h2;cases e;obtain⟨c1,c2⟩:=pO.1 b;intro p a;rcases dL.1 a with rfl|a
     .exact .inr (Yf h1 c1)
     .exact Jr h2 c2 p a
    .cases e
   .cases e
def De(P:Program)(sp:fh)(ops:Array Oper)(gs:List Nat)(msk:List Nat)(k:St->Prop):List Oper->Nat->pf->St->Prop
 | [],_,_,S=>k S
 | o::l,i,log,S=>match (ng P sp ops.toList o S.sl).run (eI S.H) with
  | some (st,r)=>wo r λr=>wo st.wr λwr=>wo (o.looksAt ops) λlk=>match Bi msk i ⟨r,wr,lk,vv o.dst,ng P sp ops.toList o S.sl,st,tc wr (eI S.H)⟩ log with
   | some ps=>qo ps (Ix o.dst S (EL gs o.dst (De P sp ops gs msk k l (i+1) ((i,⟨r,wr,lk,vv o.dst,ng P sp ops.toList o S.sl,st,tc wr (eI S.H)⟩)::log))) st)
   | none=>False
  | none=>False
def JW(P:Program)(sp:fh)(nms:List Nat)(ops:Array Oper)(draw:Bool)(k:St->Prop)(S:St):Prop :=
 wo (xI ops.toList ops.toList++nms) λgs=>match draw with
 | false=>Ek P sp ops.toList gs k ops.toList S
 | true=>match Ah 0 ops.toList with
  | true=>wo (Es ops.toList []) λmsk=>De P sp ops gs msk k ops.toList 0 [] S
  | false=>False
section
variable {P:Program} {sp:fh} {ops:Array Oper} {gs nms:List Nat} {msk:List Nat} {w0:World} {N0:f5} {Q:Exit->Act->World->Prop} {k:St->Prop}
theorem KG:∀(l:List Oper)(i:Nat)(log:pf)(S:St),(∀ j,l[j]? = ops[i+j]?)->De P sp ops gs msk k l i log S →
  vx P sp ops msk (λF=>∃ a,St.fs a=F/\k a) l i log S.fs
 | [],i,log,S,_,h=>⟨S,rfl,h⟩
 | o::l,i,log,S,d,h=>by
  have h0:ops[i]? = some o:=by simpa using (d 0).symm
  simp only[De] at h;simp only[vx];unfold sm;rw[h0];split at h
  .rename_i st r hr;simp only[DI] at h;split at h
   next ps b=>obtain⟨c,h⟩:=wM.1 h;obtain⟨h1,h2⟩:=Oc h;refine⟨st,r,hr,h1,Jr b c,λF' hF=>?_⟩;obtain⟨a,rfl,h3⟩:=h2 F' hF;exact KG l (i+1) _ a (λj=>by have:=d (j+1);simpa[gP,uz 1 j] using this) (KK h3)
   .exact h.elim
  .exact h.elim
theorem K9(f:jo P sp/\N0.g=sp.gl){m:Nat->Prop}{b:aZ}{n:World}
  (p:∀ d A' env' e c,k d->ij w0 N0 A' env' (St.fs d) e c->dB m b n A' env' c->Q .normal e c) :
  ∀(l:List Oper)(i:Nat)(S:St)(A:Nat->Prop)(env:aZ)(a:Act)(w:World),(∀ j,l[j]? = ops[i+j]?)->Ek P sp ops.toList gs k l S->ij w0 N0 A env S.fs a w->dB m b n A env w →
   wpOps P ops Q (List.range' i l.length) a w
 | [],i,S,A,env,a,w,_,h,t,x=>p _ _ _ _ _ h t x
 | o::l,i,S,A,env,a,w,q,h,t,x=>by
  have h0:ops[i]? = some o:=by simpa using (q 0).symm
  simp only[Ek] at h;rw[dM,List.range'_succ,wpOps_cons];unfold wpOp;simp only[h0];split at h
  next st r hr=>obtain⟨h1,h2⟩:=Oc h;refine (Hq f t hr h1).2 _ _ λF' A' env' e c hF t' x'=>?_;obtain⟨d,rfl,h3⟩:=h2 F' hF;exact K9 f p l (i+1) d A' env' e c (λj=>by have:=q (j+1);simpa[gP,uz 1 j] using this) (KK h3) t' (x.trans x')
  .exact h.elim
theorem aa3(f:jo P sp/\N0.g=sp.gl)(c:P.follows .mixedOrders=true){id:Nat}{b:Bool}{A:Nat->Prop}{env:aZ}{S:St}{a:Act}{w:World}
  (t:ij w0 N0 A env S.fs a w) (h:JW P sp nms ops b k S)
  (hQ:∀ i A' env' j e,k i->ij w0 N0 A' env' (St.fs i) j e->dB A env w A' env' e->Q .normal j e):(Code.region id ops b).wp P Q a w:=by
 unfold JW at h
 rw[DI] at h
 cases b with
 | false =>
  refine wp_region ?_;have:=K9 f hQ ops.toList 0 S A env a w aA h t dB.refl;rw[List.range_eq_range'];simpa using this
 | true =>
  simp only at h;split at h
  next d=>rw[DI] at h;refine ah4 f c (λ_=>⟨d,rfl⟩) t (KG ops.toList 0 [] S aA h) ?_;grind
  .exact h.elim
end
end Go.SX
namespace Go.SX
def PN:Nat:=1048576
def QN:Nat:=2097152
abbrev Rn:=List (Nat×Option Nat)
def bf:Rn->Nat->Option (Option Nat)
 | [],_=>none
 | (m,x)::r,n=>match Nat.beq n m with
  | true=>some x
  | false=>bf r n
def J6:Option Nat->Option Nat->Bool
 | none,none=>true
 | some a,some b=>Nat.beq a b
 | _,_=>false
theorem ZJ{a b:Option Nat}(h:J6 a b=true):a=b:=by
 cases a <;> cases b <;> simp only[J6,BK] at h
 .rfl
 .simp_all
def zn(m:Nat):Rn->Bool
 | []=>false
 | (_,some k)::r=>Nat.beq m k||zn m r
 | (_,none)::r=>zn m r
def DA(c:Nat)(x:Option Nat)(R:Rn):Option Rn:=match bf R c with
 | some y=>match J6 y x with
  | true=>some R
  | false=>none
 | none=>match x with
  | none=>some ((c,none)::R)
  | some m=>match zn m R with
   | true=>none
   | false=>some ((c,some m)::R)
def iI(R:Rn):Prop:=∀ c c' m,bf R c=some (some m)->bf R c'=some (some m)->c=c'
def fx(R R':Rn):Prop:=∀ n y,bf R n=some y->bf R' n=some y
theorem fx.refl{R:Rn}:fx R R:=λ_ _ h=>h
theorem fx.trans{a b c:Rn}(h:fx a b)(k:fx b c):fx a c:=λn y e=>k n y (h n y e)
theorem Fx{m:Nat}:∀{R:Rn},zn m R=false→∀ c,bf R c≠some (some m)
 | [],_,c=>by simp[bf]
 | (n,some k)::r,h,c=>by
  simp only[zn,Bool.or_eq_false_iff] at h;simp only[bf];split
  .intro e;cases e;rw[sS] at h;cases h.1
  .exact Fx h.2 c
 | (n,none)::r,h,c=>by
  simp only[zn] at h;simp only[bf];split
  .intro e;cases e
  .exact Fx h c
theorem qf{c n:Nat}{x:Option Nat}{R:Rn}:bf ((c,x)::R) n=if n=c then some x else bf R n:=by
 simp only[bf]
 by_cases h:n=c
 .subst h;simp
 .have:Nat.beq n c=false:=by
   cases hb:Nat.beq n c with
   | false=>rfl
   | true=>exact absurd (bG hb) h
  rw[this,af h]
theorem Px{c:Nat}{x:Option Nat}{R g:Rn}(h:DA c x R=some g):bf g c=some x/\fx R g/\(iI R->iI g):=by
 unfold DA at h
 split at h
 next y j=>
  split at h
  next d=>cases h;rw[ZJ d] at j;exact⟨j,fx.refl,id⟩
  .cases h
 next hn=>
  have l:∀ y,fx R ((c,y)::R):=λy n z i=>by
   rw[qf,af (λe=>by rw[e,hn] at i;cases i)];exact i
  split at h
  .cases h;refine⟨by rw[qf,am rfl],l _,λhi a b m f d=>?_⟩;rw[qf] at f d;split at f
   .cases f
   .split at d
    .cases d
    .exact hi a b m f d
  .rename_i m;split at h
   .cases h
   .rename_i o;cases h;refine⟨by rw[qf,am rfl],l _,λhi a b k f d=>?_⟩;rw[qf] at f d;split at f
    .rename_i ea;cases f;split at d
     next eb=>rw[ea,eb]
     .exact absurd d (Fx o b)
    .split at d
     .cases d;exact absurd f (Fx o a)
     .exact hi a b k f d
def iK(R:Rn)(env:aZ):aZ:=λn=>match bf R n with
 | some (some m)=>env m
 | some none => .nil
 | none => .un
theorem tP{R:Rn}{env:aZ}{c m:Nat}(h:bf R c=some (some m)):iK R env c=env m:=by unfold iK;rw[h]
theorem CA{R:Rn}{env:aZ}{c:Nat}(h:bf R c=some none):iK R env c = .nil:=by unfold iK;rw[h]
def p8(p:Prop)(R:Rn):Option (Rn×List Prop):=some (R,[p])
def wm(c:Nat)(x:Option Nat)(ps:List Prop)(R:Rn):Option (Rn×List Prop):=match DA c x R with
 | some R'=>some (R',ps)
 | none=>none
def Do(v u:SV)(R:Rn):Option (Rn×List Prop):=match v,u with
 | .junk,_=>some (R,[])
 | .int k n,.int k' m=>match lH k k' with
  | true=>p8 (m=n) R
  | false=>none
 | .bool b,.bool c=>p8 (c=b) R
 | .str b,.str c=>p8 (c=b) R
 | .dsl t xs,.dsl t' ys=>match gX t' t ys with
  | some zs=>p8 (zs=xs) R
  | none=>none
 | .dsl t xs,.dsx t' ys=>match gX t' t ys with
  | some zs=>p8 (zs=xs) R
  | none=>none
 | .dsl t xs,.nilsl=>p8 (xs=[]) R
 | .dsx t xs,.dsx t' ys=>match gX t' t ys with
  | some zs=>p8 (zs=xs) R
  | none=>none
 | .nilsl,.nilsl=>some (R,[])
 | .own c sz,.own d sz'=>match Nat.beq sz sz' with
  | true=>wm c (some d) [] R
  | false=>none
 | .own c sz,.nilsl=>wm c none [] R
 | .ptr c o,.ptr d o'=>match Nat.beq o o' with
  | true=>wm c (some d) [] R
  | false=>none
 | .eptr c sz i o,.eptr d sz' i' o'=>match Nat.beq sz sz',Nat.beq o o' with
  | true,true=>wm c (some d) [i'=i] R
  | _,_=>none
 | .csl c k,.csl d k'=>match Nat.beq k k' with
  | true=>wm c (some d) [] R
  | false=>none
 | .mapp c,.mapp d=>wm c (some d) [] R
 | .nilp,.nilp=>some (R,[])
 | .fn f [],.fn g []=>match Nat.beq f g with
  | true=>some (R,[])
  | false=>none
 | .cv x,.cv y=>p8 (y=x) R
 | _,_=>none
def zd:List SV->List SV->Rn->Option (Rn×List Prop)
 | [],[],R=>some (R,[])
 | v::vs,u::us,R=>match Do v u R with
  | some (R1,p)=>match zd vs us R1 with
   | some (R2,q)=>some (R2,p++q)
   | none=>none
  | none=>none
 | _,_,_=>none
def Ka(v u:SV)(R:Rn):Option (Rn×List Prop):=match v,u with
 | .agg cs,.agg ds=>zd cs ds R
 | .fn f cs,.fn g ds=>match Nat.beq f g with
  | true=>zd cs ds R
  | false=>none
 | v,u=>Do v u R
def Gx(b b0:kZ)(R:Rn):Option (Rn×List Prop):=match b,b0 with
 | .cells E cs,.cells E' ds=>match Nat.beq E E' with
  | true=>zd cs ds R
  | false=>none
 | .row E t xs,.row E' t' ys=>match Nat.beq E E',gX t' t ys with
  | true,some zs=>p8 (zs=xs) R
  | _,_=>none
 | .frz E t xs,.frz E' t' ys=>match Nat.beq E E',gX t' t ys with
  | true,some zs=>p8 (zs=xs) R
  | _,_=>none
 | .mp kk vk l,.mp kk' vk' l'=>match lH kk kk',lH vk vk' with
  | true,true=>p8 (l'=l) R
  | _,_=>none
 | _,_=>none
section
variable {A:Nat->Prop} {env:aZ} {w:World}
theorem yD{c:Nat}{x:Option Nat}{ps d:List Prop}{R e:Rn}(h:wm c x ps R=some (e,d)):bf e c=some x/\fx R e/\(iI R->iI e)/\d=ps:=by
 unfold wm at h
 split at h
 next R1 h1=>cases h;obtain⟨a,b,c⟩:=Px h1;exact⟨a,b,c,rfl⟩
 .cases h
theorem DH{p:Prop}{a:List Prop}{R b:Rn}(h:p8 p R=some (b,a)):b=R/\(bV a->p):=by
 cases h;exact⟨rfl,λh=>h.1⟩
theorem KS{v u:SV}{R i:Rn}{ps:List Prop}(h:Do v u R=some (i,ps)) :
  fx R i/\(iI R->iI i)/\(bV ps→∀ b,fx i b→∀ x,az A env w u x->az A (iK b env) w v x):=by
 have c:∀{p:Prop},p8 p R=some (i,ps)->(p→∀ b:Rn,fx i b→∀ x,az A env w u x->az A (iK b env) w v x) →
   fx R i/\(iI R->iI i)/\(bV ps→∀ b,fx i b→∀ x,az A env w u x->az A (iK b env) w v x):=λe f=>by
  obtain⟨rfl,hp⟩:=DH e;exact⟨fx.refl,id,λh=>f (hp h)⟩
 have g:some (R,([]:List Prop))=some (i,ps)->(∀ b:Rn,∀ x,az A env w u x->az A (iK b env) w v x) →
   fx R i/\(iI R->iI i)/\(bV ps→∀ b,fx i b→∀ x,az A env w u x->az A (iK b env) w v x):=λe f=>by
  cases e;exact⟨fx.refl,id,λ_ b _=>f b⟩
 unfold Do at h
 split at h
 .exact g h λb x _=>by simp only[az]
 .split at h
  next hk=>cases mo hk;exact c h λe b _ x a=>by subst e;simpa only[az] using a
  .cases h
 .exact c h λe b _ x a=>by subst e;simpa only[az] using a
 .exact c h λe b _ x a=>by subst e;simpa only[az] using a
 .split at h
  next zs o=>obtain⟨q,n⟩:=jR o;subst q;exact c h λe b _ x a=>by simp only at n;subst n;subst e;simpa only[az] using a
  .cases h
 .split at h
  next zs o=>obtain⟨q,n⟩:=jR o;subst q;exact c h λe b _ x a=>by simp only at n;subst n;subst e;exact a.1
  .cases h
 .exact c h λe b _ x a=>by subst e;subst a;exact⟨aA,.inl ⟨⟨_,rfl⟩,rfl⟩⟩
 .split at h
  next zs o=>obtain⟨q,n⟩:=jR o;subst q;exact c h λe b _ x a=>by simp only at n;subst n;subst e;simpa only[az] using a
  .cases h
 .exact g h λb x a=>by simpa only[az] using a
 .split at h
  next d=>have d:=bG d;subst d;obtain⟨j,k,l,rfl⟩:=yD h;refine⟨k,l,λ_ b m x a=>?_⟩;simp only[az] at a ⊢;rw[tP (m _ _ j)];exact a
  .cases h
 .obtain⟨j,k,l,rfl⟩:=yD h;refine⟨k,l,λ_ b m x a=>?_⟩;exact .inl ⟨CA (m _ _ j),_,a⟩
 .split at h
  next d=>have d:=bG d;subst d;obtain⟨j,k,l,rfl⟩:=yD h;refine⟨k,l,λ_ b m x a=>?_⟩;simp only[az] at a ⊢;rw[tP (m _ _ j)];exact a
  .cases h
 .split at h
  next d r=>have d:=bG d;have r:=bG r;subst d r;obtain⟨j,k,l,rfl⟩:=yD h;refine⟨k,l,λo b m x a=>?_⟩;have hi:=o.1;subst hi;simp only[az] at a ⊢;rw[tP (m _ _ j)];exact a
  .cases h
 .split at h
  next d=>have d:=bG d;subst d;obtain⟨j,k,l,rfl⟩:=yD h;refine⟨k,l,λ_ b m x a=>?_⟩;simp only[az] at a ⊢;rw[tP (m _ _ j)];exact a
  .cases h
 .obtain⟨j,k,l,rfl⟩:=yD h;refine⟨k,l,λ_ b m x a=>?_⟩;simp only[az] at a ⊢;rw[tP (m _ _ j)];exact a
 .exact g h λb x a=>by simpa only[az] using a
 .split at h
  next d=>have d:=bG d;subst d;exact g h λb x a=>by simp only[az,aR] at a ⊢;exact a
  .cases h
 .exact c h λe b _ x a=>by subst e;simpa only[az] using a
 .cases h
theorem CF:∀{vs d:List SV}{R a:Rn}{ps:List Prop},zd vs d R=some (a,ps) →
  fx R a/\(iI R->iI a)/\(bV ps→∀ b,fx a b→∀ xs,aR A env w d xs->aR A (iK b env) w vs xs)
 | [],[],R,a,ps,h=>by
  cases h;exact⟨fx.refl,id,λ_ b _ xs c=>by simpa only[aR] using c⟩
 | v::vs,u::d,R,a,ps,h=>by
  simp only[zd] at h;split at h
  .rename_i R1 p h1;split at h
   next R2 q h2=>cases h;obtain⟨a1,a2,a3⟩:=KS h1;obtain⟨e,b2,b3⟩:=CF h2;refine⟨a1.trans e,λh=>b2 (a2 h),λhc b f xs c=>?_⟩;obtain⟨c1,c2⟩:=pO.1 hc;obtain⟨x,r,rfl,c,hr⟩:=c;exact⟨x,r,rfl,a3 c1 b (e.trans f) x c,b3 c2 b f r hr⟩
   .cases h
  .cases h
theorem as6{v u:SV}{R a:Rn}{ps:List Prop}(h:Ka v u R=some (a,ps)) :
  fx R a/\(iI R->iI a)/\(bV ps→∀ b,fx a b→∀ x,az A env w u x->az A (iK b env) w v x):=by
 unfold Ka at h
 split at h
 .obtain⟨c,d,a3⟩:=CF (A:=A) (env:=env) (w:=w) h;refine⟨c,d,λhc b hf x e=>?_⟩;simp only[az] at e ⊢;grind
 .split at h
  next f=>have f:=bG f;obtain⟨c,d,a3⟩:=CF (A:=A) (env:=env) (w:=w) h;refine⟨c,d,λhc b hf x e=>?_⟩;simp only[az] at e ⊢;grind
  .cases h
 .exact KS h
theorem Xu{b b0:kZ}{R g:Rn}{ps:List Prop}(h:Gx b b0 R=some (g,ps)) :
  fx R g/\(iI R->iI g)/\b.mut=b0.mut/\(bV ps→∀ d,fx g d→∀ k len,j9 A env w k len b0->j9 A (iK d env) w k len b) ∧
   (bV ps→∀ E t,b0 = .row E t []∨b0 = .frz E t []→∃ E t,b = .row E t []∨b = .frz E t []):=by
 unfold Gx at h
 split at h
 .split at h
  next a=>have a:=bG a;subst a;obtain⟨a1,a2,a3⟩:=CF h;refine⟨a1,a2,rfl,λc d i k len ⟨vs,e,hd⟩=>⟨vs,e,a3 c d i _ hd⟩,λ_ E t j=>?_⟩;simp_all
  .cases h
 .split at h
  next zs a c=>have a:=bG a;subst a;obtain⟨l,m⟩:=jR c;subst l;subst m;obtain⟨rfl,f⟩:=DH h;refine⟨fx.refl,id,rfl,λc d i k len a=>by rw[← f c];exact a,λc E t j=>?_⟩;simp_all
  .cases h
 .split at h
  next zs a c=>have a:=bG a;subst a;obtain⟨l,m⟩:=jR c;subst l;subst m;obtain⟨rfl,f⟩:=DH h;refine⟨fx.refl,id,rfl,λc d i k len a=>by rw[← f c];exact a,λc E t j=>?_⟩;simp_all
  .cases h
 .split at h
  next h1 h2=>cases mo h1;cases mo h2;obtain⟨rfl,f⟩:=DH h;refine⟨fx.refl,id,rfl,λc d i k len a=>by rw[← f c];exact a,λc E t j=>?_⟩;simp_all
  .cases h
 .cases h
end
def AE(R:Rn)(k:Rn->Prop):Prop:=match R with
 | []=>k []
 | (n,x)::r=>AE r λr=>match x with
  | none=>k ((n,none)::r)
  | some m=>k ((n,some m)::r)
theorem Fa:∀(R:Rn)(k:Rn->Prop),AE R k=k R
 | [],k=>rfl
 | (n,none)::r,k=>by simp only[AE,Fa r]
 | (n,some m)::r,k=>by simp only[AE,Fa r]
def CR:List SV->List SV->Rn->(Rn->Prop)->Prop
 | [],[],R,k=>k R
 | v::vs,u::us,R,k=>match Ka v u R with
  | some (R',ps)=>AE R' λR'=>qo ps (CR vs us R' k)
  | none=>False
 | _,_,_,_=>False
def DF(H:List (Nat×Nm))(c m:Nat)(b:kZ)(R:Rn)(k:Rn->Prop):Prop:=match eI H m with
 | .live b0=>match Gx b b0 R with
  | some (R',ps)=>AE R' λR'=>qo ps (k R')
  | none=>False
 | _=>False
def ya(H:List (Nat×Nm)):List (Nat×Nm)->Rn->(Rn->Prop)->Prop
 | [],R,k=>k R
 | (c,b)::r,R,k=>match b with
  | .live b=>match bf R c with
   | some (some m)=>DF H c m b R λR'=>ya H r R' k
   | some none=>match b with
    | .row _ _ xs=>xs=[]/\ya H r R k
    | _=>False
   | none=>match DA c (some c) R with
    | some R1=>DF H c c b R1 λR'=>ya H r R' k
    | none=>False
  | _=>False
def Bv(n:Nat):List (Nat×Nm)->Bool
 | []=>false
 | (m,_)::r=>Nat.beq n m||Bv n r
def Dc(Hh:List (Nat×Nm)):Rn->Bool
 | []=>true
 | (c,_)::r=>Bv c Hh&&Dc Hh r
def FM(R:Rn):List (Nat×Nm)->Bool
 | []=>true
 | (n,_)::r=>(Nat.blt n PN||Nat.ble QN n||(match bf R n with|some (some m)=>Nat.beq m n|_=>false))&&FM R r
def enter(S T:St):Prop:=CR T.sl S.sl [] λR=>ya S.H T.H R λR=>match Dc T.H R,FM R S.H with
 | true,true=>True
 | _,_=>False
theorem Sg{n:Nat}:∀{H:List (Nat×Nm)},Bv n H=true↔n∈H.map (·.1)
 | []=>by simp[Bv]
 | (m,b)::r=>by
  simp only[Bv,pb,fF,dL,Sg];constructor
  .rintro (h|h)
   .exact .inl (bG h)
   .exact .inr h
  .rintro (h|h)
   .left;rw[h];exact sS _
   .exact .inr h
theorem OJ{Hh:List (Nat×Nm)}:∀{R:Rn},Dc Hh R=true→∀ c,bf R c≠none->c∈Hh.map (·.1)
 | [],_,c,h=>by simp[bf] at h
 | (n,x)::r,h,c,hc=>by
  simp only[Dc,dK] at h;rw[qf] at hc;split at hc
  next e=>rw[e];exact Sg.1 h.1
  .exact OJ h.2 c hc
theorem Qa{R:Rn}:∀{H:List (Nat×Nm)},FM R H=true→∀ n,PN<=n->n<QN->n∈H.map (·.1)->bf R n=some (some n)
 | [],_,n,_,_,h=>by simp at h
 | (m,b)::r,h,n,hn,hn',hm=>by
  simp only[FM,dK,pb] at h;rcases dL.1 hm with e|hm
  .have e:n=m:=e;subst e;rcases h.1 with (h1|h1)|h1
   .have:=lG h1;have hn:PN<=n:=hn;omega
   .have:=lG h1;have hn:n<QN:=hn';omega
   .split at h1
    next k hk=>rw[hk,bG h1]
    .cases h1
  .exact Qa h.2 n hn hn' hm
theorem G2{H:List (Nat×Nm)}{n:Nat}:eI H n = .un∨(n,eI H n)∈H:=by
 induction H with
 | nil=>exact .inl rfl
 | cons p r ih =>
  obtain⟨m,b⟩:=p;unfold eI;split
  next hb=>rw[bG hb];exact .inr (fW ..)
  .rcases ih with h|h
   .exact .inl h
   .exact .inr (fL _ h)
theorem Q9{H:List (Nat×Nm)}{n:Nat}(h:n ∉ H.map (·.1)):eI H n = .un:=by
 rcases G2 (H:=H) (n:=n) with h1|h1
 .exact h1
 .exact absurd (sk (f:=(·.1)) h1) h
structure s9 (A:Nat->Prop) (env:aZ) (w:World) (A':Nat->Prop) (env':aZ) (w':World):Prop where
 imm:∀ b,A b->A' b
 envp:∀ n,PN<=n->n<QN->env n ≠ .un->env' n=env n
 keep:∀ b o,A b->w'.cell? ⟨b,o,none⟩=w.cell? ⟨b,o,none⟩
 shape:∀ b s,w.shape? b=some s->w'.shape? b=some s
theorem dB.ext0{A:Nat->Prop}{env:aZ}{w:World}{A':Nat->Prop}{env':aZ}{w':World}(x:dB A env w A' env' w'):s9 A env w A' env' w':=by
 refine⟨x.imm,λn _ _ hn=>?_,x.keep,x.shape⟩
 cases h:env n with
 | un=>exact absurd h hn
 | nil=>exact x.envn n h
 | blk b l=>exact x.envb n b l h
theorem s9.trans{A A' A'':Nat->Prop}{env env' env'':aZ}{w w' w'':World}(h:s9 A env w A' env' w')(k:s9 A' env' w' A'' env'' w''):s9 A env w A'' env'' w'' :=
 ⟨λb hb=>k.imm b (h.imm b hb),λn hn hn' e=>(k.envp n hn hn' (by rw[h.envp n hn hn' e];exact e)).trans (h.envp n hn hn' e),
  λb o hb=>(k.keep b o (h.imm b hb)).trans (h.keep b o hb),λb s e=>k.shape b s (h.shape b s e)⟩
section
variable {w0:World} {N0:f5} {A:Nat->Prop} {env:aZ} {w:World} {a:Act}
theorem RE:∀{vs us:List SV}{R:Rn}{k:Rn->Prop},CR vs us R k →
  ∃ R',k R'∧vs.length=us.length/\fx R R'∧(iI R->iI R')∧∀ Rf,fx R' Rf→∀ i x,az A env w (dV us i) x->az A (iK Rf env) w (dV vs i) x
 | [],[],R,k,h=>⟨R,h,rfl,fx.refl,id,λRf _ i x _=>by simp[dV,nK,az]⟩
 | v::vs,u::us,R,k,h=>by
  simp only[CR] at h;split at h
  .rename_i R1 ps h1;rw[Fa] at h;obtain⟨hc,h2⟩:=wM.1 h;obtain⟨a1,a2,a3⟩:=as6 (A:=A) (env:=env) (w:=w) h1;obtain⟨R2,b1,b2,b3,b4,b5⟩:=RE h2;refine⟨R2,b1,by simp[b2],a1.trans b3,λh=>b4 (a2 h),λRf hf i x hx=>?_⟩;cases i with
   | zero=>exact a3 hc Rf (b3.trans hf) x hx
   | succ i=>exact b5 Rf hf i x hx
  .exact h.elim
 | [],_::_,_,_,h=>h.elim
 | _::_,[],_,_,h=>h.elim
def wJ(A:Nat->Prop)(env:aZ)(w:World)(H:List (Nat×Nm))(R:Rn)(c:Nat)(x:Nm):Prop :=
 ∃ b,x = .live b/\((∃ m b0,bf R c=some (some m)/\eI H m = .live b0/\b.mut=b0.mut/\(∀ Rf,fx R Rf→∀ k len,j9 A env w k len b0->j9 A (iK Rf env) w k len b) ∧
   (∀ E t,b0 = .row E t []∨b0 = .frz E t []→∃ E t,b = .row E t []∨b = .frz E t [])) ∨
  (bf R c=some none∧∃ E t,b = .row E t []))
theorem wJ.mono{H:List (Nat×Nm)}{R R':Rn}{c:Nat}{x:Nm}(h:wJ A env w H R c x)(le:fx R R'):wJ A env w H R' c x:=by
 obtain⟨b,e,⟨m,b0,h1,h2,h3,h4,h5⟩|⟨h1,h2⟩⟩:=h
 .exact⟨b,e,.inl ⟨m,b0,le _ _ h1,h2,h3,λRf hf=>h4 Rf (le.trans hf),h5⟩⟩
 .exact⟨b,e,.inr ⟨le _ _ h1,h2⟩⟩
theorem Mg{H:List (Nat×Nm)}{c m:Nat}{b:kZ}{R:Rn}{k:Rn->Prop}(hl:bf R c=some (some m))(h:DF H c m b R k) :
  ∃ R',k R'∧fx R R'∧(iI R->iI R')/\wJ A env w H R' c (.live b):=by
 unfold DF at h
 split at h
 next b0 h0=>
  split at h
  next R' ps h1=>rw[Fa] at h;obtain⟨hc,h2⟩:=wM.1 h;obtain⟨a1,a2,a3,a4,a5⟩:=Xu (A:=A) (env:=env) (w:=w) h1;exact⟨R',h2,a1,a2,b,rfl,.inl ⟨m,b0,a1 _ _ hl,h0,a3,a4 hc,a5 hc⟩⟩
  .exact h.elim
 .exact h.elim
theorem NG{H:List (Nat×Nm)}:∀{Hh:List (Nat×Nm)}{R:Rn}{k:Rn->Prop},ya H Hh R k →
  ∃ R',k R'∧fx R R'∧(iI R->iI R')∧∀ c x,(c,x)∈Hh->wJ A env w H R' c x
 | [],R,k,h=>⟨R,h,fx.refl,id,λc x hx=>by simp at hx⟩
 | (c,b)::r,R,k,h=>by
  simp only[ya] at h;split at h
  .rename_i b;have fin:∀{R1 R2:Rn},fx R R1->(iI R->iI R1)->fx R1 R2->(iI R1->iI R2)->wJ A env w H R2 c (.live b)->ya H r R2 k →
     ∃ R',k R'∧fx R R'∧(iI R->iI R')∧∀ c' x,(c',x)∈(c,Nm.live b)::r->wJ A env w H R' c' x:=by
    intro R1 R2 l1 i1 l2 i2 ok hr;obtain⟨R3,c1,c2,c3,c4⟩:=NG hr;refine⟨R3,c1,(l1.trans l2).trans c2,λh=>c3 (i2 (i1 h)),λc' x hx=>?_⟩;rcases dL.1 hx with e|hx
    .cases e;exact ok.mono c2
    .exact c4 c' x hx
   split at h
   next m hl=>obtain⟨R2,b1,b2,b3,b4⟩:=Mg (A:=A) (env:=env) (w:=w) hl h;exact fin fx.refl id b2 b3 b4 b1
   .rename_i hl;split at h
    next E t xs=>obtain⟨rfl,h⟩:=h;exact fin fx.refl id fx.refl id ⟨_,rfl,.inr ⟨hl,E,t,rfl⟩⟩ h
    .exact h.elim
   .split at h
    next R1 h1=>obtain⟨a1,a2,a3⟩:=Px h1;obtain⟨R2,b1,b2,b3,b4⟩:=Mg (A:=A) (env:=env) (w:=w) a1 h;exact fin a2 a3 b2 b3 b4 b1
    .exact h.elim
  .exact h.elim
theorem JD{S T:St}(h:enter S T)(t:ij w0 N0 A env S.fs a w):∃ env',ij w0 N0 A env' T.fs a w/\s9 A env w A env' w:=by
 unfold enter at h
 obtain⟨R1,h1,hlen,l1,i1,d1⟩:=RE (A:=A) (env:=env) (w:=w) h
 obtain⟨R,h2,l2,i2,ok⟩:=NG (A:=A) (env:=env) (w:=w) h1
 have hinj:iI R:=i2 (i1 (λc c' m hc=>by simp[bf] at hc))
 split at h2
 next hcov hpar=>
  have m:=t.m;have hdom:∀ n,n ∉ T.H.map (·.1)->bf R n=none:=λn hn=>by
   cases hl:bf R n with
   | none=>rfl
   | some y=>exact absurd (OJ hcov n (by rw[hl];simp)) hn
  have live:∀ n b,T.fs.h n = .live b->wJ A env w S.H R n (.live b):=λn b hb=>by
   rcases G2 (H:=T.H) (n:=n) with h|h
   .simp only[St.fs] at hb;rw[h] at hb;cases hb
   .simp only[St.fs] at hb;rw[hb] at h;exact ok n _ h
  have hmut:∀ n b k l,T.fs.h n = .live b->b.mut=true->iK R env n = .blk k l→∃ m b0,bf R n=some (some m)/\eI S.H m = .live b0/\b0.mut=true/\env m = .blk k l:=by
   intro n b k l hb hm he;obtain⟨b',e,⟨m',b0,e1,e2,e3,_⟩|⟨e1,_⟩⟩:=live n b hb
   .cases e;unfold iK at he;rw[e1] at he;exact⟨m',b0,e1,e2,by rw[← e3];exact hm,he⟩
   .unfold iK at he;rw[e1] at he;cases he
  refine⟨iK R env,⟨⟨m.os,m.tape,m.output,m.size,m.fr,m.Alt,?_,?_,?_,m.fresh,m.gl⟩,by rw[show T.fs.sl.length=S.fs.sl.length from hlen];exact t.len,λi=>d1 R l2 i _ (t.f i),t.dfr⟩,⟨λ_ h=>h,?_,λ_ _ _=>rfl,λ_ _ h=>h⟩⟩
  .intro n;cases hn:T.fs.h n with
   | dead=>trivial
   | un =>
    show iK R env n = .un;have:n ∉ T.H.map (·.1):=λhmem=>by
     rcases G2 (H:=T.H) (n:=n) with h|h
     .obtain⟨⟨n',x⟩,hx,rfl⟩:=List.mem_map.1 hmem;have:∀(H:List (Nat×Nm)),(∀ c x,(c,x)∈H→∃ b,x = .live b)→∀ n,n∈H.map (·.1)→∃ b,eI H n = .live b:=by
       intro H
       induction H with
       | nil=>intro _ n hn;simp at hn
       | cons p H ih =>
        obtain⟨q,y⟩:=p;intro hall n hn;simp only[eI];split
        .exact hall q y (fW ..)
        .rename_i hne;refine ih (λc x hx=>hall c x (fL _ hx)) n ?_;rcases dL.1 hn with e|hn
         .simp only at e;subst e;rw[sS] at hne;cases hne
         .exact hn
      obtain⟨b,hb⟩:=this T.H (λc x hx=>let ⟨b,e,_⟩:=ok c x hx;⟨b,e⟩) n' hmem;simp only[St.fs] at hn;rw[hb] at hn;cases hn
     .simp only[St.fs] at hn;rw[hn] at h;obtain⟨b,e,_⟩:=ok n _ h;cases e
    unfold iK;rw[hdom n this]
   | live b =>
    obtain⟨b',e,⟨m',b0,e1,e2,e3,e4,e5⟩|⟨e1,E,tt,e2⟩⟩:=live n b hn
    .cases e;have he:iK R env n=env m':=by unfold iK;rw[e1]
     have hm:=m.nm m';simp only[St.fs,e2] at hm;rcases hm with⟨k,len,he',hb,hA⟩|⟨he',E,tt,hb⟩
     .exact .inl ⟨k,len,he.trans he',e4 R fx.refl k len hb,λhmm=>hA (by rw[← e3];exact hmm)⟩
     .exact .inr ⟨he.trans he',e5 E tt hb⟩
    .cases e;exact .inr ⟨by unfold iK;rw[e1],E,tt,.inl e2⟩
  .intro n b k l hb hm he;obtain⟨m',b0,e1,e2,e3,e4⟩   := hmut n b k l hb hm he;exact m.own m' b0 k l e2 e3 e4
  .intro n n' b c k l l' hb hc hbm hcm he he';obtain⟨m1,b1,e1,e2,e3,e4⟩   := hmut n b k l hb hbm he;obtain⟨m2,b2,f1,f2,f3,f4⟩:=hmut n' c k l' hc hcm he';have:=m.inj m1 m2 b1 b2 k l l' e2 f2 e3 f3 e4 f4;subst this;exact hinj n n' m1 e1 f1
  .intro n hn hn' hne;have:n∈S.H.map (·.1):=by
    refine fq λhno=>hne ?_;have:=m.nm n;simp only[St.fs,Q9 hno] at this;exact this
   have:=Qa hpar n hn hn' this;unfold iK;rw[this]
 .exact h2.elim
end
end Go.SX
namespace Go.SX
inductive Ex where
 | normal
 | exit (id:Nat)
 | ret
def Ex.to:Ex->Exit
 | .normal => .normal
 | .exit id => .exit id
 | .ret => .ret
structure GQ:Type 1 where
 ι:Type
 μ:ι->Nat:=λ_=>0
 inv:ι->Prop
 qn:Qn ι := .plain ι
 keep:List Nat:=[]
 slots:ι->List (Nat×SV):=λ_=>[]
 keepN:List Nat:=[]
 names:ι->List (Nat×Nm):=λ_=>[]
def Qi(n:Nat):List (Nat×SV)->SV
 | [] => .junk
 | (m,v)::r=>match Nat.beq n m with
  | true=>v
  | false=>Qi n r
def Nr(keep:List Nat)(l:List (Nat×SV)):Nat->List SV->List SV
 | _,[]=>[]
 | n,v::r=>(match oG n keep with|true=>v|false=>Qi n l)::Nr keep l (n+1) r
def KV(H:List (Nat×Nm))(r:List (Nat×Nm)):List Nat->List (Nat×Nm)
 | []=>r
 | n::l=>(n,eI H n)::KV H r l
def y9(S:St)(an:GQ)(i:an.ι):St:=⟨Nr an.keep (an.slots i) 0 S.sl,KV S.H (an.names i) an.keepN⟩
def CU:List SV->(List SV->Prop)->Prop
 | [],k=>k []
 | x::xs,k=>Dt x λy=>CU xs λys=>k (y::ys)
theorem O6:∀(l:List SV)(k:List SV->Prop),CU l k=k l
 | [],k=>rfl
 | x::xs,k=>by simp only[CU,Lq,O6 xs]
def DP:List (Nat×Nm)->(List (Nat×Nm)->Prop)->Prop
 | [],k=>k []
 | (n,b)::r,k=>D5 b λb=>DP r λr=>k ((n,b)::r)
theorem Q4:∀(l:List (Nat×Nm))(k:List (Nat×Nm)->Prop),DP l k=k l
 | [],k=>rfl
 | (n,b)::r,k=>by simp only[DP,Ph,Q4 r]
def ux(S:St)(k:St->Prop):Prop:=match S with
 | ⟨sl,H⟩=>CU sl λsl=>DP H λH=>k ⟨sl,H⟩
theorem Ji(S:St)(k:St->Prop):ux S k=k S:=by cases S;simp only[ux,O6,Q4]
def vq:Code->Nat
 | .region id _ _=>id
 | .seq a _=>vq a
 | .block _ a=>vq a
 | .loop a=>vq a
 | .scope a=>vq a
 | .cond _ a _=>vq a
 | _=>0
structure ce:Type 1 where
 loops:Nat->Option (St->GQ):=λ_=>none
 cuts:Nat->Option (St->GQ):=λ_=>none
 nms:List Nat:=[]
 unr:Nat->Nat:=λ_=>0
def WM:SV->Int
 | .int _ n=>n
 | _=>0
def svB:SV->Bool
 | .bool b=>b
 | _=>false
def svL(t:CT):SV->List t.D
 | .dsl t' xs=>match gX t' t xs with
  | some ys=>ys
  | none=>[]
 | .dsx t' xs=>match gX t' t xs with
  | some ys=>ys
  | none=>[]
 | _=>[]
def PY(t:CT)(cs:List SV):t.D:=match (jH t cs).run (λ_=>.un) with
 | some ((d,_,_),_)=>d
 | none=>t.dflt
def St.i(S:St)(n:Nat):Int:=WM (dV S.sl n)
def St.b(S:St)(n:Nat):Bool:=svB (dV S.sl n)
def St.l(S:St)(t:CT)(n:Nat):List t.D:=svL t (dV S.sl n)
def St.a(S:St)(t:CT)(n:Nat):t.D:=match dV S.sl n with
 | .agg cs=>PY t cs
 | _=>t.dflt
def St.r(S:St)(t:CT)(n:Nat):List t.D:=match eI S.H n with
 | .live (.row _ t' xs)=>match gX t' t xs with
  | some ys=>ys
  | none=>[]
 | .live (.frz _ t' xs)=>match gX t' t xs with
  | some ys=>ys
  | none=>[]
 | _=>[]
def St.c(S:St)(t:CT)(n:Nat):t.D:=match eI S.H n with
 | .live (.cells _ cs)=>PY t cs
 | _=>t.dflt
def St.o(S:St)(t:CT)(n:Nat):List t.D:=match dV S.sl n with
 | .own m _=>S.r t m
 | _=>[]
def St.p(S:St)(t:CT)(n:Nat):t.D:=match dV S.sl n with
 | .ptr m _=>S.c t m
 | _=>t.dflt
def Na:SV->Option Bool
 | .bool b=>some b
 | _=>none
def Hl(id:Nat)(K:Ex->St->Prop):Ex->St->Prop:=λe S=>match e with
 | .exit i=>match Nat.beq i id with
  | true=>K .normal S
  | false=>K (.exit i) S
 | .normal=>K .normal S
 | .ret=>K .ret S
def Fe(k:St->Prop)(K:Ex->St->Prop):Ex->St->Prop:=λe S=>match e with
 | .normal=>k S
 | .exit i=>K (.exit i) S
 | .ret=>K .ret S
def JO(body:(Ex->St->Prop)->St->Prop):Nat->(Ex->St->Prop)->St->Prop
 | 0,_,_=>False
 | n+1,K,S=>body (Fe (JO body n K) K) S
def sx(P:Program)(sp:fh)(an:ce):Code->(Ex->St->Prop)->St->Prop
 | .skip,K,S=>K .normal S
 | .region _ ops draw,K,S=>JW P sp an.nms ops draw (K .normal) S
 | .seq a b,K,S=>match an.cuts (vq b) with
  | none=>sx P sp an a (Fe (sx P sp an b K) K) S
  | some c=>sx P sp an a (Fe (λS'=>(c S).qn.ex λi=>(c S).inv i/\enter S' (y9 S (c S) i)) K) S/\(c S).qn.all λi=>(c S).inv i->ux (y9 S (c S) i) (sx P sp an b K)
 | .cond c a b,K,S=>match Na (aW (dV S.sl) c) with
  | some t=>ao t (sx P sp an a K S) (sx P sp an b K S)
  | none=>False
 | .block id a,K,S=>sx P sp an a (Hl id K) S
 | .loop a,K,S=>match an.unr (vq a) with
  | n+1=>JO (sx P sp an a) (n+1) K S
  | 0=>match an.loops (vq a) with
   | none=>False
   | some c=>((c S).qn.ex λi=>(c S).inv i/\enter S (y9 S (c S) i))/\(c S).qn.all λi=>(c S).inv i->ux (y9 S (c S) i) (sx P sp an a (Fe (λS'=>(c S).qn.ex λj=>(c S).inv j/\(c S).μ j<(c S).μ i/\enter S' (y9 S (c S) j)) K))
 | .exit id,K,S=>K (.exit id) S
 | .scope a,K,S=>sx P sp an a K S
 | .ret,K,S=>K .ret S
 | _,_,_=>False
section
variable {P:Program} {sp:fh} {an:ce} {w0:World} {N0:f5}
theorem aw3(hs:jo P sp/\N0.g=sp.gl)(rG:P.follows .mixedOrders=true):∀(c:Code)(K:Ex->St->Prop)(S:St)(Q:Exit->Act->World->Prop)(A:Nat->Prop)(env:aZ)(a:Act)(w:World),
  sx P sp an c K S->ij w0 N0 A env S.fs a w →
  (∀ e S' A' env' a' w',K e S'→ij w0 N0 A' env' (St.fs S') a' w'→s9 A env w A' env' w'→Q e.to a' w')->c.wp P Q a w:=by
 have refl0:∀{A:Nat->Prop}{env:aZ}{w:World},s9 A env w A env w:=dB.refl.ext0
 intro c
 induction c with
 | skip=>intro K S Q A env a w h t hQ;exact wp_skip (hQ .normal S A env a w h t refl0)
 | region id ops draw =>
  intro K S Q A env a w h t hQ;exact aa3 hs rG t h λS' A' env' a' w' hk t' x=>hQ .normal S' A' env' a' w' hk t' x.ext0
 | seq x y ihx ihy =>
  intro K S Q A env a w h t hQ;simp only[sx] at h;split at h
  .refine wp_seq (ihx _ S _ A env a w h t ?_);intro e S' A' env' a' w' hk t' x';cases e with
   | normal=>exact ihy K S' Q A' env' a' w' hk t' λe S2 A2 env2 a2 w2 hk2 t2 x2=>hQ e S2 A2 env2 a2 w2 hk2 t2 (x'.trans x2)
   | exit i=>exact hQ (.exit i) S' A' env' a' w' hk t' x'
   | ret=>exact hQ .ret S' A' env' a' w' hk t' x'
  .rename_i c hc;refine wp_seq (ihx _ S _ A env a w h.1 t ?_);intro e S' A' env' a' w' hk t' x';cases e with
   | normal =>
    obtain⟨i,hi,he⟩:=(c S).qn.hex _ hk;obtain⟨env2,t2,x2⟩:=JD he t';have h2:=(c S).qn.hall _ h.2 i hi;rw[Ji] at h2;exact ihy K _ Q A' env2 a' w' h2 t2 λe S3 A3 env3 a3 w3 hk3 t3 x3=>hQ e S3 A3 env3 a3 w3 hk3 t3 ((x'.trans x2).trans x3)
   | exit i=>exact hQ (.exit i) S' A' env' a' w' hk t' x'
   | ret=>exact hQ .ret S' A' env' a' w' hk t' x'
 | cond c x y ihx ihy =>
  intro K S Q A env a w h t hQ;simp only[sx] at h;split at h
  .rename_i b hb;have hd:=de t.f c;have hv:aW (dV S.sl) c = .bool b:=by
    unfold Na at hb;split at hb
    next b' he=>cases hb;exact he
    .cases hb
   simp only[St.fs] at hd;rw[hv] at hd;simp only[az] at hd;cases b with
   | true=>exact wp_cond_true hd (ihx K S Q A env a w h t hQ)
   | false=>exact wp_cond_false hd (ihy K S Q A env a w h t hQ)
  .exact h.elim
 | block id x ih =>
  intro K S Q A env a w h t hQ;refine wp_block (ih _ S _ A env a w h t ?_);intro e S' A' env' a' w' hk t' x';cases e with
  | normal=>exact hQ .normal S' A' env' a' w' hk t' x'
  | exit i =>
   simp only[Ex.to,Exit.inBlock];by_cases hi:i=id
   .subst hi;simp only[Hl,sS] at hk;rw[am rfl];exact hQ .normal S' A' env' a' w' hk t' x'
   .have hb:Nat.beq i id=false:=by
     cases hb:Nat.beq i id with
     | false=>rfl
     | true=>exact absurd (bG hb) hi
    simp only[Hl,hb] at hk;rw[af hi];exact hQ (.exit i) S' A' env' a' w' hk t' x'
  | ret=>exact hQ .ret S' A' env' a' w' hk t' x'
 | loop x ih =>
  intro K S Q A env a w h t hQ;simp only[sx] at h;split at h
  .rename_i n0 _;refine wp_loop_ghost (λn a' w'=>∃ S' A' env',JO (sx P sp an x) n K S'∧ij w0 N0 A' env' S'.fs a' w'∧s9 A env w A' env' w') (n0+1) ⟨S,A,env,h,t,refl0⟩ ?_;rintro n a1 w1 ⟨S1,A1,env1,h1,t1,x1⟩;cases n with
   | zero=>exact h1.elim
   | succ n =>
    refine ih _ _ _ A1 env1 a1 w1 h1 t1 ?_;intro e S' A' env' a' w' hk t' x';cases e with
    | normal=>exact⟨n,Nat.lt_succ_self n,S',A',env',hk,t',x1.trans x'⟩
    | exit i=>exact hQ (.exit i) S' A' env' a' w' hk t' (x1.trans x')
    | ret=>exact hQ .ret S' A' env' a' w' hk t' (x1.trans x')
  split at h
  .exact h.elim
  .rename_i c hc;obtain⟨hex,hr⟩:=h;obtain⟨i0,hi0,he0⟩:=(c S).qn.hex _ hex;obtain⟨env0,t0,x0⟩:=JD he0 t;refine wp_loop_ghost (λn a' w'=>∃ i A' env',(c S).inv i/\n=(c S).μ i/\ij w0 N0 A' env' (y9 S (c S) i).fs a' w'∧s9 A env w A' env' w') ((c S).μ i0) ⟨i0,A,env0,hi0,rfl,t0,x0⟩ ?_;rintro n a1 w1 ⟨i,A1,env1,hi,rfl,t1,x1⟩;have h1:=(c S).qn.hall _ hr i hi;rw[Ji] at h1;refine ih _ _ _ A1 env1 a1 w1 h1 t1 ?_;intro e S' A' env' a' w' hk t' x';cases e with
   | normal =>
    obtain⟨j,hj,hμ,he⟩:=(c S).qn.hex _ hk;obtain⟨env2,t2,x2⟩:=JD he t';exact⟨(c S).μ j,hμ,j,A',env2,hj,rfl,t2,(x1.trans x').trans x2⟩
   | exit i=>exact hQ (.exit i) S' A' env' a' w' hk t' (x1.trans x')
   | ret=>exact hQ .ret S' A' env' a' w' hk t' (x1.trans x')
 | exit id=>intro K S Q A env a w h t hQ;exact wp_exit (hQ (.exit id) S A env a w h t refl0)
 | scope x ih =>
  intro K S Q A env a w h t hQ;refine wp_scope_straight (ih K S _ A env a w h t ?_);intro e S' A' env' a' w' hk t' x';cases e with
  | normal=>exact hQ .normal S' A' env' a' w' hk t' x'
  | exit i=>exact hQ (.exit i) S' A' env' a' w' hk t' x'
  | ret=>exact hQ .ret S' A' env' a' w' hk t' x'
 | ret=>intro K S Q A env a w h t hQ;exact wp_ret (hQ .ret S A env a w h t refl0)
 | rangeFunc f ps as b _ _=>intro K S Q A env a w h t hQ;exact h.elim
 | label l=>intro K S Q A env a w h t hQ;exact h.elim
 | goto l=>intro K S Q A env a w h t hQ;exact h.elim
 | refuse s=>intro K S Q A env a w h t hQ;exact h.elim
end
end Go.SX
namespace Go.SX
inductive OT where
 | dat (t:CT)
 | row (E:TypeId) (t:CT)
 | rowg (E:TypeId) (t:CT)
 | fnc (f:FuncId)
 | ali
 | ref (E:TypeId) (o:OT)
 | pair (a b:OT)
@[reducible] def OT.D:OT->Type
 | .dat t=>t.D
 | .row _ t=>List t.D
 | .rowg _ t=>List t.D
 | .fnc _=>Unit
 | .ali=>Unit
 | .ref _ o=>o.D
 | .pair a b=>a.D×b.D
@[reducible] def OT.X:OT->Type
 | .dat t=>t.D
 | .row _ t=>List t.D
 | .rowg _ _=>Unit
 | .fnc _=>Unit
 | .ali=>Unit
 | .ref _ o=>o.X
 | .pair a b=>a.X×b.X
def OT.wf:(o:OT)->o.D->Prop
 | .dat t,d=>t.wf d
 | .row _ t,d=>d.length<=maxLen∧∀ x∈d,t.wf x
 | .rowg _ t,d=>d.length<=maxLen∧∀ x∈d,t.wf x
 | .fnc _,_=>True
 | .ali,_=>True
 | .ref _ o,d=>o.wf d
 | .pair a b,d=>a.wf d.1/\b.wf d.2
def OT.nb:OT->Nat
 | .ref _ o=>o.nb+1
 | .pair a b=>a.nb+b.nb
 | _=>0
def OT.nc:OT->Nat
 | .row _ _=>1
 | .rowg _ _=>1
 | .ref _ o=>o.nc
 | .pair a b=>a.nc+b.nc
 | _=>0
def OT.nr:OT->Nat
 | .row _ _=>1
 | .ref _ o=>o.nr
 | .pair a b=>a.nr+b.nr
 | _=>0
instance:Coe CT OT:=⟨OT.dat⟩
inductive PK where
 | val (t:CT)
 | agg (t:CT)
 | box (E:TypeId) (o:OT)
 | row (E:TypeId) (t:CT)
 | own (E:TypeId) (t:CT)
 | fn (f:FuncId) (k:Nat)
 | nils
 | ago (o:OT)
@[reducible] def PK.D:PK->Type
 | .val t=>t.D
 | .agg t=>t.D
 | .box _ o=>o.D
 | .row _ t=>List t.D
 | .own _ t=>List t.D
 | .fn _ _=>Unit
 | .nils=>Unit
 | .ago o=>o.D
@[reducible] def bw:List PK->Type
 | []=>Unit
 | p::r=>p.D×bw r
def PK.wf:(p:PK)->p.D->Prop
 | .val t,d=>t.wf d
 | .agg t,d=>t.wf d
 | .box _ o,d=>o.wf d
 | .row _ t,d=>d.length<=maxLen∧∀ x∈d,t.wf x
 | .own _ t,d=>d.length<=maxLen∧∀ x∈d,t.wf x
 | .fn _ _,_=>True
 | .nils,_=>True
 | .ago o,d=>o.wf d
def xV:(ps:List PK)->bw ps->Prop
 | [],_=>True
 | p::r,d=>p.wf d.1/\xV r d.2
def BF:(t:CT)->(t.D->Prop)->Prop
 | .pair a b,k=>BF a λx=>BF b λy=>k (x,y)
 | .int _,k=>∀ x:Int,k x
 | .bool,k=>∀ x:Bool,k x
 | .str,k=>∀ x:ByteArray,k x
 | .sl t,k=>∀ x:List t.D,k x
theorem Hy:∀{t:CT}{k:t.D->Prop},BF t k↔∀ d,k d
 | .pair a b,k=>by
  simp only[BF,Hy (t:=a),Hy];simp_all
 | .int _,k=>nh
 | .bool,k=>nh
 | .str,k=>nh
 | .sl t,k=>nh
def xH(t:CT)(k:t.D->Prop):Prop:=match Nat.ble t.size 6 with
 | true=>BF t k
 | false=>∀ d:t.D,k d
theorem Fr{t:CT}{k:t.D->Prop}:xH t k↔∀ d,k d:=by
 unfold xH
 split
 .exact Hy
 .exact nh
def yz:(o:OT)->(o.D->Prop)->Prop
 | .dat t,k=>xH t k
 | .row _ t,k=>∀ x:List t.D,k x
 | .rowg _ t,k=>∀ x:List t.D,k x
 | .fnc _,k=>k ()
 | .ali,k=>k ()
 | .ref _ o,k=>yz o k
 | .pair a b,k=>yz a λx=>yz b λy=>k (x,y)
theorem C4:∀{o:OT}{k:o.D->Prop},yz o k↔∀ d,k d
 | .dat t,k=>Fr
 | .row _ t,k=>nh
 | .rowg _ t,k=>nh
 | .fnc _,k=>⟨λh _=>h,λh=>h ()⟩
 | .ali,k=>⟨λh _=>h,λh=>h ()⟩
 | .ref _ o,k=>C4 (o:=o)
 | .pair a b,k=>by
  simp only[yz,C4,C4];simp_all
def PK.all:(p:PK)->(p.D->Prop)->Prop
 | .val t,k=>xH t k
 | .agg t,k=>xH t k
 | .box _ o,k=>yz o k
 | .row _ t,k=>∀ x:List t.D,k x
 | .own _ t,k=>∀ x:List t.D,k x
 | .fn _ _,k=>k ()
 | .nils,k=>k ()
 | .ago o,k=>yz o k
theorem PK.all_iff{p:PK}{k:p.D->Prop}:p.all k↔∀ d,k d:=by
 cases p <;> simp only[PK.all,Fr,C4] <;> exact⟨λh _=>h,λh=>h ()⟩
def yg:(ps:List PK)->(bw ps->Prop)->Prop
 | [],k=>k ()
 | p::r,k=>p.all λx=>yg r λy=>k (x,y)
theorem J1:∀{ps:List PK}{k:bw ps->Prop},yg ps k↔∀ d,k d
 | [],k=>⟨λh d=>h,λh=>h ()⟩
 | p::r,k=>by
  simp only[yg,PK.all_iff,J1 (ps:=r)];simp_all
def B2(E:TypeId)(t:CT):List SV->Q (List t.D×List SV×Option Nat)
 | .own n sz::r => .ask n fun
  | .live (.row E' t' xs)=>match Nat.beq E E',Nat.beq sz t.size,gX t' t xs with
   | true,true,some ys => .ret (ys,r,some n)
   | _,_,_ => .fail
  | _ => .fail
 | .nilsl::r => .ret ([],r,none)
 | _ => .fail
def rT(a0:Option Nat):(o:OT)->List SV->Q (o.D×List SV×List (Nat×Nm)×List Nat×List (Option Nat))
 | .dat t,cs=>(jH t cs).bind λp=>.ret (p.1,p.2.1,p.2.2,[],[])
 | .row E t,cs=>(B2 E t cs).bind λp=>.ret (p.1,p.2.1,[],[],[p.2.2])
 | .rowg E t,cs=>(B2 E t cs).bind λp=>.ret (p.1,p.2.1,[],[],[p.2.2])
 | .fnc f,.fn g []::r=>match Nat.beq f g with
  | true => .ret ((),r,[],[],[])
  | false => .fail
 | .fnc _,_ => .fail
 | .ali,.ptr n 0::r=>match a0 with
  | some m=>match Nat.beq n m with
   | true => .ret ((),r,[],[],[])
   | false => .fail
  | none => .fail
 | .ali,_ => .fail
 | .ref E o,.ptr n 0::r => .ask n fun
  | .live (.cells E' cs)=>match Nat.beq E E' with
   | true=>(rT a0 o cs).bind λp=>match p.2.1 with
    | [] => .ret (p.1,r,p.2.2.1,n::p.2.2.2.1,p.2.2.2.2)
    | _ => .fail
   | false => .fail
  | _ => .fail
 | .ref _ _,_ => .fail
 | .pair a b,cs=>(rT a0 a cs).bind λp=>(rT a0 b p.2.1).bind λq=>.ret ((p.1,q.1),q.2.1,p.2.2.1++q.2.2.1,p.2.2.2.1++q.2.2.2.1,p.2.2.2.2++q.2.2.2.2)
def vA:(o:OT)->o.D->Nat->Nat->List SV
 | .dat t,d,_,_=>dU t d
 | .row _ t,_,_,i=>[.own (QN+i) t.size]
 | .rowg _ t,_,_,i=>[.own (QN+i) t.size]
 | .fnc f,_,_,_=>[.fn f []]
 | .ali,_,_,_=>[.ptr PN 0]
 | .ref _ _,_,j,_=>[.ptr (PN+j) 0]
 | .pair a b,d,j,i=>vA a d.1 j i++vA b d.2 (j+a.nb) (i+a.nc)
def vF:(o:OT)->o.D->Nat->Nat->List (Nat×Nm)
 | .dat _,_,_,_=>[]
 | .row _ _,_,_,_=>[]
 | .rowg _ _,_,_,_=>[]
 | .fnc _,_,_,_=>[]
 | .ali,_,_,_=>[]
 | .ref E o,d,j,i=>(PN+j,.live (.cells E (vA o d (j+1) i)))::vF o d (j+1) i
 | .pair a b,d,j,i=>vF a d.1 j i++vF b d.2 (j+a.nb) (i+a.nc)
def Ak:(o:OT)->o.D->Nat->List (Nat×Nm)
 | .dat _,_,_=>[]
 | .row E t,xs,i=>[(QN+i,.live (.row E t xs))]
 | .rowg E t,xs,i=>[(QN+i,.live (.row E t xs))]
 | .fnc _,_,_=>[]
 | .ali,_,_=>[]
 | .ref _ o,d,i=>Ak o d i
 | .pair a b,d,i=>Ak a d.1 i++Ak b d.2 (i+a.nc)
def zM(t:CT)(d:t.D):SV:=match dU t d with
 | [s]=>s
 | _ => .junk
def AR:Option Nat->Nat->Option Nat
 | some m,_=>some m
 | none,n=>some n
def gM:Option Nat->(ps:List PK)->List SV->Q (bw ps×List (Nat×Nm)×List Nat×List (Option Nat))
 | _,[],[] => .ret ((),[],[],[])
 | a0,.val t::ps,v::vs=>(jH t [v]).bind λp=>match p.2.1 with
  | []=>(gM a0 ps vs).bind λq=>.ret ((p.1,q.1),p.2.2++q.2.1,q.2.2)
  | _ => .fail
 | a0,.agg t::ps,.agg cs::vs=>(jH t cs).bind λp=>match p.2.1 with
  | []=>(gM a0 ps vs).bind λq=>.ret ((p.1,q.1),p.2.2++q.2.1,q.2.2)
  | _ => .fail
 | a0,.nils::ps,.nilsl::vs=>(gM a0 ps vs).bind λq=>.ret (((),q.1),q.2)
 | a0,.fn f k::ps,.fn g cs::vs=>match Nat.beq f g,Nat.beq cs.length k with
  | true,true=>(gM a0 ps (cs++vs)).bind λq=>.ret (((),q.1),q.2)
  | _,_ => .fail
 | a0,.box E o::ps,.ptr n 0::vs => .ask n fun
  | .live (.cells E' cs)=>match Nat.beq E E' with
   | true=>(rT a0 o cs).bind λp=>match p.2.1 with
    | []=>(gM (AR a0 n) ps vs).bind λq=>.ret ((p.1,q.1),p.2.2.1++q.2.1,n::(p.2.2.2.1++q.2.2.1),p.2.2.2.2++q.2.2.2)
    | _ => .fail
   | false => .fail
  | _ => .fail
 | a0,.row E t::ps,.own n sz::vs => .ask n fun
  | .live (.row E' t' xs)=>match Nat.beq E E',Nat.beq sz t.size,gX t' t xs with
   | true,true,some ys=>(gM (AR a0 n) ps vs).bind λq=>.ret ((ys,q.1),q.2.1,n::q.2.2.1,q.2.2.2)
   | _,_,_ => .fail
  | _ => .fail
 | a0,.own E t::ps,v::vs=>(B2 E t [v]).bind λp=>(gM a0 ps vs).bind λq=>.ret ((p.1,q.1),q.2.1,q.2.2.1,p.2.2::q.2.2.2)
 | a0,.ago o::ps,.agg cs::vs=>match Nat.beq o.nb 0 with
  | true=>(rT a0 o cs).bind λp=>match p.2.1 with
   | []=>(gM a0 ps vs).bind λq=>.ret ((p.1,q.1),p.2.2.1++q.2.1,q.2.2.1,p.2.2.2.2++q.2.2.2)
   | _ => .fail
  | false => .fail
 | _,_,_ => .fail
def iO:(ps:List PK)->bw ps->Nat->Nat->List SV
 | [],_,_,_=>[]
 | .val t::ps,d,j,i=>zM t d.1::iO ps d.2 j i
 | .agg t::ps,d,j,i => .agg (dU t d.1)::iO ps d.2 j i
 | .box E o::ps,d,j,i => .ptr (PN+j) 0::iO ps d.2 (j+1+o.nb) (i+o.nc)
 | .row E t::ps,d,j,i => .own (PN+j) t.size::iO ps d.2 (j+1) i
 | .own E t::ps,d,j,i => .own (QN+i) t.size::iO ps d.2 j (i+1)
 | .fn f k::ps,d,j,i => .fn f ((iO ps d.2 j i).take k)::(iO ps d.2 j i).drop k
 | .nils::ps,d,j,i => .nilsl::iO ps d.2 j i
 | .ago o::ps,d,j,i => .agg (vA o d.1 j i)::iO ps d.2 j (i+o.nc)
def qm:(ps:List PK)->bw ps->Nat->Nat->List (Nat×Nm)
 | [],_,_,_=>[]
 | .val t::ps,d,j,i=>qm ps d.2 j i
 | .agg t::ps,d,j,i=>qm ps d.2 j i
 | .box E o::ps,d,j,i=>(PN+j,.live (.cells E (vA o d.1 (j+1) i)))::(vF o d.1 (j+1) i++qm ps d.2 (j+1+o.nb) (i+o.nc))
 | .row E t::ps,d,j,i=>(PN+j,.live (.row E t d.1))::qm ps d.2 (j+1) i
 | .own E t::ps,d,j,i=>qm ps d.2 j (i+1)
 | .fn f k::ps,d,j,i=>qm ps d.2 j i
 | .nils::ps,d,j,i=>qm ps d.2 j i
 | .ago o::ps,d,j,i=>qm ps d.2 j (i+o.nc)
def tE:(ps:List PK)->bw ps->Nat->List (Nat×Nm)
 | [],_,_=>[]
 | .val t::ps,d,i=>tE ps d.2 i
 | .agg t::ps,d,i=>tE ps d.2 i
 | .box E o::ps,d,i=>Ak o d.1 i++tE ps d.2 (i+o.nc)
 | .row E t::ps,d,i=>tE ps d.2 i
 | .own E t::ps,d,i=>(QN+i,.live (.row E t d.1))::tE ps d.2 (i+1)
 | .fn f k::ps,d,i=>tE ps d.2 i
 | .nils::ps,d,i=>tE ps d.2 i
 | .ago o::ps,d,i=>Ak o d.1 i++tE ps d.2 (i+o.nc)
def pk(env:aZ):Option Nat->Ev
 | some m=>env m
 | none => .nil
section
variable {w0:World} {N0:f5} {A Ac:Nat->Prop} {env envc:aZ} {h:bN} {w:World}
def jP(A':Nat->Prop)(env0:aZ)(h0:bN)(e':aZ)(w:World):List (Option Nat)->List (Nat×Nm)->Nat->Prop
 | [],[],_=>True
 | o::os,(m,x)::l,n=>(m=n∧∃ b',x = .live b'∧b'.mut=true/\((∃ q b,o=some q/\h0 q = .live b/\b.mut=true/\(∀ k len,env0 q = .blk k len->j9 A' e' w k len b')/\(env0 q = .nil→∃ E t,b' = .row E t []))∨(o=none∧∃ E t,b' = .row E t [])))/\jP A' env0 h0 e' w os l (n+1)
 | _,_,_=>False
theorem jP.append{A':Nat->Prop}{a:aZ}{e:bN}{f:aZ}:∀{c b:List (Option Nat)}{l d:List (Nat×Nm)}{n:Nat},jP A' a e f w c l n->jP A' a e f w b d (n+c.length)->jP A' a e f w (c++b) (l++d) n
 | [],b,[],d,n,_,k=>by simpa using k
 | o::c,b,(m,x)::l,d,n,⟨h1,h2⟩,k=>by
  refine⟨h1,h2.append ?_⟩;grind
theorem jP.get{A':Nat->Prop}{a:aZ}{d:bN}{e:aZ}:∀{c:List (Option Nat)}{l:List (Nat×Nm)}{n:Nat},jP A' a d e w c l n->c.length=l.length ∧
  ∀ i o,c[i]? = some o→∃ b',eI l (n+i) = .live b'∧(n+i,Nm.live b')∈l/\b'.mut=true/\((∃ q b,o=some q/\d q = .live b/\b.mut=true/\(∀ k len,a q = .blk k len->j9 A' e w k len b')/\(a q = .nil→∃ E t,b' = .row E t []))∨(o=none∧∃ E t,b' = .row E t []))
 | [],[],n,_=>⟨rfl,λi n hi=>by simp at hi⟩
 | o::c,(m,x)::l,n,⟨⟨f,b',h3,h4,h5⟩,hr⟩=>by
  obtain⟨hl,hg⟩:=hr.get;refine⟨by simp[hl],λi o' hi=>?_⟩;cases i with
  | zero =>
   simp at hi;subst hi;subst h3;exact⟨b',by simp only[eI,f,ix,sS],by rw[f];exact fW ..,h4,h5⟩
  | succ i =>
   obtain⟨c',g,h,g3⟩:=hg i o' (by simpa using hi);rw[show n+1+i=n+(i+1) from by omega] at g h;refine⟨c',?_,fL _ h,g3⟩;simp only[eI];have:Nat.beq (n+(i+1)) m=false:=by
    cases hb:Nat.beq (n+(i+1)) m with
    | false=>rfl
    | true=>have:=bG hb;omega
   rw[this];exact g
theorem jP.keys{A':Nat->Prop}{a:aZ}{h0:bN}{e':aZ}:∀{d:List (Option Nat)}{l:List (Nat×Nm)}{n:Nat},jP A' a h0 e' w d l n→∀ c x,(c,x)∈l→∃ i o,c=n+i/\d[i]? = some o
 | [],[],n,_,c,x,b=>by simp at b
 | o::d,(m,y)::l,n,⟨⟨hm,_⟩,hr⟩,c,x,b=>by
  rcases dL.1 b with e|b
  .simp_all
  .obtain⟨i,o',h1,h2⟩:=hr.keys c x b;exact⟨i+1,o',by omega,by simpa using h2⟩
theorem I8{t:CT}{d:t.D}{v:Value}{rest:List SV}(hr:Rd A w t (λj=>[v][j]?) 0 d):az A env w (zM t d) v:=by
 obtain⟨vs,hl,hc,a⟩:=u7 (env:=env) t d _ 0 hr
 unfold zM
 split
 next s hs=>rw[hs] at a;simp only[aR] at a;have h0:=hc 0 t.size_pos;grind
 .simp only[az]
theorem DX{t:CT}{d:t.D}{vs:List Value}(hl:vs.length=t.size)(hr:Rd A w t (λj=>vs[j]?) 0 d):aR A env w (dU t d) vs:=by
 obtain⟨us,hlu,hc,hd⟩:=u7 t d _ 0 hr
 have:us=vs:=by
  apply List.ext_getElem?;grind
 rw[← this];exact hd
theorem XL{k:Nat}{len:Nat×Nat}{E:TypeId}{t:CT}{xs:List t.D}(hr:nS A w k len E t xs):xs.length<=maxLen∧∀ x∈xs,t.wf x:=by
 obtain⟨vs,cap,_,_,h2,h3,h4,h5⟩:=hr
 refine⟨by omega,λx hx=>?_⟩
 obtain⟨i,hi,rfl⟩:=List.mem_iff_getElem.1 hx
 exact Dq _ _ _ _ (h5 i hi)
theorem Ve{a0:Option Nat}{t:CT}{ps:List PK}{a:List SV} {x} (e:(gM a0 (.agg t::ps) a).run h=some x):∃ cs r,a = .agg cs::r:=by
 cases a with
 | nil=>cases e
 | cons s r=>cases s <;> first|exact⟨_,_,rfl⟩|cases e
theorem ac5{a0:Option Nat}{o:OT}{ps:List PK}{a:List SV} {x} (e:(gM a0 (.ago o::ps) a).run h=some x):∃ cs r,a = .agg cs::r:=by
 cases a with
 | nil=>cases e
 | cons s r=>cases s <;> first|exact⟨_,_,rfl⟩|cases e
theorem XH{a0:Option Nat}{E:TypeId}{o:OT}{ps:List PK}{a:List SV} {x} (e:(gM a0 (.box E o::ps) a).run h=some x):∃ n r,a = .ptr n 0::r:=by
 cases a with
 | nil=>cases e
 | cons s r =>
  cases s with
  | ptr n off=>cases off with
   | zero=>exact⟨_,_,rfl⟩
   | succ k=>cases e
  | _=>cases e
theorem af6{a0:Option Nat}{E:TypeId}{t:CT}{ps:List PK}{a:List SV} {x} (e:(gM a0 (.row E t::ps) a).run h=some x):∃ n sz r,a = .own n sz::r:=by
 cases a with
 | nil=>cases e
 | cons s r=>cases s <;> first|exact⟨_,_,_,rfl⟩|cases e
theorem Uf{a0:Option Nat}{E:TypeId}{t:CT}{ps:List PK}{a:List SV} {x} (e:(gM a0 (.own E t::ps) a).run h=some x):∃ v r,a=v::r:=by
 cases a with
 | nil=>cases e
 | cons s r=>exact⟨_,_,rfl⟩
theorem aU1{a0:Option Nat}{ps:List PK}{a:List SV} {x} (e:(gM a0 (.nils::ps) a).run h=some x):∃ r,a = .nilsl::r:=by
 cases a with
 | nil=>cases e
 | cons s r=>cases s <;> first|exact⟨_,rfl⟩|cases e
theorem aM1{a0:Option Nat}{f:FuncId}{k:Nat}{ps:List PK}{a:List SV} {x} (e:(gM a0 (.fn f k::ps) a).run h=some x):∃ g cs r,a = .fn g cs::r:=by
 cases a with
 | nil=>cases e
 | cons s r=>cases s <;> first|exact⟨_,_,_,rfl⟩|cases e
theorem SU{a0:Option Nat}{f:FuncId}{a:List SV} {x} (e:(rT a0 (.fnc f) a).run h=some x):∃ r,a = .fn f []::r/\x=(((),r,[],[],[]),[]):=by
 cases a with
 | nil=>cases e
 | cons s r =>
  cases s <;> first|cases e;done|skip
  rename_i g cs;cases cs <;> first|cases e;done|skip
  simp only[rT] at e;split at e
  next hb=>rw[bG hb];simp only[Q.run,bp] at e;exact⟨_,rfl,e.symm⟩
  .cases e
theorem Ti{a0:Option Nat}{E:TypeId}{o:OT}{a:List SV} {x} (e:(rT a0 (.ref E o) a).run h=some x):∃ n r,a = .ptr n 0::r:=by
 cases a with
 | nil=>cases e
 | cons s r =>
  cases s with
  | ptr n off=>cases off with
   | zero=>exact⟨_,_,rfl⟩
   | succ k=>cases e
  | _=>cases e
theorem O8(m:Mod w0 N0 A env h w)(hA:∀ b,A b->Ac b){n:Nat}{E:TypeId}{t:CT}{xs:List t.D}(j:h n = .live (.row E t xs)) :
  (xs.length<=maxLen∧∀ x∈xs,t.wf x)∧∀(l:aZ)(i:Nat),jP Ac env h l w [some n] [(i,.live (.row E t xs))] i:=by
 have f:=m.nm n
 rw[j] at f
 refine⟨?_,λl i=>⟨⟨rfl,_,rfl,rfl,.inl ⟨n,_,rfl,j,rfl,λk len g=>?_,λg=>?_⟩⟩,trivial⟩⟩
 .rcases f with⟨k,len,a,d,_⟩|⟨c,E2,t2,d⟩
  .exact XL d
  .grind
 .rcases f with⟨k',e,a,d,_⟩|⟨c,_⟩
  .rw[g] at a;cases a;obtain⟨us,cap,g1,g2,g3,g4,g5,g6⟩:=d;exact⟨us,cap,g1,g2,g3,g4,g5,λi hi=>iA hA (λ_ _ _=>rfl) _ _ _ _ _ (λ_ _=>rfl) (g6 i hi)⟩
  .rw[g] at c;cases c
 .rcases f with⟨k',e,a,d,_⟩|⟨c,E2,t2,d⟩
  .rw[g] at a;cases a
  .simp_all
theorem I0(m:Mod w0 N0 A env h w)(hA:∀ b,A b->Ac b){E:TypeId}{t:CT}{cs rest:List SV}{vs:List Value}{ys:List t.D}{f:Option Nat}{r:List Nat}
  (e:(B2 E t cs).run h=some ((ys,rest,f),r)) (l:aR A env w cs vs) :
  (ys.length<=maxLen∧∀ x∈ys,t.wf x)/\cs.length=rest.length+1/\(rest=cs.drop 1)∧∃ v c,vs=v::c/\aR A env w rest c∧∀(d:aZ)(i:Nat),d i=pk env f->az Ac d w (.own i t.size) v/\jP Ac env h d w [f] [(i,.live (.row E t ys))] i:=by
 cases cs with
 | nil=>cases e
 | cons s cs =>
 cases s with
 | own n sz =>
  simp only[B2,Q.run] at e;split at e
  .rename_i p0 q0 hk;obtain⟨rfl,rfl⟩:=e;split at hk
   .rename_i E' t' xs hl;split at hk
    next zs g a hc=>have g:=bG g;subst g;have a:=bG a;subst a;obtain⟨et,ez⟩:=jR hc;subst et;subst ez;obtain⟨⟨rfl,rfl,rfl⟩,rfl⟩:=hk;obtain⟨x,c,rfl,hv,j⟩:=l;obtain⟨h1,h2⟩:=O8 m hA hl;refine⟨h1,rfl,rfl,x,c,rfl,j,λd i k=>⟨?_,h2 d i⟩⟩;simp only[az];rw[k];exact hv
    .cases hk
   .cases hk
  .cases e
 | nilsl =>
  obtain⟨⟨rfl,rfl,rfl⟩,rfl⟩:=e;obtain⟨x,c,rfl,rfl,j⟩:=l;refine⟨⟨by simp,by simp⟩,rfl,rfl,_,c,rfl,j,λd i k=>⟨?_,⟨rfl,_,rfl,rfl,.inr ⟨rfl,_,_,rfl⟩⟩,trivial⟩⟩;exact .inl ⟨k,_,rfl⟩
 | _=>cases e
theorem WT{b:Option Nat}{a:List SV} {x} (e:(rT b .ali a).run h=some x):∃ n r,a = .ptr n 0::r/\b=some n/\x=(((),r,[],[],[]),[]):=by
 cases a with
 | nil=>cases e
 | cons s r =>
  cases s with
  | ptr n off=>cases off with
   | zero=>cases b with
    | none=>cases e
    | some m =>
     have e:(match Nat.beq n m with|true=>(Q.ret ((),r,[],[],[]):Q (Unit×List SV×List (Nat×Nm)×List Nat×List (Option Nat)))|false=>Q.fail).run h=some x:=e;cases c:Nat.beq n m with
     | false=>rw[c] at e;cases e
     | true =>
      rw[c] at e;simp only[Q.run,bp] at e;exact⟨n,r,rfl,by rw[bG c],e.symm⟩
   | succ k=>cases e
  | _=>cases e
theorem LH{a0:Option Nat}{n:Nat}(h:AR a0 n=none):False:=by cases a0 <;> cases h
theorem Cu(m:Mod w0 N0 A env h w)(hA:∀ b,A b->Ac b)(a0:Option Nat):∀(o:OT)(cs:List SV)(vs:List Value)(d:o.D)(rest:List SV)(fz:List (Nat×Nm))(bx:List Nat)(cx:List (Option Nat))(r:List Nat)(j i:Nat),
  (rT a0 o cs).run h=some ((d,rest,fz,bx,cx),r)->aR A env w cs vs->(∀ k,gJ env fz k->Ac k) →
  oe h fz/\o.wf d/\bx.length=o.nb/\cx.length=o.nc∧∃ us rs,vs=us++rs/\aR A env w rest rs ∧
   ((∀ n,a0=some n->envc PN=env n)->(∀ k n,bx[k]? = some n->envc (PN+(j+k))=env n)->(∀ k q,cx[k]? = some q->envc (QN+(i+k))=pk env q) →
     aR Ac envc w (vA o d j i) us/\jP Ac env h envc w (bx.map some) (vF o d j i) (PN+j)/\jP Ac env h envc w cx (Ak o d i) (QN+i))
 | .dat t,cs,vs,d,rest,fz,bx,cx,r,j,i,e,hd,hF=>by
  obtain⟨⟨d1,r1,f1⟩,q1,q2,e1,e2,rfl⟩:=Q.run_bind _ _ _ e;obtain⟨⟨rfl,rfl,rfl,rfl,rfl⟩,rfl⟩:=e2;obtain⟨p1,p2,p3,p4,p5⟩:=sr m t cs vs d1 r1 f1 q1 e1 hd hA hF;refine⟨p1,Dq _ _ _ _ p4,rfl,rfl,vs.take t.size,vs.drop t.size,(mZ _ _).symm,p5,λ_ _ _=>⟨?_,bv,bv⟩⟩;refine DX (by rw[dA];omega) ?_;refine iA (λ_ h=>h) (λ_ _ _=>rfl) t _ _ _ _ (λk hk=>?_) p4;simp_all
 | .row E t,cs,vs,d,rest,fz,bx,cx,r,j,i,e,hd,hF=>by
  obtain⟨⟨d1,r1,o1⟩,q1,q2,e1,e2,rfl⟩:=Q.run_bind _ _ _ e;obtain⟨⟨rfl,rfl,rfl,rfl,rfl⟩,rfl⟩:=e2;obtain⟨p1,-,-,v,vr,rfl,p2,p3⟩:=I0 m hA e1 hd;refine⟨λn b hh=>by simp at hh,p1,rfl,rfl,[v],vr,rfl,p2,λ_ _ hc=>?_⟩;obtain⟨k1,k2⟩:=p3 envc (QN+i) (hc 0 _ rfl);exact⟨⟨v,[],rfl,k1,rfl⟩,bv,k2⟩
 | .rowg E t,cs,vs,d,rest,fz,bx,cx,r,j,i,e,hd,hF=>by
  obtain⟨⟨d1,r1,o1⟩,q1,q2,e1,e2,rfl⟩:=Q.run_bind _ _ _ e;obtain⟨⟨rfl,rfl,rfl,rfl,rfl⟩,rfl⟩:=e2;obtain⟨p1,-,-,v,vr,rfl,p2,p3⟩:=I0 m hA e1 hd;refine⟨λn b hh=>by simp at hh,p1,rfl,rfl,[v],vr,rfl,p2,λ_ _ hc=>?_⟩;obtain⟨k1,k2⟩:=p3 envc (QN+i) (hc 0 _ rfl);exact⟨⟨v,[],rfl,k1,rfl⟩,bv,k2⟩
 | .fnc f,cs0,vs,d,rest,fz,bx,cx,r,j,i,e,hd,hF=>by
  obtain⟨cs,rfl,e2⟩:=SU e;obtain⟨⟨-,rfl,rfl,rfl,rfl⟩,rfl⟩:=e2;obtain⟨u,vr,rfl,hu,hvr⟩:=hd;refine⟨λn b hh=>by simp at hh,bv,rfl,rfl,[u],vr,rfl,hvr,λ_ _ _=>⟨?_,bv,bv⟩⟩;refine⟨u,[],rfl,?_,rfl⟩;exact hu
 | .ali,cs0,vs,d,rest,fz,bx,cx,r,j,i,e,hd,hF=>by
  obtain⟨n,cs,rfl,h0,e2⟩:=WT e;obtain⟨⟨-,rfl,rfl,rfl,rfl⟩,rfl⟩:=e2;obtain⟨u,vr,rfl,⟨k,len,hek,rfl⟩,hvr⟩:=hd;refine⟨λn b hh=>by simp at hh,bv,rfl,rfl,[_],vr,rfl,hvr,λha _ _=>⟨?_,bv,bv⟩⟩;simp only[vA,aR,az];simp_all
 | .ref E o,cs0,vs,d,rest,fz,bx,cx,r,j,i,e,hd,hF=>by
  obtain⟨n,cs,rfl⟩:=Ti e;simp only[rT,Q.run] at e;split at e
  .rename_i p0 q0 hk;obtain⟨rfl,rfl⟩:=e;split at hk
   .rename_i E' cs' hl;split at hk
    .rename_i hE;have hE:=bG hE;subst hE;obtain⟨⟨d1,r1,f1,b1,c1⟩,q1,q2,e1,e2,rfl⟩:=Q.run_bind _ _ _ hk;split at e2
     .rename_i hr1;subst hr1;obtain⟨⟨rfl,rfl,rfl,rfl,rfl⟩,rfl⟩:=e2;obtain⟨x,vr,rfl,⟨k,len,hek,rfl⟩,hr⟩:=hd;obtain⟨⟨us,hus,hdu⟩,_⟩:=m.live_blk hl hek;obtain⟨s1,s2,s3,s4,us',rs',s5,s6,s7⟩:=Cu m hA a0 o cs' us.toList d1 [] f1 b1 c1 q1 (j+1) i e1 hdu hF;subst s6;rw[jG] at s5;subst s5;refine⟨s1,s2,by simp only[dM,s3,OT.nb],s4,[_],vr,rfl,hr,λha hb hc=>?_⟩;have h0:=hb 0 n rfl;obtain⟨k1,k2,k3⟩:=s7 ha (λk n hn=>by have:=hb (k+1) n (by simpa using hn);rwa [show j+(k+1)=j+1+k from by omega] at this) hc;refine⟨?_,⟨⟨rfl,_,rfl,rfl,.inl ⟨n,_,rfl,hl,rfl,λk' len' he=>?_,λhe=>?_⟩⟩,?_⟩,k3⟩
      .simp only[vA,aR,az];simp_all
      .rw[hek] at he;cases he;exact⟨us,hus,k1⟩
      .rw[hek] at he;cases he
      .omega
     .cases e2
    .cases hk
   .cases hk
  .cases e
 | .pair a b,cs,vs,d,rest,fz,bx,cx,r,j,i,e,hd,hF=>by
  obtain⟨⟨d1,r1,f1,b1,c1⟩,q1,q2,e1,e2,rfl⟩:=Q.run_bind _ _ _ e;obtain⟨⟨d2,r2,f2,b2,c2⟩,q3,q4,e3,e4,rfl⟩:=Q.run_bind _ _ _ e2;simp only[Q.run,bp,br] at e4;obtain⟨⟨rfl,rfl,rfl,rfl,rfl⟩,rfl⟩:=e4;have hF1:∀ k,gJ env f1 k->Ac k:=λk ⟨n,x,l,hx,he⟩=>hF k ⟨n,x,l,gv _ hx,he⟩;have hF2:∀ k,gJ env f2 k->Ac k:=λk ⟨n,x,l,hx,he⟩=>hF k ⟨n,x,l,i5 _ hx,he⟩;obtain⟨s1,s2,s3,s4,us,rs,rfl,s6,s7⟩:=Cu m hA a0 a cs vs d1 r1 f1 b1 c1 q1 j i e1 hd hF1;obtain⟨t1,t2,t3,t4,us',rs',rfl,t6,t7⟩:=Cu m hA a0 b r1 rs d2 r2 f2 b2 c2 q3 (j+a.nb) (i+a.nc) e3 s6 hF2;refine⟨λn b hh=>?_,⟨s2,t2⟩,by simp only[cu,s3,t3,OT.nb],by simp only[cu,s4,t4,OT.nc],us++us',rs',by rw[ia],t6,λha hb hc=>?_⟩
  .rcases dw.1 hh with hh|hh
   .exact s1 n b hh
   .exact t1 n b hh
  .obtain⟨k1,k2,k3⟩:=s7 ha (λk n hn=>hb k n (by rw[kP (List.getElem?_eq_some_iff.1 hn).1];exact hn)) (λk q hq=>hc k q (by rw[kP (List.getElem?_eq_some_iff.1 hq).1];exact hq));obtain⟨l1,l2,l3⟩:=t7 ha (λk n hn=>by
     have:=hb (a.nb+k) n (by rw[jU ab,s3,lC];exact hn)
     rwa [show j+(a.nb+k)=j+a.nb+k from by omega] at this)
    (λk q hq=>by
     have:=hc (a.nc+k) q (by rw[jU ab,s4,lC];exact hq)
     rwa [show i+(a.nc+k)=i+a.nc+k from by omega] at this)
   refine⟨uh k1 l1,?_,?_⟩
   .rw[lL];exact k2.append (by rw[mh,s3,gP];exact l2)
   .exact k3.append (by rw[s4,gP];exact l3)
theorem uY(m:Mod w0 N0 A env h w)(hA:∀ b,A b->Ac b):∀(a0:Option Nat)(ps:List PK)(svs:List SV)(vs:List Value)(d:bw ps)(fz:List (Nat×Nm))(bx:List Nat)(cx:List (Option Nat))(r:List Nat)(j i:Nat),
  (gM a0 ps svs).run h=some ((d,fz,bx,cx),r)->aR A env w svs vs->(∀ k,gJ env fz k->Ac k) →
  oe h fz/\xV ps d/\((a0=none->j=0)->(∀ n,a0=some n->envc PN=env n)->(∀ k n,bx[k]? = some n->envc (PN+(j+k))=env n)->(∀ k q,cx[k]? = some q->envc (QN+(i+k))=pk env q) →
   aR Ac envc w (iO ps d j i) vs/\jP Ac env h envc w (bx.map some) (qm ps d j i) (PN+j)/\jP Ac env h envc w cx (tE ps d i) (QN+i))
 | a0,[],[],vs,d,fz,bx,cx,r,j,i,e,hd,hF=>by
  simp only[gM,Q.run,bp,br] at e;obtain⟨⟨-,rfl,rfl,rfl⟩,rfl⟩:=e;exact⟨λn b hh=>by simp at hh,trivial,λ_ _ _ _=>⟨by simpa[iO,aR] using hd,trivial,trivial⟩⟩
 | a0,.val t::ps,v::svs,vs,d,fz,bx,cx,r,j,i,e,hd,hF=>by
  simp only[gM] at e;obtain⟨⟨d1,r1,f1⟩,q1,q2,e1,e2,rfl⟩:=Q.run_bind _ _ _ e;split at e2
  .rename_i hr1;simp only at hr1;subst hr1;obtain⟨⟨d2,f2,b2,c2⟩,q3,q4,e3,e4,rfl⟩:=Q.run_bind _ _ _ e2;simp only[Q.run,bp,br] at e4;obtain⟨⟨rfl,rfl,rfl,rfl⟩,rfl⟩:=e4;simp only[aR] at hd;obtain⟨x,vr,rfl,hx,hr⟩:=hd;have hF1:∀ k,gJ env f1 k->Ac k:=λk ⟨n,x,l,hx,he⟩=>hF k ⟨n,x,l,gv _ hx,he⟩;have hF2:∀ k,gJ env f2 k->Ac k:=λk ⟨n,x,l,hx,he⟩=>hF k ⟨n,x,l,i5 _ hx,he⟩;obtain⟨p1,p2,p3,p4,_⟩:=sr m t [v] [x] d1 [] f1 q1 e1 (by simp only[aR];exact⟨x,[],rfl,hx,rfl⟩) hA hF1;obtain⟨s1,s4,s6⟩:=uY m hA a0 ps svs vr d2 f2 b2 c2 q3 j i e3 hr hF2;refine⟨λn b hh=>?_,⟨Dq _ _ _ _ p4,s4⟩,λhj ha hb hc=>?_⟩
   .rcases dw.1 hh with hh|hh
    .exact p1 n b hh
    .exact s1 n b hh
   .obtain⟨k1,k2,k3⟩:=s6 hj ha hb hc;refine⟨?_,k2,k3⟩;simp only[iO,aR];exact⟨x,vr,rfl,I8 (rest:=[]) p4,k1⟩
  .cases e2
 | a0,.nils::ps,svs0,vs,d,fz,bx,cx,r,j,i,e,hd,hF=>by
  obtain⟨svs,rfl⟩:=aU1 e;simp only[gM] at e;obtain⟨⟨d2,f2,b2,c2⟩,q3,q4,e3,e4,rfl⟩:=Q.run_bind _ _ _ e;simp only[Q.run,bp,br] at e4;obtain⟨⟨rfl,rfl,rfl,rfl⟩,rfl⟩:=e4;simp only[aR,az] at hd;obtain⟨x,vr,rfl,rfl,hr⟩:=hd;obtain⟨s1,s4,s6⟩:=uY m hA a0 ps svs vr d2 f2 b2 c2 q3 j i e3 hr hF;refine⟨s1,⟨trivial,s4⟩,λhj ha hb hc=>?_⟩;obtain⟨k1,k2,k3⟩:=s6 hj ha hb hc;refine⟨?_,k2,k3⟩;simp only[iO,aR,az];exact⟨_,vr,rfl,rfl,k1⟩
 | a0,.fn f k::ps,svs0,vs,d,fz,bx,cx,r,j,i,e,hd,hF=>by
  obtain⟨g,cs,svs,rfl⟩:=aM1 e;simp only[gM] at e;split at e
  .rename_i hf hk;have hf:=bG hf;have hk:=bG hk;subst hf;obtain⟨⟨d2,f2,b2,c2⟩,q3,q4,e3,e4,rfl⟩:=Q.run_bind _ _ _ e;simp only[Q.run,bp,br] at e4;obtain⟨⟨rfl,rfl,rfl,rfl⟩,rfl⟩:=e4;simp only[aR,az] at hd;obtain⟨x,vr,rfl,⟨us,rfl,hu⟩,hr⟩:=hd;have hul:=jf hu;obtain⟨s1,s4,s6⟩:=uY m hA a0 ps (cs++svs) (us.toList++vr) d2 f2 b2 c2 q3 j i e3 (uh hu hr) hF;refine⟨s1,⟨trivial,s4⟩,λhj ha hb hc=>?_⟩;obtain⟨k1,k2,k3⟩:=s6 hj ha hb hc;refine⟨?_,k2,k3⟩;simp only[iO,aR,az];refine⟨_,vr,rfl,⟨us,rfl,?_⟩,?_⟩
   .have:=A5 k k1
    rwa [List.take_left' (by omega)] at this
   .have:=Cr k k1
    rwa [List.drop_left' (by omega)] at this
  .cases e
 | a0,.agg t::ps,svs0,vs,d,fz,bx,cx,r,j,i,e,hd,hF=>by
  obtain⟨cs,svs,rfl⟩:=Ve e;simp only[gM] at e;obtain⟨⟨d1,r1,f1⟩,q1,q2,e1,e2,rfl⟩:=Q.run_bind _ _ _ e;split at e2
  .rename_i hr1;simp only at hr1;subst hr1;obtain⟨⟨d2,f2,b2,c2⟩,q3,q4,e3,e4,rfl⟩:=Q.run_bind _ _ _ e2;simp only[Q.run,bp,br] at e4;obtain⟨⟨rfl,rfl,rfl,rfl⟩,rfl⟩:=e4;simp only[aR,az] at hd;obtain⟨x,vr,rfl,⟨us,rfl,hx⟩,hr⟩:=hd;have hF1:∀ k,gJ env f1 k->Ac k:=λk ⟨n,x,l,hx,he⟩=>hF k ⟨n,x,l,gv _ hx,he⟩;have hF2:∀ k,gJ env f2 k->Ac k:=λk ⟨n,x,l,hx,he⟩=>hF k ⟨n,x,l,i5 _ hx,he⟩;obtain⟨p1,p2,p3,p4,_⟩:=sr m t cs us.toList d1 [] f1 q1 e1 hx hA hF1;obtain⟨s1,s4,s6⟩:=uY m hA a0 ps svs vr d2 f2 b2 c2 q3 j i e3 hr hF2;refine⟨λn b hh=>?_,⟨Dq _ _ _ _ p4,s4⟩,λhj ha hb hc=>?_⟩
   .rcases dw.1 hh with hh|hh
    .exact p1 n b hh
    .exact s1 n b hh
   .obtain⟨k1,k2,k3⟩:=s6 hj ha hb hc;refine⟨?_,k2,k3⟩;simp only[iO,aR,az];exact⟨_,vr,rfl,⟨us,rfl,DX (by simpa using p3) p4⟩,k1⟩
  .cases e2
 | a0,.box E o::ps,svs0,vs,d,fz,bx,cx,r,j,i,e,hd,hF=>by
  obtain⟨n,svs,rfl⟩:=XH e;simp only[gM,Q.run] at e;split at e
  .rename_i p0 q0 hk;simp only[bp,br] at e;obtain⟨rfl,rfl⟩:=e;split at hk
   .rename_i E' cs hl;split at hk
    .rename_i hE;have hE:=bG hE;subst hE;obtain⟨⟨d1,r1,f1,b1,c1⟩,q1,q2,e1,e2,rfl⟩:=Q.run_bind _ _ _ hk;split at e2
     .rename_i hr1;simp only at hr1;subst hr1;obtain⟨⟨d2,f2,b2,c2⟩,q3,q4,e3,e4,rfl⟩:=Q.run_bind _ _ _ e2;simp only[Q.run,bp,br] at e4;obtain⟨⟨rfl,rfl,rfl,rfl⟩,rfl⟩:=e4;simp only[aR,az] at hd;obtain⟨x,vr,rfl,⟨k,len,hek,rfl⟩,hr⟩:=hd;obtain⟨⟨us,hus,hdu⟩,_⟩:=m.live_blk hl hek;have hF1:∀ k,gJ env f1 k->Ac k:=λk ⟨n,x,l,hx,he⟩=>hF k ⟨n,x,l,gv _ hx,he⟩;have hF2:∀ k,gJ env f2 k->Ac k:=λk ⟨n,x,l,hx,he⟩=>hF k ⟨n,x,l,i5 _ hx,he⟩;obtain⟨p1,p2,p3,p4,us',rs',p5,p6,p7⟩:=Cu (envc:=envc) m hA a0 o cs us.toList d1 [] f1 b1 c1 q1 (j+1) i e1 hdu hF1;simp only[aR] at p6;subst p6;rw[jG] at p5;subst p5;obtain⟨s1,s4,s6⟩:=uY m hA (AR a0 n) ps svs vr d2 f2 b2 c2 q3 (j+1+o.nb) (i+o.nc) e3 hr hF2;refine⟨λn b hh=>?_,⟨p2,s4⟩,λhj ha hb hc=>?_⟩
      .rcases dw.1 hh with hh|hh
       .exact p1 n b hh
       .exact s1 n b hh
      .have h0:=hb 0 n rfl;rw[ix] at h0;obtain⟨k1,k2,k3⟩:=p7 ha
        (λk n hn=>by
         have:=hb (k+1) n (by simp only[List.getElem?_cons_succ];rw[kP (List.getElem?_eq_some_iff.1 hn).1];exact hn)
         rwa [show j+(k+1)=j+1+k from by omega] at this)
        (λk q hq=>hc k q (by rw[kP (List.getElem?_eq_some_iff.1 hq).1];exact hq))
       obtain⟨l1,l2,l3⟩:=s6 (λq=>(LH q).elim) (λn' hn=>by cases a0 with|some m=>exact ha n' hn|none=>cases hn;have e:=hj rfl;rw[e,ix] at h0;exact h0)
        (λk n hn=>by
         have:=hb (o.nb+k+1) n (by simp only[List.getElem?_cons_succ];rw[jU (by omega),p3,lC];exact hn)
         rwa [show j+(o.nb+k+1)=j+1+o.nb+k from by omega] at this)
        (λk q hq=>by
         have:=hc (o.nc+k) q (by rw[jU (by omega),p4,lC];exact hq)
         rwa [show i+(o.nc+k)=i+o.nc+k from by omega] at this)
       refine⟨?_,⟨⟨rfl,_,rfl,rfl,.inl ⟨n,_,rfl,hl,rfl,λk' len' he=>?_,λhe=>?_⟩⟩,?_⟩,?_⟩
       .simp only[iO,aR,az];exact⟨_,vr,rfl,⟨k,len,by rw[h0];exact hek,rfl⟩,l1⟩
       .rw[hek] at he;cases he;exact⟨us,hus,k1⟩
       .rw[hek] at he;cases he
       .rw[lL,show PN+j+1=PN+(j+1) from by omega];exact k2.append (by rw[mh,p3,show PN+(j+1)+o.nb=PN+(j+1+o.nb) from by omega];exact l2)
       .exact k3.append (by rw[p4,gP];exact l3)
     .cases e2
    .cases hk
   .cases hk
  .cases e
 | a0,.ago o::ps,svs0,vs,d,fz,bx,cx,r,j,i,e,hd,hF=>by
  obtain⟨cs,svs,rfl⟩:=ac5 e;simp only[gM] at e;split at e
  .rename_i hnb;have hnb:=bG hnb;obtain⟨⟨d1,r1,f1,b1,c1⟩,q1,q2,e1,e2,rfl⟩:=Q.run_bind _ _ _ e;split at e2
   .rename_i hr1;simp only at hr1;subst hr1;obtain⟨⟨d2,f2,b2,c2⟩,q3,q4,e3,e4,rfl⟩:=Q.run_bind _ _ _ e2;simp only[Q.run,bp,br] at e4;obtain⟨⟨rfl,rfl,rfl,rfl⟩,rfl⟩:=e4;simp only[aR,az] at hd;obtain⟨x,vr,rfl,⟨us,rfl,hdu⟩,hr⟩:=hd;have hF1:∀ k,gJ env f1 k->Ac k:=λk ⟨n,x,l,hx,he⟩=>hF k ⟨n,x,l,gv _ hx,he⟩;have hF2:∀ k,gJ env f2 k->Ac k:=λk ⟨n,x,l,hx,he⟩=>hF k ⟨n,x,l,i5 _ hx,he⟩;obtain⟨p1,p2,p3,p4,us',rs',p5,p6,p7⟩:=Cu (envc:=envc) m hA a0 o cs us.toList d1 [] f1 b1 c1 q1 j i e1 hdu hF1;simp only[aR] at p6;subst p6;rw[jG] at p5;subst p5;have hb1:b1=[]:=oW (by rw[p3,hnb]);subst hb1;obtain⟨s1,s4,s6⟩:=uY m hA a0 ps svs vr d2 f2 b2 c2 q3 j (i+o.nc) e3 hr hF2;refine⟨λn b hh=>?_,⟨p2,s4⟩,λhj ha hb hc=>?_⟩
    .rcases dw.1 hh with hh|hh
     .exact p1 n b hh
     .exact s1 n b hh
    .obtain⟨k1,k2,k3⟩:=p7 ha (λk n hn=>by simp at hn)
      (λk q hq=>hc k q (by rw[kP (List.getElem?_eq_some_iff.1 hq).1];exact hq))
     obtain⟨l1,l2,l3⟩:=s6 hj ha hb
      (λk q hq=>by
       have:=hc (o.nc+k) q (by rw[jU (by omega),p4,lC];exact hq)
       rwa [show i+(o.nc+k)=i+o.nc+k from by omega] at this)
     refine⟨?_,l2,?_⟩
     .simp only[iO,aR,az];exact⟨_,vr,rfl,⟨us,rfl,k1⟩,l1⟩
     .exact k3.append (by rw[p4,gP];exact l3)
   .cases e2
  .cases e
 | a0,.own E t::ps,svs0,vs,d,fz,bx,cx,r,j,i,e,hd,hF=>by
  obtain⟨v,svs,rfl⟩:=Uf e;simp only[gM] at e;obtain⟨⟨d1,r1,o1⟩,q1,q2,e1,e2,rfl⟩:=Q.run_bind _ _ _ e;obtain⟨⟨d2,f2,b2,c2⟩,q3,q4,e3,e4,rfl⟩:=Q.run_bind _ _ _ e2;simp only[Q.run,bp,br] at e4;obtain⟨⟨rfl,rfl,rfl,rfl⟩,rfl⟩:=e4;simp only[aR] at hd;obtain⟨x,vr,rfl,hx,hr⟩:=hd;obtain⟨p1,-,-,v',vr',p2,-,p3⟩:=I0 m hA e1 (vs:=[x]) (by simp only[aR];exact⟨x,[],rfl,hx,rfl⟩);cases p2;obtain⟨s1,s4,s6⟩:=uY m hA a0 ps svs vr d2 f2 b2 c2 q3 j (i+1) e3 hr hF;refine⟨s1,⟨p1,s4⟩,λhj ha hb hc=>?_⟩;obtain⟨k1,k2⟩:=p3 envc (QN+i) (hc 0 _ rfl);obtain⟨l1,l2,l3⟩:=s6 hj ha hb (λk q hq=>by have:=hc (k+1) q (by simpa using hq);rwa [show i+(k+1)=i+1+k from by omega] at this);refine⟨?_,l2,?_⟩
  .simp only[iO,aR];exact⟨x,vr,rfl,k1,l1⟩
  .exact⟨k2.1,by rw[show QN+i+1=QN+(i+1) from by omega];exact l3⟩
 | a0,.row E t::ps,svs0,vs,d,fz,bx,cx,r,j,i,e,hd,hF=>by
  obtain⟨n,sz,svs,rfl⟩:=af6 e;simp only[gM,Q.run] at e;split at e
  .rename_i p0 q0 hk;simp only[bp,br] at e;obtain⟨rfl,rfl⟩:=e;split at hk
   .rename_i E' t' xs hl;split at hk
    next ys hE hsz hc=>have hE:=bG hE;subst hE;have hsz:=bG hsz;subst hsz;obtain⟨et,ez⟩:=jR hc;subst et;simp only at ez;subst ez;obtain⟨⟨d2,f2,b2,c2⟩,q3,q4,e3,e4,rfl⟩:=Q.run_bind _ _ _ hk;simp only[Q.run,bp,br] at e4;obtain⟨⟨rfl,rfl,rfl,rfl⟩,rfl⟩:=e4;simp only[aR,az] at hd;obtain⟨x,vr,rfl,hv,hr⟩:=hd;obtain⟨s1,s4,s6⟩:=uY m hA (AR a0 n) ps svs vr d2 f2 b2 c2 q3 (j+1) i e3 hr hF;obtain⟨hw,hlk⟩:=O8 m hA hl;refine⟨s1,⟨hw,s4⟩,λhj ha hb hc=>?_⟩;have h0:=hb 0 n rfl;rw[ix] at h0;obtain⟨l1,l2,l3⟩:=s6 (λq=>(LH q).elim) (λn' hn=>by cases a0 with|some m=>exact ha n' hn|none=>cases hn;have e:=hj rfl;rw[e,ix] at h0;exact h0) (λk n hn=>by have:=hb (k+1) n (by simpa using hn);rwa [show j+(k+1)=j+1+k from by omega] at this) hc;refine⟨?_,⟨(hlk envc (PN+j)).1,by rw[show PN+j+1=PN+(j+1) from by omega];exact l2⟩,l3⟩;simp only[iO,aR,az];exact⟨_,vr,rfl,by rw[h0];exact hv,l1⟩
    .cases hk
   .cases hk
  .cases e
 | a0,[],_::_,_,_,_,_,_,_,_,_,e,_,_=>by simp[gM,Q.run] at e
 | _,.val _::_,[],_,_,_,_,_,_,_,_,e,_,_=>by simp[gM,Q.run] at e
end
end Go.SX
namespace Go.SX
section
variable {w0:World} {N0:f5} {A Ac:Nat->Prop} {env:aZ} {h:bN} {w:World}
def AS:List Nat->Bool
 | []=>true
 | n::r => !oG n r&&AS r
theorem Qx:∀{l:List Nat},AS l=true->l.Nodup
 | [],_=>List.nodup_nil
 | n::r,h=>by
  simp only[AS,dK,sa] at h;refine List.nodup_cons.2 ⟨λhm=>?_,Qx h.2⟩;rw[xU.2 hm] at h;cases h.1
def jX:List (Option Nat)->List Nat
 | []=>[]
 | none::r=>jX r
 | some n::r=>n::jX r
theorem vX{n:Nat}:∀{l:List (Option Nat)},n∈jX l↔some n∈l
 | []=>by simp[jX]
 | none::r=>by simp[jX,vX (l:=r)]
 | some m::r=>by simp[jX,vX (l:=r)]
theorem Ii{n:Nat}:∀{l:List (Option Nat)}{i i':Nat},(jX l).Nodup->l[i]? = some (some n)->l[i']? = some (some n)->i=i'
 | [],i,i',_,h,_=>by simp at h
 | none::r,i,i',hn,h,h'=>by
  cases i with
  | zero=>simp at h
  | succ i=>cases i' with
   | zero=>simp at h'
   | succ i'=>have:=Ii (i:=i) (i':=i') (l:=r) hn (by simpa using h) (by simpa using h');omega
 | some m::r,i,i',hn,h,h'=>by
  obtain⟨h1,h2⟩:=List.nodup_cons.1 hn;cases i with
  | zero =>
   simp at h;subst h;cases i' with
   | zero=>rfl
   | succ i'=>exact absurd (vX.2 (pm (by simpa using h'))) h1
  | succ i=>cases i' with
   | zero=>simp at h';subst h';exact absurd (vX.2 (pm (by simpa using h))) h1
   | succ i'=>have:=Ii (i:=i) (i':=i') (l:=r) h2 (by simpa using h) (by simpa using h');omega
def pB(bx:List Nat)(cx:List (Option Nat))(n:Nat):Option (Option Nat):=match Nat.ble QN n with
 | true=>cx[n-QN]?
 | false=>match Nat.ble PN n with
  | true=>match bx[n-PN]? with
   | some m=>some (some m)
   | none=>none
  | false=>none
def oS(env:aZ)(bx:List Nat)(cx:List (Option Nat)):aZ:=λn=>match pB bx cx n with
 | some o=>pk env o
 | none => .un
theorem Qt{bx:List Nat}{cx:List (Option Nat)}{i n:Nat}(hl:bx.length<=PN)(hi:bx[i]? = some n):pB bx cx (PN+i)=some (some n):=by
 have hlt:=(List.getElem?_eq_some_iff.1 hi).1
 have h2:QN=PN+PN:=rfl
 unfold pB
 have h1:Nat.ble QN (PN+i)=false:=by
  cases hb:Nat.ble QN (PN+i) with
  | false=>rfl
  | true=>have:=lG hb;omega
 rw[h1,Nat.ble_eq_true_of_le (by omega)]
 simp only[lC,hi]
theorem Ob{bx:List Nat}{cx:List (Option Nat)}{i:Nat}{o:Option Nat}(hi:cx[i]? = some o):pB bx cx (QN+i)=some o:=by
 unfold pB
 rw[Nat.ble_eq_true_of_le (by omega)]
 simp only[lC,hi]
theorem En{bx:List Nat}{cx:List (Option Nat)}{n:Nat}{o:Option Nat}(e:pB bx cx n=some o):(∃ i m,bx[i]? = some m/\n=PN+i/\n<QN/\o=some m)∨∃ i,cx[i]? = some o/\n=QN+i:=by
 unfold pB at e
 split at e
 next hb=>have:=lG hb;exact .inr ⟨n-QN,e,by omega⟩
 next hb=>
  have hlt:n<QN:=by
   refine Nat.lt_of_not_le λhle=>?_;rw[Nat.ble_eq_true_of_le hle] at hb;cases hb
  split at e
  .rename_i hb;have:=lG hb;split at e
   next m hm=>cases e;exact .inl ⟨n-PN,m,hm,by omega,hlt,rfl⟩
   .cases e
  .cases e
theorem Km{bx:List Nat}{cx:List (Option Nat)}{i n:Nat}(hl:bx.length<=PN)(hi:bx[i]? = some n):oS env bx cx (PN+i)=env n:=by
 unfold oS;rw[Qt hl hi];rfl
theorem al5{bx:List Nat}{cx:List (Option Nat)}{i:Nat}{o:Option Nat}(hi:cx[i]? = some o):oS env bx cx (QN+i)=pk env o:=by
 unfold oS;rw[Ob hi]
def CI(env:aZ)(bx:List Nat)(k:Nat):Prop:=∃ n l,n∈bx/\env n = .blk k l
theorem GP{a b:List (Nat×Nm)}{n:Nat}:eI (a++b) n=if n∈a.map (·.1) then eI a n else eI b n:=by
 induction a with
 | nil=>simp
 | cons p a ih =>
  obtain⟨m,x⟩:=p;simp only[me,eI,fF,dL];cases hb:Nat.beq n m with
  | true=>have:=bG hb;simp[this]
  | false =>
   have hne:¬ n=m:=λe=>by rw[e,sS] at hb;cases hb
   simp only[hne,false_or,ih]
theorem Un{A':Nat->Prop}{e':aZ}{bx:List Nat}{cx:List (Option Nat)}{lb lc:List (Nat×Nm)}(hl:bx.length<=PN)(hb:jP A' env h e' w (bx.map some) lb PN)(hc:jP A' env h e' w cx lc QN) :
  (∀ n o,pB bx cx n=some o→∃ b',eI (lb++lc) n = .live b'∧b'.mut=true/\((∃ q b,o=some q/\h q = .live b/\b.mut=true/\(∀ k len,env q = .blk k len->j9 A' e' w k len b')/\(env q = .nil→∃ E t,b' = .row E t []))∨(o=none∧∃ E t,b' = .row E t []))) ∧
  (∀ n,pB bx cx n=none->eI (lb++lc) n = .un):=by
 obtain⟨hbl,hbg⟩:=hb.get
 obtain⟨hcl,hcg⟩:=hc.get
 have kb:∀ n,n∈lb.map (·.1)→∃ i,i<bx.length/\n=PN+i:=λn hn=>by
  obtain⟨⟨n',x⟩,hx,rfl⟩:=List.mem_map.1 hn;obtain⟨i,o,h1,h2⟩:=hb.keys _ _ hx;exact⟨i,by have:=(List.getElem?_eq_some_iff.1 h2).1;simpa using this,h1⟩
 have kc:∀ n,n∈lc.map (·.1)→∃ i o,cx[i]? = some o/\n=QN+i:=λn hn=>by
  obtain⟨⟨n',x⟩,hx,rfl⟩:=List.mem_map.1 hn;obtain⟨i,o,h1,h2⟩:=hc.keys _ _ hx;exact⟨i,o,h2,h1⟩
 have h2:QN=PN+PN:=rfl
 refine⟨λn o e=>?_,λn e=>?_⟩
 .rcases En e with⟨i,m,hi,rfl,hlt,rfl⟩|⟨i,hi,rfl⟩
  .obtain⟨b',g1,g2,g3⟩:=hbg i (some m) (by simp[hi]);refine⟨b',?_,g3⟩;rw[GP,am (sk (f:=(·.1)) g2)];exact g1
  .obtain⟨b',g1,g2,g3⟩:=hcg i o hi;refine⟨b',?_,g3⟩;rw[GP,af]
   .exact g1
   .intro hmem;obtain⟨i',hi',e'⟩:=kb _ hmem;omega
 .rw[GP,af]
  .refine Q9 λhmem=>?_;obtain⟨i,o,hi,rfl⟩:=kc n hmem;rw[Ob hi] at e;cases e
  .intro hmem;obtain⟨i,hi,rfl⟩:=kb n hmem;rw[Qt hl (cK hi)] at e;cases e
theorem Mod.call(m:Mod w0 N0 A env h w){lb lc:List (Nat×Nm)}{fz:List (Nat×Nm)}{bx:List Nat}{cx:List (Option Nat)}(hfz:oe h fz)(hl:bx.length<=PN)
  (hb:jP (g9 A env fz) env h (oS env bx cx) w (bx.map some) lb PN) (hc:jP (g9 A env fz) env h (oS env bx cx) w cx lc QN)
  (hdj:∀ n,n∈bx++jX cx->n ∉ fz.map (·.1)) (hnd:(bx++jX cx).Nodup) :
  Mod w ⟨CI env (bx++jX cx),g9 A env fz,N0.g⟩ (g9 A env fz) (oS env bx cx) (eI (lb++lc)) w:=by
 obtain⟨hg,hgn⟩:=Un hl hb hc
 have mf:=(m.freeze hfz).1
 have memS:∀ {n o q},pB bx cx n=some o->o=some q->q∈bx++jX cx:=λ{n o q} e eo=>by
  subst eo;rcases En e with⟨i,m,hi,_,_,e⟩|⟨i,hi,_⟩
  .cases e;exact gv _ (pm hi)
  .exact i5 _ (vX.2 (pm hi))
 have inj:∀ {n n' q},pB bx cx n=some (some q)->pB bx cx n'=some (some q)->n=n':=λ{n n' q} e e'=>by
  obtain⟨hn1,hn2,hn3⟩:=List.nodup_append.1 hnd;rcases En e with⟨i,m,hi,rfl,_,em⟩|⟨i,hi,rfl⟩ <;> rcases En e' with⟨i',m',hi',rfl,_,em'⟩|⟨i',hi',rfl⟩
  .cases em;cases em';have:=(List.getElem?_inj (List.getElem?_eq_some_iff.1 hi).1 hn1).1 (hi.trans hi'.symm);rw[this]
  .cases em;exact absurd rfl (hn3 _ (pm hi) _ (vX.2 (pm hi')))
  .cases em';exact absurd rfl (hn3 _ (pm hi') _ (vX.2 (pm hi)))
  .rw[Ii hn2 hi hi']
 have blk:∀ {n k l},oS env bx cx n = .blk k l→∃ q,pB bx cx n=some (some q)/\env q = .blk k l:=λ{n k l} he=>by
  unfold oS at he;split at he
  .rename_i o ho;cases o with
   | none=>cases he
   | some q=>exact⟨q,ho,he⟩
  .cases he
 refine⟨rfl,rfl,rfl,iq _,λ_ _ _=>rfl,mf.Alt,?_,?_,?_,λb hb=>.inl hb,mf.gl⟩
 .intro n;cases hs:pB bx cx n with
  | none =>
   rw[hgn n hs];show oS env bx cx n = .un;unfold oS;rw[hs]
  | some o =>
   obtain⟨b',g1,g4,g5⟩:=hg n o hs;rw[g1];have he:oS env bx cx n=pk env o:=by unfold oS;rw[hs]
   rcases g5 with⟨q,b,rfl,g2,g3,g5,g6⟩|⟨rfl,E,t,e2⟩
   .have hm:=m.nm q;rw[g2] at hm;rcases hm with⟨kk,len,e1,_⟩|⟨e1,_⟩
    .refine .inl ⟨kk,len,by rw[he];exact e1,g5 _ _ e1,λ_ hA=>?_⟩;rcases hA with hA|⟨n',x',l',hx,he'⟩
     .exact (m.live_blk g2 e1).2 g3 hA
     .obtain⟨E,t,xs,hl',_⟩:=hfz n' x' hx;have:=m.inj q n' b _ kk len l' g2 hl' g3 rfl e1 he';subst this;exact hdj q (memS hs rfl) (sk (f:=(·.1)) hx)
    .obtain⟨E,t,e⟩:=g6 e1;exact .inr ⟨by rw[he];exact e1,E,t,.inl e⟩
   .exact .inr ⟨by rw[he];rfl,E,t,.inl e2⟩
 .intro n b k l hl hm he;obtain⟨q,hs,e2⟩:=blk he;exact .inl ⟨q,l,memS hs rfl,e2⟩
 .intro n n' b c k l l' hl hl' hm hm' he he';obtain⟨q,hs,e1⟩:=blk he;obtain⟨q',hs',e2⟩:=blk he';obtain⟨b1,_,_,⟨q1,c1,e,g2,g3,_⟩|⟨e,_⟩⟩:=hg n _ hs
  .obtain⟨b2,_,_,⟨q2,c2,e',f2,f3,_⟩|⟨e',_⟩⟩:=hg n' _ hs'
   .cases e;cases e';have:=m.inj q q' c1 c2 k l l' g2 f2 g3 f3 e1 e2;subst this;exact inj hs hs'
   .cases e'
  .cases e
def ld(R:Rn)(env env1:aZ):aZ:=λn=>match bf R n with
 | none=>env n
 | some _=>iK R env1 n
theorem Mod.retn{As A' A1:Nat->Prop}{env1:aZ}{hs h1:bN}{w1:World}{Nc:f5}{U:List (Nat×Nm)}{R:Rn}
  (ms:Mod w0 N0 As env hs w) (m1:Mod w Nc A1 env1 h1 w1) (hshape:∀ b s,w.shape? b=some s->w1.shape? b=some s)
  (hU:∀ n x,(n,x)∈U->x = .dead∨∃ b,x = .live b/\b.mut=true/\((∃ m b0,bf R n=some (some m)/\h1 m = .live b0/\b0.mut=true ∧
   (∀ k len,env1 m = .blk k len->j9 A' (ld R env env1) w1 k len b)/\(env1 m = .nil→∃ E t,b = .row E t []))∨(bf R n=some none∧∃ E t,b = .row E t [])))
  (hdom:∀ n,bf R n≠none->n∈U.map (·.1)) (hinj:iI R)
  (hold:∀ n,bf R n≠none->hs n = .un∨∃ b,hs n = .live b/\b.mut=true/\(iK R env1 n=env n))
  (hNc:∀ k,Nc.n k→∃ n b l,n∈U.map (·.1)/\hs n = .live b/\b.mut=true/\env n = .blk k l)
  (hA:∀ b,As b->A' b) (hA1:∀ b,A' b->As b∨((Nc.n b∨w.heap.size<=b)/\b<w1.heap.size))
  (hAm:∀ m b k l,h1 m = .live b->b.mut=true->env1 m = .blk k l->(∃ n,bf R n=some (some m))→¬ A' k) :
  Mod w0 N0 A' (ld R env env1) (cZ U hs) w1/\dB As env w A' (ld R env env1) w1:=by
 have src:∀ k,(Nc.n k∨w.heap.size<=k)->Eu (λn=>n∈U.map (·.1)) env hs w k:=λk hk=>by
  rcases hk with hk|hk
  .obtain⟨n,b,l,e1,e2,e3,e4⟩:=hNc k hk;exact .inr ⟨n,b,l,e1,e2,e3,e4⟩
  .exact .inl hk
 have mem:∀ n,n∈U.map (·.1)->(n,cZ U hs n)∈U:=λn hn=>by
  have hl:∀(V:List (Nat×Nm)) ,n∈V.map (·.1)->(n,cZ V hs n)∈V:=by
   intro V
   induction V with
   | nil=>intro h;simp at h
   | cons p V ih =>
    obtain⟨q,y⟩:=p;intro h;by_cases hq:n=q
    .subst hq;simp[cZ]
    .rw[cZ,bN.set_other _ _ hq];rcases dL.1 h with e|h
     .exact absurd e hq
     .exact fL _ (ih h)
  exact hl U hn
 have envR:∀ n y,bf R n=some y->ld R env env1 n=iK R env1 n:=λn y hn=>by
  unfold ld;rw[hn]
 have u:mB (λn=>n∈U.map (·.1)) Nc.n As env hs w A' (ld R env env1) (cZ U hs) w1:=by
  refine⟨⟨m1.os,m1.tape,m1.output,m1.size,m1.fr,hshape⟩,?_,hA,?_,?_,?_,λn hn=>nN hn,?_,?_,?_⟩
  .intro k hk;obtain⟨n,b,l,e1,e2,e3,e4⟩:=hNc k hk;exact⟨n,b,l,e1,e2,e3,e4⟩
  .intro b hb;rcases hA1 b hb with h|⟨h,h'⟩
   .exact .inl h
   .exact .inr ⟨src b h,h'⟩
  .intro n hn;unfold ld;cases hl:bf R n with
   | none=>rfl
   | some y=>exact absurd (hdom n (by rw[hl];simp)) hn
  .intro n hn;unfold ld;cases hl:bf R n with
   | none=>rfl
   | some y =>
    rcases hold n (by rw[hl];simp) with h|⟨b,_,_,h⟩
    .exact absurd (by have:=ms.nm n;rw[h] at this;exact this) hn
    .exact h
  .intro n hn;have hmem:=mem n hn;rcases hU n _ hmem with e|⟨b,e,hmut,hh⟩
   .rw[e];trivial
   .rw[e];rcases hh with⟨m',b0,e1,e2,e3,e4,e5⟩|⟨e1,E,t,e2⟩
    .have he:ld R env env1 n=env1 m':=by rw[envR n _ e1,tP e1]
     have hm':=m1.nm m';rw[e2] at hm';rcases hm' with⟨k,len,he',_,_⟩|⟨he',_⟩
     .exact .inl ⟨k,len,he.trans he',e4 k len he',λ_=>hAm m' b0 k len e2 e3 he' ⟨n,e1⟩⟩
     .obtain⟨E,t,e⟩:=e5 he';exact .inr ⟨he.trans he',E,t,.inl e⟩
    .exact .inr ⟨by rw[envR n _ e1,CA e1],E,t,.inl e2⟩
  .intro n b k l hn hl hm he;have hmem:=mem n hn;rw[hl] at hmem;rcases hU n _ hmem with e|⟨b',e,hmut,hh⟩
   .cases e
   .rcases hh with⟨m',b0,e1,e2,e3,_⟩|⟨e1,_⟩
    .rw[envR n _ e1,tP e1] at he;exact src k (m1.own m' b0 k l e2 e3 he)
    .rw[envR n _ e1,CA e1] at he;cases he
  .intro n n' b c k l l' hn hn' hl hl' hm hm' he he';have hmem1:=mem n hn;have hmem2:=mem n' hn';rw[hl] at hmem1;rw[hl'] at hmem2;rcases hU n _ hmem1 with e|⟨_,_,_,hh1⟩
   .cases e
   rcases hU n' _ hmem2 with e|⟨_,_,_,hh2⟩
   .cases e
   rcases hh1 with⟨m',b0,e1,e2,e3,_⟩|⟨e1,_⟩
   .rw[envR n _ e1,tP e1] at he;rcases hh2 with⟨m2,c0,f1,f2,f3,_⟩|⟨f1,_⟩
    .rw[envR n' _ f1,tP f1] at he';have:=m1.inj m' m2 b0 c0 k l l' e2 f2 e3 f3 he he';subst this;exact hinj n n' m' e1 f1
    .rw[envR n' _ f1,CA f1] at he';cases he'
   .rw[envR n _ e1,CA e1] at he;cases he
 exact⟨ms.upd u,ms.ext u⟩
end
end Go.SX
