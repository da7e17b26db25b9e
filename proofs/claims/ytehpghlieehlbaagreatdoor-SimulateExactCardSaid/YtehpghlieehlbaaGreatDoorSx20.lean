/- SX, part 16: regions: from the symbolic run to the real one; the run as the kernel computes it. -/
import Derived.Test.YtehpghlieehlbaaGreatDoorSx15
import Derived.Scope
set_option linter.unusedVariables false
namespace Go.SX
def Ee(k:Nat):List Edge->Bool
 | []=>true
 | e::r=>(match Region.binds .any e with|true=>Nat.blt e.on k|false=>true)&&Ee k r
def yf:Nat->List Oper->Bool
 | _,[]=>true
 | k,o::r=>Ee k o.after.toList&&yf (k+1) r
section
variable {P:Program} {sp:d6} {ops:Array Oper} {msk:List Nat} {w0:World} {N0:fY} {K:FS->Prop} {Q:Exit->Act->World->Prop}
theorem NX{k:Nat}:∀{es:List Edge},Ee k es=true→∀ e∈es,Region.binds .any e=true->e.on<k
 | e::r,h,e',a,hb=>by
  simp only[Ee,dr] at h;rcases dj.1 a with rfl|a
  .simp_all
  .exact NX h.2 e' a hb
theorem LC:∀{l:List Oper}{k:Nat},(∀ j,l[j]? = ops[k+j]?)->yf k l=true→∀ j o,k<=j->ops[j]? = some o->j<k+l.length→∀ e∈o.after,Region.binds .any e=true->e.on<j
 | [],k,_,_,j,o,h1,_,b,_,_,_=>by simp at b;omega
 | o0::l,k,f,h,j,o,h1,c,b,e,g,i=>by
  simp only[yf,dr] at h;by_cases d:j=k
  .subst d;have h0:ops[j]? = some o0:=by simpa using (f 0).symm
   rw[h0] at c;cases c;exact NX h.1 e (by simpa using g) i
  .exact LC (λj=>by have:=f (j+1);simpa[gW,uB 1 j] using this) h.2 j o ab c (by simp at b;omega) e g i
def LP(ops:Array Oper)(k:Nat)(listed:Array Bool):Prop:=∀ j,listed[j]? = if j<ops.size then some (decide (j<k)) else none
theorem KJ(c:∀ i j,xK msk i j=true->rq ops i j)(d:yf 0 ops.toList=true):∀(l:List Oper)(k:Nat)(a:Array Bool)(log:oJ)(F:FS),(∀ j,l[j]? = ops[k+j]?)->LP ops k a →
  k+l.length=ops.size->u7 P sp ops msk K l k log F->vN P sp ops msk K l.length a log F
 | [],k,a,log,F,_,g,p,h=>by
  refine⟨?_,h⟩;cases hr:Region.ready .any ops a with
  | nil=>rfl
  | cons i r =>
   have hi:i∈Region.ready .any ops a:=by rw[hr];simp
   obtain⟨f,o,ho,_⟩:=mem_ready.1 hi;have b:=(Array.getElem?_eq_some_iff.1 ho).1;rw[qj,g i,am b] at f;simp at p f;omega
 | o::l,k,a,log,F,v,g,p,h=>by
  have f:ops[k]? = some o:=by simpa using (v 0).symm
  have b:=(Array.getElem?_eq_some_iff.1 f).1;simp only[u7] at h;unfold qR at h;rw[f] at h;obtain⟨st,r,h1,h2,h3,h4⟩:=h;have q:=LC (ops:=ops) aC d;have s:∀ j,j<k->a.getD j false=true:=λj t=>by
   rw[qj,g j,am ab];simp[t]
  refine aM0 c f h2 l.length a log F ?_ ?_ h1 h3 λw u=>?_
  .intro j oj hoj t e x y;have m:=(Array.getElem?_eq_some_iff.1 hoj).1;rw[qj,g j,am m] at t;grind
  .refine mem_ready.2 ⟨?_,o,f,λe x y=>s _ (q k o (Nat.zero_le _) f (by simpa using b) e x y)⟩;rw[qj,g k,am b];simp
  .refine KJ c d l (k+1) _ _ w (λj=>by have:=v (j+1);simpa[gW,uB 1 j] using this) ?_ (by simp at p;omega) (h4 w u);intro j;by_cases n:k=j
   .subst n;rw[Array.getElem?_setIfInBounds_self_of_lt (by
     have:=g k;rw[am b] at this;exact (Array.getElem?_eq_some_iff.1 this).1),am b]
    simp
   .rw[zS n,g j];split
    .congr 1;rw[decide_eq_decide];omega
    .rfl
theorem IK(m:iQ P sp/\N0.g=sp.gl){p:Nat->Prop}{e:bc}{q:World}
  (k:∀ f A' env' l j,K f->iz w0 N0 A' env' f l j->dh p e q A' env' j->Q .normal l j) :
  ∀(c:Nat)(b:Array Bool)(log:oJ)(F:FS)(A:Nat->Prop)(env:bc)(a:Act)(w:World),vN P sp ops msk K c b log F->iz w0 N0 A env F a w->dh p e q A env w →
   wpAny P .any ops Q c b a w
 | 0,_,_,F,A,env,a,w,h,t,x=>⟨h.1,k _ _ _ _ _ h.2 t x⟩
 | c+1,b,log,F,A,env,a,w,h,t,x=>by
  refine⟨λh0=>k _ _ _ _ _ (h.1 h0) t x,λi hi=>?_⟩;have d:=h.2 i hi;unfold qR at d;unfold wpOp;split at d
  next n=>simp only[n];exact IK m k c _ _ F A env a w d t x
  next o n=>simp only[n];obtain⟨st,r,h1,h2,_,h4⟩:=d;exact (Fm m t h1 h2).2 _ _ λf A' env' l j hF t' x'=>IK m k c _ _ f A' env' l j (h4 f hF) t' (x.trans x')
theorem Q4(f:iQ P sp/\N0.g=sp.gl){i:Nat->Prop}{b:bc}{m:World}
  (n:∀ c A' env' e d,K c->iz w0 N0 A' env' c e d->dh i b m A' env' d->Q .normal e d) :
  ∀(l:List Oper)(k:Nat)(log:oJ)(F:FS)(A:Nat->Prop)(env:bc)(a:Act)(w:World),(∀ j,l[j]? = ops[k+j]?)->u7 P sp ops msk K l k log F->iz w0 N0 A env F a w->dh i b m A env w →
   wpOps P ops Q (List.range' k l.length) a w
 | [],k,log,F,A,env,a,w,_,h,t,x=>n _ _ _ _ _ h t x
 | o::l,k,log,F,A,env,a,w,p,h,t,x=>by
  have q:ops[k]? = some o:=by simpa using (p 0).symm
  simp only[u7] at h;unfold qR at h;rw[q] at h;obtain⟨st,r,h1,h2,_,h4⟩:=h;rw[cQ,List.range'_succ,wpOps_cons];unfold wpOp;simp only[q];exact (Fm f t h1 h2).2 _ _ λc A' env' e d hF t' x' =>
   Q4 f n l (k+1) _ c A' env' e d (λj=>by have:=p (j+1);simpa[gW,uB 1 j] using this) (h4 c hF) t' (x.trans x')
theorem iz.drew{A:Nat->Prop}{env:bc}{F:FS}{a:Act}{w:World}(t:iz w0 N0 A env F a w):iz w0 N0 A env F a w.drew/\dh A env w A env w.drew:=by
 have u:mb (λ_=>False) (λ_=>False) A env F.h w A env F.h w.drew:=mb.none (cS.drew w _)
 have x:=t.m.ext u
 exact⟨⟨t.m.upd u,t.len,λi=>xu x _ _ (t.f i),t.dfr⟩,x⟩
theorem aU1(f:iQ P sp/\N0.g=sp.gl)(c:P.follows .mixedOrders=true){id:Nat}{b:Bool}{A:Nat->Prop}{env:bc}{F:FS}{a:Act}{w:World}(hd:b=true->yf 0 ops.toList=true/\msk=Cq ops.toList [])
  (t:iz w0 N0 A env F a w) (h:u7 P sp ops msk K ops.toList 0 [] F)
  (i:∀ k A' env' l e,K k->iz w0 N0 A' env' k l e->dh A env w A' env' e->Q .normal l e):(Code.region id ops b).wp P Q a w:=by
 cases b with
 | false =>
  refine wp_region ?_;have:=Q4 f i ops.toList 0 [] F A env a w aC h t dh.refl;rw[List.range_eq_range'];simpa using this
 | true =>
  obtain⟨d,hm⟩:=hd rfl;subst hm;obtain⟨t',x'⟩:=t.drew;refine wp_region_any c ?_;have:=KJ (Mp ops.toList 0 [] aC rfl (by simp[sI])) d ops.toList 0 (Array.replicate ops.size false) [] F aC (λj=>by
   rw[Array.getElem?_replicate];split <;> simp) aC h
  have h2:=IK f i _ _ _ F A env a w.drew this t' x';simpa using h2
end
structure St where
 sl:List SV
 H:List (Nat×Nm)
def fe:List (Nat×Nm)->Nat->Nm
 | [],_ => .un
 | (m,b)::r,n=>match Nat.beq n m with
  | true=>b
  | false=>fe r n
def St.fs(S:St):FS:=⟨S.sl,fe S.H⟩
theorem Gz:∀(H:List (Nat×Nm)),fe H=cT H (λ_=>.un)
 | []=>rfl
 | (m,b)::r=>by
  funext n;simp only[fe,cT,bR.set];by_cases h:n=m
  .subst h;simp
  .have:Nat.beq n m=false:=by
    cases hb:Nat.beq n m with
    | false=>rfl
    | true=>exact absurd (bJ hb) h
   rw[this,af h,Gz r]
theorem ZW(u H:List (Nat×Nm)):fe (u++H)=cT u (fe H):=by
 rw[Gz,Gz,J9]
def ao(b:Bool)(y n:Prop):Prop:=match b with
 | true=>y
 | false=>n
def pA:List Prop->Prop->Prop
 | [],q=>q
 | p::r,q=>p/\pA r q
theorem xx{l:List Prop}{q:Prop}:pA l q↔bU l/\q:=by
 induction l with
 | nil=>simp[pA,bU]
 | cons p l ih=>simp[pA,bU,ih,and_assoc]
def DK(v:SV)(k:SV->Prop):Prop:=match v with
 | .int a b=>k (.int a b)
 | .bool b=>k (.bool b)
 | .str s=>k (.str s)
 | .dsl t xs=>k (.dsl t xs)
 | .dsx t xs=>k (.dsx t xs)
 | .nilsl=>k .nilsl
 | .own n s=>k (.own n s)
 | .ptr n o=>k (.ptr n o)
 | .eptr n s i o=>k (.eptr n s i o)
 | .dptr t d o=>k (.dptr t d o)
 | .nilp=>k .nilp
 | .fn f c=>k (.fn f c)
 | .agg c=>k (.agg c)
 | .tup c=>k (.tup c)
 | .opt b v=>k (.opt b v)
 | .cv v=>k (.cv v)
 | .gl g=>k (.gl g)
 | .csl n l=>k (.csl n l)
 | .mapp n=>k (.mapp n)
 | .junk=>k .junk
theorem HW(v:SV)(k:SV->Prop):DK v k=k v:=by cases v <;> rfl
def yD:List SV->(List SV->Prop)->Prop
 | [],k=>k []
 | x::xs,k=>DK x λy=>yD xs λys=>k (y::ys)
theorem LU:∀(l:List SV)(k:List SV->Prop),yD l k=k l
 | [],k=>rfl
 | x::xs,k=>by simp only[yD,HW,LU xs]
def Bf(v:SV)(k:SV->Prop):Prop:=DK v λv=>match v with
 | .agg c=>yD c λc=>k (.agg c)
 | .tup c=>yD c λc=>k (.tup c)
 | .fn f c=>yD c λc=>k (.fn f c)
 | .opt b v=>DK v λv=>k (.opt b v)
 | v=>k v
theorem IN(v:SV)(k:SV->Prop):Bf v k=k v:=by
 unfold Bf;rw[HW];cases v <;> simp only[LU,HW]
def xW:List SV->(List SV->Prop)->Prop
 | [],k=>k []
 | x::xs,k=>Bf x λy=>xW xs λys=>k (y::ys)
theorem GJ:∀(l:List SV)(k:List SV->Prop),xW l k=k l
 | [],k=>rfl
 | x::xs,k=>by simp only[xW,IN,GJ xs]
def Ey(v:SV)(k:SV->Prop):Prop:=Bf v λv=>match v with
 | .tup c=>xW c λc=>k (.tup c)
 | .opt b v=>Bf v λv=>k (.opt b v)
 | v=>k v
theorem QR(v:SV)(k:SV->Prop):Ey v k=k v:=by
 unfold Ey;rw[IN];cases v <;> simp only[GJ,IN]
def vd:List Nat->(List Nat->Prop)->Prop
 | [],k=>k []
 | n::r,k=>vd r λr=>k (n::r)
theorem Cj:∀(l:List Nat)(k:List Nat->Prop),vd l k=k l
 | [],k=>rfl
 | n::r,k=>by simp only[vd,Cj r]
def De(b:Nm)(k:Nm->Prop):Prop:=match b with
 | .un=>k .un
 | .dead=>k .dead
 | .live b=>match b with
  | .cells E cs=>xW cs λcs=>k (.live (.cells E cs))
  | .row E t xs=>k (.live (.row E t xs))
  | .frz E t xs=>k (.live (.frz E t xs))
  | .mp kk vk l=>k (.live (.mp kk vk l))
  | .opn E t xs i cs=>xW cs λcs=>k (.live (.opn E t xs i cs))
theorem Qf(b:Nm)(k:Nm->Prop):De b k=k b:=by
 cases b with
 | live b=>cases b <;> simp only[De,GJ]
 | _=>rfl
def BF:List SV->Nat->SV->(List SV->Prop)->Prop
 | [],_,_,k=>k []
 | _::xs,0,v,k=>k (v::xs)
 | x::xs,n+1,v,k=>BF xs n v λys=>k (x::ys)
theorem QE:∀(l:List SV)(n:Nat)(v:SV)(k:List SV->Prop),BF l n v k=k (l.set n v)
 | [],n,v,k=>by simp[BF]
 | x::xs,0,v,k=>rfl
 | x::xs,n+1,v,k=>by simp only[BF,QE xs,List.set_cons_succ]
def Dh:List (Nat×Nm)->List (Nat×Nm)->(List (Nat×Nm)->Prop)->Prop
 | [],H,k=>k H
 | (n,b)::r,H,k=>Dh r H λH'=>De b λb'=>k ((n,b')::H')
theorem Se:∀(u H:List (Nat×Nm))(k:List (Nat×Nm)->Prop),Dh u H k=k (u++H)
 | [],H,k=>rfl
 | (n,b)::r,H,k=>by simp only[Dh,Se r,Qf,jS]
def qf(S:St)(dst:Option Tmp)(v:SV)(upd:List (Nat×Nm))(k:St->Prop):Prop:=match S with
 | ⟨sl,H⟩=>Dh upd H λH=>match dst with
  | some d=>Ey v λv=>BF sl d v λsl=>k ⟨sl,H⟩
  | none=>k ⟨sl,H⟩
theorem aq7(S:St)(dst:Option Tmp)(v:SV)(a:List (Nat×Nm))(k:St->Prop):qf S dst v a k=k ⟨jr S.sl dst v,a++S.H⟩:=by
 unfold qf
 simp only
 rw[Se]
 cases dst with
 | none=>rfl
 | some d=>simp only[QR,QE,jr]
def w7{X:Type}(x:X):List (Nat×(X->Nm))->List (Nat×Nm)
 | []=>[]
 | (n,f)::r=>(n,f x)::w7 x r
theorem Ns{X:Type}(x:X):∀(u:List (Nat×(X->Nm))),w7 x u=u.map λp=>(p.1,p.2 x)
 | []=>rfl
 | (n,f)::r=>by simp[w7,Ns x r]
def Hk(dst:Option Tmp)(S:St)(k:St->Prop):iP->Prop
 | .go (.det pre v upd)=>pA pre (qf S dst v upd k)
 | .go (.nd X qn pre R _ v upd)=>pA pre (qn.all λx=>R x->qf S dst (v x) (w7 x upd) k)
 | .split g (.det pre v upd)=>ao g (pA pre (qf S dst v upd k)) (qf S dst (.cv undef) [] k)
 | .split g (.nd X qn pre R _ v upd)=>ao g (pA pre (qn.all λx=>R x->qf S dst (v x) (w7 x upd) k)) (qf S dst (.cv undef) [] k)
theorem No{dst:Option Tmp}{S:St}{k:St->Prop}{o:iP}(h:Hk dst S k o):o.pre∧∀ e,kZ o dst S.fs e→∃ f,f.fs=e/\k f:=by
 have l:∀ v u,qf S dst v u k→∃ f:St,f.fs=⟨jr S.sl dst v,cT u (fe S.H)⟩/\k f:=λv u r=>by
  rw[aq7] at r;exact⟨_,by simp only[St.fs,ZW],r⟩
 have m:∀{X:Type}{j:Qn X}{R:X->Prop}{v:X->SV}{a:List (Nat×(X->Nm))},(j.all λx=>R x->qf S dst (v x) (w7 x a) k)→∀(x:X),R x →
   ∃ f:St,f.fs=⟨jr S.sl dst (v x),cT (a.map λp=>(p.1,p.2 x)) (fe S.H)⟩/\k f:=λ{X j R v a} c x n=>by
  have:=j.hall _ c x n;rw[Ns] at this;exact l _ _ this
 cases o with
 | go d =>
  cases d with
  | det pre v a =>
   obtain⟨i,c⟩:=xx.1 h;exact⟨i,by rintro e ⟨x,_,rfl⟩;exact l _ _ c⟩
  | nd X j pre R q v a =>
   obtain⟨i,c⟩:=xx.1 h;refine⟨i,?_⟩;rintro e ⟨x,n,rfl⟩;exact m c x n
 | split g d =>
  cases d with
  | det pre v a =>
   cases g with
   | true =>
    obtain⟨i,c⟩:=xx.1 (show pA pre (qf S dst v a k) from h);exact⟨λ_=>i,by rintro e (⟨_,x,_,rfl⟩|⟨b,_⟩);exact l _ _ c;cases b⟩
   | false =>
    exact⟨λb=>(by cases b),by rintro e (⟨b,_⟩|⟨_,rfl⟩);cases b;exact l (.cv undef) [] h⟩
  | nd X j pre R q v a =>
   cases g with
   | true =>
    obtain⟨i,c⟩:=xx.1 (show pA pre (j.all λx=>R x->qf S dst (v x) (w7 x a) k) from h);refine⟨λ_=>i,?_⟩;rintro e (⟨_,x,n,rfl⟩|⟨b,_⟩)
    .exact m c x n
    .cases b
   | false =>
    exact⟨λb=>(by cases b),by rintro e (⟨b,_⟩|⟨_,rfl⟩);cases b;exact l (.cv undef) [] h⟩
def F8(v:SV)(k:SV->Prop):Prop:=match v with
 | .int c e=>∀ n:Int,n=e->k (.int c n)
 | .bool e=>∀ b:Bool,b=e->k (.bool b)
 | .opt g v=>match v with
  | .int c e=>∀ n:Int,n=e->k (.opt g (.int c n))
  | .bool e=>∀ b:Bool,b=e->k (.opt g (.bool b))
  | v=>k (.opt g v)
 | v=>k v
theorem SD{v:SV}{k:SV->Prop}(h:F8 v k):k v:=by
 unfold F8 at h
 grind
def Hr:List SV->Nat->(List SV->Prop)->Prop
 | [],_,k=>k []
 | v::l,0,k=>F8 v λv=>k (v::l)
 | v::l,n+1,k=>Hr l n λl=>k (v::l)
theorem Ob:∀{l:List SV}{n:Nat}{k:List SV->Prop},Hr l n k->k l
 | [],_,k,h=>h
 | v::l,0,k,h=>SD (v:=v) h
 | v::l,n+1,k,h=>Ob (l:=l) h
def Dd(gs:List Nat)(dst:Option Tmp)(k:St->Prop)(S:St):Prop:=match dst with
 | some d=>match n6 d gs with
  | true=>match S with
   | ⟨sl,H⟩=>Hr sl d λsl=>k ⟨sl,H⟩
  | false=>k S
 | none=>k S
theorem Ou{gs:List Nat}{dst:Option Tmp}{k:St->Prop}{S:St}(h:Dd gs dst k S):k S:=by
 unfold Dd at h
 split at h
 .split at h
  .exact Ob h
  .exact h
 .exact h
def xo(all:List Oper):List Oper->List Nat
 | []=>[]
 | o::l=>match o.guard with
  | some (j,_)=>match mQ all j with
   | some oj=>match oj.dst with
    | some d=>match n6 d (xo all l) with
     | true=>xo all l
     | false=>d::xo all l
    | none=>xo all l
   | none=>xo all l
  | none=>xo all l
def Fa(P:Program)(sp:d6)(all:List Oper)(gs:List Nat)(k:St->Prop):List Oper->St->Prop
 | [],S=>k S
 | o::l,S=>match (mE P sp all o S.sl).run (fe S.H) with
  | some (st,_)=>Hk o.dst S (Dd gs o.dst (Fa P sp all gs k l)) st
  | none=>False
def JY:SV->SV->Option (List Prop)
 | .int k n,.int k' m=>match lf k k' with
  | true=>some [n=m]
  | false=>none
 | .bool b,.bool c=>some [b=c]
 | .str b,.str c=>some [b=c]
 | .dsl t xs,.dsl t' ys=>match hY t' t ys with
  | some zs=>some [xs=zs]
  | none=>none
 | .dsx t xs,.dsx t' ys=>match hY t' t ys with
  | some zs=>some [xs=zs]
  | none=>none
 | .nilsl,.nilsl=>some []
 | .nilp,.nilp=>some []
 | .own n s,.own m z=>match Nat.beq n m,Nat.beq s z with
  | true,true=>some []
  | _,_=>none
 | .ptr n s,.ptr m z=>match Nat.beq n m,Nat.beq s z with
  | true,true=>some []
  | _,_=>none
 | _,_=>none
theorem aE4{u v:SV}{ps:List Prop}(h:JY u v=some ps)(a:bU ps):u=v:=by
 unfold JY at h
 split at h
 .split at h
  next hk=>cases lM hk;cases h;rw[a.1]
  .cases h
 .cases h;rw[a.1]
 .cases h;rw[a.1]
 .split at h
  next zs hc=>obtain⟨b,c⟩:=jC hc;subst b;subst c;cases h;rw[a.1]
  .cases h
 .split at h
  next zs hc=>obtain⟨b,c⟩:=jC hc;subst b;subst c;cases h;rw[a.1]
  .cases h
 .rfl
 .rfl
 .split at h
  .simp_all
  .cases h
 .split at h
  .simp_all
  .cases h
 .cases h
def DU:List Nat->List Nat->Bool
 | [],[]=>true
 | a::l,b::m=>Nat.beq a b&&DU l m
 | _,_=>false
theorem PU:∀{l m:List Nat},DU l m=true->l=m
 | [],[],_=>rfl
 | a::l,b::m,h=>by
  simp only[DU,dr] at h;rw[bJ h.1,PU h.2]
def CF:List Nat->List Nat->Bool
 | [],_=>true
 | a::l,m=>n6 a m&&CF l m
theorem KD:∀{l m:List Nat},CF l m=true→∀ n∈l,n∈m
 | a::l,m,h,n,c=>by
  simp only[CF,dr] at h;rcases dj.1 c with rfl|c
  .exact wU.1 h.1
  .exact KD h.2 n c
def E5:iP->Option SV
 | .go (.det [] v [])=>some v
 | _=>none
theorem FO{a:iP}{v:SV}(h:E5 a=some v):a = .go (.det [] v []):=by
 unfold E5 at h
 grind
def F5:iP->Option (List (Nat×Nm))
 | .go (.det _ _ u)=>some u
 | _=>none
theorem az0{a:iP}{u:List (Nat×Nm)}(h:F5 a=some u):∃ p v,a = .go (.det p v u):=by
 unfold F5 at h
 grind
def DW(t:nw)(v:SV)(h:bR):Option (List Prop):=match t.q.run h with
 | some (st,r)=>match E5 st with
  | some v1=>match DU r t.rd with
   | true=>JY v1 v
   | false=>none
  | none=>none
 | none=>none
def CL(s t:nw):Option (List Prop):=match F5 s.st,E5 t.st with
 | some u,some v=>match CF t.rd s.wr with
  | true=>match DW t v s.old,DW t v (cT u s.old) with
   | some p,some q=>some (p++q)
   | _,_=>none
  | false=>none
 | _,_=>none
def J0(s t:nw):Option (List Prop):=match n8 s.wr t.wr&&n8 s.swr t.srd&&n8 s.swr t.swr&&n8 t.swr s.srd with
 | true=>match (match n8 s.wr t.rd with|true=>some []|false=>CL s t),(match n8 t.wr s.rd with|true=>some []|false=>CL t s) with
  | some p,some q=>some (p++q)
  | _,_=>none
 | false=>none
def Bn(msk:List Nat)(i:Nat)(t:nw):oJ->Option (List Prop)
 | []=>some []
 | (j,s)::r=>match xK msk j i||Hq s t with
  | true=>Bn msk i t r
  | false=>match J0 s t with
   | some ps=>match Bn msk i t r with
    | some qs=>some (ps++qs)
    | none=>none
   | none=>none
theorem N5{t:nw}{v:SV}{h:bR}{ps:List Prop}(e:DW t v h=some ps)(hp:bU ps):t.q.run h=some (.go (.det [] v []),t.rd):=by
 unfold DW at e
 split at e
 next st r hr=>
  split at e
  .rename_i v1 h1;split at e
   next h2=>rw[hr,FO h1,PU h2,aE4 e hp]
   .cases e
  .cases e
 .cases e
theorem KG{s t:nw}{ps:List Prop}(e:CL s t=some ps)(hp:bU ps):Gl s t:=by
 unfold CL at e
 split at e
 next u v hu hv=>
  split at e
  .rename_i hs;split at e
   .rename_i p q h1 h2;cases e;obtain⟨c1,c2⟩:=pb.1 hp;obtain⟨pre,v0,a⟩:=az0 hu;refine⟨pre,v0,u,a,KD hs,?_,?_⟩
    .rw[FO hv];exact N5 h1 c1
    .rw[FO hv];exact N5 h2 c2
   .cases e
  .cases e
 .cases e
theorem Zs{s t:nw}{ps:List Prop}(e:J0 s t=some ps)(hp:bU ps):r7 s t:=by
 unfold J0 at e
 split at e
 next b=>
  simp at b;obtain⟨⟨⟨b1,b2⟩,b3⟩,b4⟩:=b;split at e
  .rename_i p q h1 h2;cases e;obtain⟨c1,c2⟩:=pb.1 hp;refine⟨?_,pt b1,?_,pt b2,pt b3,pt b4⟩
   .split at h1
    next a=>exact .inl (pt a)
    .exact .inr (KG h1 c1)
   .split at h2
    next a=>exact .inl (pt a)
    .exact .inr (KG h2 c2)
  .cases e
 .cases e
theorem He{msk:List Nat}{i:Nat}{t:nw}:∀{l:oJ}{ps:List Prop},Bn msk i t l=some ps->bU ps->B9 msk i t l
 | [],_,_,_=>λp b=>by cases b
 | (j,s)::r,ps,e,b=>by
  simp only[Bn] at e;split at e
  .rename_i c;intro p a;rcases dj.1 a with rfl|a
   .simp at c;exact c.imp id Z2
   .exact He e b p a
  .split at e
   .rename_i p1 h1;split at e
    .rename_i q h2;cases e;obtain⟨c1,c2⟩:=pb.1 b;intro p a;rcases dj.1 a with rfl|a
     .exact .inr (Zs h1 c1)
     .exact He h2 c2 p a
    .cases e
   .cases e
def DF(P:Program)(sp:d6)(ops:Array Oper)(gs:List Nat)(msk:List Nat)(k:St->Prop):List Oper->Nat->oJ->St->Prop
 | [],_,_,S=>k S
 | o::l,i,log,S=>match (mE P sp ops.toList o S.sl).run (fe S.H) with
  | some (st,r)=>vd r λr=>vd st.wr λwr=>vd (o.looksAt ops) λlk=>match Bn msk i ⟨r,wr,lk,uX o.dst,mE P sp ops.toList o S.sl,st,tI wr (fe S.H)⟩ log with
   | some ps=>pA ps (Hk o.dst S (Dd gs o.dst (DF P sp ops gs msk k l (i+1) ((i,⟨r,wr,lk,uX o.dst,mE P sp ops.toList o S.sl,st,tI wr (fe S.H)⟩)::log))) st)
   | none=>False
  | none=>False
def JS(P:Program)(sp:d6)(nms:List Nat)(ops:Array Oper)(draw:Bool)(k:St->Prop)(S:St):Prop :=
 vd (xo ops.toList ops.toList++nms) λgs=>match draw with
 | false=>Fa P sp ops.toList gs k ops.toList S
 | true=>match yf 0 ops.toList with
  | true=>vd (Cq ops.toList []) λmsk=>DF P sp ops gs msk k ops.toList 0 [] S
  | false=>False
section
variable {P:Program} {sp:d6} {ops:Array Oper} {gs nms:List Nat} {msk:List Nat} {w0:World} {N0:fY} {Q:Exit->Act->World->Prop} {k:St->Prop}
theorem MH:∀(l:List Oper)(i:Nat)(log:oJ)(S:St),(∀ j,l[j]? = ops[i+j]?)->DF P sp ops gs msk k l i log S →
  u7 P sp ops msk (λF=>∃ a,St.fs a=F/\k a) l i log S.fs
 | [],i,log,S,_,h=>⟨S,rfl,h⟩
 | o::l,i,log,S,d,h=>by
  have h0:ops[i]? = some o:=by simpa using (d 0).symm
  simp only[DF] at h;simp only[u7];unfold qR;rw[h0];split at h
  .rename_i st r hr;simp only[Cj] at h;split at h
   next ps b=>obtain⟨c,h⟩:=xx.1 h;obtain⟨h1,h2⟩:=No h;refine⟨st,r,hr,h1,He b c,λF' hF=>?_⟩;obtain⟨a,rfl,h3⟩:=h2 F' hF;exact MH l (i+1) _ a (λj=>by have:=d (j+1);simpa[gW,uB 1 j] using this) (Ou h3)
   .exact h.elim
  .exact h.elim
theorem O8(f:iQ P sp/\N0.g=sp.gl){m:Nat->Prop}{b:bc}{n:World}
  (p:∀ d A' env' e c,k d->iz w0 N0 A' env' (St.fs d) e c->dh m b n A' env' c->Q .normal e c) :
  ∀(l:List Oper)(i:Nat)(S:St)(A:Nat->Prop)(env:bc)(a:Act)(w:World),(∀ j,l[j]? = ops[i+j]?)->Fa P sp ops.toList gs k l S->iz w0 N0 A env S.fs a w->dh m b n A env w →
   wpOps P ops Q (List.range' i l.length) a w
 | [],i,S,A,env,a,w,_,h,t,x=>p _ _ _ _ _ h t x
 | o::l,i,S,A,env,a,w,q,h,t,x=>by
  have h0:ops[i]? = some o:=by simpa using (q 0).symm
  simp only[Fa] at h;rw[cQ,List.range'_succ,wpOps_cons];unfold wpOp;simp only[h0];split at h
  next st r hr=>obtain⟨h1,h2⟩:=No h;refine (Fm f t hr h1).2 _ _ λF' A' env' e c hF t' x'=>?_;obtain⟨d,rfl,h3⟩:=h2 F' hF;exact O8 f p l (i+1) d A' env' e c (λj=>by have:=q (j+1);simpa[gW,uB 1 j] using this) (Ou h3) t' (x.trans x')
  .exact h.elim
theorem an7(f:iQ P sp/\N0.g=sp.gl)(c:P.follows .mixedOrders=true){id:Nat}{b:Bool}{A:Nat->Prop}{env:bc}{S:St}{a:Act}{w:World}
  (t:iz w0 N0 A env S.fs a w) (h:JS P sp nms ops b k S)
  (hQ:∀ i A' env' j e,k i->iz w0 N0 A' env' (St.fs i) j e->dh A env w A' env' e->Q .normal j e):(Code.region id ops b).wp P Q a w:=by
 unfold JS at h
 rw[Cj] at h
 cases b with
 | false =>
  refine wp_region ?_;have:=O8 f hQ ops.toList 0 S A env a w aC h t dh.refl;rw[List.range_eq_range'];simpa using this
 | true =>
  simp only at h;split at h
  next d=>rw[Cj] at h;refine aU1 f c (λ_=>⟨d,rfl⟩) t (MH ops.toList 0 [] S aC h) ?_;grind
  .exact h.elim
end
end Go.SX
namespace Go.SX
def PN:Nat:=1048576
def QN:Nat:=2097152
abbrev Rn:=List (Nat×Option Nat)
def bw:Rn->Nat->Option (Option Nat)
 | [],_=>none
 | (m,x)::r,n=>match Nat.beq n m with
  | true=>some x
  | false=>bw r n
def JJ:Option Nat->Option Nat->Bool
 | none,none=>true
 | some a,some b=>Nat.beq a b
 | _,_=>false
theorem an4{a b:Option Nat}(h:JJ a b=true):a=b:=by
 cases a <;> cases b <;> simp only[JJ,AL] at h
 .rfl
 .simp_all
def za(m:Nat):Rn->Bool
 | []=>false
 | (_,some k)::r=>Nat.beq m k||za m r
 | (_,none)::r=>za m r
def CQ(c:Nat)(x:Option Nat)(R:Rn):Option Rn:=match bw R c with
 | some y=>match JJ y x with
  | true=>some R
  | false=>none
 | none=>match x with
  | none=>some ((c,none)::R)
  | some m=>match za m R with
   | true=>none
   | false=>some ((c,some m)::R)
def iJ(R:Rn):Prop:=∀ c c' m,bw R c=some (some m)->bw R c'=some (some m)->c=c'
def fy(R R':Rn):Prop:=∀ n y,bw R n=some y->bw R' n=some y
theorem fy.refl{R:Rn}:fy R R:=λ_ _ h=>h
theorem fy.trans{a b c:Rn}(h:fy a b)(k:fy b c):fy a c:=λn y e=>k n y (h n y e)
theorem Dr{m:Nat}:∀{R:Rn},za m R=false→∀ c,bw R c≠some (some m)
 | [],_,c=>by simp[bw]
 | (n,some k)::r,h,c=>by
  simp only[za,Bool.or_eq_false_iff] at h;simp only[bw];split
  .intro e;cases e;rw[sP] at h;cases h.1
  .exact Dr h.2 c
 | (n,none)::r,h,c=>by
  simp only[za] at h;simp only[bw];split
  .intro e;cases e
  .exact Dr h c
theorem pe{c n:Nat}{x:Option Nat}{R:Rn}:bw ((c,x)::R) n=if n=c then some x else bw R n:=by
 simp only[bw]
 by_cases h:n=c
 .subst h;simp
 .have:Nat.beq n c=false:=by
   cases hb:Nat.beq n c with
   | false=>rfl
   | true=>exact absurd (bJ hb) h
  rw[this,af h]
theorem ME{c:Nat}{x:Option Nat}{R g:Rn}(h:CQ c x R=some g):bw g c=some x/\fy R g/\(iJ R->iJ g):=by
 unfold CQ at h
 split at h
 next y j=>
  split at h
  next d=>cases h;rw[an4 d] at j;exact⟨j,fy.refl,id⟩
  .cases h
 next hn=>
  have l:∀ y,fy R ((c,y)::R):=λy n z i=>by
   rw[pe,af (λe=>by rw[e,hn] at i;cases i)];exact i
  split at h
  .cases h;refine⟨by rw[pe,am rfl],l _,λhi a b m f d=>?_⟩;rw[pe] at f d;split at f
   .cases f
   .split at d
    .cases d
    .exact hi a b m f d
  .rename_i m;split at h
   .cases h
   .rename_i o;cases h;refine⟨by rw[pe,am rfl],l _,λhi a b k f d=>?_⟩;rw[pe] at f d;split at f
    .rename_i ea;cases f;split at d
     next eb=>rw[ea,eb]
     .exact absurd d (Dr o b)
    .split at d
     .cases d;exact absurd f (Dr o a)
     .exact hi a b k f d
def iO(R:Rn)(env:bc):bc:=λn=>match bw R n with
 | some (some m)=>env m
 | some none => .nil
 | none => .un
theorem tE{R:Rn}{env:bc}{c m:Nat}(h:bw R c=some (some m)):iO R env c=env m:=by unfold iO;rw[h]
theorem BQ{R:Rn}{env:bc}{c:Nat}(h:bw R c=some none):iO R env c = .nil:=by unfold iO;rw[h]
def pF(p:Prop)(R:Rn):Option (Rn×List Prop):=some (R,[p])
def vg(c:Nat)(x:Option Nat)(ps:List Prop)(R:Rn):Option (Rn×List Prop):=match CQ c x R with
 | some R'=>some (R',ps)
 | none=>none
def Ci(v u:SV)(R:Rn):Option (Rn×List Prop):=match v,u with
 | .junk,_=>some (R,[])
 | .int k n,.int k' m=>match lf k k' with
  | true=>pF (m=n) R
  | false=>none
 | .bool b,.bool c=>pF (c=b) R
 | .str b,.str c=>pF (c=b) R
 | .dsl t xs,.dsl t' ys=>match hY t' t ys with
  | some zs=>pF (zs=xs) R
  | none=>none
 | .dsl t xs,.dsx t' ys=>match hY t' t ys with
  | some zs=>pF (zs=xs) R
  | none=>none
 | .dsl t xs,.nilsl=>pF (xs=[]) R
 | .dsx t xs,.dsx t' ys=>match hY t' t ys with
  | some zs=>pF (zs=xs) R
  | none=>none
 | .nilsl,.nilsl=>some (R,[])
 | .own c sz,.own d sz'=>match Nat.beq sz sz' with
  | true=>vg c (some d) [] R
  | false=>none
 | .own c sz,.nilsl=>vg c none [] R
 | .ptr c o,.ptr d o'=>match Nat.beq o o' with
  | true=>vg c (some d) [] R
  | false=>none
 | .eptr c sz i o,.eptr d sz' i' o'=>match Nat.beq sz sz',Nat.beq o o' with
  | true,true=>vg c (some d) [i'=i] R
  | _,_=>none
 | .csl c k,.csl d k'=>match Nat.beq k k' with
  | true=>vg c (some d) [] R
  | false=>none
 | .mapp c,.mapp d=>vg c (some d) [] R
 | .nilp,.nilp=>some (R,[])
 | .fn f [],.fn g []=>match Nat.beq f g with
  | true=>some (R,[])
  | false=>none
 | .cv x,.cv y=>pF (y=x) R
 | _,_=>none
def yQ:List SV->List SV->Rn->Option (Rn×List Prop)
 | [],[],R=>some (R,[])
 | v::vs,u::us,R=>match Ci v u R with
  | some (R1,p)=>match yQ vs us R1 with
   | some (R2,q)=>some (R2,p++q)
   | none=>none
  | none=>none
 | _,_,_=>none
def Hd(v u:SV)(R:Rn):Option (Rn×List Prop):=match v,u with
 | .agg cs,.agg ds=>yQ cs ds R
 | .fn f cs,.fn g ds=>match Nat.beq f g with
  | true=>yQ cs ds R
  | false=>none
 | v,u=>Ci v u R
def Fy(b b0:kJ)(R:Rn):Option (Rn×List Prop):=match b,b0 with
 | .cells E cs,.cells E' ds=>match Nat.beq E E' with
  | true=>yQ cs ds R
  | false=>none
 | .row E t xs,.row E' t' ys=>match Nat.beq E E',hY t' t ys with
  | true,some zs=>pF (zs=xs) R
  | _,_=>none
 | .frz E t xs,.frz E' t' ys=>match Nat.beq E E',hY t' t ys with
  | true,some zs=>pF (zs=xs) R
  | _,_=>none
 | .mp kk vk l,.mp kk' vk' l'=>match lf kk kk',lf vk vk' with
  | true,true=>pF (l'=l) R
  | _,_=>none
 | _,_=>none
section
variable {A:Nat->Prop} {env:bc} {w:World}
theorem yL{c:Nat}{x:Option Nat}{ps d:List Prop}{R e:Rn}(h:vg c x ps R=some (e,d)):bw e c=some x/\fy R e/\(iJ R->iJ e)/\d=ps:=by
 unfold vg at h
 split at h
 next R1 h1=>cases h;obtain⟨a,b,c⟩:=ME h1;exact⟨a,b,c,rfl⟩
 .cases h
theorem Dm{p:Prop}{a:List Prop}{R b:Rn}(h:pF p R=some (b,a)):b=R/\(bU a->p):=by
 cases h;exact⟨rfl,λh=>h.1⟩
theorem Sp{v u:SV}{R i:Rn}{ps:List Prop}(h:Ci v u R=some (i,ps)) :
  fy R i/\(iJ R->iJ i)/\(bU ps→∀ b,fy i b→∀ x,aB A env w u x->aB A (iO b env) w v x):=by
 have c:∀{p:Prop},pF p R=some (i,ps)->(p→∀ b:Rn,fy i b→∀ x,aB A env w u x->aB A (iO b env) w v x) →
   fy R i/\(iJ R->iJ i)/\(bU ps→∀ b,fy i b→∀ x,aB A env w u x->aB A (iO b env) w v x):=λe f=>by
  obtain⟨rfl,hp⟩:=Dm e;exact⟨fy.refl,id,λh=>f (hp h)⟩
 have g:some (R,([]:List Prop))=some (i,ps)->(∀ b:Rn,∀ x,aB A env w u x->aB A (iO b env) w v x) →
   fy R i/\(iJ R->iJ i)/\(bU ps→∀ b,fy i b→∀ x,aB A env w u x->aB A (iO b env) w v x):=λe f=>by
  cases e;exact⟨fy.refl,id,λ_ b _=>f b⟩
 unfold Ci at h
 split at h
 .exact g h λb x _=>by simp only[aB]
 .split at h
  next hk=>cases lM hk;exact c h λe b _ x a=>by subst e;simpa only[aB] using a
  .cases h
 .exact c h λe b _ x a=>by subst e;simpa only[aB] using a
 .exact c h λe b _ x a=>by subst e;simpa only[aB] using a
 .split at h
  next zs o=>obtain⟨q,n⟩:=jC o;subst q;exact c h λe b _ x a=>by simp only at n;subst n;subst e;simpa only[aB] using a
  .cases h
 .split at h
  next zs o=>obtain⟨q,n⟩:=jC o;subst q;exact c h λe b _ x a=>by simp only at n;subst n;subst e;exact a.1
  .cases h
 .exact c h λe b _ x a=>by subst e;subst a;exact⟨aC,.inl ⟨⟨_,rfl⟩,rfl⟩⟩
 .split at h
  next zs o=>obtain⟨q,n⟩:=jC o;subst q;exact c h λe b _ x a=>by simp only at n;subst n;subst e;simpa only[aB] using a
  .cases h
 .exact g h λb x a=>by simpa only[aB] using a
 .split at h
  next d=>have d:=bJ d;subst d;obtain⟨j,k,l,rfl⟩:=yL h;refine⟨k,l,λ_ b m x a=>?_⟩;simp only[aB] at a ⊢;rw[tE (m _ _ j)];exact a
  .cases h
 .obtain⟨j,k,l,rfl⟩:=yL h;refine⟨k,l,λ_ b m x a=>?_⟩;exact .inl ⟨BQ (m _ _ j),_,a⟩
 .split at h
  next d=>have d:=bJ d;subst d;obtain⟨j,k,l,rfl⟩:=yL h;refine⟨k,l,λ_ b m x a=>?_⟩;simp only[aB] at a ⊢;rw[tE (m _ _ j)];exact a
  .cases h
 .split at h
  next d r=>have d:=bJ d;have r:=bJ r;subst d r;obtain⟨j,k,l,rfl⟩:=yL h;refine⟨k,l,λo b m x a=>?_⟩;have hi:=o.1;subst hi;simp only[aB] at a ⊢;rw[tE (m _ _ j)];exact a
  .cases h
 .split at h
  next d=>have d:=bJ d;subst d;obtain⟨j,k,l,rfl⟩:=yL h;refine⟨k,l,λ_ b m x a=>?_⟩;simp only[aB] at a ⊢;rw[tE (m _ _ j)];exact a
  .cases h
 .obtain⟨j,k,l,rfl⟩:=yL h;refine⟨k,l,λ_ b m x a=>?_⟩;simp only[aB] at a ⊢;rw[tE (m _ _ j)];exact a
 .exact g h λb x a=>by simpa only[aB] using a
 .split at h
  next d=>have d:=bJ d;subst d;exact g h λb x a=>by simp only[aB,aS] at a ⊢;exact a
  .cases h
 .exact c h λe b _ x a=>by subst e;simpa only[aB] using a
 .cases h
theorem B4:∀{vs us:List SV}{R R':Rn}{ps:List Prop},yQ vs us R=some (R',ps) →
  fy R R'∧(iJ R->iJ R')/\(bU ps→∀ Rf,fy R' Rf→∀ xs,aS A env w us xs->aS A (iO Rf env) w vs xs)
 | [],[],R,R',ps,h=>by
  cases h;exact⟨fy.refl,id,λ_ Rf _ xs hx=>by simpa only[aS] using hx⟩
 | v::vs,u::us,R,R',ps,h=>by
  simp only[yQ] at h;split at h
  .rename_i R1 p h1;split at h
   next R2 q h2=>cases h;obtain⟨a1,a2,a3⟩:=Sp (A:=A) (env:=env) (w:=w) h1;obtain⟨b1,b2,b3⟩:=B4 h2;refine⟨a1.trans b1,λh=>b2 (a2 h),λhc Rf hf xs hx=>?_⟩;obtain⟨c1,c2⟩:=pb.1 hc;simp only[aS] at hx ⊢;obtain⟨x,r,rfl,hx,hr⟩:=hx;exact⟨x,r,rfl,a3 c1 Rf (b1.trans hf) x hx,b3 c2 Rf hf r hr⟩
   .cases h
  .cases h
 | [],_::_,_,_,_,h=>by cases h
 | _::_,[],_,_,_,h=>by cases h
theorem V9{v u:SV}{R R':Rn}{ps:List Prop}(h:Hd v u R=some (R',ps)) :
  fy R R'∧(iJ R->iJ R')/\(bU ps→∀ Rf,fy R' Rf→∀ x,aB A env w u x->aB A (iO Rf env) w v x):=by
 unfold Hd at h
 split at h
 .obtain⟨a1,a2,a3⟩:=B4 (A:=A) (env:=env) (w:=w) h;refine⟨a1,a2,λhc Rf hf x hx=>?_⟩;simp only[aB] at hx ⊢;obtain⟨vs,e,hd⟩:=hx;exact⟨vs,e,a3 hc Rf hf _ hd⟩
 .split at h
  next hb=>have hb:=bJ hb;subst hb;obtain⟨a1,a2,a3⟩:=B4 (A:=A) (env:=env) (w:=w) h;refine⟨a1,a2,λhc Rf hf x hx=>?_⟩;simp only[aB] at hx ⊢;obtain⟨vs,e,hd⟩:=hx;exact⟨vs,e,a3 hc Rf hf _ hd⟩
  .cases h
 .exact Sp h
theorem aa2{b b0:kJ}{R R':Rn}{ps:List Prop}(h:Fy b b0 R=some (R',ps)) :
  fy R R'∧(iJ R->iJ R')/\b.mut=b0.mut/\(bU ps→∀ Rf,fy R' Rf→∀ k len,jK A env w k len b0->jK A (iO Rf env) w k len b) ∧
   (bU ps→∀ E t,b0 = .row E t []∨b0 = .frz E t []→∃ E t,b = .row E t []∨b = .frz E t []):=by
 unfold Fy at h
 split at h
 .split at h
  next hb=>have hb:=bJ hb;subst hb;obtain⟨a1,a2,a3⟩:=B4 (A:=A) (env:=env) (w:=w) h;refine⟨a1,a2,rfl,λhc Rf hf k len ⟨vs,e,hd⟩=>⟨vs,e,a3 hc Rf hf _ hd⟩,λ_ E t he=>?_⟩;rcases he with he|he <;> cases he
  .cases h
 .split at h
  .rename_i zs hb hc;have hb:=bJ hb;subst hb;obtain⟨et,ez⟩:=jC hc;subst et;simp only at ez;subst ez;obtain⟨rfl,hp⟩:=Dm h;refine⟨fy.refl,id,rfl,λhc Rf hf k len hb=>by rw[← hp hc];exact hb,λhc E t he=>?_⟩;have:=hp hc;subst this;rcases he with he|he <;> cases he
   exact⟨_,_,.inl rfl⟩
  .cases h
 .split at h
  .rename_i zs hb hc;have hb:=bJ hb;subst hb;obtain⟨et,ez⟩:=jC hc;subst et;simp only at ez;subst ez;obtain⟨rfl,hp⟩:=Dm h;refine⟨fy.refl,id,rfl,λhc Rf hf k len hb=>by rw[← hp hc];exact hb,λhc E t he=>?_⟩;have:=hp hc;subst this;rcases he with he|he <;> cases he
   exact⟨_,_,.inr rfl⟩
  .cases h
 .split at h
  next h1 h2=>cases lM h1;cases lM h2;obtain⟨rfl,hp⟩:=Dm h;refine⟨fy.refl,id,rfl,λhc Rf hf k len hb=>by rw[← hp hc];exact hb,λhc E t he=>?_⟩;rcases he with he|he <;> cases he
  .cases h
 .cases h
end
def yj(R:Rn)(k:Rn->Prop):Prop:=match R with
 | []=>k []
 | (n,x)::r=>yj r λr=>match x with
  | none=>k ((n,none)::r)
  | some m=>k ((n,some m)::r)
theorem DA:∀(R:Rn)(k:Rn->Prop),yj R k=k R
 | [],k=>rfl
 | (n,none)::r,k=>by simp only[yj,DA r]
 | (n,some m)::r,k=>by simp only[yj,DA r]
def Ef:List SV->List SV->Rn->(Rn->Prop)->Prop
 | [],[],R,k=>k R
 | v::vs,u::us,R,k=>match Hd v u R with
  | some (R',ps)=>yj R' λR'=>pA ps (Ef vs us R' k)
  | none=>False
 | _,_,_,_=>False
def EB(H:List (Nat×Nm))(c m:Nat)(b:kJ)(R:Rn)(k:Rn->Prop):Prop:=match fe H m with
 | .live b0=>match Fy b b0 R with
  | some (R',ps)=>yj R' λR'=>pA ps (k R')
  | none=>False
 | _=>False
def w9(H:List (Nat×Nm)):List (Nat×Nm)->Rn->(Rn->Prop)->Prop
 | [],R,k=>k R
 | (c,b)::r,R,k=>match b with
  | .live b=>match bw R c with
   | some (some m)=>EB H c m b R λR'=>w9 H r R' k
   | some none=>match b with
    | .row _ _ xs=>xs=[]/\w9 H r R k
    | _=>False
   | none=>match CQ c (some c) R with
    | some R1=>EB H c c b R1 λR'=>w9 H r R' k
    | none=>False
  | _=>False
def Aa(n:Nat):List (Nat×Nm)->Bool
 | []=>false
 | (m,_)::r=>Nat.beq n m||Aa n r
def Dk(Hh:List (Nat×Nm)):Rn->Bool
 | []=>true
 | (c,_)::r=>Aa c Hh&&Dk Hh r
def DL(R:Rn):List (Nat×Nm)->Bool
 | []=>true
 | (n,_)::r=>(Nat.blt n PN||Nat.ble QN n||(match bw R n with|some (some m)=>Nat.beq m n|_=>false))&&DL R r
def enter(S T:St):Prop:=Ef T.sl S.sl [] λR=>w9 S.H T.H R λR=>match Dk T.H R,DL R S.H with
 | true,true=>True
 | _,_=>False
theorem KV{n:Nat}:∀{H:List (Nat×Nm)},Aa n H=true↔n∈H.map (·.1)
 | []=>by simp[Aa]
 | (m,b)::r=>by
  simp only[Aa,oo,fK,dj,KV];constructor
  .rintro (h|h)
   .exact .inl (bJ h)
   .exact .inr h
  .rintro (h|h)
   .left;rw[h];exact sP _
   .exact .inr h
theorem OA{Hh:List (Nat×Nm)}:∀{R:Rn},Dk Hh R=true→∀ c,bw R c≠none->c∈Hh.map (·.1)
 | [],_,c,h=>by simp[bw] at h
 | (n,x)::r,h,c,hc=>by
  simp only[Dk,dr] at h;rw[pe] at hc;split at hc
  next e=>rw[e];exact KV.1 h.1
  .exact OA h.2 c hc
theorem Lk{R:Rn}:∀{H:List (Nat×Nm)},DL R H=true→∀ n,PN<=n->n<QN->n∈H.map (·.1)->bw R n=some (some n)
 | [],_,n,_,_,h=>by simp at h
 | (m,b)::r,h,n,hn,hn',hm=>by
  simp only[DL,dr,oo] at h;rcases dj.1 hm with e|hm
  .have e:n=m:=e;subst e;rcases h.1 with (h1|h1)|h1
   .have:=kT h1;have hn:PN<=n:=hn;omega
   .have:=kT h1;have hn:n<QN:=hn';omega
   .split at h1
    next k hk=>rw[hk,bJ h1]
    .cases h1
  .exact Lk h.2 n hn hn' hm
theorem HV{H:List (Nat×Nm)}{n:Nat}:fe H n = .un∨(n,fe H n)∈H:=by
 induction H with
 | nil=>exact .inl rfl
 | cons p r ih =>
  obtain⟨m,b⟩:=p;unfold fe;split
  next hb=>rw[bJ hb];exact .inr (fF ..)
  .rcases ih with h|h
   .exact .inl h
   .exact .inr (fw _ h)
theorem LI{H:List (Nat×Nm)}{n:Nat}(h:n ∉ H.map (·.1)):fe H n = .un:=by
 rcases HV (H:=H) (n:=n) with h1|h1
 .exact h1
 .exact absurd (qM (f:=(·.1)) h1) h
structure sU (A:Nat->Prop) (env:bc) (w:World) (A':Nat->Prop) (env':bc) (w':World):Prop where
 imm:∀ b,A b->A' b
 envp:∀ n,PN<=n->n<QN->env n ≠ .un->env' n=env n
 keep:∀ b o,A b->w'.cell? ⟨b,o,none⟩=w.cell? ⟨b,o,none⟩
 shape:∀ b s,w.shape? b=some s->w'.shape? b=some s
theorem dh.ext0{A:Nat->Prop}{env:bc}{w:World}{A':Nat->Prop}{env':bc}{w':World}(x:dh A env w A' env' w'):sU A env w A' env' w':=by
 refine⟨x.imm,λn _ _ hn=>?_,x.keep,x.shape⟩
 cases h:env n with
 | un=>exact absurd h hn
 | nil=>exact x.envn n h
 | blk b l=>exact x.envb n b l h
theorem sU.trans{A A' A'':Nat->Prop}{env env' env'':bc}{w w' w'':World}(h:sU A env w A' env' w')(k:sU A' env' w' A'' env'' w''):sU A env w A'' env'' w'' :=
 ⟨λb hb=>k.imm b (h.imm b hb),λn hn hn' e=>(k.envp n hn hn' (by rw[h.envp n hn hn' e];exact e)).trans (h.envp n hn hn' e),
  λb o hb=>(k.keep b o (h.imm b hb)).trans (h.keep b o hb),λb s e=>k.shape b s (h.shape b s e)⟩
section
variable {w0:World} {N0:fY} {A:Nat->Prop} {env:bc} {w:World} {a:Act}
theorem NQ:∀{vs us:List SV}{R:Rn}{k:Rn->Prop},Ef vs us R k →
  ∃ R',k R'∧vs.length=us.length/\fy R R'∧(iJ R->iJ R')∧∀ Rf,fy R' Rf→∀ i x,aB A env w (dU us i) x->aB A (iO Rf env) w (dU vs i) x
 | [],[],R,k,h=>⟨R,h,rfl,fy.refl,id,λRf _ i x _=>by simp[dU,mQ,aB]⟩
 | v::vs,u::us,R,k,h=>by
  simp only[Ef] at h;split at h
  .rename_i R1 ps h1;rw[DA] at h;obtain⟨hc,h2⟩:=xx.1 h;obtain⟨a1,a2,a3⟩:=V9 (A:=A) (env:=env) (w:=w) h1;obtain⟨R2,b1,b2,b3,b4,b5⟩:=NQ h2;refine⟨R2,b1,by simp[b2],a1.trans b3,λh=>b4 (a2 h),λRf hf i x hx=>?_⟩;cases i with
   | zero=>exact a3 hc Rf (b3.trans hf) x hx
   | succ i=>exact b5 Rf hf i x hx
  .exact h.elim
 | [],_::_,_,_,h=>h.elim
 | _::_,[],_,_,h=>h.elim
def vJ(A:Nat->Prop)(env:bc)(w:World)(H:List (Nat×Nm))(R:Rn)(c:Nat)(x:Nm):Prop :=
 ∃ b,x = .live b/\((∃ m b0,bw R c=some (some m)/\fe H m = .live b0/\b.mut=b0.mut/\(∀ Rf,fy R Rf→∀ k len,jK A env w k len b0->jK A (iO Rf env) w k len b) ∧
   (∀ E t,b0 = .row E t []∨b0 = .frz E t []→∃ E t,b = .row E t []∨b = .frz E t [])) ∨
  (bw R c=some none∧∃ E t,b = .row E t []))
theorem vJ.mono{H:List (Nat×Nm)}{R R':Rn}{c:Nat}{x:Nm}(h:vJ A env w H R c x)(le:fy R R'):vJ A env w H R' c x:=by
 obtain⟨b,e,⟨m,b0,h1,h2,h3,h4,h5⟩|⟨h1,h2⟩⟩:=h
 .exact⟨b,e,.inl ⟨m,b0,le _ _ h1,h2,h3,λRf hf=>h4 Rf (le.trans hf),h5⟩⟩
 .exact⟨b,e,.inr ⟨le _ _ h1,h2⟩⟩
theorem Og{H:List (Nat×Nm)}{c m:Nat}{b:kJ}{R:Rn}{k:Rn->Prop}(hl:bw R c=some (some m))(h:EB H c m b R k) :
  ∃ R',k R'∧fy R R'∧(iJ R->iJ R')/\vJ A env w H R' c (.live b):=by
 unfold EB at h
 split at h
 next b0 h0=>
  split at h
  next R' ps h1=>rw[DA] at h;obtain⟨hc,h2⟩:=xx.1 h;obtain⟨a1,a2,a3,a4,a5⟩:=aa2 (A:=A) (env:=env) (w:=w) h1;exact⟨R',h2,a1,a2,b,rfl,.inl ⟨m,b0,a1 _ _ hl,h0,a3,a4 hc,a5 hc⟩⟩
  .exact h.elim
 .exact h.elim
theorem Mn{H:List (Nat×Nm)}:∀{Hh:List (Nat×Nm)}{R:Rn}{k:Rn->Prop},w9 H Hh R k →
  ∃ R',k R'∧fy R R'∧(iJ R->iJ R')∧∀ c x,(c,x)∈Hh->vJ A env w H R' c x
 | [],R,k,h=>⟨R,h,fy.refl,id,λc x hx=>by simp at hx⟩
 | (c,b)::r,R,k,h=>by
  simp only[w9] at h;split at h
  .rename_i b;have fin:∀{R1 R2:Rn},fy R R1->(iJ R->iJ R1)->fy R1 R2->(iJ R1->iJ R2)->vJ A env w H R2 c (.live b)->w9 H r R2 k →
     ∃ R',k R'∧fy R R'∧(iJ R->iJ R')∧∀ c' x,(c',x)∈(c,Nm.live b)::r->vJ A env w H R' c' x:=by
    intro R1 R2 l1 i1 l2 i2 ok hr;obtain⟨R3,c1,c2,c3,c4⟩:=Mn hr;refine⟨R3,c1,(l1.trans l2).trans c2,λh=>c3 (i2 (i1 h)),λc' x hx=>?_⟩;rcases dj.1 hx with e|hx
    .cases e;exact ok.mono c2
    .exact c4 c' x hx
   split at h
   next m hl=>obtain⟨R2,b1,b2,b3,b4⟩:=Og (A:=A) (env:=env) (w:=w) hl h;exact fin fy.refl id b2 b3 b4 b1
   .rename_i hl;split at h
    next E t xs=>obtain⟨rfl,h⟩:=h;exact fin fy.refl id fy.refl id ⟨_,rfl,.inr ⟨hl,E,t,rfl⟩⟩ h
    .exact h.elim
   .split at h
    next R1 h1=>obtain⟨a1,a2,a3⟩:=ME h1;obtain⟨R2,b1,b2,b3,b4⟩:=Og (A:=A) (env:=env) (w:=w) a1 h;exact fin a2 a3 b2 b3 b4 b1
    .exact h.elim
  .exact h.elim
theorem Fz{S T:St}(h:enter S T)(t:iz w0 N0 A env S.fs a w):∃ env',iz w0 N0 A env' T.fs a w/\sU A env w A env' w:=by
 unfold enter at h
 obtain⟨R1,h1,hlen,l1,i1,d1⟩:=NQ (A:=A) (env:=env) (w:=w) h
 obtain⟨R,h2,l2,i2,ok⟩:=Mn (A:=A) (env:=env) (w:=w) h1
 have hinj:iJ R:=i2 (i1 (λc c' m hc=>by simp[bw] at hc))
 split at h2
 next hcov hpar=>
  have m:=t.m;have hdom:∀ n,n ∉ T.H.map (·.1)->bw R n=none:=λn hn=>by
   cases hl:bw R n with
   | none=>rfl
   | some y=>exact absurd (OA hcov n (by rw[hl];simp)) hn
  have live:∀ n b,T.fs.h n = .live b->vJ A env w S.H R n (.live b):=λn b hb=>by
   rcases HV (H:=T.H) (n:=n) with h|h
   .simp only[St.fs] at hb;rw[h] at hb;cases hb
   .simp only[St.fs] at hb;rw[hb] at h;exact ok n _ h
  have hmut:∀ n b k l,T.fs.h n = .live b->b.mut=true->iO R env n = .blk k l→∃ m b0,bw R n=some (some m)/\fe S.H m = .live b0/\b0.mut=true/\env m = .blk k l:=by
   intro n b k l hb hm he;obtain⟨b',e,⟨m',b0,e1,e2,e3,_⟩|⟨e1,_⟩⟩:=live n b hb
   .cases e;unfold iO at he;rw[e1] at he;exact⟨m',b0,e1,e2,by rw[← e3];exact hm,he⟩
   .unfold iO at he;rw[e1] at he;cases he
  refine⟨iO R env,⟨⟨m.os,m.tape,m.output,m.size,m.fr,m.Alt,?_,?_,?_,m.fresh,m.gl⟩,by rw[show T.fs.sl.length=S.fs.sl.length from hlen];exact t.len,λi=>d1 R l2 i _ (t.f i),t.dfr⟩,⟨λ_ h=>h,?_,λ_ _ _=>rfl,λ_ _ h=>h⟩⟩
  .intro n;cases hn:T.fs.h n with
   | dead=>trivial
   | un =>
    show iO R env n = .un;have:n ∉ T.H.map (·.1):=λhmem=>by
     rcases HV (H:=T.H) (n:=n) with h|h
     .obtain⟨⟨n',x⟩,hx,rfl⟩:=List.mem_map.1 hmem;have:∀(H:List (Nat×Nm)),(∀ c x,(c,x)∈H→∃ b,x = .live b)→∀ n,n∈H.map (·.1)→∃ b,fe H n = .live b:=by
       intro H
       induction H with
       | nil=>intro _ n hn;simp at hn
       | cons p H ih =>
        obtain⟨q,y⟩:=p;intro hall n hn;simp only[fe];split
        .exact hall q y (fF ..)
        .rename_i hne;refine ih (λc x hx=>hall c x (fw _ hx)) n ?_;rcases dj.1 hn with e|hn
         .simp only at e;subst e;rw[sP] at hne;cases hne
         .exact hn
      obtain⟨b,hb⟩:=this T.H (λc x hx=>let ⟨b,e,_⟩:=ok c x hx;⟨b,e⟩) n' hmem;simp only[St.fs] at hn;rw[hb] at hn;cases hn
     .simp only[St.fs] at hn;rw[hn] at h;obtain⟨b,e,_⟩:=ok n _ h;cases e
    unfold iO;rw[hdom n this]
   | live b =>
    obtain⟨b',e,⟨m',b0,e1,e2,e3,e4,e5⟩|⟨e1,E,tt,e2⟩⟩:=live n b hn
    .cases e;have he:iO R env n=env m':=by unfold iO;rw[e1]
     have hm:=m.nm m';simp only[St.fs,e2] at hm;rcases hm with⟨k,len,he',hb,hA⟩|⟨he',E,tt,hb⟩
     .exact .inl ⟨k,len,he.trans he',e4 R fy.refl k len hb,λhmm=>hA (by rw[← e3];exact hmm)⟩
     .exact .inr ⟨he.trans he',e5 E tt hb⟩
    .cases e;exact .inr ⟨by unfold iO;rw[e1],E,tt,.inl e2⟩
  .intro n b k l hb hm he;obtain⟨m',b0,e1,e2,e3,e4⟩   := hmut n b k l hb hm he;exact m.own m' b0 k l e2 e3 e4
  .intro n n' b c k l l' hb hc hbm hcm he he';obtain⟨m1,b1,e1,e2,e3,e4⟩   := hmut n b k l hb hbm he;obtain⟨m2,b2,f1,f2,f3,f4⟩:=hmut n' c k l' hc hcm he';have:=m.inj m1 m2 b1 b2 k l l' e2 f2 e3 f3 e4 f4;subst this;exact hinj n n' m1 e1 f1
  .intro n hn hn' hne;have:n∈S.H.map (·.1):=by
    refine gC λhno=>hne ?_;have:=m.nm n;simp only[St.fs,LI hno] at this;exact this
   have:=Lk hpar n hn hn' this;unfold iO;rw[this]
 .exact h2.elim
end
end Go.SX
namespace Go.SX
inductive Ex where
 | normal
 | exit (id:Nat)
 | ret
def Ex.to:Ex->Exit
 | .normal => .normal
 | .exit id => .exit id
 | .ret => .ret
structure Ge:Type 1 where
 ι:Type
 μ:ι->Nat:=λ_=>0
 inv:ι->Prop
 qn:Qn ι := .plain ι
 keep:List Nat:=[]
 slots:ι->List (Nat×SV):=λ_=>[]
 keepN:List Nat:=[]
 names:ι->List (Nat×Nm):=λ_=>[]
def Kc(n:Nat):List (Nat×SV)->SV
 | [] => .junk
 | (m,v)::r=>match Nat.beq n m with
  | true=>v
  | false=>Kc n r
def PF(keep:List Nat)(l:List (Nat×SV)):Nat->List SV->List SV
 | _,[]=>[]
 | n,v::r=>(match n6 n keep with|true=>v|false=>Kc n l)::PF keep l (n+1) r
def Rm(H:List (Nat×Nm))(r:List (Nat×Nm)):List Nat->List (Nat×Nm)
 | []=>r
 | n::l=>(n,fe H n)::Rm H r l
def zo(S:St)(an:Ge)(i:an.ι):St:=⟨PF an.keep (an.slots i) 0 S.sl,Rm S.H (an.names i) an.keepN⟩
def DH:List SV->(List SV->Prop)->Prop
 | [],k=>k []
 | x::xs,k=>Ey x λy=>DH xs λys=>k (y::ys)
theorem Lc:∀(l:List SV)(k:List SV->Prop),DH l k=k l
 | [],k=>rfl
 | x::xs,k=>by simp only[DH,QR,Lc xs]
def Ep:List (Nat×Nm)->(List (Nat×Nm)->Prop)->Prop
 | [],k=>k []
 | (n,b)::r,k=>De b λb=>Ep r λr=>k ((n,b)::r)
theorem QT:∀(l:List (Nat×Nm))(k:List (Nat×Nm)->Prop),Ep l k=k l
 | [],k=>rfl
 | (n,b)::r,k=>by simp only[Ep,Qf,QT r]
def ur(S:St)(k:St->Prop):Prop:=match S with
 | ⟨sl,H⟩=>DH sl λsl=>Ep H λH=>k ⟨sl,H⟩
theorem ID(S:St)(k:St->Prop):ur S k=k S:=by cases S;simp only[ur,Lc,QT]
def vV:Code->Nat
 | .region id _ _=>id
 | .seq a _=>vV a
 | .block _ a=>vV a
 | .loop a=>vV a
 | .scope a=>vV a
 | .cond _ a _=>vV a
 | _=>0
structure bS:Type 1 where
 loops:Nat->Option (St->Ge):=λ_=>none
 cuts:Nat->Option (St->Ge):=λ_=>none
 nms:List Nat:=[]
 unr:Nat->Nat:=λ_=>0
def Ts:SV->Int
 | .int _ n=>n
 | _=>0
def svB:SV->Bool
 | .bool b=>b
 | _=>false
def Xv(t:CT):SV->List t.D
 | .dsl t' xs=>match hY t' t xs with
  | some ys=>ys
  | none=>[]
 | .dsx t' xs=>match hY t' t xs with
  | some ys=>ys
  | none=>[]
 | _=>[]
def Q5(t:CT)(cs:List SV):t.D:=match (jw t cs).run (λ_=>.un) with
 | some ((d,_,_),_)=>d
 | none=>t.dflt
def St.i(S:St)(n:Nat):Int:=Ts (dU S.sl n)
def St.b(S:St)(n:Nat):Bool:=svB (dU S.sl n)
def St.l(S:St)(t:CT)(n:Nat):List t.D:=Xv t (dU S.sl n)
def St.a(S:St)(t:CT)(n:Nat):t.D:=match dU S.sl n with
 | .agg cs=>Q5 t cs
 | _=>t.dflt
def St.r(S:St)(t:CT)(n:Nat):List t.D:=match fe S.H n with
 | .live (.row _ t' xs)=>match hY t' t xs with
  | some ys=>ys
  | none=>[]
 | .live (.frz _ t' xs)=>match hY t' t xs with
  | some ys=>ys
  | none=>[]
 | _=>[]
def St.c(S:St)(t:CT)(n:Nat):t.D:=match fe S.H n with
 | .live (.cells _ cs)=>Q5 t cs
 | _=>t.dflt
def St.o(S:St)(t:CT)(n:Nat):List t.D:=match dU S.sl n with
 | .own m _=>S.r t m
 | _=>[]
def St.p(S:St)(t:CT)(n:Nat):t.D:=match dU S.sl n with
 | .ptr m _=>S.c t m
 | _=>t.dflt
def R9:SV->Option Bool
 | .bool b=>some b
 | _=>none
def HC(id:Nat)(K:Ex->St->Prop):Ex->St->Prop:=λe S=>match e with
 | .exit i=>match Nat.beq i id with
  | true=>K .normal S
  | false=>K (.exit i) S
 | .normal=>K .normal S
 | .ret=>K .ret S
def Cy(k:St->Prop)(K:Ex->St->Prop):Ex->St->Prop:=λe S=>match e with
 | .normal=>k S
 | .exit i=>K (.exit i) S
 | .ret=>K .ret S
def Ff(body:(Ex->St->Prop)->St->Prop):Nat->(Ex->St->Prop)->St->Prop
 | 0,_,_=>False
 | n+1,K,S=>body (Cy (Ff body n K) K) S
def sx(P:Program)(sp:d6)(an:bS):Code->(Ex->St->Prop)->St->Prop
 | .skip,K,S=>K .normal S
 | .region _ ops draw,K,S=>JS P sp an.nms ops draw (K .normal) S
 | .seq a b,K,S=>match an.cuts (vV b) with
  | none=>sx P sp an a (Cy (sx P sp an b K) K) S
  | some c=>sx P sp an a (Cy (λS'=>(c S).qn.ex λi=>(c S).inv i/\enter S' (zo S (c S) i)) K) S/\(c S).qn.all λi=>(c S).inv i->ur (zo S (c S) i) (sx P sp an b K)
 | .cond c a b,K,S=>match R9 (aX (dU S.sl) c) with
  | some t=>ao t (sx P sp an a K S) (sx P sp an b K S)
  | none=>False
 | .block id a,K,S=>sx P sp an a (HC id K) S
 | .loop a,K,S=>match an.unr (vV a) with
  | n+1=>Ff (sx P sp an a) (n+1) K S
  | 0=>match an.loops (vV a) with
   | none=>False
   | some c=>((c S).qn.ex λi=>(c S).inv i/\enter S (zo S (c S) i))/\(c S).qn.all λi=>(c S).inv i->ur (zo S (c S) i) (sx P sp an a (Cy (λS'=>(c S).qn.ex λj=>(c S).inv j/\(c S).μ j<(c S).μ i/\enter S' (zo S (c S) j)) K))
 | .exit id,K,S=>K (.exit id) S
 | .scope a,K,S=>sx P sp an a K S
 | .ret,K,S=>K .ret S
 | _,_,_=>False
section
variable {P:Program} {sp:d6} {an:bS} {w0:World} {N0:fY}
theorem Vy(hs:iQ P sp/\N0.g=sp.gl)(qk:P.follows .mixedOrders=true):∀(c:Code)(K:Ex->St->Prop)(S:St)(Q:Exit->Act->World->Prop)(A:Nat->Prop)(env:bc)(a:Act)(w:World),
  sx P sp an c K S->iz w0 N0 A env S.fs a w →
  (∀ e S' A' env' a' w',K e S'→iz w0 N0 A' env' (St.fs S') a' w'→sU A env w A' env' w'→Q e.to a' w')->c.wp P Q a w:=by
 have refl0:∀{A:Nat->Prop}{env:bc}{w:World},sU A env w A env w:=dh.refl.ext0
 intro c
 induction c with
 | skip=>intro K S Q A env a w h t hQ;exact wp_skip (hQ .normal S A env a w h t refl0)
 | region id ops draw =>
  intro K S Q A env a w h t hQ;exact an7 hs qk t h λS' A' env' a' w' hk t' x=>hQ .normal S' A' env' a' w' hk t' x.ext0
 | seq x y ihx ihy =>
  intro K S Q A env a w h t hQ;simp only[sx] at h;split at h
  .refine wp_seq (ihx _ S _ A env a w h t ?_);intro e S' A' env' a' w' hk t' x';cases e with
   | normal=>exact ihy K S' Q A' env' a' w' hk t' λe S2 A2 env2 a2 w2 hk2 t2 x2=>hQ e S2 A2 env2 a2 w2 hk2 t2 (x'.trans x2)
   | exit i=>exact hQ (.exit i) S' A' env' a' w' hk t' x'
   | ret=>exact hQ .ret S' A' env' a' w' hk t' x'
  .rename_i c hc;refine wp_seq (ihx _ S _ A env a w h.1 t ?_);intro e S' A' env' a' w' hk t' x';cases e with
   | normal =>
    obtain⟨i,hi,he⟩:=(c S).qn.hex _ hk;obtain⟨env2,t2,x2⟩:=Fz he t';have h2:=(c S).qn.hall _ h.2 i hi;rw[ID] at h2;exact ihy K _ Q A' env2 a' w' h2 t2 λe S3 A3 env3 a3 w3 hk3 t3 x3=>hQ e S3 A3 env3 a3 w3 hk3 t3 ((x'.trans x2).trans x3)
   | exit i=>exact hQ (.exit i) S' A' env' a' w' hk t' x'
   | ret=>exact hQ .ret S' A' env' a' w' hk t' x'
 | cond c x y ihx ihy =>
  intro K S Q A env a w h t hQ;simp only[sx] at h;split at h
  .rename_i b hb;have hd:=cY t.f c;have hv:aX (dU S.sl) c = .bool b:=by
    unfold R9 at hb;split at hb
    next b' he=>cases hb;exact he
    .cases hb
   simp only[St.fs] at hd;rw[hv] at hd;simp only[aB] at hd;cases b with
   | true=>exact wp_cond_true hd (ihx K S Q A env a w h t hQ)
   | false=>exact wp_cond_false hd (ihy K S Q A env a w h t hQ)
  .exact h.elim
 | block id x ih =>
  intro K S Q A env a w h t hQ;refine wp_block (ih _ S _ A env a w h t ?_);intro e S' A' env' a' w' hk t' x';cases e with
  | normal=>exact hQ .normal S' A' env' a' w' hk t' x'
  | exit i =>
   simp only[Ex.to,Exit.inBlock];by_cases hi:i=id
   .subst hi;simp only[HC,sP] at hk;rw[am rfl];exact hQ .normal S' A' env' a' w' hk t' x'
   .have hb:Nat.beq i id=false:=by
     cases hb:Nat.beq i id with
     | false=>rfl
     | true=>exact absurd (bJ hb) hi
    simp only[HC,hb] at hk;rw[af hi];exact hQ (.exit i) S' A' env' a' w' hk t' x'
  | ret=>exact hQ .ret S' A' env' a' w' hk t' x'
 | loop x ih =>
  intro K S Q A env a w h t hQ;simp only[sx] at h;split at h
  .rename_i n0 _;refine wp_loop_ghost (λn a' w'=>∃ S' A' env',Ff (sx P sp an x) n K S'∧iz w0 N0 A' env' S'.fs a' w'∧sU A env w A' env' w') (n0+1) ⟨S,A,env,h,t,refl0⟩ ?_;rintro n a1 w1 ⟨S1,A1,env1,h1,t1,x1⟩;cases n with
   | zero=>exact h1.elim
   | succ n =>
    refine ih _ _ _ A1 env1 a1 w1 h1 t1 ?_;intro e S' A' env' a' w' hk t' x';cases e with
    | normal=>exact⟨n,Nat.lt_succ_self n,S',A',env',hk,t',x1.trans x'⟩
    | exit i=>exact hQ (.exit i) S' A' env' a' w' hk t' (x1.trans x')
    | ret=>exact hQ .ret S' A' env' a' w' hk t' (x1.trans x')
  split at h
  .exact h.elim
  .rename_i c hc;obtain⟨hex,hr⟩:=h;obtain⟨i0,hi0,he0⟩:=(c S).qn.hex _ hex;obtain⟨env0,t0,x0⟩:=Fz he0 t;refine wp_loop_ghost (λn a' w'=>∃ i A' env',(c S).inv i/\n=(c S).μ i/\iz w0 N0 A' env' (zo S (c S) i).fs a' w'∧sU A env w A' env' w') ((c S).μ i0) ⟨i0,A,env0,hi0,rfl,t0,x0⟩ ?_;rintro n a1 w1 ⟨i,A1,env1,hi,rfl,t1,x1⟩;have h1:=(c S).qn.hall _ hr i hi;rw[ID] at h1;refine ih _ _ _ A1 env1 a1 w1 h1 t1 ?_;intro e S' A' env' a' w' hk t' x';cases e with
   | normal =>
    obtain⟨j,hj,hμ,he⟩:=(c S).qn.hex _ hk;obtain⟨env2,t2,x2⟩:=Fz he t';exact⟨(c S).μ j,hμ,j,A',env2,hj,rfl,t2,(x1.trans x').trans x2⟩
   | exit i=>exact hQ (.exit i) S' A' env' a' w' hk t' (x1.trans x')
   | ret=>exact hQ .ret S' A' env' a' w' hk t' (x1.trans x')
 | exit id=>intro K S Q A env a w h t hQ;exact wp_exit (hQ (.exit id) S A env a w h t refl0)
 | scope x ih =>
  intro K S Q A env a w h t hQ;refine wp_scope_straight (ih K S _ A env a w h t ?_);intro e S' A' env' a' w' hk t' x';cases e with
  | normal=>exact hQ .normal S' A' env' a' w' hk t' x'
  | exit i=>exact hQ (.exit i) S' A' env' a' w' hk t' x'
  | ret=>exact hQ .ret S' A' env' a' w' hk t' x'
 | ret=>intro K S Q A env a w h t hQ;exact wp_ret (hQ .ret S A env a w h t refl0)
 | rangeFunc f ps as b _ _=>intro K S Q A env a w h t hQ;exact h.elim
 | label l=>intro K S Q A env a w h t hQ;exact h.elim
 | goto l=>intro K S Q A env a w h t hQ;exact h.elim
 | refuse s=>intro K S Q A env a w h t hQ;exact h.elim
end
end Go.SX
namespace Go.SX
inductive OT where
 | dat (t:CT)
 | row (E:TypeId) (t:CT)
 | rowg (E:TypeId) (t:CT)
 | fnc (f:FuncId)
 | ali
 | ref (E:TypeId) (o:OT)
 | pair (a b:OT)
@[reducible] def OT.D:OT->Type
 | .dat t=>t.D
 | .row _ t=>List t.D
 | .rowg _ t=>List t.D
 | .fnc _=>Unit
 | .ali=>Unit
 | .ref _ o=>o.D
 | .pair a b=>a.D×b.D
@[reducible] def OT.X:OT->Type
 | .dat t=>t.D
 | .row _ t=>List t.D
 | .rowg _ _=>Unit
 | .fnc _=>Unit
 | .ali=>Unit
 | .ref _ o=>o.X
 | .pair a b=>a.X×b.X
def OT.wf:(o:OT)->o.D->Prop
 | .dat t,d=>t.wf d
 | .row _ t,d=>d.length<=maxLen∧∀ x∈d,t.wf x
 | .rowg _ t,d=>d.length<=maxLen∧∀ x∈d,t.wf x
 | .fnc _,_=>True
 | .ali,_=>True
 | .ref _ o,d=>o.wf d
 | .pair a b,d=>a.wf d.1/\b.wf d.2
def OT.nb:OT->Nat
 | .ref _ o=>o.nb+1
 | .pair a b=>a.nb+b.nb
 | _=>0
def OT.nc:OT->Nat
 | .row _ _=>1
 | .rowg _ _=>1
 | .ref _ o=>o.nc
 | .pair a b=>a.nc+b.nc
 | _=>0
def OT.nr:OT->Nat
 | .row _ _=>1
 | .ref _ o=>o.nr
 | .pair a b=>a.nr+b.nr
 | _=>0
instance:Coe CT OT:=⟨OT.dat⟩
inductive PK where
 | val (t:CT)
 | agg (t:CT)
 | box (E:TypeId) (o:OT)
 | row (E:TypeId) (t:CT)
 | own (E:TypeId) (t:CT)
 | fn (f:FuncId) (k:Nat)
 | nils
 | ago (o:OT)
@[reducible] def PK.D:PK->Type
 | .val t=>t.D
 | .agg t=>t.D
 | .box _ o=>o.D
 | .row _ t=>List t.D
 | .own _ t=>List t.D
 | .fn _ _=>Unit
 | .nils=>Unit
 | .ago o=>o.D
@[reducible] def bu:List PK->Type
 | []=>Unit
 | p::r=>p.D×bu r
def PK.wf:(p:PK)->p.D->Prop
 | .val t,d=>t.wf d
 | .agg t,d=>t.wf d
 | .box _ o,d=>o.wf d
 | .row _ t,d=>d.length<=maxLen∧∀ x∈d,t.wf x
 | .own _ t,d=>d.length<=maxLen∧∀ x∈d,t.wf x
 | .fn _ _,_=>True
 | .nils,_=>True
 | .ago o,d=>o.wf d
def xc:(ps:List PK)->bu ps->Prop
 | [],_=>True
 | p::r,d=>p.wf d.1/\xc r d.2
def Bu:(t:CT)->(t.D->Prop)->Prop
 | .pair a b,k=>Bu a λx=>Bu b λy=>k (x,y)
 | .int _,k=>∀ x:Int,k x
 | .bool,k=>∀ x:Bool,k x
 | .str,k=>∀ x:ByteArray,k x
 | .sl t,k=>∀ x:List t.D,k x
theorem JW:∀{t:CT}{k:t.D->Prop},Bu t k↔∀ d,k d
 | .pair a b,k=>by
  simp only[Bu,JW (t:=a),JW];simp_all
 | .int _,k=>lW
 | .bool,k=>lW
 | .str,k=>lW
 | .sl t,k=>lW
def xq(t:CT)(k:t.D->Prop):Prop:=match Nat.ble t.size 6 with
 | true=>Bu t k
 | false=>∀ d:t.D,k d
theorem DJ{t:CT}{k:t.D->Prop}:xq t k↔∀ d,k d:=by
 unfold xq
 split
 .exact JW
 .exact lW
def xl:(o:OT)->(o.D->Prop)->Prop
 | .dat t,k=>xq t k
 | .row _ t,k=>∀ x:List t.D,k x
 | .rowg _ t,k=>∀ x:List t.D,k x
 | .fnc _,k=>k ()
 | .ali,k=>k ()
 | .ref _ o,k=>xl o k
 | .pair a b,k=>xl a λx=>xl b λy=>k (x,y)
theorem CV:∀{o:OT}{k:o.D->Prop},xl o k↔∀ d,k d
 | .dat t,k=>DJ
 | .row _ t,k=>lW
 | .rowg _ t,k=>lW
 | .fnc _,k=>⟨λh _=>h,λh=>h ()⟩
 | .ali,k=>⟨λh _=>h,λh=>h ()⟩
 | .ref _ o,k=>CV (o:=o)
 | .pair a b,k=>by
  simp only[xl,CV,CV];simp_all
def PK.all:(p:PK)->(p.D->Prop)->Prop
 | .val t,k=>xq t k
 | .agg t,k=>xq t k
 | .box _ o,k=>xl o k
 | .row _ t,k=>∀ x:List t.D,k x
 | .own _ t,k=>∀ x:List t.D,k x
 | .fn _ _,k=>k ()
 | .nils,k=>k ()
 | .ago o,k=>xl o k
theorem PK.all_iff{p:PK}{k:p.D->Prop}:p.all k↔∀ d,k d:=by
 cases p <;> simp only[PK.all,DJ,CV] <;> exact⟨λh _=>h,λh=>h ()⟩
def wM:(ps:List PK)->(bu ps->Prop)->Prop
 | [],k=>k ()
 | p::r,k=>p.all λx=>wM r λy=>k (x,y)
theorem HQ:∀{ps:List PK}{k:bu ps->Prop},wM ps k↔∀ d,k d
 | [],k=>⟨λh d=>h,λh=>h ()⟩
 | p::r,k=>by
  simp only[wM,PK.all_iff,HQ (ps:=r)];simp_all
def AI(E:TypeId)(t:CT):List SV->Q (List t.D×List SV×Option Nat)
 | .own n sz::r => .ask n fun
  | .live (.row E' t' xs)=>match Nat.beq E E',Nat.beq sz t.size,hY t' t xs with
   | true,true,some ys => .ret (ys,r,some n)
   | _,_,_ => .fail
  | _ => .fail
 | .nilsl::r => .ret ([],r,none)
 | _ => .fail
def rx(a0:Option Nat):(o:OT)->List SV->Q (o.D×List SV×List (Nat×Nm)×List Nat×List (Option Nat))
 | .dat t,cs=>(jw t cs).bind λp=>.ret (p.1,p.2.1,p.2.2,[],[])
 | .row E t,cs=>(AI E t cs).bind λp=>.ret (p.1,p.2.1,[],[],[p.2.2])
 | .rowg E t,cs=>(AI E t cs).bind λp=>.ret (p.1,p.2.1,[],[],[p.2.2])
 | .fnc f,.fn g []::r=>match Nat.beq f g with
  | true => .ret ((),r,[],[],[])
  | false => .fail
 | .fnc _,_ => .fail
 | .ali,.ptr n 0::r=>match a0 with
  | some m=>match Nat.beq n m with
   | true => .ret ((),r,[],[],[])
   | false => .fail
  | none => .fail
 | .ali,_ => .fail
 | .ref E o,.ptr n 0::r => .ask n fun
  | .live (.cells E' cs)=>match Nat.beq E E' with
   | true=>(rx a0 o cs).bind λp=>match p.2.1 with
    | [] => .ret (p.1,r,p.2.2.1,n::p.2.2.2.1,p.2.2.2.2)
    | _ => .fail
   | false => .fail
  | _ => .fail
 | .ref _ _,_ => .fail
 | .pair a b,cs=>(rx a0 a cs).bind λp=>(rx a0 b p.2.1).bind λq=>.ret ((p.1,q.1),q.2.1,p.2.2.1++q.2.2.1,p.2.2.2.1++q.2.2.2.1,p.2.2.2.2++q.2.2.2.2)
def vR:(o:OT)->o.D->Nat->Nat->List SV
 | .dat t,d,_,_=>cR t d
 | .row _ t,_,_,i=>[.own (QN+i) t.size]
 | .rowg _ t,_,_,i=>[.own (QN+i) t.size]
 | .fnc f,_,_,_=>[.fn f []]
 | .ali,_,_,_=>[.ptr PN 0]
 | .ref _ _,_,j,_=>[.ptr (PN+j) 0]
 | .pair a b,d,j,i=>vR a d.1 j i++vR b d.2 (j+a.nb) (i+a.nc)
def vX:(o:OT)->o.D->Nat->Nat->List (Nat×Nm)
 | .dat _,_,_,_=>[]
 | .row _ _,_,_,_=>[]
 | .rowg _ _,_,_,_=>[]
 | .fnc _,_,_,_=>[]
 | .ali,_,_,_=>[]
 | .ref E o,d,j,i=>(PN+j,.live (.cells E (vR o d (j+1) i)))::vX o d (j+1) i
 | .pair a b,d,j,i=>vX a d.1 j i++vX b d.2 (j+a.nb) (i+a.nc)
def zI:(o:OT)->o.D->Nat->List (Nat×Nm)
 | .dat _,_,_=>[]
 | .row E t,xs,i=>[(QN+i,.live (.row E t xs))]
 | .rowg E t,xs,i=>[(QN+i,.live (.row E t xs))]
 | .fnc _,_,_=>[]
 | .ali,_,_=>[]
 | .ref _ o,d,i=>zI o d i
 | .pair a b,d,i=>zI a d.1 i++zI b d.2 (i+a.nc)
def yk(t:CT)(d:t.D):SV:=match cR t d with
 | [s]=>s
 | _ => .junk
def Ao:Option Nat->Nat->Option Nat
 | some m,_=>some m
 | none,n=>some n
def gV:Option Nat->(ps:List PK)->List SV->Q (bu ps×List (Nat×Nm)×List Nat×List (Option Nat))
 | _,[],[] => .ret ((),[],[],[])
 | a0,.val t::ps,v::vs=>(jw t [v]).bind λp=>match p.2.1 with
  | []=>(gV a0 ps vs).bind λq=>.ret ((p.1,q.1),p.2.2++q.2.1,q.2.2)
  | _ => .fail
 | a0,.agg t::ps,.agg cs::vs=>(jw t cs).bind λp=>match p.2.1 with
  | []=>(gV a0 ps vs).bind λq=>.ret ((p.1,q.1),p.2.2++q.2.1,q.2.2)
  | _ => .fail
 | a0,.nils::ps,.nilsl::vs=>(gV a0 ps vs).bind λq=>.ret (((),q.1),q.2)
 | a0,.fn f k::ps,.fn g cs::vs=>match Nat.beq f g,Nat.beq cs.length k with
  | true,true=>(gV a0 ps (cs++vs)).bind λq=>.ret (((),q.1),q.2)
  | _,_ => .fail
 | a0,.box E o::ps,.ptr n 0::vs => .ask n fun
  | .live (.cells E' cs)=>match Nat.beq E E' with
   | true=>(rx a0 o cs).bind λp=>match p.2.1 with
    | []=>(gV (Ao a0 n) ps vs).bind λq=>.ret ((p.1,q.1),p.2.2.1++q.2.1,n::(p.2.2.2.1++q.2.2.1),p.2.2.2.2++q.2.2.2)
    | _ => .fail
   | false => .fail
  | _ => .fail
 | a0,.row E t::ps,.own n sz::vs => .ask n fun
  | .live (.row E' t' xs)=>match Nat.beq E E',Nat.beq sz t.size,hY t' t xs with
   | true,true,some ys=>(gV (Ao a0 n) ps vs).bind λq=>.ret ((ys,q.1),q.2.1,n::q.2.2.1,q.2.2.2)
   | _,_,_ => .fail
  | _ => .fail
 | a0,.own E t::ps,v::vs=>(AI E t [v]).bind λp=>(gV a0 ps vs).bind λq=>.ret ((p.1,q.1),q.2.1,q.2.2.1,p.2.2::q.2.2.2)
 | a0,.ago o::ps,.agg cs::vs=>match Nat.beq o.nb 0 with
  | true=>(rx a0 o cs).bind λp=>match p.2.1 with
   | []=>(gV a0 ps vs).bind λq=>.ret ((p.1,q.1),p.2.2.1++q.2.1,q.2.2.1,p.2.2.2.2++q.2.2.2)
   | _ => .fail
  | false => .fail
 | _,_,_ => .fail
def iM:(ps:List PK)->bu ps->Nat->Nat->List SV
 | [],_,_,_=>[]
 | .val t::ps,d,j,i=>yk t d.1::iM ps d.2 j i
 | .agg t::ps,d,j,i => .agg (cR t d.1)::iM ps d.2 j i
 | .box E o::ps,d,j,i => .ptr (PN+j) 0::iM ps d.2 (j+1+o.nb) (i+o.nc)
 | .row E t::ps,d,j,i => .own (PN+j) t.size::iM ps d.2 (j+1) i
 | .own E t::ps,d,j,i => .own (QN+i) t.size::iM ps d.2 j (i+1)
 | .fn f k::ps,d,j,i => .fn f ((iM ps d.2 j i).take k)::(iM ps d.2 j i).drop k
 | .nils::ps,d,j,i => .nilsl::iM ps d.2 j i
 | .ago o::ps,d,j,i => .agg (vR o d.1 j i)::iM ps d.2 j (i+o.nc)
def pc:(ps:List PK)->bu ps->Nat->Nat->List (Nat×Nm)
 | [],_,_,_=>[]
 | .val t::ps,d,j,i=>pc ps d.2 j i
 | .agg t::ps,d,j,i=>pc ps d.2 j i
 | .box E o::ps,d,j,i=>(PN+j,.live (.cells E (vR o d.1 (j+1) i)))::(vX o d.1 (j+1) i++pc ps d.2 (j+1+o.nb) (i+o.nc))
 | .row E t::ps,d,j,i=>(PN+j,.live (.row E t d.1))::pc ps d.2 (j+1) i
 | .own E t::ps,d,j,i=>pc ps d.2 j (i+1)
 | .fn f k::ps,d,j,i=>pc ps d.2 j i
 | .nils::ps,d,j,i=>pc ps d.2 j i
 | .ago o::ps,d,j,i=>pc ps d.2 j (i+o.nc)
def rV:(ps:List PK)->bu ps->Nat->List (Nat×Nm)
 | [],_,_=>[]
 | .val t::ps,d,i=>rV ps d.2 i
 | .agg t::ps,d,i=>rV ps d.2 i
 | .box E o::ps,d,i=>zI o d.1 i++rV ps d.2 (i+o.nc)
 | .row E t::ps,d,i=>rV ps d.2 i
 | .own E t::ps,d,i=>(QN+i,.live (.row E t d.1))::rV ps d.2 (i+1)
 | .fn f k::ps,d,i=>rV ps d.2 i
 | .nils::ps,d,i=>rV ps d.2 i
 | .ago o::ps,d,i=>zI o d.1 i++rV ps d.2 (i+o.nc)
def oU(env:bc):Option Nat->Ev
 | some m=>env m
 | none => .nil
section
variable {w0:World} {N0:fY} {A Ac:Nat->Prop} {env envc:bc} {h:bR} {w:World}
def jA(A':Nat->Prop)(env0:bc)(h0:bR)(e':bc)(w:World):List (Option Nat)->List (Nat×Nm)->Nat->Prop
 | [],[],_=>True
 | o::os,(m,x)::l,n=>(m=n∧∃ b',x = .live b'∧b'.mut=true/\((∃ q b,o=some q/\h0 q = .live b/\b.mut=true/\(∀ k len,env0 q = .blk k len->jK A' e' w k len b')/\(env0 q = .nil→∃ E t,b' = .row E t []))∨(o=none∧∃ E t,b' = .row E t [])))/\jA A' env0 h0 e' w os l (n+1)
 | _,_,_=>False
theorem jA.append{A':Nat->Prop}{a:bc}{e:bR}{f:bc}:∀{c b:List (Option Nat)}{l d:List (Nat×Nm)}{n:Nat},jA A' a e f w c l n->jA A' a e f w b d (n+c.length)->jA A' a e f w (c++b) (l++d) n
 | [],b,[],d,n,_,k=>by simpa using k
 | o::c,b,(m,x)::l,d,n,⟨h1,h2⟩,k=>by
  refine⟨h1,h2.append ?_⟩;grind
theorem jA.get{A':Nat->Prop}{a:bc}{d:bR}{e:bc}:∀{c:List (Option Nat)}{l:List (Nat×Nm)}{n:Nat},jA A' a d e w c l n->c.length=l.length ∧
  ∀ i o,c[i]? = some o→∃ b',fe l (n+i) = .live b'∧(n+i,Nm.live b')∈l/\b'.mut=true/\((∃ q b,o=some q/\d q = .live b/\b.mut=true/\(∀ k len,a q = .blk k len->jK A' e w k len b')/\(a q = .nil→∃ E t,b' = .row E t []))∨(o=none∧∃ E t,b' = .row E t []))
 | [],[],n,_=>⟨rfl,λi n hi=>by simp at hi⟩
 | o::c,(m,x)::l,n,⟨⟨f,b',h3,h4,h5⟩,hr⟩=>by
  obtain⟨hl,hg⟩:=hr.get;refine⟨by simp[hl],λi o' hi=>?_⟩;cases i with
  | zero =>
   simp at hi;subst hi;subst h3;exact⟨b',by simp only[fe,f,iL,sP],by rw[f];exact fF ..,h4,h5⟩
  | succ i =>
   obtain⟨c',g,h,g3⟩:=hg i o' (by simpa using hi);rw[show n+1+i=n+(i+1) from by omega] at g h;refine⟨c',?_,fw _ h,g3⟩;simp only[fe];have:Nat.beq (n+(i+1)) m=false:=by
    cases hb:Nat.beq (n+(i+1)) m with
    | false=>rfl
    | true=>have:=bJ hb;omega
   rw[this];exact g
theorem jA.keys{A':Nat->Prop}{a:bc}{h0:bR}{e':bc}:∀{d:List (Option Nat)}{l:List (Nat×Nm)}{n:Nat},jA A' a h0 e' w d l n→∀ c x,(c,x)∈l→∃ i o,c=n+i/\d[i]? = some o
 | [],[],n,_,c,x,b=>by simp at b
 | o::d,(m,y)::l,n,⟨⟨hm,_⟩,hr⟩,c,x,b=>by
  rcases dj.1 b with e|b
  .simp_all
  .obtain⟨i,o',h1,h2⟩:=hr.keys c x b;exact⟨i+1,o',by omega,by simpa using h2⟩
theorem Jj{t:CT}{d:t.D}{v:Value}{rest:List SV}(hr:Rd A w t (λj=>[v][j]?) 0 d):aB A env w (yk t d) v:=by
 obtain⟨vs,hl,hc,a⟩:=uD (env:=env) t d _ 0 hr
 unfold yk
 split
 next s hs=>rw[hs] at a;simp only[aS] at a;have h0:=hc 0 t.size_pos;grind
 .simp only[aB]
theorem CC{t:CT}{d:t.D}{vs:List Value}(hl:vs.length=t.size)(hr:Rd A w t (λj=>vs[j]?) 0 d):aS A env w (cR t d) vs:=by
 obtain⟨us,hlu,hc,hd⟩:=uD t d _ 0 hr
 have:us=vs:=by
  apply List.ext_getElem?;grind
 rw[← this];exact hd
theorem X7{k:Nat}{len:Nat×Nat}{E:TypeId}{t:CT}{xs:List t.D}(hr:nk A w k len E t xs):xs.length<=maxLen∧∀ x∈xs,t.wf x:=by
 obtain⟨vs,cap,_,_,h2,h3,h4,h5⟩:=hr
 refine⟨by omega,λx hx=>?_⟩
 obtain⟨i,hi,rfl⟩:=List.mem_iff_getElem.1 hx
 exact Ek _ _ _ _ (h5 i hi)
theorem ay6{a0:Option Nat}{t:CT}{ps:List PK}{a:List SV} {x} (e:(gV a0 (.agg t::ps) a).run h=some x):∃ cs r,a = .agg cs::r:=by
 cases a with
 | nil=>cases e
 | cons s r=>cases s <;> first|exact⟨_,_,rfl⟩|cases e
theorem Vn{a0:Option Nat}{o:OT}{ps:List PK}{a:List SV} {x} (e:(gV a0 (.ago o::ps) a).run h=some x):∃ cs r,a = .agg cs::r:=by
 cases a with
 | nil=>cases e
 | cons s r=>cases s <;> first|exact⟨_,_,rfl⟩|cases e
theorem Xr{a0:Option Nat}{E:TypeId}{o:OT}{ps:List PK}{a:List SV} {x} (e:(gV a0 (.box E o::ps) a).run h=some x):∃ n r,a = .ptr n 0::r:=by
 cases a with
 | nil=>cases e
 | cons s r =>
  cases s with
  | ptr n off=>cases off with
   | zero=>exact⟨_,_,rfl⟩
   | succ k=>cases e
  | _=>cases e
theorem Ya{a0:Option Nat}{E:TypeId}{t:CT}{ps:List PK}{a:List SV} {x} (e:(gV a0 (.row E t::ps) a).run h=some x):∃ n sz r,a = .own n sz::r:=by
 cases a with
 | nil=>cases e
 | cons s r=>cases s <;> first|exact⟨_,_,_,rfl⟩|cases e
theorem aP4{a0:Option Nat}{E:TypeId}{t:CT}{ps:List PK}{a:List SV} {x} (e:(gV a0 (.own E t::ps) a).run h=some x):∃ v r,a=v::r:=by
 cases a with
 | nil=>cases e
 | cons s r=>exact⟨_,_,rfl⟩
theorem UP{a0:Option Nat}{ps:List PK}{a:List SV} {x} (e:(gV a0 (.nils::ps) a).run h=some x):∃ r,a = .nilsl::r:=by
 cases a with
 | nil=>cases e
 | cons s r=>cases s <;> first|exact⟨_,rfl⟩|cases e
theorem aS5{a0:Option Nat}{f:FuncId}{k:Nat}{ps:List PK}{a:List SV} {x} (e:(gV a0 (.fn f k::ps) a).run h=some x):∃ g cs r,a = .fn g cs::r:=by
 cases a with
 | nil=>cases e
 | cons s r=>cases s <;> first|exact⟨_,_,_,rfl⟩|cases e
theorem aq4{a0:Option Nat}{f:FuncId}{a:List SV} {x} (e:(rx a0 (.fnc f) a).run h=some x):∃ r,a = .fn f []::r/\x=(((),r,[],[],[]),[]):=by
 cases a with
 | nil=>cases e
 | cons s r =>
  cases s <;> first|cases e;done|skip
  rename_i g cs;cases cs <;> first|cases e;done|skip
  simp only[rx] at e;split at e
  next hb=>rw[bJ hb];simp only[Q.run,bp] at e;exact⟨_,rfl,e.symm⟩
  .cases e
theorem Ti{a0:Option Nat}{E:TypeId}{o:OT}{a:List SV} {x} (e:(rx a0 (.ref E o) a).run h=some x):∃ n r,a = .ptr n 0::r:=by
 cases a with
 | nil=>cases e
 | cons s r =>
  cases s with
  | ptr n off=>cases off with
   | zero=>exact⟨_,_,rfl⟩
   | succ k=>cases e
  | _=>cases e
theorem Ml(m:Mod w0 N0 A env h w)(hA:∀ b,A b->Ac b){n:Nat}{E:TypeId}{t:CT}{xs:List t.D}(j:h n = .live (.row E t xs)) :
  (xs.length<=maxLen∧∀ x∈xs,t.wf x)∧∀(l:bc)(i:Nat),jA Ac env h l w [some n] [(i,.live (.row E t xs))] i:=by
 have f:=m.nm n
 rw[j] at f
 refine⟨?_,λl i=>⟨⟨rfl,_,rfl,rfl,.inl ⟨n,_,rfl,j,rfl,λk len g=>?_,λg=>?_⟩⟩,trivial⟩⟩
 .rcases f with⟨k,len,a,d,_⟩|⟨c,E2,t2,d⟩
  .exact X7 d
  .grind
 .rcases f with⟨k',e,a,d,_⟩|⟨c,_⟩
  .rw[g] at a;cases a;obtain⟨us,cap,g1,g2,g3,g4,g5,g6⟩:=d;exact⟨us,cap,g1,g2,g3,g4,g5,λi hi=>iC hA (λ_ _ _=>rfl) _ _ _ _ _ (λ_ _=>rfl) (g6 i hi)⟩
  .rw[g] at c;cases c
 .rcases f with⟨k',e,a,d,_⟩|⟨c,E2,t2,d⟩
  .rw[g] at a;cases a
  .simp_all
theorem Fb(m:Mod w0 N0 A env h w)(hA:∀ b,A b->Ac b){E:TypeId}{t:CT}{cs rest:List SV}{vs:List Value}{ys:List t.D}{f:Option Nat}{r:List Nat}
  (e:(AI E t cs).run h=some ((ys,rest,f),r)) (l:aS A env w cs vs) :
  (ys.length<=maxLen∧∀ x∈ys,t.wf x)/\cs.length=rest.length+1/\(rest=cs.drop 1)∧∃ v c,vs=v::c/\aS A env w rest c∧∀(d:bc)(i:Nat),d i=oU env f->aB Ac d w (.own i t.size) v/\jA Ac env h d w [f] [(i,.live (.row E t ys))] i:=by
 cases cs with
 | nil=>cases e
 | cons s cs =>
 cases s with
 | own n sz =>
  simp only[AI,Q.run] at e;split at e
  .rename_i p0 q0 hk;obtain⟨rfl,rfl⟩:=e;split at hk
   .rename_i E' t' xs hl;split at hk
    next zs g a hc=>have g:=bJ g;subst g;have a:=bJ a;subst a;obtain⟨et,ez⟩:=jC hc;subst et;subst ez;obtain⟨⟨rfl,rfl,rfl⟩,rfl⟩:=hk;obtain⟨x,c,rfl,hv,j⟩:=l;obtain⟨h1,h2⟩:=Ml m hA hl;refine⟨h1,rfl,rfl,x,c,rfl,j,λd i k=>⟨?_,h2 d i⟩⟩;simp only[aB];rw[k];exact hv
    .cases hk
   .cases hk
  .cases e
 | nilsl =>
  obtain⟨⟨rfl,rfl,rfl⟩,rfl⟩:=e;obtain⟨x,c,rfl,rfl,j⟩:=l;refine⟨⟨by simp,by simp⟩,rfl,rfl,_,c,rfl,j,λd i k=>⟨?_,⟨rfl,_,rfl,rfl,.inr ⟨rfl,_,_,rfl⟩⟩,trivial⟩⟩;exact .inl ⟨k,_,rfl⟩
 | _=>cases e
theorem Zo{b:Option Nat}{a:List SV} {x} (e:(rx b .ali a).run h=some x):∃ n r,a = .ptr n 0::r/\b=some n/\x=(((),r,[],[],[]),[]):=by
 cases a with
 | nil=>cases e
 | cons s r =>
  cases s with
  | ptr n off=>cases off with
   | zero=>cases b with
    | none=>cases e
    | some m =>
     have e:(match Nat.beq n m with|true=>(Q.ret ((),r,[],[],[]):Q (Unit×List SV×List (Nat×Nm)×List Nat×List (Option Nat)))|false=>Q.fail).run h=some x:=e;cases c:Nat.beq n m with
     | false=>rw[c] at e;cases e
     | true =>
      rw[c] at e;simp only[Q.run,bp] at e;exact⟨n,r,rfl,by rw[bJ c],e.symm⟩
   | succ k=>cases e
  | _=>cases e
theorem RL{a0:Option Nat}{n:Nat}(h:Ao a0 n=none):False:=by cases a0 <;> cases h
theorem BH(m:Mod w0 N0 A env h w)(hA:∀ b,A b->Ac b)(a0:Option Nat):∀(o:OT)(cs:List SV)(vs:List Value)(d:o.D)(rest:List SV)(fz:List (Nat×Nm))(bx:List Nat)(cx:List (Option Nat))(r:List Nat)(j i:Nat),
  (rx a0 o cs).run h=some ((d,rest,fz,bx,cx),r)->aS A env w cs vs->(∀ k,gT env fz k->Ac k) →
  nu h fz/\o.wf d/\bx.length=o.nb/\cx.length=o.nc∧∃ us rs,vs=us++rs/\aS A env w rest rs ∧
   ((∀ n,a0=some n->envc PN=env n)->(∀ k n,bx[k]? = some n->envc (PN+(j+k))=env n)->(∀ k q,cx[k]? = some q->envc (QN+(i+k))=oU env q) →
     aS Ac envc w (vR o d j i) us/\jA Ac env h envc w (bx.map some) (vX o d j i) (PN+j)/\jA Ac env h envc w cx (zI o d i) (QN+i))
 | .dat t,cs,vs,d,rest,fz,bx,cx,r,j,i,e,hd,hF=>by
  obtain⟨⟨d1,r1,f1⟩,q1,q2,e1,e2,rfl⟩:=Q.run_bind _ _ _ e;obtain⟨⟨rfl,rfl,rfl,rfl,rfl⟩,rfl⟩:=e2;obtain⟨p1,p2,p3,p4,p5⟩:=qN m t cs vs d1 r1 f1 q1 e1 hd hA hF;refine⟨p1,Ek _ _ _ _ p4,rfl,rfl,vs.take t.size,vs.drop t.size,(mw _ _).symm,p5,λ_ _ _=>⟨?_,bv,bv⟩⟩;refine CC (by rw[cW];omega) ?_;refine iC (λ_ h=>h) (λ_ _ _=>rfl) t _ _ _ _ (λk hk=>?_) p4;simp_all
 | .row E t,cs,vs,d,rest,fz,bx,cx,r,j,i,e,hd,hF=>by
  obtain⟨⟨d1,r1,o1⟩,q1,q2,e1,e2,rfl⟩:=Q.run_bind _ _ _ e;obtain⟨⟨rfl,rfl,rfl,rfl,rfl⟩,rfl⟩:=e2;obtain⟨p1,-,-,v,vr,rfl,p2,p3⟩:=Fb m hA e1 hd;refine⟨λn b hh=>by simp at hh,p1,rfl,rfl,[v],vr,rfl,p2,λ_ _ hc=>?_⟩;obtain⟨k1,k2⟩:=p3 envc (QN+i) (hc 0 _ rfl);exact⟨⟨v,[],rfl,k1,rfl⟩,bv,k2⟩
 | .rowg E t,cs,vs,d,rest,fz,bx,cx,r,j,i,e,hd,hF=>by
  obtain⟨⟨d1,r1,o1⟩,q1,q2,e1,e2,rfl⟩:=Q.run_bind _ _ _ e;obtain⟨⟨rfl,rfl,rfl,rfl,rfl⟩,rfl⟩:=e2;obtain⟨p1,-,-,v,vr,rfl,p2,p3⟩:=Fb m hA e1 hd;refine⟨λn b hh=>by simp at hh,p1,rfl,rfl,[v],vr,rfl,p2,λ_ _ hc=>?_⟩;obtain⟨k1,k2⟩:=p3 envc (QN+i) (hc 0 _ rfl);exact⟨⟨v,[],rfl,k1,rfl⟩,bv,k2⟩
 | .fnc f,cs0,vs,d,rest,fz,bx,cx,r,j,i,e,hd,hF=>by
  obtain⟨cs,rfl,e2⟩:=aq4 e;obtain⟨⟨-,rfl,rfl,rfl,rfl⟩,rfl⟩:=e2;obtain⟨u,vr,rfl,hu,hvr⟩:=hd;refine⟨λn b hh=>by simp at hh,bv,rfl,rfl,[u],vr,rfl,hvr,λ_ _ _=>⟨?_,bv,bv⟩⟩;refine⟨u,[],rfl,?_,rfl⟩;exact hu
 | .ali,cs0,vs,d,rest,fz,bx,cx,r,j,i,e,hd,hF=>by
  obtain⟨n,cs,rfl,h0,e2⟩:=Zo e;obtain⟨⟨-,rfl,rfl,rfl,rfl⟩,rfl⟩:=e2;obtain⟨u,vr,rfl,⟨k,len,hek,rfl⟩,hvr⟩:=hd;refine⟨λn b hh=>by simp at hh,bv,rfl,rfl,[_],vr,rfl,hvr,λha _ _=>⟨?_,bv,bv⟩⟩;simp only[vR,aS,aB];simp_all
 | .ref E o,cs0,vs,d,rest,fz,bx,cx,r,j,i,e,hd,hF=>by
  obtain⟨n,cs,rfl⟩:=Ti e;simp only[rx,Q.run] at e;split at e
  .rename_i p0 q0 hk;obtain⟨rfl,rfl⟩:=e;split at hk
   .rename_i E' cs' hl;split at hk
    .rename_i hE;have hE:=bJ hE;subst hE;obtain⟨⟨d1,r1,f1,b1,c1⟩,q1,q2,e1,e2,rfl⟩:=Q.run_bind _ _ _ hk;split at e2
     .rename_i hr1;subst hr1;obtain⟨⟨rfl,rfl,rfl,rfl,rfl⟩,rfl⟩:=e2;obtain⟨x,vr,rfl,⟨k,len,hek,rfl⟩,hr⟩:=hd;obtain⟨⟨us,hus,hdu⟩,_⟩:=m.live_blk hl hek;obtain⟨s1,s2,s3,s4,us',rs',s5,s6,s7⟩:=BH m hA a0 o cs' us.toList d1 [] f1 b1 c1 q1 (j+1) i e1 hdu hF;subst s6;rw[ke] at s5;subst s5;refine⟨s1,s2,by simp only[cQ,s3,OT.nb],s4,[_],vr,rfl,hr,λha hb hc=>?_⟩;have h0:=hb 0 n rfl;obtain⟨k1,k2,k3⟩:=s7 ha (λk n hn=>by have:=hb (k+1) n (by simpa using hn);rwa [show j+(k+1)=j+1+k from by omega] at this) hc;refine⟨?_,⟨⟨rfl,_,rfl,rfl,.inl ⟨n,_,rfl,hl,rfl,λk' len' he=>?_,λhe=>?_⟩⟩,?_⟩,k3⟩
      .simp only[vR,aS,aB];simp_all
      .rw[hek] at he;cases he;exact⟨us,hus,k1⟩
      .rw[hek] at he;cases he
      .omega
     .cases e2
    .cases hk
   .cases hk
  .cases e
 | .pair a b,cs,vs,d,rest,fz,bx,cx,r,j,i,e,hd,hF=>by
  obtain⟨⟨d1,r1,f1,b1,c1⟩,q1,q2,e1,e2,rfl⟩:=Q.run_bind _ _ _ e;obtain⟨⟨d2,r2,f2,b2,c2⟩,q3,q4,e3,e4,rfl⟩:=Q.run_bind _ _ _ e2;simp only[Q.run,bp,br] at e4;obtain⟨⟨rfl,rfl,rfl,rfl,rfl⟩,rfl⟩:=e4;have hF1:∀ k,gT env f1 k->Ac k:=λk ⟨n,x,l,hx,he⟩=>hF k ⟨n,x,l,g7 _ hx,he⟩;have hF2:∀ k,gT env f2 k->Ac k:=λk ⟨n,x,l,hx,he⟩=>hF k ⟨n,x,l,jd _ hx,he⟩;obtain⟨s1,s2,s3,s4,us,rs,rfl,s6,s7⟩:=BH m hA a0 a cs vs d1 r1 f1 b1 c1 q1 j i e1 hd hF1;obtain⟨t1,t2,t3,t4,us',rs',rfl,t6,t7⟩:=BH m hA a0 b r1 rs d2 r2 f2 b2 c2 q3 (j+a.nb) (i+a.nc) e3 s6 hF2;refine⟨λn b hh=>?_,⟨s2,t2⟩,by simp only[cD,s3,t3,OT.nb],by simp only[cD,s4,t4,OT.nc],us++us',rs',by rw[iN],t6,λha hb hc=>?_⟩
  .rcases dH.1 hh with hh|hh
   .exact s1 n b hh
   .exact t1 n b hh
  .obtain⟨k1,k2,k3⟩:=s7 ha (λk n hn=>hb k n (by rw[kA (List.getElem?_eq_some_iff.1 hn).1];exact hn)) (λk q hq=>hc k q (by rw[kA (List.getElem?_eq_some_iff.1 hq).1];exact hq));obtain⟨l1,l2,l3⟩:=t7 ha (λk n hn=>by
     have:=hb (a.nb+k) n (by rw[kr ab,s3,kL];exact hn)
     rwa [show j+(a.nb+k)=j+a.nb+k from by omega] at this)
    (λk q hq=>by
     have:=hc (a.nc+k) q (by rw[kr ab,s4,kL];exact hq)
     rwa [show i+(a.nc+k)=i+a.nc+k from by omega] at this)
   refine⟨tC k1 l1,?_,?_⟩
   .rw[lr];exact k2.append (by rw[qm,s3,gW];exact l2)
   .exact k3.append (by rw[s4,gW];exact l3)
theorem uf(m:Mod w0 N0 A env h w)(hA:∀ b,A b->Ac b):∀(a0:Option Nat)(ps:List PK)(svs:List SV)(vs:List Value)(d:bu ps)(fz:List (Nat×Nm))(bx:List Nat)(cx:List (Option Nat))(r:List Nat)(j i:Nat),
  (gV a0 ps svs).run h=some ((d,fz,bx,cx),r)->aS A env w svs vs->(∀ k,gT env fz k->Ac k) →
  nu h fz/\xc ps d/\((a0=none->j=0)->(∀ n,a0=some n->envc PN=env n)->(∀ k n,bx[k]? = some n->envc (PN+(j+k))=env n)->(∀ k q,cx[k]? = some q->envc (QN+(i+k))=oU env q) →
   aS Ac envc w (iM ps d j i) vs/\jA Ac env h envc w (bx.map some) (pc ps d j i) (PN+j)/\jA Ac env h envc w cx (rV ps d i) (QN+i))
 | a0,[],[],vs,d,fz,bx,cx,r,j,i,e,hd,hF=>by
  simp only[gV,Q.run,bp,br] at e;obtain⟨⟨-,rfl,rfl,rfl⟩,rfl⟩:=e;exact⟨λn b hh=>by simp at hh,trivial,λ_ _ _ _=>⟨by simpa[iM,aS] using hd,trivial,trivial⟩⟩
 | a0,.val t::ps,v::svs,vs,d,fz,bx,cx,r,j,i,e,hd,hF=>by
  simp only[gV] at e;obtain⟨⟨d1,r1,f1⟩,q1,q2,e1,e2,rfl⟩:=Q.run_bind _ _ _ e;split at e2
  .rename_i hr1;simp only at hr1;subst hr1;obtain⟨⟨d2,f2,b2,c2⟩,q3,q4,e3,e4,rfl⟩:=Q.run_bind _ _ _ e2;simp only[Q.run,bp,br] at e4;obtain⟨⟨rfl,rfl,rfl,rfl⟩,rfl⟩:=e4;simp only[aS] at hd;obtain⟨x,vr,rfl,hx,hr⟩:=hd;have hF1:∀ k,gT env f1 k->Ac k:=λk ⟨n,x,l,hx,he⟩=>hF k ⟨n,x,l,g7 _ hx,he⟩;have hF2:∀ k,gT env f2 k->Ac k:=λk ⟨n,x,l,hx,he⟩=>hF k ⟨n,x,l,jd _ hx,he⟩;obtain⟨p1,p2,p3,p4,_⟩:=qN m t [v] [x] d1 [] f1 q1 e1 (by simp only[aS];exact⟨x,[],rfl,hx,rfl⟩) hA hF1;obtain⟨s1,s4,s6⟩:=uf m hA a0 ps svs vr d2 f2 b2 c2 q3 j i e3 hr hF2;refine⟨λn b hh=>?_,⟨Ek _ _ _ _ p4,s4⟩,λhj ha hb hc=>?_⟩
   .rcases dH.1 hh with hh|hh
    .exact p1 n b hh
    .exact s1 n b hh
   .obtain⟨k1,k2,k3⟩:=s6 hj ha hb hc;refine⟨?_,k2,k3⟩;simp only[iM,aS];exact⟨x,vr,rfl,Jj (rest:=[]) p4,k1⟩
  .cases e2
 | a0,.nils::ps,svs0,vs,d,fz,bx,cx,r,j,i,e,hd,hF=>by
  obtain⟨svs,rfl⟩:=UP e;simp only[gV] at e;obtain⟨⟨d2,f2,b2,c2⟩,q3,q4,e3,e4,rfl⟩:=Q.run_bind _ _ _ e;simp only[Q.run,bp,br] at e4;obtain⟨⟨rfl,rfl,rfl,rfl⟩,rfl⟩:=e4;simp only[aS,aB] at hd;obtain⟨x,vr,rfl,rfl,hr⟩:=hd;obtain⟨s1,s4,s6⟩:=uf m hA a0 ps svs vr d2 f2 b2 c2 q3 j i e3 hr hF;refine⟨s1,⟨trivial,s4⟩,λhj ha hb hc=>?_⟩;obtain⟨k1,k2,k3⟩:=s6 hj ha hb hc;refine⟨?_,k2,k3⟩;simp only[iM,aS,aB];exact⟨_,vr,rfl,rfl,k1⟩
 | a0,.fn f k::ps,svs0,vs,d,fz,bx,cx,r,j,i,e,hd,hF=>by
  obtain⟨g,cs,svs,rfl⟩:=aS5 e;simp only[gV] at e;split at e
  .rename_i hf hk;have hf:=bJ hf;have hk:=bJ hk;subst hf;obtain⟨⟨d2,f2,b2,c2⟩,q3,q4,e3,e4,rfl⟩:=Q.run_bind _ _ _ e;simp only[Q.run,bp,br] at e4;obtain⟨⟨rfl,rfl,rfl,rfl⟩,rfl⟩:=e4;simp only[aS,aB] at hd;obtain⟨x,vr,rfl,⟨us,rfl,hu⟩,hr⟩:=hd;have hul:=jg hu;obtain⟨s1,s4,s6⟩:=uf m hA a0 ps (cs++svs) (us.toList++vr) d2 f2 b2 c2 q3 j i e3 (tC hu hr) hF;refine⟨s1,⟨trivial,s4⟩,λhj ha hb hc=>?_⟩;obtain⟨k1,k2,k3⟩:=s6 hj ha hb hc;refine⟨?_,k2,k3⟩;simp only[iM,aS,aB];refine⟨_,vr,rfl,⟨us,rfl,?_⟩,?_⟩
   .have:=AD k k1
    rwa [List.take_left' (by omega)] at this
   .have:=AT k k1
    rwa [List.drop_left' (by omega)] at this
  .cases e
 | a0,.agg t::ps,svs0,vs,d,fz,bx,cx,r,j,i,e,hd,hF=>by
  obtain⟨cs,svs,rfl⟩:=ay6 e;simp only[gV] at e;obtain⟨⟨d1,r1,f1⟩,q1,q2,e1,e2,rfl⟩:=Q.run_bind _ _ _ e;split at e2
  .rename_i hr1;simp only at hr1;subst hr1;obtain⟨⟨d2,f2,b2,c2⟩,q3,q4,e3,e4,rfl⟩:=Q.run_bind _ _ _ e2;simp only[Q.run,bp,br] at e4;obtain⟨⟨rfl,rfl,rfl,rfl⟩,rfl⟩:=e4;simp only[aS,aB] at hd;obtain⟨x,vr,rfl,⟨us,rfl,hx⟩,hr⟩:=hd;have hF1:∀ k,gT env f1 k->Ac k:=λk ⟨n,x,l,hx,he⟩=>hF k ⟨n,x,l,g7 _ hx,he⟩;have hF2:∀ k,gT env f2 k->Ac k:=λk ⟨n,x,l,hx,he⟩=>hF k ⟨n,x,l,jd _ hx,he⟩;obtain⟨p1,p2,p3,p4,_⟩:=qN m t cs us.toList d1 [] f1 q1 e1 hx hA hF1;obtain⟨s1,s4,s6⟩:=uf m hA a0 ps svs vr d2 f2 b2 c2 q3 j i e3 hr hF2;refine⟨λn b hh=>?_,⟨Ek _ _ _ _ p4,s4⟩,λhj ha hb hc=>?_⟩
   .rcases dH.1 hh with hh|hh
    .exact p1 n b hh
    .exact s1 n b hh
   .obtain⟨k1,k2,k3⟩:=s6 hj ha hb hc;refine⟨?_,k2,k3⟩;simp only[iM,aS,aB];exact⟨_,vr,rfl,⟨us,rfl,CC (by simpa using p3) p4⟩,k1⟩
  .cases e2
 | a0,.box E o::ps,svs0,vs,d,fz,bx,cx,r,j,i,e,hd,hF=>by
  obtain⟨n,svs,rfl⟩:=Xr e;simp only[gV,Q.run] at e;split at e
  .rename_i p0 q0 hk;simp only[bp,br] at e;obtain⟨rfl,rfl⟩:=e;split at hk
   .rename_i E' cs hl;split at hk
    .rename_i hE;have hE:=bJ hE;subst hE;obtain⟨⟨d1,r1,f1,b1,c1⟩,q1,q2,e1,e2,rfl⟩:=Q.run_bind _ _ _ hk;split at e2
     .rename_i hr1;simp only at hr1;subst hr1;obtain⟨⟨d2,f2,b2,c2⟩,q3,q4,e3,e4,rfl⟩:=Q.run_bind _ _ _ e2;simp only[Q.run,bp,br] at e4;obtain⟨⟨rfl,rfl,rfl,rfl⟩,rfl⟩:=e4;simp only[aS,aB] at hd;obtain⟨x,vr,rfl,⟨k,len,hek,rfl⟩,hr⟩:=hd;obtain⟨⟨us,hus,hdu⟩,_⟩:=m.live_blk hl hek;have hF1:∀ k,gT env f1 k->Ac k:=λk ⟨n,x,l,hx,he⟩=>hF k ⟨n,x,l,g7 _ hx,he⟩;have hF2:∀ k,gT env f2 k->Ac k:=λk ⟨n,x,l,hx,he⟩=>hF k ⟨n,x,l,jd _ hx,he⟩;obtain⟨p1,p2,p3,p4,us',rs',p5,p6,p7⟩:=BH (envc:=envc) m hA a0 o cs us.toList d1 [] f1 b1 c1 q1 (j+1) i e1 hdu hF1;simp only[aS] at p6;subst p6;rw[ke] at p5;subst p5;obtain⟨s1,s4,s6⟩:=uf m hA (Ao a0 n) ps svs vr d2 f2 b2 c2 q3 (j+1+o.nb) (i+o.nc) e3 hr hF2;refine⟨λn b hh=>?_,⟨p2,s4⟩,λhj ha hb hc=>?_⟩
      .rcases dH.1 hh with hh|hh
       .exact p1 n b hh
       .exact s1 n b hh
      .have h0:=hb 0 n rfl;rw[iL] at h0;obtain⟨k1,k2,k3⟩:=p7 ha
        (λk n hn=>by
         have:=hb (k+1) n (by simp only[List.getElem?_cons_succ];rw[kA (List.getElem?_eq_some_iff.1 hn).1];exact hn)
         rwa [show j+(k+1)=j+1+k from by omega] at this)
        (λk q hq=>hc k q (by rw[kA (List.getElem?_eq_some_iff.1 hq).1];exact hq))
       obtain⟨l1,l2,l3⟩:=s6 (λq=>(RL q).elim) (λn' hn=>by cases a0 with|some m=>exact ha n' hn|none=>cases hn;have e:=hj rfl;rw[e,iL] at h0;exact h0)
        (λk n hn=>by
         have:=hb (o.nb+k+1) n (by simp only[List.getElem?_cons_succ];rw[kr (by omega),p3,kL];exact hn)
         rwa [show j+(o.nb+k+1)=j+1+o.nb+k from by omega] at this)
        (λk q hq=>by
         have:=hc (o.nc+k) q (by rw[kr (by omega),p4,kL];exact hq)
         rwa [show i+(o.nc+k)=i+o.nc+k from by omega] at this)
       refine⟨?_,⟨⟨rfl,_,rfl,rfl,.inl ⟨n,_,rfl,hl,rfl,λk' len' he=>?_,λhe=>?_⟩⟩,?_⟩,?_⟩
       .simp only[iM,aS,aB];exact⟨_,vr,rfl,⟨k,len,by rw[h0];exact hek,rfl⟩,l1⟩
       .rw[hek] at he;cases he;exact⟨us,hus,k1⟩
       .rw[hek] at he;cases he
       .rw[lr,show PN+j+1=PN+(j+1) from by omega];exact k2.append (by rw[qm,p3,show PN+(j+1)+o.nb=PN+(j+1+o.nb) from by omega];exact l2)
       .exact k3.append (by rw[p4,gW];exact l3)
     .cases e2
    .cases hk
   .cases hk
  .cases e
 | a0,.ago o::ps,svs0,vs,d,fz,bx,cx,r,j,i,e,hd,hF=>by
  obtain⟨cs,svs,rfl⟩:=Vn e;simp only[gV] at e;split at e
  .rename_i hnb;have hnb:=bJ hnb;obtain⟨⟨d1,r1,f1,b1,c1⟩,q1,q2,e1,e2,rfl⟩:=Q.run_bind _ _ _ e;split at e2
   .rename_i hr1;simp only at hr1;subst hr1;obtain⟨⟨d2,f2,b2,c2⟩,q3,q4,e3,e4,rfl⟩:=Q.run_bind _ _ _ e2;simp only[Q.run,bp,br] at e4;obtain⟨⟨rfl,rfl,rfl,rfl⟩,rfl⟩:=e4;simp only[aS,aB] at hd;obtain⟨x,vr,rfl,⟨us,rfl,hdu⟩,hr⟩:=hd;have hF1:∀ k,gT env f1 k->Ac k:=λk ⟨n,x,l,hx,he⟩=>hF k ⟨n,x,l,g7 _ hx,he⟩;have hF2:∀ k,gT env f2 k->Ac k:=λk ⟨n,x,l,hx,he⟩=>hF k ⟨n,x,l,jd _ hx,he⟩;obtain⟨p1,p2,p3,p4,us',rs',p5,p6,p7⟩:=BH (envc:=envc) m hA a0 o cs us.toList d1 [] f1 b1 c1 q1 j i e1 hdu hF1;simp only[aS] at p6;subst p6;rw[ke] at p5;subst p5;have hb1:b1=[]:=nI (by rw[p3,hnb]);subst hb1;obtain⟨s1,s4,s6⟩:=uf m hA a0 ps svs vr d2 f2 b2 c2 q3 j (i+o.nc) e3 hr hF2;refine⟨λn b hh=>?_,⟨p2,s4⟩,λhj ha hb hc=>?_⟩
    .rcases dH.1 hh with hh|hh
     .exact p1 n b hh
     .exact s1 n b hh
    .obtain⟨k1,k2,k3⟩:=p7 ha (λk n hn=>by simp at hn)
      (λk q hq=>hc k q (by rw[kA (List.getElem?_eq_some_iff.1 hq).1];exact hq))
     obtain⟨l1,l2,l3⟩:=s6 hj ha hb
      (λk q hq=>by
       have:=hc (o.nc+k) q (by rw[kr (by omega),p4,kL];exact hq)
       rwa [show i+(o.nc+k)=i+o.nc+k from by omega] at this)
     refine⟨?_,l2,?_⟩
     .simp only[iM,aS,aB];exact⟨_,vr,rfl,⟨us,rfl,k1⟩,l1⟩
     .exact k3.append (by rw[p4,gW];exact l3)
   .cases e2
  .cases e
 | a0,.own E t::ps,svs0,vs,d,fz,bx,cx,r,j,i,e,hd,hF=>by
  obtain⟨v,svs,rfl⟩:=aP4 e;simp only[gV] at e;obtain⟨⟨d1,r1,o1⟩,q1,q2,e1,e2,rfl⟩:=Q.run_bind _ _ _ e;obtain⟨⟨d2,f2,b2,c2⟩,q3,q4,e3,e4,rfl⟩:=Q.run_bind _ _ _ e2;simp only[Q.run,bp,br] at e4;obtain⟨⟨rfl,rfl,rfl,rfl⟩,rfl⟩:=e4;simp only[aS] at hd;obtain⟨x,vr,rfl,hx,hr⟩:=hd;obtain⟨p1,-,-,v',vr',p2,-,p3⟩:=Fb m hA e1 (vs:=[x]) (by simp only[aS];exact⟨x,[],rfl,hx,rfl⟩);cases p2;obtain⟨s1,s4,s6⟩:=uf m hA a0 ps svs vr d2 f2 b2 c2 q3 j (i+1) e3 hr hF;refine⟨s1,⟨p1,s4⟩,λhj ha hb hc=>?_⟩;obtain⟨k1,k2⟩:=p3 envc (QN+i) (hc 0 _ rfl);obtain⟨l1,l2,l3⟩:=s6 hj ha hb (λk q hq=>by have:=hc (k+1) q (by simpa using hq);rwa [show i+(k+1)=i+1+k from by omega] at this);refine⟨?_,l2,?_⟩
  .simp only[iM,aS];exact⟨x,vr,rfl,k1,l1⟩
  .exact⟨k2.1,by rw[show QN+i+1=QN+(i+1) from by omega];exact l3⟩
 | a0,.row E t::ps,svs0,vs,d,fz,bx,cx,r,j,i,e,hd,hF=>by
  obtain⟨n,sz,svs,rfl⟩:=Ya e;simp only[gV,Q.run] at e;split at e
  .rename_i p0 q0 hk;simp only[bp,br] at e;obtain⟨rfl,rfl⟩:=e;split at hk
   .rename_i E' t' xs hl;split at hk
    next ys hE hsz hc=>have hE:=bJ hE;subst hE;have hsz:=bJ hsz;subst hsz;obtain⟨et,ez⟩:=jC hc;subst et;simp only at ez;subst ez;obtain⟨⟨d2,f2,b2,c2⟩,q3,q4,e3,e4,rfl⟩:=Q.run_bind _ _ _ hk;simp only[Q.run,bp,br] at e4;obtain⟨⟨rfl,rfl,rfl,rfl⟩,rfl⟩:=e4;simp only[aS,aB] at hd;obtain⟨x,vr,rfl,hv,hr⟩:=hd;obtain⟨s1,s4,s6⟩:=uf m hA (Ao a0 n) ps svs vr d2 f2 b2 c2 q3 (j+1) i e3 hr hF;obtain⟨hw,hlk⟩:=Ml m hA hl;refine⟨s1,⟨hw,s4⟩,λhj ha hb hc=>?_⟩;have h0:=hb 0 n rfl;rw[iL] at h0;obtain⟨l1,l2,l3⟩:=s6 (λq=>(RL q).elim) (λn' hn=>by cases a0 with|some m=>exact ha n' hn|none=>cases hn;have e:=hj rfl;rw[e,iL] at h0;exact h0) (λk n hn=>by have:=hb (k+1) n (by simpa using hn);rwa [show j+(k+1)=j+1+k from by omega] at this) hc;refine⟨?_,⟨(hlk envc (PN+j)).1,by rw[show PN+j+1=PN+(j+1) from by omega];exact l2⟩,l3⟩;simp only[iM,aS,aB];exact⟨_,vr,rfl,by rw[h0];exact hv,l1⟩
    .cases hk
   .cases hk
  .cases e
 | a0,[],_::_,_,_,_,_,_,_,_,_,e,_,_=>by simp[gV,Q.run] at e
 | _,.val _::_,[],_,_,_,_,_,_,_,_,e,_,_=>by simp[gV,Q.run] at e
end
end Go.SX
namespace Go.SX
section
variable {w0:World} {N0:fY} {A Ac:Nat->Prop} {env:bc} {h:bR} {w:World}
def Bk:List Nat->Bool
 | []=>true
 | n::r => !n6 n r&&Bk r
theorem Kf:∀{l:List Nat},Bk l=true->l.Nodup
 | [],_=>List.nodup_nil
 | n::r,h=>by
  simp only[Bk,dr,oX] at h;refine List.nodup_cons.2 ⟨λhm=>?_,Kf h.2⟩;rw[wU.2 hm] at h;cases h.1
def jB:List (Option Nat)->List Nat
 | []=>[]
 | none::r=>jB r
 | some n::r=>n::jB r
theorem vQ{n:Nat}:∀{l:List (Option Nat)},n∈jB l↔some n∈l
 | []=>by simp[jB]
 | none::r=>by simp[jB,vQ (l:=r)]
 | some m::r=>by simp[jB,vQ (l:=r)]
theorem G7{n:Nat}:∀{l:List (Option Nat)}{i i':Nat},(jB l).Nodup->l[i]? = some (some n)->l[i']? = some (some n)->i=i'
 | [],i,i',_,h,_=>by simp at h
 | none::r,i,i',hn,h,h'=>by
  cases i with
  | zero=>simp at h
  | succ i=>cases i' with
   | zero=>simp at h'
   | succ i'=>have:=G7 (i:=i) (i':=i') (l:=r) hn (by simpa using h) (by simpa using h');omega
 | some m::r,i,i',hn,h,h'=>by
  obtain⟨h1,h2⟩:=List.nodup_cons.1 hn;cases i with
  | zero =>
   simp at h;subst h;cases i' with
   | zero=>rfl
   | succ i'=>exact absurd (vQ.2 (oS (by simpa using h'))) h1
  | succ i=>cases i' with
   | zero=>simp at h';subst h';exact absurd (vQ.2 (oS (by simpa using h))) h1
   | succ i'=>have:=G7 (i:=i) (i':=i') (l:=r) h2 (by simpa using h) (by simpa using h');omega
def om(bx:List Nat)(cx:List (Option Nat))(n:Nat):Option (Option Nat):=match Nat.ble QN n with
 | true=>cx[n-QN]?
 | false=>match Nat.ble PN n with
  | true=>match bx[n-PN]? with
   | some m=>some (some m)
   | none=>none
  | false=>none
def nX(env:bc)(bx:List Nat)(cx:List (Option Nat)):bc:=λn=>match om bx cx n with
 | some o=>oU env o
 | none => .un
theorem QM{bx:List Nat}{cx:List (Option Nat)}{i n:Nat}(hl:bx.length<=PN)(hi:bx[i]? = some n):om bx cx (PN+i)=some (some n):=by
 have hlt:=(List.getElem?_eq_some_iff.1 hi).1
 have h2:QN=PN+PN:=rfl
 unfold om
 have h1:Nat.ble QN (PN+i)=false:=by
  cases hb:Nat.ble QN (PN+i) with
  | false=>rfl
  | true=>have:=kT hb;omega
 rw[h1,Nat.ble_eq_true_of_le (by omega)]
 simp only[kL,hi]
theorem NM{bx:List Nat}{cx:List (Option Nat)}{i:Nat}{o:Option Nat}(hi:cx[i]? = some o):om bx cx (QN+i)=some o:=by
 unfold om
 rw[Nat.ble_eq_true_of_le (by omega)]
 simp only[kL,hi]
theorem Dc{bx:List Nat}{cx:List (Option Nat)}{n:Nat}{o:Option Nat}(e:om bx cx n=some o):(∃ i m,bx[i]? = some m/\n=PN+i/\n<QN/\o=some m)∨∃ i,cx[i]? = some o/\n=QN+i:=by
 unfold om at e
 split at e
 next hb=>have:=kT hb;exact .inr ⟨n-QN,e,by omega⟩
 next hb=>
  have hlt:n<QN:=by
   refine Nat.lt_of_not_le λhle=>?_;rw[Nat.ble_eq_true_of_le hle] at hb;cases hb
  split at e
  .rename_i hb;have:=kT hb;split at e
   next m hm=>cases e;exact .inl ⟨n-PN,m,hm,by omega,hlt,rfl⟩
   .cases e
  .cases e
theorem Jy{bx:List Nat}{cx:List (Option Nat)}{i n:Nat}(hl:bx.length<=PN)(hi:bx[i]? = some n):nX env bx cx (PN+i)=env n:=by
 unfold nX;rw[QM hl hi];rfl
theorem Tq{bx:List Nat}{cx:List (Option Nat)}{i:Nat}{o:Option Nat}(hi:cx[i]? = some o):nX env bx cx (QN+i)=oU env o:=by
 unfold nX;rw[NM hi]
def Eh(env:bc)(bx:List Nat)(k:Nat):Prop:=∃ n l,n∈bx/\env n = .blk k l
theorem GM{a b:List (Nat×Nm)}{n:Nat}:fe (a++b) n=if n∈a.map (·.1) then fe a n else fe b n:=by
 induction a with
 | nil=>simp
 | cons p a ih =>
  obtain⟨m,x⟩:=p;simp only[jS,fe,fK,dj];cases hb:Nat.beq n m with
  | true=>have:=bJ hb;simp[this]
  | false =>
   have hne:¬ n=m:=λe=>by rw[e,sP] at hb;cases hb
   simp only[hne,false_or,ih]
theorem TM{A':Nat->Prop}{e':bc}{bx:List Nat}{cx:List (Option Nat)}{lb lc:List (Nat×Nm)}(hl:bx.length<=PN)(hb:jA A' env h e' w (bx.map some) lb PN)(hc:jA A' env h e' w cx lc QN) :
  (∀ n o,om bx cx n=some o→∃ b',fe (lb++lc) n = .live b'∧b'.mut=true/\((∃ q b,o=some q/\h q = .live b/\b.mut=true/\(∀ k len,env q = .blk k len->jK A' e' w k len b')/\(env q = .nil→∃ E t,b' = .row E t []))∨(o=none∧∃ E t,b' = .row E t []))) ∧
  (∀ n,om bx cx n=none->fe (lb++lc) n = .un):=by
 obtain⟨hbl,hbg⟩:=hb.get
 obtain⟨hcl,hcg⟩:=hc.get
 have kb:∀ n,n∈lb.map (·.1)→∃ i,i<bx.length/\n=PN+i:=λn hn=>by
  obtain⟨⟨n',x⟩,hx,rfl⟩:=List.mem_map.1 hn;obtain⟨i,o,h1,h2⟩:=hb.keys _ _ hx;exact⟨i,by have:=(List.getElem?_eq_some_iff.1 h2).1;simpa using this,h1⟩
 have kc:∀ n,n∈lc.map (·.1)→∃ i o,cx[i]? = some o/\n=QN+i:=λn hn=>by
  obtain⟨⟨n',x⟩,hx,rfl⟩:=List.mem_map.1 hn;obtain⟨i,o,h1,h2⟩:=hc.keys _ _ hx;exact⟨i,o,h2,h1⟩
 have h2:QN=PN+PN:=rfl
 refine⟨λn o e=>?_,λn e=>?_⟩
 .rcases Dc e with⟨i,m,hi,rfl,hlt,rfl⟩|⟨i,hi,rfl⟩
  .obtain⟨b',g1,g2,g3⟩:=hbg i (some m) (by simp[hi]);refine⟨b',?_,g3⟩;rw[GM,am (qM (f:=(·.1)) g2)];exact g1
  .obtain⟨b',g1,g2,g3⟩:=hcg i o hi;refine⟨b',?_,g3⟩;rw[GM,af]
   .exact g1
   .intro hmem;obtain⟨i',hi',e'⟩:=kb _ hmem;omega
 .rw[GM,af]
  .refine LI λhmem=>?_;obtain⟨i,o,hi,rfl⟩:=kc n hmem;rw[NM hi] at e;cases e
  .intro hmem;obtain⟨i,hi,rfl⟩:=kb n hmem;rw[QM hl (cF hi)] at e;cases e
theorem Mod.call(m:Mod w0 N0 A env h w){lb lc:List (Nat×Nm)}{fz:List (Nat×Nm)}{bx:List Nat}{cx:List (Option Nat)}(hfz:nu h fz)(hl:bx.length<=PN)
  (hb:jA (hV A env fz) env h (nX env bx cx) w (bx.map some) lb PN) (hc:jA (hV A env fz) env h (nX env bx cx) w cx lc QN)
  (hdj:∀ n,n∈bx++jB cx->n ∉ fz.map (·.1)) (hnd:(bx++jB cx).Nodup) :
  Mod w ⟨Eh env (bx++jB cx),hV A env fz,N0.g⟩ (hV A env fz) (nX env bx cx) (fe (lb++lc)) w:=by
 obtain⟨hg,hgn⟩:=TM hl hb hc
 have mf:=(m.freeze hfz).1
 have memS:∀ {n o q},om bx cx n=some o->o=some q->q∈bx++jB cx:=λ{n o q} e eo=>by
  subst eo;rcases Dc e with⟨i,m,hi,_,_,e⟩|⟨i,hi,_⟩
  .cases e;exact g7 _ (oS hi)
  .exact jd _ (vQ.2 (oS hi))
 have inj:∀ {n n' q},om bx cx n=some (some q)->om bx cx n'=some (some q)->n=n':=λ{n n' q} e e'=>by
  obtain⟨hn1,hn2,hn3⟩:=List.nodup_append.1 hnd;rcases Dc e with⟨i,m,hi,rfl,_,em⟩|⟨i,hi,rfl⟩ <;> rcases Dc e' with⟨i',m',hi',rfl,_,em'⟩|⟨i',hi',rfl⟩
  .cases em;cases em';have:=(List.getElem?_inj (List.getElem?_eq_some_iff.1 hi).1 hn1).1 (hi.trans hi'.symm);rw[this]
  .cases em;exact absurd rfl (hn3 _ (oS hi) _ (vQ.2 (oS hi')))
  .cases em';exact absurd rfl (hn3 _ (oS hi') _ (vQ.2 (oS hi)))
  .rw[G7 hn2 hi hi']
 have blk:∀ {n k l},nX env bx cx n = .blk k l→∃ q,om bx cx n=some (some q)/\env q = .blk k l:=λ{n k l} he=>by
  unfold nX at he;split at he
  .rename_i o ho;cases o with
   | none=>cases he
   | some q=>exact⟨q,ho,he⟩
  .cases he
 refine⟨rfl,rfl,rfl,eZ _,λ_ _ _=>rfl,mf.Alt,?_,?_,?_,λb hb=>.inl hb,mf.gl⟩
 .intro n;cases hs:om bx cx n with
  | none =>
   rw[hgn n hs];show nX env bx cx n = .un;unfold nX;rw[hs]
  | some o =>
   obtain⟨b',g1,g4,g5⟩:=hg n o hs;rw[g1];have he:nX env bx cx n=oU env o:=by unfold nX;rw[hs]
   rcases g5 with⟨q,b,rfl,g2,g3,g5,g6⟩|⟨rfl,E,t,e2⟩
   .have hm:=m.nm q;rw[g2] at hm;rcases hm with⟨kk,len,e1,_⟩|⟨e1,_⟩
    .refine .inl ⟨kk,len,by rw[he];exact e1,g5 _ _ e1,λ_ hA=>?_⟩;rcases hA with hA|⟨n',x',l',hx,he'⟩
     .exact (m.live_blk g2 e1).2 g3 hA
     .obtain⟨E,t,xs,hl',_⟩:=hfz n' x' hx;have:=m.inj q n' b _ kk len l' g2 hl' g3 rfl e1 he';subst this;exact hdj q (memS hs rfl) (qM (f:=(·.1)) hx)
    .obtain⟨E,t,e⟩:=g6 e1;exact .inr ⟨by rw[he];exact e1,E,t,.inl e⟩
   .exact .inr ⟨by rw[he];rfl,E,t,.inl e2⟩
 .intro n b k l hl hm he;obtain⟨q,hs,e2⟩:=blk he;exact .inl ⟨q,l,memS hs rfl,e2⟩
 .intro n n' b c k l l' hl hl' hm hm' he he';obtain⟨q,hs,e1⟩:=blk he;obtain⟨q',hs',e2⟩:=blk he';obtain⟨b1,_,_,⟨q1,c1,e,g2,g3,_⟩|⟨e,_⟩⟩:=hg n _ hs
  .obtain⟨b2,_,_,⟨q2,c2,e',f2,f3,_⟩|⟨e',_⟩⟩:=hg n' _ hs'
   .cases e;cases e';have:=m.inj q q' c1 c2 k l l' g2 f2 g3 f3 e1 e2;subst this;exact inj hs hs'
   .cases e'
  .cases e
def kU(R:Rn)(env env1:bc):bc:=λn=>match bw R n with
 | none=>env n
 | some _=>iO R env1 n
theorem Mod.retn{As A' A1:Nat->Prop}{env1:bc}{hs h1:bR}{w1:World}{Nc:fY}{U:List (Nat×Nm)}{R:Rn}
  (ms:Mod w0 N0 As env hs w) (m1:Mod w Nc A1 env1 h1 w1) (hshape:∀ b s,w.shape? b=some s->w1.shape? b=some s)
  (hU:∀ n x,(n,x)∈U->x = .dead∨∃ b,x = .live b/\b.mut=true/\((∃ m b0,bw R n=some (some m)/\h1 m = .live b0/\b0.mut=true ∧
   (∀ k len,env1 m = .blk k len->jK A' (kU R env env1) w1 k len b)/\(env1 m = .nil→∃ E t,b = .row E t []))∨(bw R n=some none∧∃ E t,b = .row E t [])))
  (hdom:∀ n,bw R n≠none->n∈U.map (·.1)) (hinj:iJ R)
  (hold:∀ n,bw R n≠none->hs n = .un∨∃ b,hs n = .live b/\b.mut=true/\(iO R env1 n=env n))
  (hNc:∀ k,Nc.n k→∃ n b l,n∈U.map (·.1)/\hs n = .live b/\b.mut=true/\env n = .blk k l)
  (hA:∀ b,As b->A' b) (hA1:∀ b,A' b->As b∨((Nc.n b∨w.heap.size<=b)/\b<w1.heap.size))
  (hAm:∀ m b k l,h1 m = .live b->b.mut=true->env1 m = .blk k l->(∃ n,bw R n=some (some m))→¬ A' k) :
  Mod w0 N0 A' (kU R env env1) (cT U hs) w1/\dh As env w A' (kU R env env1) w1:=by
 have src:∀ k,(Nc.n k∨w.heap.size<=k)->EU (λn=>n∈U.map (·.1)) env hs w k:=λk hk=>by
  rcases hk with hk|hk
  .obtain⟨n,b,l,e1,e2,e3,e4⟩:=hNc k hk;exact .inr ⟨n,b,l,e1,e2,e3,e4⟩
  .exact .inl hk
 have mem:∀ n,n∈U.map (·.1)->(n,cT U hs n)∈U:=λn hn=>by
  have hl:∀(V:List (Nat×Nm)) ,n∈V.map (·.1)->(n,cT V hs n)∈V:=by
   intro V
   induction V with
   | nil=>intro h;simp at h
   | cons p V ih =>
    obtain⟨q,y⟩:=p;intro h;by_cases hq:n=q
    .subst hq;simp[cT]
    .rw[cT,bR.set_other _ _ hq];rcases dj.1 h with e|h
     .exact absurd e hq
     .exact fw _ (ih h)
  exact hl U hn
 have envR:∀ n y,bw R n=some y->kU R env env1 n=iO R env1 n:=λn y hn=>by
  unfold kU;rw[hn]
 have u:mb (λn=>n∈U.map (·.1)) Nc.n As env hs w A' (kU R env env1) (cT U hs) w1:=by
  refine⟨⟨m1.os,m1.tape,m1.output,m1.size,m1.fr,hshape⟩,?_,hA,?_,?_,?_,λn hn=>nJ hn,?_,?_,?_⟩
  .intro k hk;obtain⟨n,b,l,e1,e2,e3,e4⟩:=hNc k hk;exact⟨n,b,l,e1,e2,e3,e4⟩
  .intro b hb;rcases hA1 b hb with h|⟨h,h'⟩
   .exact .inl h
   .exact .inr ⟨src b h,h'⟩
  .intro n hn;unfold kU;cases hl:bw R n with
   | none=>rfl
   | some y=>exact absurd (hdom n (by rw[hl];simp)) hn
  .intro n hn;unfold kU;cases hl:bw R n with
   | none=>rfl
   | some y =>
    rcases hold n (by rw[hl];simp) with h|⟨b,_,_,h⟩
    .exact absurd (by have:=ms.nm n;rw[h] at this;exact this) hn
    .exact h
  .intro n hn;have hmem:=mem n hn;rcases hU n _ hmem with e|⟨b,e,hmut,hh⟩
   .rw[e];trivial
   .rw[e];rcases hh with⟨m',b0,e1,e2,e3,e4,e5⟩|⟨e1,E,t,e2⟩
    .have he:kU R env env1 n=env1 m':=by rw[envR n _ e1,tE e1]
     have hm':=m1.nm m';rw[e2] at hm';rcases hm' with⟨k,len,he',_,_⟩|⟨he',_⟩
     .exact .inl ⟨k,len,he.trans he',e4 k len he',λ_=>hAm m' b0 k len e2 e3 he' ⟨n,e1⟩⟩
     .obtain⟨E,t,e⟩:=e5 he';exact .inr ⟨he.trans he',E,t,.inl e⟩
    .exact .inr ⟨by rw[envR n _ e1,BQ e1],E,t,.inl e2⟩
  .intro n b k l hn hl hm he;have hmem:=mem n hn;rw[hl] at hmem;rcases hU n _ hmem with e|⟨b',e,hmut,hh⟩
   .cases e
   .rcases hh with⟨m',b0,e1,e2,e3,_⟩|⟨e1,_⟩
    .rw[envR n _ e1,tE e1] at he;exact src k (m1.own m' b0 k l e2 e3 he)
    .rw[envR n _ e1,BQ e1] at he;cases he
  .intro n n' b c k l l' hn hn' hl hl' hm hm' he he';have hmem1:=mem n hn;have hmem2:=mem n' hn';rw[hl] at hmem1;rw[hl'] at hmem2;rcases hU n _ hmem1 with e|⟨_,_,_,hh1⟩
   .cases e
   rcases hU n' _ hmem2 with e|⟨_,_,_,hh2⟩
   .cases e
   rcases hh1 with⟨m',b0,e1,e2,e3,_⟩|⟨e1,_⟩
   .rw[envR n _ e1,tE e1] at he;rcases hh2 with⟨m2,c0,f1,f2,f3,_⟩|⟨f1,_⟩
    .rw[envR n' _ f1,tE f1] at he';have:=m1.inj m' m2 b0 c0 k l l' e2 f2 e3 f3 he he';subst this;exact hinj n n' m' e1 f1
    .rw[envR n' _ f1,BQ f1] at he';cases he'
   .rw[envR n _ e1,BQ e1] at he;cases he
 exact⟨ms.upd u,ms.ext u⟩
end
end Go.SX
