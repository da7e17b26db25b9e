/- SX, part 16: regions: from the symbolic run to the real one; the run as the kernel computes it. -/
import Derived.Test.YtpdpkobkpacbnaaGreatDoorSx15
import Derived.Scope
set_option linter.unusedVariables false
namespace Go.SX
def DY(k:Nat):List Edge->Bool
 | []=>true
 | e::r=>(match Region.binds .any e with|true=>Nat.blt e.on k|false=>true)&&DY k r
def zp:Nat->List Oper->Bool
 | _,[]=>true
 | k,o::r=>DY k o.after.toList&&zp (k+1) r
section
variable {P:Program} {sp:fi} {ops:Array Oper} {msk:List Nat} {w0:World} {N0:f5} {K:FS->Prop} {Q:Exit->Act->World->Prop}
theorem RP{k:Nat}:∀{es:List Edge},DY k es=true→∀ e∈es,Region.binds .any e=true->e.on<k
 | e::r,h,e',a,hb=>by
  simp only[DY,dM] at h;rcases dK.1 a with rfl|a
  .simp_all
  .exact RP h.2 e' a hb
theorem N7:∀{l:List Oper}{k:Nat},(∀ j,l[j]? = ops[k+j]?)->zp k l=true→∀ j o,k<=j->ops[j]? = some o->j<k+l.length→∀ e∈o.after,Region.binds .any e=true->e.on<j
 | [],k,_,_,j,o,h1,_,b,_,_,_=>by simp at b;omega
 | o0::l,k,f,h,j,o,h1,c,b,e,g,i=>by
  simp only[zp,dM] at h;by_cases d:j=k
  .subst d;have h0:ops[j]? = some o0:=by simpa using (f 0).symm
   rw[h0] at c;cases c;exact RP h.1 e (by simpa using g) i
  .exact N7 (λj=>by have:=f (j+1);simpa[gN,uP 1 j] using this) h.2 j o (by omega) c (by simp at b;omega) e g i
def LP(ops:Array Oper)(k:Nat)(listed:Array Bool):Prop:=∀ j,listed[j]? = if j<ops.size then some (decide (j<k)) else none
theorem Le(c:∀ i j,Ai msk i j=true->r6 ops i j)(d:zp 0 ops.toList=true):∀(l:List Oper)(k:Nat)(a:Array Bool)(log:pB)(F:FS),(∀ j,l[j]? = ops[k+j]?)->LP ops k a →
  k+l.length=ops.size->vV P sp ops msk K l k log F->vF P sp ops msk K l.length a log F
 | [],k,a,log,F,_,g,p,h=>by
  refine⟨?_,h⟩;cases hr:Region.ready .any ops a with
  | nil=>rfl
  | cons i r =>
   have hi:i∈Region.ready .any ops a:=by rw[hr];simp
   obtain⟨f,o,ho,_⟩:=mem_ready.1 hi;have b:=(Array.getElem?_eq_some_iff.1 ho).1;rw[qJ,g i,am b] at f;simp at p f;omega
 | o::l,k,a,log,F,v,g,p,h=>by
  have f:ops[k]? = some o:=by simpa using (v 0).symm
  have b:=(Array.getElem?_eq_some_iff.1 f).1;simp only[vV] at h;unfold rR at h;rw[f] at h;obtain⟨st,r,h1,h2,h3,h4⟩:=h;have q:=N7 (ops:=ops) aA d;have s:∀ j,j<k->a.getD j false=true:=λj t=>by
   rw[qJ,g j,am ab];simp[t]
  refine ad5 c f h2 l.length a log F ?_ ?_ h1 h3 λw u=>?_
  .intro j oj hoj t e x y;have m:=(Array.getElem?_eq_some_iff.1 hoj).1;rw[qJ,g j,am m] at t;grind
  .refine mem_ready.2 ⟨?_,o,f,λe x y=>s _ (q k o (Nat.zero_le _) f (by simpa using b) e x y)⟩;rw[qJ,g k,am b];simp
  .refine Le c d l (k+1) _ _ w (λj=>by have:=v (j+1);simpa[gN,uP 1 j] using this) ?_ (by simp at p;omega) (h4 w u);intro j;by_cases n:k=j
   .subst n;rw[Array.getElem?_setIfInBounds_self_of_lt (by
     have:=g k;rw[am b] at this;exact (Array.getElem?_eq_some_iff.1 this).1),am b]
    simp
   .rw[yP n,g j];split
    .congr 1;rw[decide_eq_decide];omega
    .rfl
theorem HR(m:jm P sp/\N0.g=sp.gl){p:Nat->Prop}{e:aZ}{q:World}
  (k:∀ f A' env' l j,K f->ij w0 N0 A' env' f l j->dw p e q A' env' j->Q .normal l j) :
  ∀(c:Nat)(b:Array Bool)(log:pB)(F:FS)(A:Nat->Prop)(env:aZ)(a:Act)(w:World),vF P sp ops msk K c b log F->ij w0 N0 A env F a w->dw p e q A env w →
   wpAny P .any ops Q c b a w
 | 0,_,_,F,A,env,a,w,h,t,x=>⟨h.1,k _ _ _ _ _ h.2 t x⟩
 | c+1,b,log,F,A,env,a,w,h,t,x=>by
  refine⟨λh0=>k _ _ _ _ _ (h.1 h0) t x,λi hi=>?_⟩;have d:=h.2 i hi;unfold rR at d;unfold wpOp;split at d
  next n=>simp only[n];exact HR m k c _ _ F A env a w d t x
  next o n=>simp only[n];obtain⟨st,r,h1,h2,_,h4⟩:=d;exact (HP m t h1 h2).2 _ _ λf A' env' l j hF t' x'=>HR m k c _ _ f A' env' l j (h4 f hF) t' (x.trans x')
theorem QX(f:jm P sp/\N0.g=sp.gl){i:Nat->Prop}{b:aZ}{m:World}
  (n:∀ c A' env' e d,K c->ij w0 N0 A' env' c e d->dw i b m A' env' d->Q .normal e d) :
  ∀(l:List Oper)(k:Nat)(log:pB)(F:FS)(A:Nat->Prop)(env:aZ)(a:Act)(w:World),(∀ j,l[j]? = ops[k+j]?)->vV P sp ops msk K l k log F->ij w0 N0 A env F a w->dw i b m A env w →
   wpOps P ops Q (List.range' k l.length) a w
 | [],k,log,F,A,env,a,w,_,h,t,x=>n _ _ _ _ _ h t x
 | o::l,k,log,F,A,env,a,w,p,h,t,x=>by
  have q:ops[k]? = some o:=by simpa using (p 0).symm
  simp only[vV] at h;unfold rR at h;rw[q] at h;obtain⟨st,r,h1,h2,_,h4⟩:=h;rw[dN,List.range'_succ,wpOps_cons];unfold wpOp;simp only[q];exact (HP f t h1 h2).2 _ _ λc A' env' e d hF t' x' =>
   QX f n l (k+1) _ c A' env' e d (λj=>by have:=p (j+1);simpa[gN,uP 1 j] using this) (h4 c hF) t' (x.trans x')
theorem ij.drew{A:Nat->Prop}{env:aZ}{F:FS}{a:Act}{w:World}(t:ij w0 N0 A env F a w):ij w0 N0 A env F a w.drew/\dw A env w A env w.drew:=by
 have u:mK (λ_=>False) (λ_=>False) A env F.h w A env F.h w.drew:=mK.none (cY.drew w _)
 have x:=t.m.ext u
 exact⟨⟨t.m.upd u,t.len,λi=>yi x _ _ (t.f i),t.dfr⟩,x⟩
theorem aa6(f:jm P sp/\N0.g=sp.gl)(c:P.follows .mixedOrders=true){id:Nat}{b:Bool}{A:Nat->Prop}{env:aZ}{F:FS}{a:Act}{w:World}(hd:b=true->zp 0 ops.toList=true/\msk=D2 ops.toList [])
  (t:ij w0 N0 A env F a w) (h:vV P sp ops msk K ops.toList 0 [] F)
  (i:∀ k A' env' l e,K k->ij w0 N0 A' env' k l e->dw A env w A' env' e->Q .normal l e):(Code.region id ops b).wp P Q a w:=by
 cases b with
 | false =>
  refine wp_region ?_;have:=QX f i ops.toList 0 [] F A env a w aA h t dw.refl;rw[List.range_eq_range'];simpa using this
 | true =>
  obtain⟨d,hm⟩:=hd rfl;subst hm;obtain⟨t',x'⟩:=t.drew;refine wp_region_any c ?_;have:=Le (Qr ops.toList 0 [] aA rfl (by simp[tc])) d ops.toList 0 (Array.replicate ops.size false) [] F aA (λj=>by
   rw[Array.getElem?_replicate];split <;> simp) aA h
  have h2:=HR f i _ _ _ F A env a w.drew this t' x';simpa using h2
end
structure St where
 sl:List SV
 H:List (Nat×Nm)
def eJ:List (Nat×Nm)->Nat->Nm
 | [],_ => .un
 | (m,b)::r,n=>match Nat.beq n m with
  | true=>b
  | false=>eJ r n
def St.fs(S:St):FS:=⟨S.sl,eJ S.H⟩
theorem Il:∀(H:List (Nat×Nm)),eJ H=cZ H (λ_=>.un)
 | []=>rfl
 | (m,b)::r=>by
  funext n;simp only[eJ,cZ,bP.set];by_cases h:n=m
  .subst h;simp
  .have:Nat.beq n m=false:=by
    cases hb:Nat.beq n m with
    | false=>rfl
    | true=>exact absurd (bG hb) h
   rw[this,af h,Il r]
theorem aQ5(u H:List (Nat×Nm)):eJ (u++H)=cZ u (eJ H):=by
 rw[Il,Il,H1]
def ao(b:Bool)(y n:Prop):Prop:=match b with
 | true=>y
 | false=>n
def pR:List Prop->Prop->Prop
 | [],q=>q
 | p::r,q=>p/\pR r q
theorem yw{l:List Prop}{q:Prop}:pR l q↔bV l/\q:=by
 induction l with
 | nil=>simp[pR,bV]
 | cons p l ih=>simp[pR,bV,ih,and_assoc]
def Dk(v:SV)(k:SV->Prop):Prop:=match v with
 | .int a b=>k (.int a b)
 | .bool b=>k (.bool b)
 | .str s=>k (.str s)
 | .dsl t xs=>k (.dsl t xs)
 | .dsx t xs=>k (.dsx t xs)
 | .nilsl=>k .nilsl
 | .own n s=>k (.own n s)
 | .ptr n o=>k (.ptr n o)
 | .eptr n s i o=>k (.eptr n s i o)
 | .dptr t d o=>k (.dptr t d o)
 | .nilp=>k .nilp
 | .fn f c=>k (.fn f c)
 | .agg c=>k (.agg c)
 | .tup c=>k (.tup c)
 | .opt b v=>k (.opt b v)
 | .cv v=>k (.cv v)
 | .gl g=>k (.gl g)
 | .csl n l=>k (.csl n l)
 | .mapp n=>k (.mapp n)
 | .junk=>k .junk
theorem JY(v:SV)(k:SV->Prop):Dk v k=k v:=by cases v <;> rfl
def zJ:List SV->(List SV->Prop)->Prop
 | [],k=>k []
 | x::xs,k=>Dk x λy=>zJ xs λys=>k (y::ys)
theorem Md:∀(l:List SV)(k:List SV->Prop),zJ l k=k l
 | [],k=>rfl
 | x::xs,k=>by simp only[zJ,JY,Md xs]
def Bu(v:SV)(k:SV->Prop):Prop:=Dk v λv=>match v with
 | .agg c=>zJ c λc=>k (.agg c)
 | .tup c=>zJ c λc=>k (.tup c)
 | .fn f c=>zJ c λc=>k (.fn f c)
 | .opt b v=>Dk v λv=>k (.opt b v)
 | v=>k v
theorem If(v:SV)(k:SV->Prop):Bu v k=k v:=by
 unfold Bu;rw[JY];cases v <;> simp only[Md,JY]
def zq:List SV->(List SV->Prop)->Prop
 | [],k=>k []
 | x::xs,k=>Bu x λy=>zq xs λys=>k (y::ys)
theorem Hd:∀(l:List SV)(k:List SV->Prop),zq l k=k l
 | [],k=>rfl
 | x::xs,k=>by simp only[zq,If,Hd xs]
def DA(v:SV)(k:SV->Prop):Prop:=Bu v λv=>match v with
 | .tup c=>zq c λc=>k (.tup c)
 | .opt b v=>Bu v λv=>k (.opt b v)
 | v=>k v
theorem OF(v:SV)(k:SV->Prop):DA v k=k v:=by
 unfold DA;rw[If];cases v <;> simp only[Hd,If]
def vA:List Nat->(List Nat->Prop)->Prop
 | [],k=>k []
 | n::r,k=>vA r λr=>k (n::r)
theorem Ef:∀(l:List Nat)(k:List Nat->Prop),vA l k=k l
 | [],k=>rfl
 | n::r,k=>by simp only[vA,Ef r]
def Fx(b:Nm)(k:Nm->Prop):Prop:=match b with
 | .un=>k .un
 | .dead=>k .dead
 | .live b=>match b with
  | .cells E cs=>zq cs λcs=>k (.live (.cells E cs))
  | .row E t xs=>k (.live (.row E t xs))
  | .frz E t xs=>k (.live (.frz E t xs))
  | .mp kk vk l=>k (.live (.mp kk vk l))
  | .opn E t xs i cs=>zq cs λcs=>k (.live (.opn E t xs i cs))
theorem OI(b:Nm)(k:Nm->Prop):Fx b k=k b:=by
 cases b with
 | live b=>cases b <;> simp only[Fx,Hd]
 | _=>rfl
def BQ:List SV->Nat->SV->(List SV->Prop)->Prop
 | [],_,_,k=>k []
 | _::xs,0,v,k=>k (v::xs)
 | x::xs,n+1,v,k=>BQ xs n v λys=>k (x::ys)
theorem OV:∀(l:List SV)(n:Nat)(v:SV)(k:List SV->Prop),BQ l n v k=k (l.set n v)
 | [],n,v,k=>by simp[BQ]
 | x::xs,0,v,k=>rfl
 | x::xs,n+1,v,k=>by simp only[BQ,OV xs,List.set_cons_succ]
def CM:List (Nat×Nm)->List (Nat×Nm)->(List (Nat×Nm)->Prop)->Prop
 | [],H,k=>k H
 | (n,b)::r,H,k=>CM r H λH'=>Fx b λb'=>k ((n,b')::H')
theorem MW:∀(u H:List (Nat×Nm))(k:List (Nat×Nm)->Prop),CM u H k=k (u++H)
 | [],H,k=>rfl
 | (n,b)::r,H,k=>by simp only[CM,MW r,OI,mF]
def qN(S:St)(dst:Option Tmp)(v:SV)(upd:List (Nat×Nm))(k:St->Prop):Prop:=match S with
 | ⟨sl,H⟩=>CM upd H λH=>match dst with
  | some d=>DA v λv=>BQ sl d v λsl=>k ⟨sl,H⟩
  | none=>k ⟨sl,H⟩
theorem Ws(S:St)(dst:Option Tmp)(v:SV)(a:List (Nat×Nm))(k:St->Prop):qN S dst v a k=k ⟨jH S.sl dst v,a++S.H⟩:=by
 unfold qN
 simp only
 rw[MW]
 cases dst with
 | none=>rfl
 | some d=>simp only[OF,OV,jH]
def xL{X:Type}(x:X):List (Nat×(X->Nm))->List (Nat×Nm)
 | []=>[]
 | (n,f)::r=>(n,f x)::xL x r
theorem Lj{X:Type}(x:X):∀(u:List (Nat×(X->Nm))),xL x u=u.map λp=>(p.1,p.2 x)
 | []=>rfl
 | (n,f)::r=>by simp[xL,Lj x r]
def Kr(dst:Option Tmp)(S:St)(k:St->Prop):iV->Prop
 | .go (.det pre v upd)=>pR pre (qN S dst v upd k)
 | .go (.nd X qn pre R _ v upd)=>pR pre (qn.all λx=>R x->qN S dst (v x) (xL x upd) k)
 | .split g (.det pre v upd)=>ao g (pR pre (qN S dst v upd k)) (qN S dst (.cv undef) [] k)
 | .split g (.nd X qn pre R _ v upd)=>ao g (pR pre (qn.all λx=>R x->qN S dst (v x) (xL x upd) k)) (qN S dst (.cv undef) [] k)
theorem MB{dst:Option Tmp}{S:St}{k:St->Prop}{o:iV}(h:Kr dst S k o):o.pre∧∀ e,lM o dst S.fs e→∃ f,f.fs=e/\k f:=by
 have l:∀ v u,qN S dst v u k→∃ f:St,f.fs=⟨jH S.sl dst v,cZ u (eJ S.H)⟩/\k f:=λv u r=>by
  rw[Ws] at r;exact⟨_,by simp only[St.fs,aQ5],r⟩
 have m:∀{X:Type}{j:Qn X}{R:X->Prop}{v:X->SV}{a:List (Nat×(X->Nm))},(j.all λx=>R x->qN S dst (v x) (xL x a) k)→∀(x:X),R x →
   ∃ f:St,f.fs=⟨jH S.sl dst (v x),cZ (a.map λp=>(p.1,p.2 x)) (eJ S.H)⟩/\k f:=λ{X j R v a} c x n=>by
  have:=j.hall _ c x n;rw[Lj] at this;exact l _ _ this
 cases o with
 | go d =>
  cases d with
  | det pre v a =>
   obtain⟨i,c⟩:=yw.1 h;exact⟨i,by rintro e ⟨x,_,rfl⟩;exact l _ _ c⟩
  | nd X j pre R q v a =>
   obtain⟨i,c⟩:=yw.1 h;refine⟨i,?_⟩;rintro e ⟨x,n,rfl⟩;exact m c x n
 | split g d =>
  cases d with
  | det pre v a =>
   cases g with
   | true =>
    obtain⟨i,c⟩:=yw.1 (show pR pre (qN S dst v a k) from h);exact⟨λ_=>i,by rintro e (⟨_,x,_,rfl⟩|⟨b,_⟩);exact l _ _ c;cases b⟩
   | false =>
    exact⟨λb=>(by cases b),by rintro e (⟨b,_⟩|⟨_,rfl⟩);cases b;exact l (.cv undef) [] h⟩
  | nd X j pre R q v a =>
   cases g with
   | true =>
    obtain⟨i,c⟩:=yw.1 (show pR pre (j.all λx=>R x->qN S dst (v x) (xL x a) k) from h);refine⟨λ_=>i,?_⟩;rintro e (⟨_,x,n,rfl⟩|⟨b,_⟩)
    .exact m c x n
    .cases b
   | false =>
    exact⟨λb=>(by cases b),by rintro e (⟨b,_⟩|⟨_,rfl⟩);cases b;exact l (.cv undef) [] h⟩
def IF(v:SV)(k:SV->Prop):Prop:=match v with
 | .int c e=>∀ n:Int,n=e->k (.int c n)
 | .bool e=>∀ b:Bool,b=e->k (.bool b)
 | .opt g v=>match v with
  | .int c e=>∀ n:Int,n=e->k (.opt g (.int c n))
  | .bool e=>∀ b:Bool,b=e->k (.opt g (.bool b))
  | v=>k (.opt g v)
 | v=>k v
theorem aJ1{v:SV}{k:SV->Prop}(h:IF v k):k v:=by
 unfold IF at h
 grind
def IJ:List SV->Nat->(List SV->Prop)->Prop
 | [],_,k=>k []
 | v::l,0,k=>IF v λv=>k (v::l)
 | v::l,n+1,k=>IJ l n λl=>k (v::l)
theorem Mn:∀{l:List SV}{n:Nat}{k:List SV->Prop},IJ l n k->k l
 | [],_,k,h=>h
 | v::l,0,k,h=>aJ1 (v:=v) h
 | v::l,n+1,k,h=>Mn (l:=l) h
def DP(gs:List Nat)(dst:Option Tmp)(k:St->Prop)(S:St):Prop:=match dst with
 | some d=>match oM d gs with
  | true=>match S with
   | ⟨sl,H⟩=>IJ sl d λsl=>k ⟨sl,H⟩
  | false=>k S
 | none=>k S
theorem OW{gs:List Nat}{dst:Option Tmp}{k:St->Prop}{S:St}(h:DP gs dst k S):k S:=by
 unfold DP at h
 split at h
 .split at h
  .exact Mn h
  .exact h
 .exact h
def xJ(all:List Oper):List Oper->List Nat
 | []=>[]
 | o::l=>match o.guard with
  | some (j,_)=>match nA all j with
   | some oj=>match oj.dst with
    | some d=>match oM d (xJ all l) with
     | true=>xJ all l
     | false=>d::xJ all l
    | none=>xJ all l
   | none=>xJ all l
  | none=>xJ all l
def DK(P:Program)(sp:fi)(all:List Oper)(gs:List Nat)(k:St->Prop):List Oper->St->Prop
 | [],S=>k S
 | o::l,S=>match (m3 P sp all o S.sl).run (eJ S.H) with
  | some (st,_)=>Kr o.dst S (DP gs o.dst (DK P sp all gs k l)) st
  | none=>False
def Gr:SV->SV->Option (List Prop)
 | .int k n,.int k' m=>match lO k k' with
  | true=>some [n=m]
  | false=>none
 | .bool b,.bool c=>some [b=c]
 | .str b,.str c=>some [b=c]
 | .dsl t xs,.dsl t' ys=>match hY t' t ys with
  | some zs=>some [xs=zs]
  | none=>none
 | .dsx t xs,.dsx t' ys=>match hY t' t ys with
  | some zs=>some [xs=zs]
  | none=>none
 | .nilsl,.nilsl=>some []
 | .nilp,.nilp=>some []
 | .own n s,.own m z=>match Nat.beq n m,Nat.beq s z with
  | true,true=>some []
  | _,_=>none
 | .ptr n s,.ptr m z=>match Nat.beq n m,Nat.beq s z with
  | true,true=>some []
  | _,_=>none
 | _,_=>none
theorem XL{u v:SV}{ps:List Prop}(h:Gr u v=some ps)(a:bV ps):u=v:=by
 unfold Gr at h
 split at h
 .split at h
  next hk=>cases lY hk;cases h;rw[a.1]
  .cases h
 .cases h;rw[a.1]
 .cases h;rw[a.1]
 .split at h
  next zs hc=>obtain⟨b,c⟩:=jN hc;subst b;subst c;cases h;rw[a.1]
  .cases h
 .split at h
  next zs hc=>obtain⟨b,c⟩:=jN hc;subst b;subst c;cases h;rw[a.1]
  .cases h
 .rfl
 .rfl
 .split at h
  .simp_all
  .cases h
 .split at h
  .simp_all
  .cases h
 .cases h
def EK:List Nat->List Nat->Bool
 | [],[]=>true
 | a::l,b::m=>Nat.beq a b&&EK l m
 | _,_=>false
theorem Pn:∀{l m:List Nat},EK l m=true->l=m
 | [],[],_=>rfl
 | a::l,b::m,h=>by
  simp only[EK,dM] at h;rw[bG h.1,Pn h.2]
def Dy:List Nat->List Nat->Bool
 | [],_=>true
 | a::l,m=>oM a m&&Dy l m
theorem NR:∀{l m:List Nat},Dy l m=true→∀ n∈l,n∈m
 | a::l,m,h,n,c=>by
  simp only[Dy,dM] at h;rcases dK.1 c with rfl|c
  .exact wQ.1 h.1
  .exact NR h.2 n c
def FA:iV->Option SV
 | .go (.det [] v [])=>some v
 | _=>none
theorem IL{a:iV}{v:SV}(h:FA a=some v):a = .go (.det [] v []):=by
 unfold FA at h
 grind
def HH:iV->Option (List (Nat×Nm))
 | .go (.det _ _ u)=>some u
 | _=>none
theorem T2{a:iV}{u:List (Nat×Nm)}(h:HH a=some u):∃ p v,a = .go (.det p v u):=by
 unfold HH at h
 grind
def Eu(t:nW)(v:SV)(h:bP):Option (List Prop):=match t.q.run h with
 | some (st,r)=>match FA st with
  | some v1=>match EK r t.rd with
   | true=>Gr v1 v
   | false=>none
  | none=>none
 | none=>none
def DS(s t:nW):Option (List Prop):=match HH s.st,FA t.st with
 | some u,some v=>match Dy t.rd s.wr with
  | true=>match Eu t v s.old,Eu t v (cZ u s.old) with
   | some p,some q=>some (p++q)
   | _,_=>none
  | false=>none
 | _,_=>none
def JF(s t:nW):Option (List Prop):=match oJ s.wr t.wr&&oJ s.swr t.srd&&oJ s.swr t.swr&&oJ t.swr s.srd with
 | true=>match (match oJ s.wr t.rd with|true=>some []|false=>DS s t),(match oJ t.wr s.rd with|true=>some []|false=>DS t s) with
  | some p,some q=>some (p++q)
  | _,_=>none
 | false=>none
def AU(msk:List Nat)(i:Nat)(t:nW):pB->Option (List Prop)
 | []=>some []
 | (j,s)::r=>match Ai msk j i||H9 s t with
  | true=>AU msk i t r
  | false=>match JF s t with
   | some ps=>match AU msk i t r with
    | some qs=>some (ps++qs)
    | none=>none
   | none=>none
theorem LO{t:nW}{v:SV}{h:bP}{ps:List Prop}(e:Eu t v h=some ps)(hp:bV ps):t.q.run h=some (.go (.det [] v []),t.rd):=by
 unfold Eu at e
 split at e
 next st r hr=>
  split at e
  .rename_i v1 h1;split at e
   next h2=>rw[hr,IL h1,Pn h2,XL e hp]
   .cases e
  .cases e
 .cases e
theorem Sl{s t:nW}{ps:List Prop}(e:DS s t=some ps)(hp:bV ps):Kl s t:=by
 unfold DS at e
 split at e
 next u v hu hv=>
  split at e
  .rename_i hs;split at e
   .rename_i p q h1 h2;cases e;obtain⟨c1,c2⟩:=qm.1 hp;obtain⟨pre,v0,a⟩:=T2 hu;refine⟨pre,v0,u,a,NR hs,?_,?_⟩
    .rw[IL hv];exact LO h1 c1
    .rw[IL hv];exact LO h2 c2
   .cases e
  .cases e
 .cases e
theorem aB8{s t:nW}{ps:List Prop}(e:JF s t=some ps)(hp:bV ps):tM s t:=by
 unfold JF at e
 split at e
 next b=>
  simp at b;obtain⟨⟨⟨b1,b2⟩,b3⟩,b4⟩:=b;split at e
  .rename_i p q h1 h2;cases e;obtain⟨c1,c2⟩:=qm.1 hp;refine⟨?_,qk b1,?_,qk b2,qk b3,qk b4⟩
   .split at h1
    next a=>exact .inl (qk a)
    .exact .inr (Sl h1 c1)
   .split at h2
    next a=>exact .inl (qk a)
    .exact .inr (Sl h2 c2)
  .cases e
 .cases e
theorem Hi{msk:List Nat}{i:Nat}{t:nW}:∀{l:pB}{ps:List Prop},AU msk i t l=some ps->bV ps->Fb msk i t l
 | [],_,_,_=>λp b=>by cases b
 | (j,s)::r,ps,e,b=>by
  simp only[AU] at e;split at e
  .rename_i c;intro p a;rcases dK.1 a with rfl|a
   .simp at c;exact c.imp id aj9
   .exact Hi e b p a
  .split at e
   .rename_i p1 h1;split at e
    .rename_i q h2;cases e;obtain⟨c1,c2⟩:=qm.1 b;intro p a;rcases dK.1 a with rfl|a
     .exact .inr (aB8 h1 c1)
     .exact Hi h2 c2 p a
    .cases e
   .cases e
def EW(P:Program)(sp:fi)(ops:Array Oper)(gs:List Nat)(msk:List Nat)(k:St->Prop):List Oper->Nat->pB->St->Prop
 | [],_,_,S=>k S
 | o::l,i,log,S=>match (m3 P sp ops.toList o S.sl).run (eJ S.H) with
  | some (st,r)=>vA r λr=>vA st.wr λwr=>vA (o.looksAt ops) λlk=>match AU msk i ⟨r,wr,lk,we o.dst,m3 P sp ops.toList o S.sl,st,tz wr (eJ S.H)⟩ log with
   | some ps=>pR ps (Kr o.dst S (DP gs o.dst (EW P sp ops gs msk k l (i+1) ((i,⟨r,wr,lk,we o.dst,m3 P sp ops.toList o S.sl,st,tz wr (eJ S.H)⟩)::log))) st)
   | none=>False
  | none=>False
def I9(P:Program)(sp:fi)(nms:List Nat)(ops:Array Oper)(draw:Bool)(k:St->Prop)(S:St):Prop :=
 vA (xJ ops.toList ops.toList++nms) λgs=>match draw with
 | false=>DK P sp ops.toList gs k ops.toList S
 | true=>match zp 0 ops.toList with
  | true=>vA (D2 ops.toList []) λmsk=>EW P sp ops gs msk k ops.toList 0 [] S
  | false=>False
section
variable {P:Program} {sp:fi} {ops:Array Oper} {gs nms:List Nat} {msk:List Nat} {w0:World} {N0:f5} {Q:Exit->Act->World->Prop} {k:St->Prop}
theorem Oz:∀(l:List Oper)(i:Nat)(log:pB)(S:St),(∀ j,l[j]? = ops[i+j]?)->EW P sp ops gs msk k l i log S →
  vV P sp ops msk (λF=>∃ a,St.fs a=F/\k a) l i log S.fs
 | [],i,log,S,_,h=>⟨S,rfl,h⟩
 | o::l,i,log,S,d,h=>by
  have h0:ops[i]? = some o:=by simpa using (d 0).symm
  simp only[EW] at h;simp only[vV];unfold rR;rw[h0];split at h
  .rename_i st r hr;simp only[Ef] at h;split at h
   next ps b=>obtain⟨c,h⟩:=yw.1 h;obtain⟨h1,h2⟩:=MB h;refine⟨st,r,hr,h1,Hi b c,λF' hF=>?_⟩;obtain⟨a,rfl,h3⟩:=h2 F' hF;exact Oz l (i+1) _ a (λj=>by have:=d (j+1);simpa[gN,uP 1 j] using this) (OW h3)
   .exact h.elim
  .exact h.elim
theorem MP(f:jm P sp/\N0.g=sp.gl){m:Nat->Prop}{b:aZ}{n:World}
  (p:∀ d A' env' e c,k d->ij w0 N0 A' env' (St.fs d) e c->dw m b n A' env' c->Q .normal e c) :
  ∀(l:List Oper)(i:Nat)(S:St)(A:Nat->Prop)(env:aZ)(a:Act)(w:World),(∀ j,l[j]? = ops[i+j]?)->DK P sp ops.toList gs k l S->ij w0 N0 A env S.fs a w->dw m b n A env w →
   wpOps P ops Q (List.range' i l.length) a w
 | [],i,S,A,env,a,w,_,h,t,x=>p _ _ _ _ _ h t x
 | o::l,i,S,A,env,a,w,q,h,t,x=>by
  have h0:ops[i]? = some o:=by simpa using (q 0).symm
  simp only[DK] at h;rw[dN,List.range'_succ,wpOps_cons];unfold wpOp;simp only[h0];split at h
  next st r hr=>obtain⟨h1,h2⟩:=MB h;refine (HP f t hr h1).2 _ _ λF' A' env' e c hF t' x'=>?_;obtain⟨d,rfl,h3⟩:=h2 F' hF;exact MP f p l (i+1) d A' env' e c (λj=>by have:=q (j+1);simpa[gN,uP 1 j] using this) (OW h3) t' (x.trans x')
  .exact h.elim
theorem aK7(f:jm P sp/\N0.g=sp.gl)(c:P.follows .mixedOrders=true){id:Nat}{b:Bool}{A:Nat->Prop}{env:aZ}{S:St}{a:Act}{w:World}
  (t:ij w0 N0 A env S.fs a w) (h:I9 P sp nms ops b k S)
  (hQ:∀ i A' env' j e,k i->ij w0 N0 A' env' (St.fs i) j e->dw A env w A' env' e->Q .normal j e):(Code.region id ops b).wp P Q a w:=by
 unfold I9 at h
 rw[Ef] at h
 cases b with
 | false =>
  refine wp_region ?_;have:=MP f hQ ops.toList 0 S A env a w aA h t dw.refl;rw[List.range_eq_range'];simpa using this
 | true =>
  simp only at h;split at h
  next d=>rw[Ef] at h;refine aa6 f c (λ_=>⟨d,rfl⟩) t (Oz ops.toList 0 [] S aA h) ?_;grind
  .exact h.elim
end
end Go.SX
namespace Go.SX
def PN:Nat:=1048576
def QN:Nat:=2097152
abbrev Rn:=List (Nat×Option Nat)
def bf:Rn->Nat->Option (Option Nat)
 | [],_=>none
 | (m,x)::r,n=>match Nat.beq n m with
  | true=>some x
  | false=>bf r n
def Jx:Option Nat->Option Nat->Bool
 | none,none=>true
 | some a,some b=>Nat.beq a b
 | _,_=>false
theorem aF0{a b:Option Nat}(h:Jx a b=true):a=b:=by
 cases a <;> cases b <;> simp only[Jx,BN] at h
 .rfl
 .simp_all
def z6(m:Nat):Rn->Bool
 | []=>false
 | (_,some k)::r=>Nat.beq m k||z6 m r
 | (_,none)::r=>z6 m r
def Ek(c:Nat)(x:Option Nat)(R:Rn):Option Rn:=match bf R c with
 | some y=>match Jx y x with
  | true=>some R
  | false=>none
 | none=>match x with
  | none=>some ((c,none)::R)
  | some m=>match z6 m R with
   | true=>none
   | false=>some ((c,some m)::R)
def iM(R:Rn):Prop:=∀ c c' m,bf R c=some (some m)->bf R c'=some (some m)->c=c'
def fC(R R':Rn):Prop:=∀ n y,bf R n=some y->bf R' n=some y
theorem fC.refl{R:Rn}:fC R R:=λ_ _ h=>h
theorem fC.trans{a b c:Rn}(h:fC a b)(k:fC b c):fC a c:=λn y e=>k n y (h n y e)
theorem D7{m:Nat}:∀{R:Rn},z6 m R=false→∀ c,bf R c≠some (some m)
 | [],_,c=>by simp[bf]
 | (n,some k)::r,h,c=>by
  simp only[z6,Bool.or_eq_false_iff] at h;simp only[bf];split
  .intro e;cases e;rw[ub] at h;cases h.1
  .exact D7 h.2 c
 | (n,none)::r,h,c=>by
  simp only[z6] at h;simp only[bf];split
  .intro e;cases e
  .exact D7 h c
theorem qf{c n:Nat}{x:Option Nat}{R:Rn}:bf ((c,x)::R) n=if n=c then some x else bf R n:=by
 simp only[bf]
 by_cases h:n=c
 .subst h;simp
 .have:Nat.beq n c=false:=by
   cases hb:Nat.beq n c with
   | false=>rfl
   | true=>exact absurd (bG hb) h
  rw[this,af h]
theorem Ql{c:Nat}{x:Option Nat}{R g:Rn}(h:Ek c x R=some g):bf g c=some x/\fC R g/\(iM R->iM g):=by
 unfold Ek at h
 split at h
 next y j=>
  split at h
  next d=>cases h;rw[aF0 d] at j;exact⟨j,fC.refl,id⟩
  .cases h
 next hn=>
  have l:∀ y,fC R ((c,y)::R):=λy n z i=>by
   rw[qf,af (λe=>by rw[e,hn] at i;cases i)];exact i
  split at h
  .cases h;refine⟨by rw[qf,am rfl],l _,λhi a b m f d=>?_⟩;rw[qf] at f d;split at f
   .cases f
   .split at d
    .cases d
    .exact hi a b m f d
  .rename_i m;split at h
   .cases h
   .rename_i o;cases h;refine⟨by rw[qf,am rfl],l _,λhi a b k f d=>?_⟩;rw[qf] at f d;split at f
    .rename_i ea;cases f;split at d
     next eb=>rw[ea,eb]
     .exact absurd d (D7 o b)
    .split at d
     .cases d;exact absurd f (D7 o a)
     .exact hi a b k f d
def iH(R:Rn)(env:aZ):aZ:=λn=>match bf R n with
 | some (some m)=>env m
 | some none => .nil
 | none => .un
theorem ug{R:Rn}{env:aZ}{c m:Nat}(h:bf R c=some (some m)):iH R env c=env m:=by unfold iH;rw[h]
theorem Cy{R:Rn}{env:aZ}{c:Nat}(h:bf R c=some none):iH R env c = .nil:=by unfold iH;rw[h]
def pH(p:Prop)(R:Rn):Option (Rn×List Prop):=some (R,[p])
def wu(c:Nat)(x:Option Nat)(ps:List Prop)(R:Rn):Option (Rn×List Prop):=match Ek c x R with
 | some R'=>some (R',ps)
 | none=>none
def Es(v u:SV)(R:Rn):Option (Rn×List Prop):=match v,u with
 | .junk,_=>some (R,[])
 | .int k n,.int k' m=>match lO k k' with
  | true=>pH (m=n) R
  | false=>none
 | .bool b,.bool c=>pH (c=b) R
 | .str b,.str c=>pH (c=b) R
 | .dsl t xs,.dsl t' ys=>match hY t' t ys with
  | some zs=>pH (zs=xs) R
  | none=>none
 | .dsl t xs,.dsx t' ys=>match hY t' t ys with
  | some zs=>pH (zs=xs) R
  | none=>none
 | .dsl t xs,.nilsl=>pH (xs=[]) R
 | .dsx t xs,.dsx t' ys=>match hY t' t ys with
  | some zs=>pH (zs=xs) R
  | none=>none
 | .nilsl,.nilsl=>some (R,[])
 | .own c sz,.own d sz'=>match Nat.beq sz sz' with
  | true=>wu c (some d) [] R
  | false=>none
 | .own c sz,.nilsl=>wu c none [] R
 | .ptr c o,.ptr d o'=>match Nat.beq o o' with
  | true=>wu c (some d) [] R
  | false=>none
 | .eptr c sz i o,.eptr d sz' i' o'=>match Nat.beq sz sz',Nat.beq o o' with
  | true,true=>wu c (some d) [i'=i] R
  | _,_=>none
 | .csl c k,.csl d k'=>match Nat.beq k k' with
  | true=>wu c (some d) [] R
  | false=>none
 | .mapp c,.mapp d=>wu c (some d) [] R
 | .nilp,.nilp=>some (R,[])
 | .fn f [],.fn g []=>match Nat.beq f g with
  | true=>some (R,[])
  | false=>none
 | .cv x,.cv y=>pH (y=x) R
 | _,_=>none
def zX:List SV->List SV->Rn->Option (Rn×List Prop)
 | [],[],R=>some (R,[])
 | v::vs,u::us,R=>match Es v u R with
  | some (R1,p)=>match zX vs us R1 with
   | some (R2,q)=>some (R2,p++q)
   | none=>none
  | none=>none
 | _,_,_=>none
def IH(v u:SV)(R:Rn):Option (Rn×List Prop):=match v,u with
 | .agg cs,.agg ds=>zX cs ds R
 | .fn f cs,.fn g ds=>match Nat.beq f g with
  | true=>zX cs ds R
  | false=>none
 | v,u=>Es v u R
def IM(b b0:lD)(R:Rn):Option (Rn×List Prop):=match b,b0 with
 | .cells E cs,.cells E' ds=>match Nat.beq E E' with
  | true=>zX cs ds R
  | false=>none
 | .row E t xs,.row E' t' ys=>match Nat.beq E E',hY t' t ys with
  | true,some zs=>pH (zs=xs) R
  | _,_=>none
 | .frz E t xs,.frz E' t' ys=>match Nat.beq E E',hY t' t ys with
  | true,some zs=>pH (zs=xs) R
  | _,_=>none
 | .mp kk vk l,.mp kk' vk' l'=>match lO kk kk',lO vk vk' with
  | true,true=>pH (l'=l) R
  | _,_=>none
 | _,_=>none
section
variable {A:Nat->Prop} {env:aZ} {w:World}
theorem yY{c:Nat}{x:Option Nat}{ps d:List Prop}{R e:Rn}(h:wu c x ps R=some (e,d)):bf e c=some x/\fC R e/\(iM R->iM e)/\d=ps:=by
 unfold wu at h
 split at h
 next R1 h1=>cases h;obtain⟨a,b,c⟩:=Ql h1;exact⟨a,b,c,rfl⟩
 .cases h
theorem EA{p:Prop}{a:List Prop}{R b:Rn}(h:pH p R=some (b,a)):b=R/\(bV a->p):=by
 cases h;exact⟨rfl,λh=>h.1⟩
theorem Rh{v u:SV}{R i:Rn}{ps:List Prop}(h:Es v u R=some (i,ps)) :
  fC R i/\(iM R->iM i)/\(bV ps→∀ b,fC i b→∀ x,az A env w u x->az A (iH b env) w v x):=by
 have c:∀{p:Prop},pH p R=some (i,ps)->(p→∀ b:Rn,fC i b→∀ x,az A env w u x->az A (iH b env) w v x) →
   fC R i/\(iM R->iM i)/\(bV ps→∀ b,fC i b→∀ x,az A env w u x->az A (iH b env) w v x):=λe f=>by
  obtain⟨rfl,hp⟩:=EA e;exact⟨fC.refl,id,λh=>f (hp h)⟩
 have g:some (R,([]:List Prop))=some (i,ps)->(∀ b:Rn,∀ x,az A env w u x->az A (iH b env) w v x) →
   fC R i/\(iM R->iM i)/\(bV ps→∀ b,fC i b→∀ x,az A env w u x->az A (iH b env) w v x):=λe f=>by
  cases e;exact⟨fC.refl,id,λ_ b _=>f b⟩
 unfold Es at h
 split at h
 .exact g h λb x _=>by simp only[az]
 .split at h
  next hk=>cases lY hk;exact c h λe b _ x a=>by subst e;simpa only[az] using a
  .cases h
 .exact c h λe b _ x a=>by subst e;simpa only[az] using a
 .exact c h λe b _ x a=>by subst e;simpa only[az] using a
 .split at h
  next zs o=>obtain⟨q,n⟩:=jN o;subst q;exact c h λe b _ x a=>by simp only at n;subst n;subst e;simpa only[az] using a
  .cases h
 .split at h
  next zs o=>obtain⟨q,n⟩:=jN o;subst q;exact c h λe b _ x a=>by simp only at n;subst n;subst e;exact a.1
  .cases h
 .exact c h λe b _ x a=>by subst e;subst a;exact⟨aA,.inl ⟨⟨_,rfl⟩,rfl⟩⟩
 .split at h
  next zs o=>obtain⟨q,n⟩:=jN o;subst q;exact c h λe b _ x a=>by simp only at n;subst n;subst e;simpa only[az] using a
  .cases h
 .exact g h λb x a=>by simpa only[az] using a
 .split at h
  next d=>have d:=bG d;subst d;obtain⟨j,k,l,rfl⟩:=yY h;refine⟨k,l,λ_ b m x a=>?_⟩;simp only[az] at a ⊢;rw[ug (m _ _ j)];exact a
  .cases h
 .obtain⟨j,k,l,rfl⟩:=yY h;refine⟨k,l,λ_ b m x a=>?_⟩;exact .inl ⟨Cy (m _ _ j),_,a⟩
 .split at h
  next d=>have d:=bG d;subst d;obtain⟨j,k,l,rfl⟩:=yY h;refine⟨k,l,λ_ b m x a=>?_⟩;simp only[az] at a ⊢;rw[ug (m _ _ j)];exact a
  .cases h
 .split at h
  next d r=>have d:=bG d;have r:=bG r;subst d r;obtain⟨j,k,l,rfl⟩:=yY h;refine⟨k,l,λo b m x a=>?_⟩;have hi:=o.1;subst hi;simp only[az] at a ⊢;rw[ug (m _ _ j)];exact a
  .cases h
 .split at h
  next d=>have d:=bG d;subst d;obtain⟨j,k,l,rfl⟩:=yY h;refine⟨k,l,λ_ b m x a=>?_⟩;simp only[az] at a ⊢;rw[ug (m _ _ j)];exact a
  .cases h
 .obtain⟨j,k,l,rfl⟩:=yY h;refine⟨k,l,λ_ b m x a=>?_⟩;simp only[az] at a ⊢;rw[ug (m _ _ j)];exact a
 .exact g h λb x a=>by simpa only[az] using a
 .split at h
  next d=>have d:=bG d;subst d;exact g h λb x a=>by simp only[az,aR] at a ⊢;exact a
  .cases h
 .exact c h λe b _ x a=>by subst e;simpa only[az] using a
 .cases h
theorem Do:∀{vs d:List SV}{R a:Rn}{ps:List Prop},zX vs d R=some (a,ps) →
  fC R a/\(iM R->iM a)/\(bV ps→∀ b,fC a b→∀ xs,aR A env w d xs->aR A (iH b env) w vs xs)
 | [],[],R,a,ps,h=>by
  cases h;exact⟨fC.refl,id,λ_ b _ xs c=>by simpa only[aR] using c⟩
 | v::vs,u::d,R,a,ps,h=>by
  simp only[zX] at h;split at h
  .rename_i R1 p h1;split at h
   next R2 q h2=>cases h;obtain⟨a1,a2,a3⟩:=Rh h1;obtain⟨e,b2,b3⟩:=Do h2;refine⟨a1.trans e,λh=>b2 (a2 h),λhc b f xs c=>?_⟩;obtain⟨c1,c2⟩:=qm.1 hc;obtain⟨x,r,rfl,c,hr⟩:=c;exact⟨x,r,rfl,a3 c1 b (e.trans f) x c,b3 c2 b f r hr⟩
   .cases h
  .cases h
theorem ar6{v u:SV}{R a:Rn}{ps:List Prop}(h:IH v u R=some (a,ps)) :
  fC R a/\(iM R->iM a)/\(bV ps→∀ b,fC a b→∀ x,az A env w u x->az A (iH b env) w v x):=by
 unfold IH at h
 split at h
 .obtain⟨c,d,a3⟩:=Do (A:=A) (env:=env) (w:=w) h;refine⟨c,d,λhc b hf x e=>?_⟩;simp only[az] at e ⊢;grind
 .split at h
  next f=>have f:=bG f;obtain⟨c,d,a3⟩:=Do (A:=A) (env:=env) (w:=w) h;refine⟨c,d,λhc b hf x e=>?_⟩;simp only[az] at e ⊢;grind
  .cases h
 .exact Rh h
theorem aR8{b b0:lD}{R g:Rn}{ps:List Prop}(h:IM b b0 R=some (g,ps)) :
  fC R g/\(iM R->iM g)/\b.mut=b0.mut/\(bV ps→∀ d,fC g d→∀ k len,jX A env w k len b0->jX A (iH d env) w k len b) ∧
   (bV ps→∀ E t,b0 = .row E t []∨b0 = .frz E t []→∃ E t,b = .row E t []∨b = .frz E t []):=by
 unfold IM at h
 split at h
 .split at h
  next a=>have a:=bG a;subst a;obtain⟨a1,a2,a3⟩:=Do h;refine⟨a1,a2,rfl,λc d i k len ⟨vs,e,hd⟩=>⟨vs,e,a3 c d i _ hd⟩,λ_ E t j=>?_⟩;simp_all
  .cases h
 .split at h
  next zs a c=>have a:=bG a;subst a;obtain⟨l,m⟩:=jN c;subst l;subst m;obtain⟨rfl,f⟩:=EA h;refine⟨fC.refl,id,rfl,λc d i k len a=>by rw[← f c];exact a,λc E t j=>?_⟩;simp_all
  .cases h
 .split at h
  next zs a c=>have a:=bG a;subst a;obtain⟨l,m⟩:=jN c;subst l;subst m;obtain⟨rfl,f⟩:=EA h;refine⟨fC.refl,id,rfl,λc d i k len a=>by rw[← f c];exact a,λc E t j=>?_⟩;simp_all
  .cases h
 .split at h
  next h1 h2=>cases lY h1;cases lY h2;obtain⟨rfl,f⟩:=EA h;refine⟨fC.refl,id,rfl,λc d i k len a=>by rw[← f c];exact a,λc E t j=>?_⟩;simp_all
  .cases h
 .cases h
end
def zg(R:Rn)(k:Rn->Prop):Prop:=match R with
 | []=>k []
 | (n,x)::r=>zg r λr=>match x with
  | none=>k ((n,none)::r)
  | some m=>k ((n,some m)::r)
theorem Dt:∀(R:Rn)(k:Rn->Prop),zg R k=k R
 | [],k=>rfl
 | (n,none)::r,k=>by simp only[zg,Dt r]
 | (n,some m)::r,k=>by simp only[zg,Dt r]
def CO:List SV->List SV->Rn->(Rn->Prop)->Prop
 | [],[],R,k=>k R
 | v::vs,u::us,R,k=>match IH v u R with
  | some (R',ps)=>zg R' λR'=>pR ps (CO vs us R' k)
  | none=>False
 | _,_,_,_=>False
def Fm(H:List (Nat×Nm))(c m:Nat)(b:lD)(R:Rn)(k:Rn->Prop):Prop:=match eJ H m with
 | .live b0=>match IM b b0 R with
  | some (R',ps)=>zg R' λR'=>pR ps (k R')
  | none=>False
 | _=>False
def wU(H:List (Nat×Nm)):List (Nat×Nm)->Rn->(Rn->Prop)->Prop
 | [],R,k=>k R
 | (c,b)::r,R,k=>match b with
  | .live b=>match bf R c with
   | some (some m)=>Fm H c m b R λR'=>wU H r R' k
   | some none=>match b with
    | .row _ _ xs=>xs=[]/\wU H r R k
    | _=>False
   | none=>match Ek c (some c) R with
    | some R1=>Fm H c c b R1 λR'=>wU H r R' k
    | none=>False
  | _=>False
def AM(n:Nat):List (Nat×Nm)->Bool
 | []=>false
 | (m,_)::r=>Nat.beq n m||AM n r
def Ec(Hh:List (Nat×Nm)):Rn->Bool
 | []=>true
 | (c,_)::r=>AM c Hh&&Ec Hh r
def Ei(R:Rn):List (Nat×Nm)->Bool
 | []=>true
 | (n,_)::r=>(Nat.blt n PN||Nat.ble QN n||(match bf R n with|some (some m)=>Nat.beq m n|_=>false))&&Ei R r
def enter(S T:St):Prop:=CO T.sl S.sl [] λR=>wU S.H T.H R λR=>match Ec T.H R,Ei R S.H with
 | true,true=>True
 | _,_=>False
theorem KJ{n:Nat}:∀{H:List (Nat×Nm)},AM n H=true↔n∈H.map (·.1)
 | []=>by simp[AM]
 | (m,b)::r=>by
  simp only[AM,px,fF,dK,KJ];constructor
  .rintro (h|h)
   .exact .inl (bG h)
   .exact .inr h
  .rintro (h|h)
   .left;rw[h];exact ub _
   .exact .inr h
theorem RB{Hh:List (Nat×Nm)}:∀{R:Rn},Ec Hh R=true→∀ c,bf R c≠none->c∈Hh.map (·.1)
 | [],_,c,h=>by simp[bf] at h
 | (n,x)::r,h,c,hc=>by
  simp only[Ec,dM] at h;rw[qf] at hc;split at hc
  next e=>rw[e];exact KJ.1 h.1
  .exact RB h.2 c hc
theorem Qi{R:Rn}:∀{H:List (Nat×Nm)},Ei R H=true→∀ n,PN<=n->n<QN->n∈H.map (·.1)->bf R n=some (some n)
 | [],_,n,_,_,h=>by simp at h
 | (m,b)::r,h,n,hn,hn',hm=>by
  simp only[Ei,dM,px] at h;rcases dK.1 hm with e|hm
  .have e:n=m:=e;subst e;rcases h.1 with (h1|h1)|h1
   .have:=kO h1;have hn:PN<=n:=hn;omega
   .have:=kO h1;have hn:n<QN:=hn';omega
   .split at h1
    next k hk=>rw[hk,bG h1]
    .cases h1
  .exact Qi h.2 n hn hn' hm
theorem HV{H:List (Nat×Nm)}{n:Nat}:eJ H n = .un∨(n,eJ H n)∈H:=by
 induction H with
 | nil=>exact .inl rfl
 | cons p r ih =>
  obtain⟨m,b⟩:=p;unfold eJ;split
  next hb=>rw[bG hb];exact .inr (fY ..)
  .rcases ih with h|h
   .exact .inl h
   .exact .inr (fM _ h)
theorem OK{H:List (Nat×Nm)}{n:Nat}(h:n ∉ H.map (·.1)):eJ H n = .un:=by
 rcases HV (H:=H) (n:=n) with h1|h1
 .exact h1
 .exact absurd (sr (f:=(·.1)) h1) h
structure tf (A:Nat->Prop) (env:aZ) (w:World) (A':Nat->Prop) (env':aZ) (w':World):Prop where
 imm:∀ b,A b->A' b
 envp:∀ n,PN<=n->n<QN->env n ≠ .un->env' n=env n
 keep:∀ b o,A b->w'.cell? ⟨b,o,none⟩=w.cell? ⟨b,o,none⟩
 shape:∀ b s,w.shape? b=some s->w'.shape? b=some s
theorem dw.ext0{A:Nat->Prop}{env:aZ}{w:World}{A':Nat->Prop}{env':aZ}{w':World}(x:dw A env w A' env' w'):tf A env w A' env' w':=by
 refine⟨x.imm,λn _ _ hn=>?_,x.keep,x.shape⟩
 cases h:env n with
 | un=>exact absurd h hn
 | nil=>exact x.envn n h
 | blk b l=>exact x.envb n b l h
theorem tf.trans{A A' A'':Nat->Prop}{env env' env'':aZ}{w w' w'':World}(h:tf A env w A' env' w')(k:tf A' env' w' A'' env'' w''):tf A env w A'' env'' w'' :=
 ⟨λb hb=>k.imm b (h.imm b hb),λn hn hn' e=>(k.envp n hn hn' (by rw[h.envp n hn hn' e];exact e)).trans (h.envp n hn hn' e),
  λb o hb=>(k.keep b o (h.imm b hb)).trans (h.keep b o hb),λb s e=>k.shape b s (h.shape b s e)⟩
section
variable {w0:World} {N0:f5} {A:Nat->Prop} {env:aZ} {w:World} {a:Act}
theorem RF:∀{vs us:List SV}{R:Rn}{k:Rn->Prop},CO vs us R k →
  ∃ R',k R'∧vs.length=us.length/\fC R R'∧(iM R->iM R')∧∀ Rf,fC R' Rf→∀ i x,az A env w (dX us i) x->az A (iH Rf env) w (dX vs i) x
 | [],[],R,k,h=>⟨R,h,rfl,fC.refl,id,λRf _ i x _=>by simp[dX,nA,az]⟩
 | v::vs,u::us,R,k,h=>by
  simp only[CO] at h;split at h
  .rename_i R1 ps h1;rw[Dt] at h;obtain⟨hc,h2⟩:=yw.1 h;obtain⟨a1,a2,a3⟩:=ar6 (A:=A) (env:=env) (w:=w) h1;obtain⟨R2,b1,b2,b3,b4,b5⟩:=RF h2;refine⟨R2,b1,by simp[b2],a1.trans b3,λh=>b4 (a2 h),λRf hf i x hx=>?_⟩;cases i with
   | zero=>exact a3 hc Rf (b3.trans hf) x hx
   | succ i=>exact b5 Rf hf i x hx
  .exact h.elim
 | [],_::_,_,_,h=>h.elim
 | _::_,[],_,_,h=>h.elim
def vU(A:Nat->Prop)(env:aZ)(w:World)(H:List (Nat×Nm))(R:Rn)(c:Nat)(x:Nm):Prop :=
 ∃ b,x = .live b/\((∃ m b0,bf R c=some (some m)/\eJ H m = .live b0/\b.mut=b0.mut/\(∀ Rf,fC R Rf→∀ k len,jX A env w k len b0->jX A (iH Rf env) w k len b) ∧
   (∀ E t,b0 = .row E t []∨b0 = .frz E t []→∃ E t,b = .row E t []∨b = .frz E t [])) ∨
  (bf R c=some none∧∃ E t,b = .row E t []))
theorem vU.mono{H:List (Nat×Nm)}{R R':Rn}{c:Nat}{x:Nm}(h:vU A env w H R c x)(le:fC R R'):vU A env w H R' c x:=by
 obtain⟨b,e,⟨m,b0,h1,h2,h3,h4,h5⟩|⟨h1,h2⟩⟩:=h
 .exact⟨b,e,.inl ⟨m,b0,le _ _ h1,h2,h3,λRf hf=>h4 Rf (le.trans hf),h5⟩⟩
 .exact⟨b,e,.inr ⟨le _ _ h1,h2⟩⟩
theorem Sa{H:List (Nat×Nm)}{c m:Nat}{b:lD}{R:Rn}{k:Rn->Prop}(hl:bf R c=some (some m))(h:Fm H c m b R k) :
  ∃ R',k R'∧fC R R'∧(iM R->iM R')/\vU A env w H R' c (.live b):=by
 unfold Fm at h
 split at h
 next b0 h0=>
  split at h
  next R' ps h1=>rw[Dt] at h;obtain⟨hc,h2⟩:=yw.1 h;obtain⟨a1,a2,a3,a4,a5⟩:=aR8 (A:=A) (env:=env) (w:=w) h1;exact⟨R',h2,a1,a2,b,rfl,.inl ⟨m,b0,a1 _ _ hl,h0,a3,a4 hc,a5 hc⟩⟩
  .exact h.elim
 .exact h.elim
theorem Oj{H:List (Nat×Nm)}:∀{Hh:List (Nat×Nm)}{R:Rn}{k:Rn->Prop},wU H Hh R k →
  ∃ R',k R'∧fC R R'∧(iM R->iM R')∧∀ c x,(c,x)∈Hh->vU A env w H R' c x
 | [],R,k,h=>⟨R,h,fC.refl,id,λc x hx=>by simp at hx⟩
 | (c,b)::r,R,k,h=>by
  simp only[wU] at h;split at h
  .rename_i b;have fin:∀{R1 R2:Rn},fC R R1->(iM R->iM R1)->fC R1 R2->(iM R1->iM R2)->vU A env w H R2 c (.live b)->wU H r R2 k →
     ∃ R',k R'∧fC R R'∧(iM R->iM R')∧∀ c' x,(c',x)∈(c,Nm.live b)::r->vU A env w H R' c' x:=by
    intro R1 R2 l1 i1 l2 i2 ok hr;obtain⟨R3,c1,c2,c3,c4⟩:=Oj hr;refine⟨R3,c1,(l1.trans l2).trans c2,λh=>c3 (i2 (i1 h)),λc' x hx=>?_⟩;rcases dK.1 hx with e|hx
    .cases e;exact ok.mono c2
    .exact c4 c' x hx
   split at h
   next m hl=>obtain⟨R2,b1,b2,b3,b4⟩:=Sa (A:=A) (env:=env) (w:=w) hl h;exact fin fC.refl id b2 b3 b4 b1
   .rename_i hl;split at h
    next E t xs=>obtain⟨rfl,h⟩:=h;exact fin fC.refl id fC.refl id ⟨_,rfl,.inr ⟨hl,E,t,rfl⟩⟩ h
    .exact h.elim
   .split at h
    next R1 h1=>obtain⟨a1,a2,a3⟩:=Ql h1;obtain⟨R2,b1,b2,b3,b4⟩:=Sa (A:=A) (env:=env) (w:=w) a1 h;exact fin a2 a3 b2 b3 b4 b1
    .exact h.elim
  .exact h.elim
theorem Iq{S T:St}(h:enter S T)(t:ij w0 N0 A env S.fs a w):∃ env',ij w0 N0 A env' T.fs a w/\tf A env w A env' w:=by
 unfold enter at h
 obtain⟨R1,h1,hlen,l1,i1,d1⟩:=RF (A:=A) (env:=env) (w:=w) h
 obtain⟨R,h2,l2,i2,ok⟩:=Oj (A:=A) (env:=env) (w:=w) h1
 have hinj:iM R:=i2 (i1 (λc c' m hc=>by simp[bf] at hc))
 split at h2
 next hcov hpar=>
  have m:=t.m;have hdom:∀ n,n ∉ T.H.map (·.1)->bf R n=none:=λn hn=>by
   cases hl:bf R n with
   | none=>rfl
   | some y=>exact absurd (RB hcov n (by rw[hl];simp)) hn
  have live:∀ n b,T.fs.h n = .live b->vU A env w S.H R n (.live b):=λn b hb=>by
   rcases HV (H:=T.H) (n:=n) with h|h
   .simp only[St.fs] at hb;rw[h] at hb;cases hb
   .simp only[St.fs] at hb;rw[hb] at h;exact ok n _ h
  have hmut:∀ n b k l,T.fs.h n = .live b->b.mut=true->iH R env n = .blk k l→∃ m b0,bf R n=some (some m)/\eJ S.H m = .live b0/\b0.mut=true/\env m = .blk k l:=by
   intro n b k l hb hm he;obtain⟨b',e,⟨m',b0,e1,e2,e3,_⟩|⟨e1,_⟩⟩:=live n b hb
   .cases e;unfold iH at he;rw[e1] at he;exact⟨m',b0,e1,e2,by rw[← e3];exact hm,he⟩
   .unfold iH at he;rw[e1] at he;cases he
  refine⟨iH R env,⟨⟨m.os,m.tape,m.output,m.size,m.fr,m.Alt,?_,?_,?_,m.fresh,m.gl⟩,by rw[show T.fs.sl.length=S.fs.sl.length from hlen];exact t.len,λi=>d1 R l2 i _ (t.f i),t.dfr⟩,⟨λ_ h=>h,?_,λ_ _ _=>rfl,λ_ _ h=>h⟩⟩
  .intro n;cases hn:T.fs.h n with
   | dead=>trivial
   | un =>
    show iH R env n = .un;have:n ∉ T.H.map (·.1):=λhmem=>by
     rcases HV (H:=T.H) (n:=n) with h|h
     .obtain⟨⟨n',x⟩,hx,rfl⟩:=List.mem_map.1 hmem;have:∀(H:List (Nat×Nm)),(∀ c x,(c,x)∈H→∃ b,x = .live b)→∀ n,n∈H.map (·.1)→∃ b,eJ H n = .live b:=by
       intro H
       induction H with
       | nil=>intro _ n hn;simp at hn
       | cons p H ih =>
        obtain⟨q,y⟩:=p;intro hall n hn;simp only[eJ];split
        .exact hall q y (fY ..)
        .rename_i hne;refine ih (λc x hx=>hall c x (fM _ hx)) n ?_;rcases dK.1 hn with e|hn
         .simp only at e;subst e;rw[ub] at hne;cases hne
         .exact hn
      obtain⟨b,hb⟩:=this T.H (λc x hx=>let ⟨b,e,_⟩:=ok c x hx;⟨b,e⟩) n' hmem;simp only[St.fs] at hn;rw[hb] at hn;cases hn
     .simp only[St.fs] at hn;rw[hn] at h;obtain⟨b,e,_⟩:=ok n _ h;cases e
    unfold iH;rw[hdom n this]
   | live b =>
    obtain⟨b',e,⟨m',b0,e1,e2,e3,e4,e5⟩|⟨e1,E,tt,e2⟩⟩:=live n b hn
    .cases e;have he:iH R env n=env m':=by unfold iH;rw[e1]
     have hm:=m.nm m';simp only[St.fs,e2] at hm;rcases hm with⟨k,len,he',hb,hA⟩|⟨he',E,tt,hb⟩
     .exact .inl ⟨k,len,he.trans he',e4 R fC.refl k len hb,λhmm=>hA (by rw[← e3];exact hmm)⟩
     .exact .inr ⟨he.trans he',e5 E tt hb⟩
    .cases e;exact .inr ⟨by unfold iH;rw[e1],E,tt,.inl e2⟩
  .intro n b k l hb hm he;obtain⟨m',b0,e1,e2,e3,e4⟩   := hmut n b k l hb hm he;exact m.own m' b0 k l e2 e3 e4
  .intro n n' b c k l l' hb hc hbm hcm he he';obtain⟨m1,b1,e1,e2,e3,e4⟩   := hmut n b k l hb hbm he;obtain⟨m2,b2,f1,f2,f3,f4⟩:=hmut n' c k l' hc hcm he';have:=m.inj m1 m2 b1 b2 k l l' e2 f2 e3 f3 e4 f4;subst this;exact hinj n n' m1 e1 f1
  .intro n hn hn' hne;have:n∈S.H.map (·.1):=by
    refine fj λhno=>hne ?_;have:=m.nm n;simp only[St.fs,OK hno] at this;exact this
   have:=Qi hpar n hn hn' this;unfold iH;rw[this]
 .exact h2.elim
end
end Go.SX
namespace Go.SX
inductive Ex where
 | normal
 | exit (id:Nat)
 | ret
def Ex.to:Ex->Exit
 | .normal => .normal
 | .exit id => .exit id
 | .ret => .ret
structure Gd:Type 1 where
 ι:Type
 μ:ι->Nat:=λ_=>0
 inv:ι->Prop
 qn:Qn ι := .plain ι
 keep:List Nat:=[]
 slots:ι->List (Nat×SV):=λ_=>[]
 keepN:List Nat:=[]
 names:ι->List (Nat×Nm):=λ_=>[]
def Oy(n:Nat):List (Nat×SV)->SV
 | [] => .junk
 | (m,v)::r=>match Nat.beq n m with
  | true=>v
  | false=>Oy n r
def QP(keep:List Nat)(l:List (Nat×SV)):Nat->List SV->List SV
 | _,[]=>[]
 | n,v::r=>(match oM n keep with|true=>v|false=>Oy n l)::QP keep l (n+1) r
def Lx(H:List (Nat×Nm))(r:List (Nat×Nm)):List Nat->List (Nat×Nm)
 | []=>r
 | n::l=>(n,eJ H n)::Lx H r l
def AD(S:St)(an:Gd)(i:an.ι):St:=⟨QP an.keep (an.slots i) 0 S.sl,Lx S.H (an.names i) an.keepN⟩
def Fw:List SV->(List SV->Prop)->Prop
 | [],k=>k []
 | x::xs,k=>DA x λy=>Fw xs λys=>k (y::ys)
theorem RR:∀(l:List SV)(k:List SV->Prop),Fw l k=k l
 | [],k=>rfl
 | x::xs,k=>by simp only[Fw,OF,RR xs]
def FN:List (Nat×Nm)->(List (Nat×Nm)->Prop)->Prop
 | [],k=>k []
 | (n,b)::r,k=>Fx b λb=>FN r λr=>k ((n,b)::r)
theorem M1:∀(l:List (Nat×Nm))(k:List (Nat×Nm)->Prop),FN l k=k l
 | [],k=>rfl
 | (n,b)::r,k=>by simp only[FN,OI,M1 r]
def va(S:St)(k:St->Prop):Prop:=match S with
 | ⟨sl,H⟩=>Fw sl λsl=>FN H λH=>k ⟨sl,H⟩
theorem Gs(S:St)(k:St->Prop):va S k=k S:=by cases S;simp only[va,RR,M1]
def wx:Code->Nat
 | .region id _ _=>id
 | .seq a _=>wx a
 | .block _ a=>wx a
 | .loop a=>wx a
 | .scope a=>wx a
 | .cond _ a _=>wx a
 | _=>0
structure ce:Type 1 where
 loops:Nat->Option (St->Gd):=λ_=>none
 cuts:Nat->Option (St->Gd):=λ_=>none
 nms:List Nat:=[]
 unr:Nat->Nat:=λ_=>0
def svI:SV->Int
 | .int _ n=>n
 | _=>0
def ZE:SV->Bool
 | .bool b=>b
 | _=>false
def Zh(t:CT):SV->List t.D
 | .dsl t' xs=>match hY t' t xs with
  | some ys=>ys
  | none=>[]
 | .dsx t' xs=>match hY t' t xs with
  | some ys=>ys
  | none=>[]
 | _=>[]
def P5(t:CT)(cs:List SV):t.D:=match (jz t cs).run (λ_=>.un) with
 | some ((d,_,_),_)=>d
 | none=>t.dflt
def St.i(S:St)(n:Nat):Int:=svI (dX S.sl n)
def St.b(S:St)(n:Nat):Bool:=ZE (dX S.sl n)
def St.l(S:St)(t:CT)(n:Nat):List t.D:=Zh t (dX S.sl n)
def St.a(S:St)(t:CT)(n:Nat):t.D:=match dX S.sl n with
 | .agg cs=>P5 t cs
 | _=>t.dflt
def St.r(S:St)(t:CT)(n:Nat):List t.D:=match eJ S.H n with
 | .live (.row _ t' xs)=>match hY t' t xs with
  | some ys=>ys
  | none=>[]
 | .live (.frz _ t' xs)=>match hY t' t xs with
  | some ys=>ys
  | none=>[]
 | _=>[]
def St.c(S:St)(t:CT)(n:Nat):t.D:=match eJ S.H n with
 | .live (.cells _ cs)=>P5 t cs
 | _=>t.dflt
def St.o(S:St)(t:CT)(n:Nat):List t.D:=match dX S.sl n with
 | .own m _=>S.r t m
 | _=>[]
def St.p(S:St)(t:CT)(n:Nat):t.D:=match dX S.sl n with
 | .ptr m _=>S.c t m
 | _=>t.dflt
def RV:SV->Option Bool
 | .bool b=>some b
 | _=>none
def Ip(id:Nat)(K:Ex->St->Prop):Ex->St->Prop:=λe S=>match e with
 | .exit i=>match Nat.beq i id with
  | true=>K .normal S
  | false=>K (.exit i) S
 | .normal=>K .normal S
 | .ret=>K .ret S
def FF(k:St->Prop)(K:Ex->St->Prop):Ex->St->Prop:=λe S=>match e with
 | .normal=>k S
 | .exit i=>K (.exit i) S
 | .ret=>K .ret S
def JV(body:(Ex->St->Prop)->St->Prop):Nat->(Ex->St->Prop)->St->Prop
 | 0,_,_=>False
 | n+1,K,S=>body (FF (JV body n K) K) S
def sx(P:Program)(sp:fi)(an:ce):Code->(Ex->St->Prop)->St->Prop
 | .skip,K,S=>K .normal S
 | .region _ ops draw,K,S=>I9 P sp an.nms ops draw (K .normal) S
 | .seq a b,K,S=>match an.cuts (wx b) with
  | none=>sx P sp an a (FF (sx P sp an b K) K) S
  | some c=>sx P sp an a (FF (λS'=>(c S).qn.ex λi=>(c S).inv i/\enter S' (AD S (c S) i)) K) S/\(c S).qn.all λi=>(c S).inv i->va (AD S (c S) i) (sx P sp an b K)
 | .cond c a b,K,S=>match RV (aW (dX S.sl) c) with
  | some t=>ao t (sx P sp an a K S) (sx P sp an b K S)
  | none=>False
 | .block id a,K,S=>sx P sp an a (Ip id K) S
 | .loop a,K,S=>match an.unr (wx a) with
  | n+1=>JV (sx P sp an a) (n+1) K S
  | 0=>match an.loops (wx a) with
   | none=>False
   | some c=>((c S).qn.ex λi=>(c S).inv i/\enter S (AD S (c S) i))/\(c S).qn.all λi=>(c S).inv i->va (AD S (c S) i) (sx P sp an a (FF (λS'=>(c S).qn.ex λj=>(c S).inv j/\(c S).μ j<(c S).μ i/\enter S' (AD S (c S) j)) K))
 | .exit id,K,S=>K (.exit id) S
 | .scope a,K,S=>sx P sp an a K S
 | .ret,K,S=>K .ret S
 | _,_,_=>False
section
variable {P:Program} {sp:fi} {an:ce} {w0:World} {N0:f5}
theorem ag0(hs:jm P sp/\N0.g=sp.gl)(qZ:P.follows .mixedOrders=true):∀(c:Code)(K:Ex->St->Prop)(S:St)(Q:Exit->Act->World->Prop)(A:Nat->Prop)(env:aZ)(a:Act)(w:World),
  sx P sp an c K S->ij w0 N0 A env S.fs a w →
  (∀ e S' A' env' a' w',K e S'→ij w0 N0 A' env' (St.fs S') a' w'→tf A env w A' env' w'→Q e.to a' w')->c.wp P Q a w:=by
 have refl0:∀{A:Nat->Prop}{env:aZ}{w:World},tf A env w A env w:=dw.refl.ext0
 intro c
 induction c with
 | skip=>intro K S Q A env a w h t hQ;exact wp_skip (hQ .normal S A env a w h t refl0)
 | region id ops draw =>
  intro K S Q A env a w h t hQ;exact aK7 hs qZ t h λS' A' env' a' w' hk t' x=>hQ .normal S' A' env' a' w' hk t' x.ext0
 | seq x y ihx ihy =>
  intro K S Q A env a w h t hQ;simp only[sx] at h;split at h
  .refine wp_seq (ihx _ S _ A env a w h t ?_);intro e S' A' env' a' w' hk t' x';cases e with
   | normal=>exact ihy K S' Q A' env' a' w' hk t' λe S2 A2 env2 a2 w2 hk2 t2 x2=>hQ e S2 A2 env2 a2 w2 hk2 t2 (x'.trans x2)
   | exit i=>exact hQ (.exit i) S' A' env' a' w' hk t' x'
   | ret=>exact hQ .ret S' A' env' a' w' hk t' x'
  .rename_i c hc;refine wp_seq (ihx _ S _ A env a w h.1 t ?_);intro e S' A' env' a' w' hk t' x';cases e with
   | normal =>
    obtain⟨i,hi,he⟩:=(c S).qn.hex _ hk;obtain⟨env2,t2,x2⟩:=Iq he t';have h2:=(c S).qn.hall _ h.2 i hi;rw[Gs] at h2;exact ihy K _ Q A' env2 a' w' h2 t2 λe S3 A3 env3 a3 w3 hk3 t3 x3=>hQ e S3 A3 env3 a3 w3 hk3 t3 ((x'.trans x2).trans x3)
   | exit i=>exact hQ (.exit i) S' A' env' a' w' hk t' x'
   | ret=>exact hQ .ret S' A' env' a' w' hk t' x'
 | cond c x y ihx ihy =>
  intro K S Q A env a w h t hQ;simp only[sx] at h;split at h
  .rename_i b hb;have hd:=dg t.f c;have hv:aW (dX S.sl) c = .bool b:=by
    unfold RV at hb;split at hb
    next b' he=>cases hb;exact he
    .cases hb
   simp only[St.fs] at hd;rw[hv] at hd;simp only[az] at hd;cases b with
   | true=>exact wp_cond_true hd (ihx K S Q A env a w h t hQ)
   | false=>exact wp_cond_false hd (ihy K S Q A env a w h t hQ)
  .exact h.elim
 | block id x ih =>
  intro K S Q A env a w h t hQ;refine wp_block (ih _ S _ A env a w h t ?_);intro e S' A' env' a' w' hk t' x';cases e with
  | normal=>exact hQ .normal S' A' env' a' w' hk t' x'
  | exit i =>
   simp only[Ex.to,Exit.inBlock];by_cases hi:i=id
   .subst hi;simp only[Ip,ub] at hk;rw[am rfl];exact hQ .normal S' A' env' a' w' hk t' x'
   .have hb:Nat.beq i id=false:=by
     cases hb:Nat.beq i id with
     | false=>rfl
     | true=>exact absurd (bG hb) hi
    simp only[Ip,hb] at hk;rw[af hi];exact hQ (.exit i) S' A' env' a' w' hk t' x'
  | ret=>exact hQ .ret S' A' env' a' w' hk t' x'
 | loop x ih =>
  intro K S Q A env a w h t hQ;simp only[sx] at h;split at h
  .rename_i n0 _;refine wp_loop_ghost (λn a' w'=>∃ S' A' env',JV (sx P sp an x) n K S'∧ij w0 N0 A' env' S'.fs a' w'∧tf A env w A' env' w') (n0+1) ⟨S,A,env,h,t,refl0⟩ ?_;rintro n a1 w1 ⟨S1,A1,env1,h1,t1,x1⟩;cases n with
   | zero=>exact h1.elim
   | succ n =>
    refine ih _ _ _ A1 env1 a1 w1 h1 t1 ?_;intro e S' A' env' a' w' hk t' x';cases e with
    | normal=>exact⟨n,Nat.lt_succ_self n,S',A',env',hk,t',x1.trans x'⟩
    | exit i=>exact hQ (.exit i) S' A' env' a' w' hk t' (x1.trans x')
    | ret=>exact hQ .ret S' A' env' a' w' hk t' (x1.trans x')
  split at h
  .exact h.elim
  .rename_i c hc;obtain⟨hex,hr⟩:=h;obtain⟨i0,hi0,he0⟩:=(c S).qn.hex _ hex;obtain⟨env0,t0,x0⟩:=Iq he0 t;refine wp_loop_ghost (λn a' w'=>∃ i A' env',(c S).inv i/\n=(c S).μ i/\ij w0 N0 A' env' (AD S (c S) i).fs a' w'∧tf A env w A' env' w') ((c S).μ i0) ⟨i0,A,env0,hi0,rfl,t0,x0⟩ ?_;rintro n a1 w1 ⟨i,A1,env1,hi,rfl,t1,x1⟩;have h1:=(c S).qn.hall _ hr i hi;rw[Gs] at h1;refine ih _ _ _ A1 env1 a1 w1 h1 t1 ?_;intro e S' A' env' a' w' hk t' x';cases e with
   | normal =>
    obtain⟨j,hj,hμ,he⟩:=(c S).qn.hex _ hk;obtain⟨env2,t2,x2⟩:=Iq he t';exact⟨(c S).μ j,hμ,j,A',env2,hj,rfl,t2,(x1.trans x').trans x2⟩
   | exit i=>exact hQ (.exit i) S' A' env' a' w' hk t' (x1.trans x')
   | ret=>exact hQ .ret S' A' env' a' w' hk t' (x1.trans x')
 | exit id=>intro K S Q A env a w h t hQ;exact wp_exit (hQ (.exit id) S A env a w h t refl0)
 | scope x ih =>
  intro K S Q A env a w h t hQ;refine wp_scope_straight (ih K S _ A env a w h t ?_);intro e S' A' env' a' w' hk t' x';cases e with
  | normal=>exact hQ .normal S' A' env' a' w' hk t' x'
  | exit i=>exact hQ (.exit i) S' A' env' a' w' hk t' x'
  | ret=>exact hQ .ret S' A' env' a' w' hk t' x'
 | ret=>intro K S Q A env a w h t hQ;exact wp_ret (hQ .ret S A env a w h t refl0)
 | rangeFunc f ps as b _ _=>intro K S Q A env a w h t hQ;exact h.elim
 | label l=>intro K S Q A env a w h t hQ;exact h.elim
 | goto l=>intro K S Q A env a w h t hQ;exact h.elim
 | refuse s=>intro K S Q A env a w h t hQ;exact h.elim
end
end Go.SX
namespace Go.SX
inductive OT where
 | dat (t:CT)
 | row (E:TypeId) (t:CT)
 | rowg (E:TypeId) (t:CT)
 | fnc (f:FuncId)
 | ali
 | ref (E:TypeId) (o:OT)
 | pair (a b:OT)
@[reducible] def OT.D:OT->Type
 | .dat t=>t.D
 | .row _ t=>List t.D
 | .rowg _ t=>List t.D
 | .fnc _=>Unit
 | .ali=>Unit
 | .ref _ o=>o.D
 | .pair a b=>a.D×b.D
@[reducible] def OT.X:OT->Type
 | .dat t=>t.D
 | .row _ t=>List t.D
 | .rowg _ _=>Unit
 | .fnc _=>Unit
 | .ali=>Unit
 | .ref _ o=>o.X
 | .pair a b=>a.X×b.X
def OT.wf:(o:OT)->o.D->Prop
 | .dat t,d=>t.wf d
 | .row _ t,d=>d.length<=maxLen∧∀ x∈d,t.wf x
 | .rowg _ t,d=>d.length<=maxLen∧∀ x∈d,t.wf x
 | .fnc _,_=>True
 | .ali,_=>True
 | .ref _ o,d=>o.wf d
 | .pair a b,d=>a.wf d.1/\b.wf d.2
def OT.nb:OT->Nat
 | .ref _ o=>o.nb+1
 | .pair a b=>a.nb+b.nb
 | _=>0
def OT.nc:OT->Nat
 | .row _ _=>1
 | .rowg _ _=>1
 | .ref _ o=>o.nc
 | .pair a b=>a.nc+b.nc
 | _=>0
def OT.nr:OT->Nat
 | .row _ _=>1
 | .ref _ o=>o.nr
 | .pair a b=>a.nr+b.nr
 | _=>0
instance:Coe CT OT:=⟨OT.dat⟩
inductive PK where
 | val (t:CT)
 | agg (t:CT)
 | box (E:TypeId) (o:OT)
 | row (E:TypeId) (t:CT)
 | own (E:TypeId) (t:CT)
 | fn (f:FuncId) (k:Nat)
 | nils
 | ago (o:OT)
@[reducible] def PK.D:PK->Type
 | .val t=>t.D
 | .agg t=>t.D
 | .box _ o=>o.D
 | .row _ t=>List t.D
 | .own _ t=>List t.D
 | .fn _ _=>Unit
 | .nils=>Unit
 | .ago o=>o.D
@[reducible] def bw:List PK->Type
 | []=>Unit
 | p::r=>p.D×bw r
def PK.wf:(p:PK)->p.D->Prop
 | .val t,d=>t.wf d
 | .agg t,d=>t.wf d
 | .box _ o,d=>o.wf d
 | .row _ t,d=>d.length<=maxLen∧∀ x∈d,t.wf x
 | .own _ t,d=>d.length<=maxLen∧∀ x∈d,t.wf x
 | .fn _ _,_=>True
 | .nils,_=>True
 | .ago o,d=>o.wf d
def yy:(ps:List PK)->bw ps->Prop
 | [],_=>True
 | p::r,d=>p.wf d.1/\yy r d.2
def A9:(t:CT)->(t.D->Prop)->Prop
 | .pair a b,k=>A9 a λx=>A9 b λy=>k (x,y)
 | .int _,k=>∀ x:Int,k x
 | .bool,k=>∀ x:Bool,k x
 | .str,k=>∀ x:ByteArray,k x
 | .sl t,k=>∀ x:List t.D,k x
theorem JI:∀{t:CT}{k:t.D->Prop},A9 t k↔∀ d,k d
 | .pair a b,k=>by
  simp only[A9,JI (t:=a),JI];simp_all
 | .int _,k=>m5
 | .bool,k=>m5
 | .str,k=>m5
 | .sl t,k=>m5
def yv(t:CT)(k:t.D->Prop):Prop:=match Nat.ble t.size 6 with
 | true=>A9 t k
 | false=>∀ d:t.D,k d
theorem EL{t:CT}{k:t.D->Prop}:yv t k↔∀ d,k d:=by
 unfold yv
 split
 .exact JI
 .exact m5
def xm:(o:OT)->(o.D->Prop)->Prop
 | .dat t,k=>yv t k
 | .row _ t,k=>∀ x:List t.D,k x
 | .rowg _ t,k=>∀ x:List t.D,k x
 | .fnc _,k=>k ()
 | .ali,k=>k ()
 | .ref _ o,k=>xm o k
 | .pair a b,k=>xm a λx=>xm b λy=>k (x,y)
theorem DC:∀{o:OT}{k:o.D->Prop},xm o k↔∀ d,k d
 | .dat t,k=>EL
 | .row _ t,k=>m5
 | .rowg _ t,k=>m5
 | .fnc _,k=>⟨λh _=>h,λh=>h ()⟩
 | .ali,k=>⟨λh _=>h,λh=>h ()⟩
 | .ref _ o,k=>DC (o:=o)
 | .pair a b,k=>by
  simp only[xm,DC,DC];simp_all
def PK.all:(p:PK)->(p.D->Prop)->Prop
 | .val t,k=>yv t k
 | .agg t,k=>yv t k
 | .box _ o,k=>xm o k
 | .row _ t,k=>∀ x:List t.D,k x
 | .own _ t,k=>∀ x:List t.D,k x
 | .fn _ _,k=>k ()
 | .nils,k=>k ()
 | .ago o,k=>xm o k
theorem PK.all_iff{p:PK}{k:p.D->Prop}:p.all k↔∀ d,k d:=by
 cases p <;> simp only[PK.all,EL,DC] <;> exact⟨λh _=>h,λh=>h ()⟩
def xG:(ps:List PK)->(bw ps->Prop)->Prop
 | [],k=>k ()
 | p::r,k=>p.all λx=>xG r λy=>k (x,y)
theorem Ik:∀{ps:List PK}{k:bw ps->Prop},xG ps k↔∀ d,k d
 | [],k=>⟨λh d=>h,λh=>h ()⟩
 | p::r,k=>by
  simp only[xG,PK.all_iff,Ik (ps:=r)];simp_all
def Bc(E:TypeId)(t:CT):List SV->Q (List t.D×List SV×Option Nat)
 | .own n sz::r => .ask n fun
  | .live (.row E' t' xs)=>match Nat.beq E E',Nat.beq sz t.size,hY t' t xs with
   | true,true,some ys => .ret (ys,r,some n)
   | _,_,_ => .fail
  | _ => .fail
 | .nilsl::r => .ret ([],r,none)
 | _ => .fail
def rJ(a0:Option Nat):(o:OT)->List SV->Q (o.D×List SV×List (Nat×Nm)×List Nat×List (Option Nat))
 | .dat t,cs=>(jz t cs).bind λp=>.ret (p.1,p.2.1,p.2.2,[],[])
 | .row E t,cs=>(Bc E t cs).bind λp=>.ret (p.1,p.2.1,[],[],[p.2.2])
 | .rowg E t,cs=>(Bc E t cs).bind λp=>.ret (p.1,p.2.1,[],[],[p.2.2])
 | .fnc f,.fn g []::r=>match Nat.beq f g with
  | true => .ret ((),r,[],[],[])
  | false => .fail
 | .fnc _,_ => .fail
 | .ali,.ptr n 0::r=>match a0 with
  | some m=>match Nat.beq n m with
   | true => .ret ((),r,[],[],[])
   | false => .fail
  | none => .fail
 | .ali,_ => .fail
 | .ref E o,.ptr n 0::r => .ask n fun
  | .live (.cells E' cs)=>match Nat.beq E E' with
   | true=>(rJ a0 o cs).bind λp=>match p.2.1 with
    | [] => .ret (p.1,r,p.2.2.1,n::p.2.2.2.1,p.2.2.2.2)
    | _ => .fail
   | false => .fail
  | _ => .fail
 | .ref _ _,_ => .fail
 | .pair a b,cs=>(rJ a0 a cs).bind λp=>(rJ a0 b p.2.1).bind λq=>.ret ((p.1,q.1),q.2.1,p.2.2.1++q.2.2.1,p.2.2.2.1++q.2.2.2.1,p.2.2.2.2++q.2.2.2.2)
def vq:(o:OT)->o.D->Nat->Nat->List SV
 | .dat t,d,_,_=>dU t d
 | .row _ t,_,_,i=>[.own (QN+i) t.size]
 | .rowg _ t,_,_,i=>[.own (QN+i) t.size]
 | .fnc f,_,_,_=>[.fn f []]
 | .ali,_,_,_=>[.ptr PN 0]
 | .ref _ _,_,j,_=>[.ptr (PN+j) 0]
 | .pair a b,d,j,i=>vq a d.1 j i++vq b d.2 (j+a.nb) (i+a.nc)
def vp:(o:OT)->o.D->Nat->Nat->List (Nat×Nm)
 | .dat _,_,_,_=>[]
 | .row _ _,_,_,_=>[]
 | .rowg _ _,_,_,_=>[]
 | .fnc _,_,_,_=>[]
 | .ali,_,_,_=>[]
 | .ref E o,d,j,i=>(PN+j,.live (.cells E (vq o d (j+1) i)))::vp o d (j+1) i
 | .pair a b,d,j,i=>vp a d.1 j i++vp b d.2 (j+a.nb) (i+a.nc)
def Aa:(o:OT)->o.D->Nat->List (Nat×Nm)
 | .dat _,_,_=>[]
 | .row E t,xs,i=>[(QN+i,.live (.row E t xs))]
 | .rowg E t,xs,i=>[(QN+i,.live (.row E t xs))]
 | .fnc _,_,_=>[]
 | .ali,_,_=>[]
 | .ref _ o,d,i=>Aa o d i
 | .pair a b,d,i=>Aa a d.1 i++Aa b d.2 (i+a.nc)
def Au(t:CT)(d:t.D):SV:=match dU t d with
 | [s]=>s
 | _ => .junk
def Cg:Option Nat->Nat->Option Nat
 | some m,_=>some m
 | none,n=>some n
def gT:Option Nat->(ps:List PK)->List SV->Q (bw ps×List (Nat×Nm)×List Nat×List (Option Nat))
 | _,[],[] => .ret ((),[],[],[])
 | a0,.val t::ps,v::vs=>(jz t [v]).bind λp=>match p.2.1 with
  | []=>(gT a0 ps vs).bind λq=>.ret ((p.1,q.1),p.2.2++q.2.1,q.2.2)
  | _ => .fail
 | a0,.agg t::ps,.agg cs::vs=>(jz t cs).bind λp=>match p.2.1 with
  | []=>(gT a0 ps vs).bind λq=>.ret ((p.1,q.1),p.2.2++q.2.1,q.2.2)
  | _ => .fail
 | a0,.nils::ps,.nilsl::vs=>(gT a0 ps vs).bind λq=>.ret (((),q.1),q.2)
 | a0,.fn f k::ps,.fn g cs::vs=>match Nat.beq f g,Nat.beq cs.length k with
  | true,true=>(gT a0 ps (cs++vs)).bind λq=>.ret (((),q.1),q.2)
  | _,_ => .fail
 | a0,.box E o::ps,.ptr n 0::vs => .ask n fun
  | .live (.cells E' cs)=>match Nat.beq E E' with
   | true=>(rJ a0 o cs).bind λp=>match p.2.1 with
    | []=>(gT (Cg a0 n) ps vs).bind λq=>.ret ((p.1,q.1),p.2.2.1++q.2.1,n::(p.2.2.2.1++q.2.2.1),p.2.2.2.2++q.2.2.2)
    | _ => .fail
   | false => .fail
  | _ => .fail
 | a0,.row E t::ps,.own n sz::vs => .ask n fun
  | .live (.row E' t' xs)=>match Nat.beq E E',Nat.beq sz t.size,hY t' t xs with
   | true,true,some ys=>(gT (Cg a0 n) ps vs).bind λq=>.ret ((ys,q.1),q.2.1,n::q.2.2.1,q.2.2.2)
   | _,_,_ => .fail
  | _ => .fail
 | a0,.own E t::ps,v::vs=>(Bc E t [v]).bind λp=>(gT a0 ps vs).bind λq=>.ret ((p.1,q.1),q.2.1,q.2.2.1,p.2.2::q.2.2.2)
 | a0,.ago o::ps,.agg cs::vs=>match Nat.beq o.nb 0 with
  | true=>(rJ a0 o cs).bind λp=>match p.2.1 with
   | []=>(gT a0 ps vs).bind λq=>.ret ((p.1,q.1),p.2.2.1++q.2.1,q.2.2.1,p.2.2.2.2++q.2.2.2)
   | _ => .fail
  | false => .fail
 | _,_,_ => .fail
def iC:(ps:List PK)->bw ps->Nat->Nat->List SV
 | [],_,_,_=>[]
 | .val t::ps,d,j,i=>Au t d.1::iC ps d.2 j i
 | .agg t::ps,d,j,i => .agg (dU t d.1)::iC ps d.2 j i
 | .box E o::ps,d,j,i => .ptr (PN+j) 0::iC ps d.2 (j+1+o.nb) (i+o.nc)
 | .row E t::ps,d,j,i => .own (PN+j) t.size::iC ps d.2 (j+1) i
 | .own E t::ps,d,j,i => .own (QN+i) t.size::iC ps d.2 j (i+1)
 | .fn f k::ps,d,j,i => .fn f ((iC ps d.2 j i).take k)::(iC ps d.2 j i).drop k
 | .nils::ps,d,j,i => .nilsl::iC ps d.2 j i
 | .ago o::ps,d,j,i => .agg (vq o d.1 j i)::iC ps d.2 j (i+o.nc)
def pM:(ps:List PK)->bw ps->Nat->Nat->List (Nat×Nm)
 | [],_,_,_=>[]
 | .val t::ps,d,j,i=>pM ps d.2 j i
 | .agg t::ps,d,j,i=>pM ps d.2 j i
 | .box E o::ps,d,j,i=>(PN+j,.live (.cells E (vq o d.1 (j+1) i)))::(vp o d.1 (j+1) i++pM ps d.2 (j+1+o.nb) (i+o.nc))
 | .row E t::ps,d,j,i=>(PN+j,.live (.row E t d.1))::pM ps d.2 (j+1) i
 | .own E t::ps,d,j,i=>pM ps d.2 j (i+1)
 | .fn f k::ps,d,j,i=>pM ps d.2 j i
 | .nils::ps,d,j,i=>pM ps d.2 j i
 | .ago o::ps,d,j,i=>pM ps d.2 j (i+o.nc)
def tW:(ps:List PK)->bw ps->Nat->List (Nat×Nm)
 | [],_,_=>[]
 | .val t::ps,d,i=>tW ps d.2 i
 | .agg t::ps,d,i=>tW ps d.2 i
 | .box E o::ps,d,i=>Aa o d.1 i++tW ps d.2 (i+o.nc)
 | .row E t::ps,d,i=>tW ps d.2 i
 | .own E t::ps,d,i=>(QN+i,.live (.row E t d.1))::tW ps d.2 (i+1)
 | .fn f k::ps,d,i=>tW ps d.2 i
 | .nils::ps,d,i=>tW ps d.2 i
 | .ago o::ps,d,i=>Aa o d.1 i++tW ps d.2 (i+o.nc)
def pf(env:aZ):Option Nat->Ev
 | some m=>env m
 | none => .nil
section
variable {w0:World} {N0:f5} {A Ac:Nat->Prop} {env envc:aZ} {h:bP} {w:World}
def jU(A':Nat->Prop)(env0:aZ)(h0:bP)(e':aZ)(w:World):List (Option Nat)->List (Nat×Nm)->Nat->Prop
 | [],[],_=>True
 | o::os,(m,x)::l,n=>(m=n∧∃ b',x = .live b'∧b'.mut=true/\((∃ q b,o=some q/\h0 q = .live b/\b.mut=true/\(∀ k len,env0 q = .blk k len->jX A' e' w k len b')/\(env0 q = .nil→∃ E t,b' = .row E t []))∨(o=none∧∃ E t,b' = .row E t [])))/\jU A' env0 h0 e' w os l (n+1)
 | _,_,_=>False
theorem jU.append{A':Nat->Prop}{a:aZ}{e:bP}{f:aZ}:∀{c b:List (Option Nat)}{l d:List (Nat×Nm)}{n:Nat},jU A' a e f w c l n->jU A' a e f w b d (n+c.length)->jU A' a e f w (c++b) (l++d) n
 | [],b,[],d,n,_,k=>by simpa using k
 | o::c,b,(m,x)::l,d,n,⟨h1,h2⟩,k=>by
  refine⟨h1,h2.append ?_⟩;grind
theorem jU.get{A':Nat->Prop}{a:aZ}{d:bP}{e:aZ}:∀{c:List (Option Nat)}{l:List (Nat×Nm)}{n:Nat},jU A' a d e w c l n->c.length=l.length ∧
  ∀ i o,c[i]? = some o→∃ b',eJ l (n+i) = .live b'∧(n+i,Nm.live b')∈l/\b'.mut=true/\((∃ q b,o=some q/\d q = .live b/\b.mut=true/\(∀ k len,a q = .blk k len->jX A' e w k len b')/\(a q = .nil→∃ E t,b' = .row E t []))∨(o=none∧∃ E t,b' = .row E t []))
 | [],[],n,_=>⟨rfl,λi n hi=>by simp at hi⟩
 | o::c,(m,x)::l,n,⟨⟨f,b',h3,h4,h5⟩,hr⟩=>by
  obtain⟨hl,hg⟩:=hr.get;refine⟨by simp[hl],λi o' hi=>?_⟩;cases i with
  | zero =>
   simp at hi;subst hi;subst h3;exact⟨b',by simp only[eJ,f,ip,ub],by rw[f];exact fY ..,h4,h5⟩
  | succ i =>
   obtain⟨c',g,h,g3⟩:=hg i o' (by simpa using hi);rw[show n+1+i=n+(i+1) from by omega] at g h;refine⟨c',?_,fM _ h,g3⟩;simp only[eJ];have:Nat.beq (n+(i+1)) m=false:=by
    cases hb:Nat.beq (n+(i+1)) m with
    | false=>rfl
    | true=>have:=bG hb;omega
   rw[this];exact g
theorem jU.keys{A':Nat->Prop}{a:aZ}{h0:bP}{e':aZ}:∀{d:List (Option Nat)}{l:List (Nat×Nm)}{n:Nat},jU A' a h0 e' w d l n→∀ c x,(c,x)∈l→∃ i o,c=n+i/\d[i]? = some o
 | [],[],n,_,c,x,b=>by simp at b
 | o::d,(m,y)::l,n,⟨⟨hm,_⟩,hr⟩,c,x,b=>by
  rcases dK.1 b with e|b
  .simp_all
  .obtain⟨i,o',h1,h2⟩:=hr.keys c x b;exact⟨i+1,o',by omega,by simpa using h2⟩
theorem Kx{t:CT}{d:t.D}{v:Value}{rest:List SV}(hr:Rd A w t (λj=>[v][j]?) 0 d):az A env w (Au t d) v:=by
 obtain⟨vs,hl,hc,a⟩:=u7 (env:=env) t d _ 0 hr
 unfold Au
 split
 next s hs=>rw[hs] at a;simp only[aR] at a;have h0:=hc 0 t.size_pos;grind
 .simp only[az]
theorem Dj{t:CT}{d:t.D}{vs:List Value}(hl:vs.length=t.size)(hr:Rd A w t (λj=>vs[j]?) 0 d):aR A env w (dU t d) vs:=by
 obtain⟨us,hlu,hc,hd⟩:=u7 t d _ 0 hr
 have:us=vs:=by
  apply List.ext_getElem?;grind
 rw[← this];exact hd
theorem ag3{k:Nat}{len:Nat×Nat}{E:TypeId}{t:CT}{xs:List t.D}(hr:nX A w k len E t xs):xs.length<=maxLen∧∀ x∈xs,t.wf x:=by
 obtain⟨vs,cap,_,_,h2,h3,h4,h5⟩:=hr
 refine⟨by omega,λx hx=>?_⟩
 obtain⟨i,hi,rfl⟩:=List.mem_iff_getElem.1 hx
 exact Fh _ _ _ _ (h5 i hi)
theorem ah0{a0:Option Nat}{t:CT}{ps:List PK}{a:List SV} {x} (e:(gT a0 (.agg t::ps) a).run h=some x):∃ cs r,a = .agg cs::r:=by
 cases a with
 | nil=>cases e
 | cons s r=>cases s <;> first|exact⟨_,_,rfl⟩|cases e
theorem aD4{a0:Option Nat}{o:OT}{ps:List PK}{a:List SV} {x} (e:(gT a0 (.ago o::ps) a).run h=some x):∃ cs r,a = .agg cs::r:=by
 cases a with
 | nil=>cases e
 | cons s r=>cases s <;> first|exact⟨_,_,rfl⟩|cases e
theorem aK0{a0:Option Nat}{E:TypeId}{o:OT}{ps:List PK}{a:List SV} {x} (e:(gT a0 (.box E o::ps) a).run h=some x):∃ n r,a = .ptr n 0::r:=by
 cases a with
 | nil=>cases e
 | cons s r =>
  cases s with
  | ptr n off=>cases off with
   | zero=>exact⟨_,_,rfl⟩
   | succ k=>cases e
  | _=>cases e
theorem VA{a0:Option Nat}{E:TypeId}{t:CT}{ps:List PK}{a:List SV} {x} (e:(gT a0 (.row E t::ps) a).run h=some x):∃ n sz r,a = .own n sz::r:=by
 cases a with
 | nil=>cases e
 | cons s r=>cases s <;> first|exact⟨_,_,_,rfl⟩|cases e
theorem an4{a0:Option Nat}{E:TypeId}{t:CT}{ps:List PK}{a:List SV} {x} (e:(gT a0 (.own E t::ps) a).run h=some x):∃ v r,a=v::r:=by
 cases a with
 | nil=>cases e
 | cons s r=>exact⟨_,_,rfl⟩
theorem ay9{a0:Option Nat}{ps:List PK}{a:List SV} {x} (e:(gT a0 (.nils::ps) a).run h=some x):∃ r,a = .nilsl::r:=by
 cases a with
 | nil=>cases e
 | cons s r=>cases s <;> first|exact⟨_,rfl⟩|cases e
theorem au0{a0:Option Nat}{f:FuncId}{k:Nat}{ps:List PK}{a:List SV} {x} (e:(gT a0 (.fn f k::ps) a).run h=some x):∃ g cs r,a = .fn g cs::r:=by
 cases a with
 | nil=>cases e
 | cons s r=>cases s <;> first|exact⟨_,_,_,rfl⟩|cases e
theorem aB0{a0:Option Nat}{f:FuncId}{a:List SV} {x} (e:(rJ a0 (.fnc f) a).run h=some x):∃ r,a = .fn f []::r/\x=(((),r,[],[],[]),[]):=by
 cases a with
 | nil=>cases e
 | cons s r =>
  cases s <;> first|cases e;done|skip
  rename_i g cs;cases cs <;> first|cases e;done|skip
  simp only[rJ] at e;split at e
  next hb=>rw[bG hb];simp only[Q.run,bq] at e;exact⟨_,rfl,e.symm⟩
  .cases e
theorem ak4{a0:Option Nat}{E:TypeId}{o:OT}{a:List SV} {x} (e:(rJ a0 (.ref E o) a).run h=some x):∃ n r,a = .ptr n 0::r:=by
 cases a with
 | nil=>cases e
 | cons s r =>
  cases s with
  | ptr n off=>cases off with
   | zero=>exact⟨_,_,rfl⟩
   | succ k=>cases e
  | _=>cases e
theorem NZ(m:Mod w0 N0 A env h w)(hA:∀ b,A b->Ac b){n:Nat}{E:TypeId}{t:CT}{xs:List t.D}(j:h n = .live (.row E t xs)) :
  (xs.length<=maxLen∧∀ x∈xs,t.wf x)∧∀(l:aZ)(i:Nat),jU Ac env h l w [some n] [(i,.live (.row E t xs))] i:=by
 have f:=m.nm n
 rw[j] at f
 refine⟨?_,λl i=>⟨⟨rfl,_,rfl,rfl,.inl ⟨n,_,rfl,j,rfl,λk len g=>?_,λg=>?_⟩⟩,trivial⟩⟩
 .rcases f with⟨k,len,a,d,_⟩|⟨c,E2,t2,d⟩
  .exact ag3 d
  .grind
 .rcases f with⟨k',e,a,d,_⟩|⟨c,_⟩
  .rw[g] at a;cases a;obtain⟨us,cap,g1,g2,g3,g4,g5,g6⟩:=d;exact⟨us,cap,g1,g2,g3,g4,g5,λi hi=>ik hA (λ_ _ _=>rfl) _ _ _ _ _ (λ_ _=>rfl) (g6 i hi)⟩
  .rw[g] at c;cases c
 .rcases f with⟨k',e,a,d,_⟩|⟨c,E2,t2,d⟩
  .rw[g] at a;cases a
  .simp_all
theorem Ig(m:Mod w0 N0 A env h w)(hA:∀ b,A b->Ac b){E:TypeId}{t:CT}{cs rest:List SV}{vs:List Value}{ys:List t.D}{f:Option Nat}{r:List Nat}
  (e:(Bc E t cs).run h=some ((ys,rest,f),r)) (l:aR A env w cs vs) :
  (ys.length<=maxLen∧∀ x∈ys,t.wf x)/\cs.length=rest.length+1/\(rest=cs.drop 1)∧∃ v c,vs=v::c/\aR A env w rest c∧∀(d:aZ)(i:Nat),d i=pf env f->az Ac d w (.own i t.size) v/\jU Ac env h d w [f] [(i,.live (.row E t ys))] i:=by
 cases cs with
 | nil=>cases e
 | cons s cs =>
 cases s with
 | own n sz =>
  simp only[Bc,Q.run] at e;split at e
  .rename_i p0 q0 hk;obtain⟨rfl,rfl⟩:=e;split at hk
   .rename_i E' t' xs hl;split at hk
    next zs g a hc=>have g:=bG g;subst g;have a:=bG a;subst a;obtain⟨et,ez⟩:=jN hc;subst et;subst ez;obtain⟨⟨rfl,rfl,rfl⟩,rfl⟩:=hk;obtain⟨x,c,rfl,hv,j⟩:=l;obtain⟨h1,h2⟩:=NZ m hA hl;refine⟨h1,rfl,rfl,x,c,rfl,j,λd i k=>⟨?_,h2 d i⟩⟩;simp only[az];rw[k];exact hv
    .cases hk
   .cases hk
  .cases e
 | nilsl =>
  obtain⟨⟨rfl,rfl,rfl⟩,rfl⟩:=e;obtain⟨x,c,rfl,rfl,j⟩:=l;refine⟨⟨by simp,by simp⟩,rfl,rfl,_,c,rfl,j,λd i k=>⟨?_,⟨rfl,_,rfl,rfl,.inr ⟨rfl,_,_,rfl⟩⟩,trivial⟩⟩;exact .inl ⟨k,_,rfl⟩
 | _=>cases e
theorem TE{b:Option Nat}{a:List SV} {x} (e:(rJ b .ali a).run h=some x):∃ n r,a = .ptr n 0::r/\b=some n/\x=(((),r,[],[],[]),[]):=by
 cases a with
 | nil=>cases e
 | cons s r =>
  cases s with
  | ptr n off=>cases off with
   | zero=>cases b with
    | none=>cases e
    | some m =>
     have e:(match Nat.beq n m with|true=>(Q.ret ((),r,[],[],[]):Q (Unit×List SV×List (Nat×Nm)×List Nat×List (Option Nat)))|false=>Q.fail).run h=some x:=e;cases c:Nat.beq n m with
     | false=>rw[c] at e;cases e
     | true =>
      rw[c] at e;simp only[Q.run,bq] at e;exact⟨n,r,rfl,by rw[bG c],e.symm⟩
   | succ k=>cases e
  | _=>cases e
theorem RM{a0:Option Nat}{n:Nat}(h:Cg a0 n=none):False:=by cases a0 <;> cases h
theorem BR(m:Mod w0 N0 A env h w)(hA:∀ b,A b->Ac b)(a0:Option Nat):∀(o:OT)(cs:List SV)(vs:List Value)(d:o.D)(rest:List SV)(fz:List (Nat×Nm))(bx:List Nat)(cx:List (Option Nat))(r:List Nat)(j i:Nat),
  (rJ a0 o cs).run h=some ((d,rest,fz,bx,cx),r)->aR A env w cs vs->(∀ k,gM env fz k->Ac k) →
  nQ h fz/\o.wf d/\bx.length=o.nb/\cx.length=o.nc∧∃ us rs,vs=us++rs/\aR A env w rest rs ∧
   ((∀ n,a0=some n->envc PN=env n)->(∀ k n,bx[k]? = some n->envc (PN+(j+k))=env n)->(∀ k q,cx[k]? = some q->envc (QN+(i+k))=pf env q) →
     aR Ac envc w (vq o d j i) us/\jU Ac env h envc w (bx.map some) (vp o d j i) (PN+j)/\jU Ac env h envc w cx (Aa o d i) (QN+i))
 | .dat t,cs,vs,d,rest,fz,bx,cx,r,j,i,e,hd,hF=>by
  obtain⟨⟨d1,r1,f1⟩,q1,q2,e1,e2,rfl⟩:=Q.run_bind _ _ _ e;obtain⟨⟨rfl,rfl,rfl,rfl,rfl⟩,rfl⟩:=e2;obtain⟨p1,p2,p3,p4,p5⟩:=sC m t cs vs d1 r1 f1 q1 e1 hd hA hF;refine⟨p1,Fh _ _ _ _ p4,rfl,rfl,vs.take t.size,vs.drop t.size,(ng _ _).symm,p5,λ_ _ _=>⟨?_,bv,bv⟩⟩;refine Dj (by rw[dA];omega) ?_;refine ik (λ_ h=>h) (λ_ _ _=>rfl) t _ _ _ _ (λk hk=>?_) p4;simp_all
 | .row E t,cs,vs,d,rest,fz,bx,cx,r,j,i,e,hd,hF=>by
  obtain⟨⟨d1,r1,o1⟩,q1,q2,e1,e2,rfl⟩:=Q.run_bind _ _ _ e;obtain⟨⟨rfl,rfl,rfl,rfl,rfl⟩,rfl⟩:=e2;obtain⟨p1,-,-,v,vr,rfl,p2,p3⟩:=Ig m hA e1 hd;refine⟨λn b hh=>by simp at hh,p1,rfl,rfl,[v],vr,rfl,p2,λ_ _ hc=>?_⟩;obtain⟨k1,k2⟩:=p3 envc (QN+i) (hc 0 _ rfl);exact⟨⟨v,[],rfl,k1,rfl⟩,bv,k2⟩
 | .rowg E t,cs,vs,d,rest,fz,bx,cx,r,j,i,e,hd,hF=>by
  obtain⟨⟨d1,r1,o1⟩,q1,q2,e1,e2,rfl⟩:=Q.run_bind _ _ _ e;obtain⟨⟨rfl,rfl,rfl,rfl,rfl⟩,rfl⟩:=e2;obtain⟨p1,-,-,v,vr,rfl,p2,p3⟩:=Ig m hA e1 hd;refine⟨λn b hh=>by simp at hh,p1,rfl,rfl,[v],vr,rfl,p2,λ_ _ hc=>?_⟩;obtain⟨k1,k2⟩:=p3 envc (QN+i) (hc 0 _ rfl);exact⟨⟨v,[],rfl,k1,rfl⟩,bv,k2⟩
 | .fnc f,cs0,vs,d,rest,fz,bx,cx,r,j,i,e,hd,hF=>by
  obtain⟨cs,rfl,e2⟩:=aB0 e;obtain⟨⟨-,rfl,rfl,rfl,rfl⟩,rfl⟩:=e2;obtain⟨u,vr,rfl,hu,hvr⟩:=hd;refine⟨λn b hh=>by simp at hh,bv,rfl,rfl,[u],vr,rfl,hvr,λ_ _ _=>⟨?_,bv,bv⟩⟩;refine⟨u,[],rfl,?_,rfl⟩;exact hu
 | .ali,cs0,vs,d,rest,fz,bx,cx,r,j,i,e,hd,hF=>by
  obtain⟨n,cs,rfl,h0,e2⟩:=TE e;obtain⟨⟨-,rfl,rfl,rfl,rfl⟩,rfl⟩:=e2;obtain⟨u,vr,rfl,⟨k,len,hek,rfl⟩,hvr⟩:=hd;refine⟨λn b hh=>by simp at hh,bv,rfl,rfl,[_],vr,rfl,hvr,λha _ _=>⟨?_,bv,bv⟩⟩;simp only[vq,aR,az];simp_all
 | .ref E o,cs0,vs,d,rest,fz,bx,cx,r,j,i,e,hd,hF=>by
  obtain⟨n,cs,rfl⟩:=ak4 e;simp only[rJ,Q.run] at e;split at e
  .rename_i p0 q0 hk;obtain⟨rfl,rfl⟩:=e;split at hk
   .rename_i E' cs' hl;split at hk
    .rename_i hE;have hE:=bG hE;subst hE;obtain⟨⟨d1,r1,f1,b1,c1⟩,q1,q2,e1,e2,rfl⟩:=Q.run_bind _ _ _ hk;split at e2
     .rename_i hr1;subst hr1;obtain⟨⟨rfl,rfl,rfl,rfl,rfl⟩,rfl⟩:=e2;obtain⟨x,vr,rfl,⟨k,len,hek,rfl⟩,hr⟩:=hd;obtain⟨⟨us,hus,hdu⟩,_⟩:=m.live_blk hl hek;obtain⟨s1,s2,s3,s4,us',rs',s5,s6,s7⟩:=BR m hA a0 o cs' us.toList d1 [] f1 b1 c1 q1 (j+1) i e1 hdu hF;subst s6;rw[jx] at s5;subst s5;refine⟨s1,s2,by simp only[dN,s3,OT.nb],s4,[_],vr,rfl,hr,λha hb hc=>?_⟩;have h0:=hb 0 n rfl;obtain⟨k1,k2,k3⟩:=s7 ha (λk n hn=>by have:=hb (k+1) n (by simpa using hn);rwa [show j+(k+1)=j+1+k from by omega] at this) hc;refine⟨?_,⟨⟨rfl,_,rfl,rfl,.inl ⟨n,_,rfl,hl,rfl,λk' len' he=>?_,λhe=>?_⟩⟩,?_⟩,k3⟩
      .simp only[vq,aR,az];simp_all
      .rw[hek] at he;cases he;exact⟨us,hus,k1⟩
      .rw[hek] at he;cases he
      .omega
     .cases e2
    .cases hk
   .cases hk
  .cases e
 | .pair a b,cs,vs,d,rest,fz,bx,cx,r,j,i,e,hd,hF=>by
  obtain⟨⟨d1,r1,f1,b1,c1⟩,q1,q2,e1,e2,rfl⟩:=Q.run_bind _ _ _ e;obtain⟨⟨d2,r2,f2,b2,c2⟩,q3,q4,e3,e4,rfl⟩:=Q.run_bind _ _ _ e2;simp only[Q.run,bq,br] at e4;obtain⟨⟨rfl,rfl,rfl,rfl,rfl⟩,rfl⟩:=e4;have hF1:∀ k,gM env f1 k->Ac k:=λk ⟨n,x,l,hx,he⟩=>hF k ⟨n,x,l,gu _ hx,he⟩;have hF2:∀ k,gM env f2 k->Ac k:=λk ⟨n,x,l,hx,he⟩=>hF k ⟨n,x,l,jd _ hx,he⟩;obtain⟨s1,s2,s3,s4,us,rs,rfl,s6,s7⟩:=BR m hA a0 a cs vs d1 r1 f1 b1 c1 q1 j i e1 hd hF1;obtain⟨t1,t2,t3,t4,us',rs',rfl,t6,t7⟩:=BR m hA a0 b r1 rs d2 r2 f2 b2 c2 q3 (j+a.nb) (i+a.nc) e3 s6 hF2;refine⟨λn b hh=>?_,⟨s2,t2⟩,by simp only[cA,s3,t3,OT.nb],by simp only[cA,s4,t4,OT.nc],us++us',rs',by rw[iL],t6,λha hb hc=>?_⟩
  .rcases dB.1 hh with hh|hh
   .exact s1 n b hh
   .exact t1 n b hh
  .obtain⟨k1,k2,k3⟩:=s7 ha (λk n hn=>hb k n (by rw[lF (List.getElem?_eq_some_iff.1 hn).1];exact hn)) (λk q hq=>hc k q (by rw[lF (List.getElem?_eq_some_iff.1 hq).1];exact hq));obtain⟨l1,l2,l3⟩:=t7 ha (λk n hn=>by
     have:=hb (a.nb+k) n (by rw[kw ab,s3,lu];exact hn)
     rwa [show j+(a.nb+k)=j+a.nb+k from by omega] at this)
    (λk q hq=>by
     have:=hc (a.nc+k) q (by rw[kw ab,s4,lu];exact hq)
     rwa [show i+(a.nc+k)=i+a.nc+k from by omega] at this)
   refine⟨tB k1 l1,?_,?_⟩
   .rw[lG];exact k2.append (by rw[mq,s3,gN];exact l2)
   .exact k3.append (by rw[s4,gN];exact l3)
theorem uo(m:Mod w0 N0 A env h w)(hA:∀ b,A b->Ac b):∀(a0:Option Nat)(ps:List PK)(svs:List SV)(vs:List Value)(d:bw ps)(fz:List (Nat×Nm))(bx:List Nat)(cx:List (Option Nat))(r:List Nat)(j i:Nat),
  (gT a0 ps svs).run h=some ((d,fz,bx,cx),r)->aR A env w svs vs->(∀ k,gM env fz k->Ac k) →
  nQ h fz/\yy ps d/\((a0=none->j=0)->(∀ n,a0=some n->envc PN=env n)->(∀ k n,bx[k]? = some n->envc (PN+(j+k))=env n)->(∀ k q,cx[k]? = some q->envc (QN+(i+k))=pf env q) →
   aR Ac envc w (iC ps d j i) vs/\jU Ac env h envc w (bx.map some) (pM ps d j i) (PN+j)/\jU Ac env h envc w cx (tW ps d i) (QN+i))
 | a0,[],[],vs,d,fz,bx,cx,r,j,i,e,hd,hF=>by
  simp only[gT,Q.run,bq,br] at e;obtain⟨⟨-,rfl,rfl,rfl⟩,rfl⟩:=e;exact⟨λn b hh=>by simp at hh,trivial,λ_ _ _ _=>⟨by simpa[iC,aR] using hd,trivial,trivial⟩⟩
 | a0,.val t::ps,v::svs,vs,d,fz,bx,cx,r,j,i,e,hd,hF=>by
  simp only[gT] at e;obtain⟨⟨d1,r1,f1⟩,q1,q2,e1,e2,rfl⟩:=Q.run_bind _ _ _ e;split at e2
  .rename_i hr1;simp only at hr1;subst hr1;obtain⟨⟨d2,f2,b2,c2⟩,q3,q4,e3,e4,rfl⟩:=Q.run_bind _ _ _ e2;simp only[Q.run,bq,br] at e4;obtain⟨⟨rfl,rfl,rfl,rfl⟩,rfl⟩:=e4;simp only[aR] at hd;obtain⟨x,vr,rfl,hx,hr⟩:=hd;have hF1:∀ k,gM env f1 k->Ac k:=λk ⟨n,x,l,hx,he⟩=>hF k ⟨n,x,l,gu _ hx,he⟩;have hF2:∀ k,gM env f2 k->Ac k:=λk ⟨n,x,l,hx,he⟩=>hF k ⟨n,x,l,jd _ hx,he⟩;obtain⟨p1,p2,p3,p4,_⟩:=sC m t [v] [x] d1 [] f1 q1 e1 (by simp only[aR];exact⟨x,[],rfl,hx,rfl⟩) hA hF1;obtain⟨s1,s4,s6⟩:=uo m hA a0 ps svs vr d2 f2 b2 c2 q3 j i e3 hr hF2;refine⟨λn b hh=>?_,⟨Fh _ _ _ _ p4,s4⟩,λhj ha hb hc=>?_⟩
   .rcases dB.1 hh with hh|hh
    .exact p1 n b hh
    .exact s1 n b hh
   .obtain⟨k1,k2,k3⟩:=s6 hj ha hb hc;refine⟨?_,k2,k3⟩;simp only[iC,aR];exact⟨x,vr,rfl,Kx (rest:=[]) p4,k1⟩
  .cases e2
 | a0,.nils::ps,svs0,vs,d,fz,bx,cx,r,j,i,e,hd,hF=>by
  obtain⟨svs,rfl⟩:=ay9 e;simp only[gT] at e;obtain⟨⟨d2,f2,b2,c2⟩,q3,q4,e3,e4,rfl⟩:=Q.run_bind _ _ _ e;simp only[Q.run,bq,br] at e4;obtain⟨⟨rfl,rfl,rfl,rfl⟩,rfl⟩:=e4;simp only[aR,az] at hd;obtain⟨x,vr,rfl,rfl,hr⟩:=hd;obtain⟨s1,s4,s6⟩:=uo m hA a0 ps svs vr d2 f2 b2 c2 q3 j i e3 hr hF;refine⟨s1,⟨trivial,s4⟩,λhj ha hb hc=>?_⟩;obtain⟨k1,k2,k3⟩:=s6 hj ha hb hc;refine⟨?_,k2,k3⟩;simp only[iC,aR,az];exact⟨_,vr,rfl,rfl,k1⟩
 | a0,.fn f k::ps,svs0,vs,d,fz,bx,cx,r,j,i,e,hd,hF=>by
  obtain⟨g,cs,svs,rfl⟩:=au0 e;simp only[gT] at e;split at e
  .rename_i hf hk;have hf:=bG hf;have hk:=bG hk;subst hf;obtain⟨⟨d2,f2,b2,c2⟩,q3,q4,e3,e4,rfl⟩:=Q.run_bind _ _ _ e;simp only[Q.run,bq,br] at e4;obtain⟨⟨rfl,rfl,rfl,rfl⟩,rfl⟩:=e4;simp only[aR,az] at hd;obtain⟨x,vr,rfl,⟨us,rfl,hu⟩,hr⟩:=hd;have hul:=je hu;obtain⟨s1,s4,s6⟩:=uo m hA a0 ps (cs++svs) (us.toList++vr) d2 f2 b2 c2 q3 j i e3 (tB hu hr) hF;refine⟨s1,⟨trivial,s4⟩,λhj ha hb hc=>?_⟩;obtain⟨k1,k2,k3⟩:=s6 hj ha hb hc;refine⟨?_,k2,k3⟩;simp only[iC,aR,az];refine⟨_,vr,rfl,⟨us,rfl,?_⟩,?_⟩
   .have:=Ce k k1
    rwa [List.take_left' (by omega)] at this
   .have:=Cx k k1
    rwa [List.drop_left' (by omega)] at this
  .cases e
 | a0,.agg t::ps,svs0,vs,d,fz,bx,cx,r,j,i,e,hd,hF=>by
  obtain⟨cs,svs,rfl⟩:=ah0 e;simp only[gT] at e;obtain⟨⟨d1,r1,f1⟩,q1,q2,e1,e2,rfl⟩:=Q.run_bind _ _ _ e;split at e2
  .rename_i hr1;simp only at hr1;subst hr1;obtain⟨⟨d2,f2,b2,c2⟩,q3,q4,e3,e4,rfl⟩:=Q.run_bind _ _ _ e2;simp only[Q.run,bq,br] at e4;obtain⟨⟨rfl,rfl,rfl,rfl⟩,rfl⟩:=e4;simp only[aR,az] at hd;obtain⟨x,vr,rfl,⟨us,rfl,hx⟩,hr⟩:=hd;have hF1:∀ k,gM env f1 k->Ac k:=λk ⟨n,x,l,hx,he⟩=>hF k ⟨n,x,l,gu _ hx,he⟩;have hF2:∀ k,gM env f2 k->Ac k:=λk ⟨n,x,l,hx,he⟩=>hF k ⟨n,x,l,jd _ hx,he⟩;obtain⟨p1,p2,p3,p4,_⟩:=sC m t cs us.toList d1 [] f1 q1 e1 hx hA hF1;obtain⟨s1,s4,s6⟩:=uo m hA a0 ps svs vr d2 f2 b2 c2 q3 j i e3 hr hF2;refine⟨λn b hh=>?_,⟨Fh _ _ _ _ p4,s4⟩,λhj ha hb hc=>?_⟩
   .rcases dB.1 hh with hh|hh
    .exact p1 n b hh
    .exact s1 n b hh
   .obtain⟨k1,k2,k3⟩:=s6 hj ha hb hc;refine⟨?_,k2,k3⟩;simp only[iC,aR,az];exact⟨_,vr,rfl,⟨us,rfl,Dj (by simpa using p3) p4⟩,k1⟩
  .cases e2
 | a0,.box E o::ps,svs0,vs,d,fz,bx,cx,r,j,i,e,hd,hF=>by
  obtain⟨n,svs,rfl⟩:=aK0 e;simp only[gT,Q.run] at e;split at e
  .rename_i p0 q0 hk;simp only[bq,br] at e;obtain⟨rfl,rfl⟩:=e;split at hk
   .rename_i E' cs hl;split at hk
    .rename_i hE;have hE:=bG hE;subst hE;obtain⟨⟨d1,r1,f1,b1,c1⟩,q1,q2,e1,e2,rfl⟩:=Q.run_bind _ _ _ hk;split at e2
     .rename_i hr1;simp only at hr1;subst hr1;obtain⟨⟨d2,f2,b2,c2⟩,q3,q4,e3,e4,rfl⟩:=Q.run_bind _ _ _ e2;simp only[Q.run,bq,br] at e4;obtain⟨⟨rfl,rfl,rfl,rfl⟩,rfl⟩:=e4;simp only[aR,az] at hd;obtain⟨x,vr,rfl,⟨k,len,hek,rfl⟩,hr⟩:=hd;obtain⟨⟨us,hus,hdu⟩,_⟩:=m.live_blk hl hek;have hF1:∀ k,gM env f1 k->Ac k:=λk ⟨n,x,l,hx,he⟩=>hF k ⟨n,x,l,gu _ hx,he⟩;have hF2:∀ k,gM env f2 k->Ac k:=λk ⟨n,x,l,hx,he⟩=>hF k ⟨n,x,l,jd _ hx,he⟩;obtain⟨p1,p2,p3,p4,us',rs',p5,p6,p7⟩:=BR (envc:=envc) m hA a0 o cs us.toList d1 [] f1 b1 c1 q1 (j+1) i e1 hdu hF1;simp only[aR] at p6;subst p6;rw[jx] at p5;subst p5;obtain⟨s1,s4,s6⟩:=uo m hA (Cg a0 n) ps svs vr d2 f2 b2 c2 q3 (j+1+o.nb) (i+o.nc) e3 hr hF2;refine⟨λn b hh=>?_,⟨p2,s4⟩,λhj ha hb hc=>?_⟩
      .rcases dB.1 hh with hh|hh
       .exact p1 n b hh
       .exact s1 n b hh
      .have h0:=hb 0 n rfl;rw[ip] at h0;obtain⟨k1,k2,k3⟩:=p7 ha
        (λk n hn=>by
         have:=hb (k+1) n (by simp only[List.getElem?_cons_succ];rw[lF (List.getElem?_eq_some_iff.1 hn).1];exact hn)
         rwa [show j+(k+1)=j+1+k from by omega] at this)
        (λk q hq=>hc k q (by rw[lF (List.getElem?_eq_some_iff.1 hq).1];exact hq))
       obtain⟨l1,l2,l3⟩:=s6 (λq=>(RM q).elim) (λn' hn=>by cases a0 with|some m=>exact ha n' hn|none=>cases hn;have e:=hj rfl;rw[e,ip] at h0;exact h0)
        (λk n hn=>by
         have:=hb (o.nb+k+1) n (by simp only[List.getElem?_cons_succ];rw[kw (by omega),p3,lu];exact hn)
         rwa [show j+(o.nb+k+1)=j+1+o.nb+k from by omega] at this)
        (λk q hq=>by
         have:=hc (o.nc+k) q (by rw[kw (by omega),p4,lu];exact hq)
         rwa [show i+(o.nc+k)=i+o.nc+k from by omega] at this)
       refine⟨?_,⟨⟨rfl,_,rfl,rfl,.inl ⟨n,_,rfl,hl,rfl,λk' len' he=>?_,λhe=>?_⟩⟩,?_⟩,?_⟩
       .simp only[iC,aR,az];exact⟨_,vr,rfl,⟨k,len,by rw[h0];exact hek,rfl⟩,l1⟩
       .rw[hek] at he;cases he;exact⟨us,hus,k1⟩
       .rw[hek] at he;cases he
       .rw[lG,show PN+j+1=PN+(j+1) from by omega];exact k2.append (by rw[mq,p3,show PN+(j+1)+o.nb=PN+(j+1+o.nb) from by omega];exact l2)
       .exact k3.append (by rw[p4,gN];exact l3)
     .cases e2
    .cases hk
   .cases hk
  .cases e
 | a0,.ago o::ps,svs0,vs,d,fz,bx,cx,r,j,i,e,hd,hF=>by
  obtain⟨cs,svs,rfl⟩:=aD4 e;simp only[gT] at e;split at e
  .rename_i hnb;have hnb:=bG hnb;obtain⟨⟨d1,r1,f1,b1,c1⟩,q1,q2,e1,e2,rfl⟩:=Q.run_bind _ _ _ e;split at e2
   .rename_i hr1;simp only at hr1;subst hr1;obtain⟨⟨d2,f2,b2,c2⟩,q3,q4,e3,e4,rfl⟩:=Q.run_bind _ _ _ e2;simp only[Q.run,bq,br] at e4;obtain⟨⟨rfl,rfl,rfl,rfl⟩,rfl⟩:=e4;simp only[aR,az] at hd;obtain⟨x,vr,rfl,⟨us,rfl,hdu⟩,hr⟩:=hd;have hF1:∀ k,gM env f1 k->Ac k:=λk ⟨n,x,l,hx,he⟩=>hF k ⟨n,x,l,gu _ hx,he⟩;have hF2:∀ k,gM env f2 k->Ac k:=λk ⟨n,x,l,hx,he⟩=>hF k ⟨n,x,l,jd _ hx,he⟩;obtain⟨p1,p2,p3,p4,us',rs',p5,p6,p7⟩:=BR (envc:=envc) m hA a0 o cs us.toList d1 [] f1 b1 c1 q1 j i e1 hdu hF1;simp only[aR] at p6;subst p6;rw[jx] at p5;subst p5;have hb1:b1=[]:=oV (by rw[p3,hnb]);subst hb1;obtain⟨s1,s4,s6⟩:=uo m hA a0 ps svs vr d2 f2 b2 c2 q3 j (i+o.nc) e3 hr hF2;refine⟨λn b hh=>?_,⟨p2,s4⟩,λhj ha hb hc=>?_⟩
    .rcases dB.1 hh with hh|hh
     .exact p1 n b hh
     .exact s1 n b hh
    .obtain⟨k1,k2,k3⟩:=p7 ha (λk n hn=>by simp at hn)
      (λk q hq=>hc k q (by rw[lF (List.getElem?_eq_some_iff.1 hq).1];exact hq))
     obtain⟨l1,l2,l3⟩:=s6 hj ha hb
      (λk q hq=>by
       have:=hc (o.nc+k) q (by rw[kw (by omega),p4,lu];exact hq)
       rwa [show i+(o.nc+k)=i+o.nc+k from by omega] at this)
     refine⟨?_,l2,?_⟩
     .simp only[iC,aR,az];exact⟨_,vr,rfl,⟨us,rfl,k1⟩,l1⟩
     .exact k3.append (by rw[p4,gN];exact l3)
   .cases e2
  .cases e
 | a0,.own E t::ps,svs0,vs,d,fz,bx,cx,r,j,i,e,hd,hF=>by
  obtain⟨v,svs,rfl⟩:=an4 e;simp only[gT] at e;obtain⟨⟨d1,r1,o1⟩,q1,q2,e1,e2,rfl⟩:=Q.run_bind _ _ _ e;obtain⟨⟨d2,f2,b2,c2⟩,q3,q4,e3,e4,rfl⟩:=Q.run_bind _ _ _ e2;simp only[Q.run,bq,br] at e4;obtain⟨⟨rfl,rfl,rfl,rfl⟩,rfl⟩:=e4;simp only[aR] at hd;obtain⟨x,vr,rfl,hx,hr⟩:=hd;obtain⟨p1,-,-,v',vr',p2,-,p3⟩:=Ig m hA e1 (vs:=[x]) (by simp only[aR];exact⟨x,[],rfl,hx,rfl⟩);cases p2;obtain⟨s1,s4,s6⟩:=uo m hA a0 ps svs vr d2 f2 b2 c2 q3 j (i+1) e3 hr hF;refine⟨s1,⟨p1,s4⟩,λhj ha hb hc=>?_⟩;obtain⟨k1,k2⟩:=p3 envc (QN+i) (hc 0 _ rfl);obtain⟨l1,l2,l3⟩:=s6 hj ha hb (λk q hq=>by have:=hc (k+1) q (by simpa using hq);rwa [show i+(k+1)=i+1+k from by omega] at this);refine⟨?_,l2,?_⟩
  .simp only[iC,aR];exact⟨x,vr,rfl,k1,l1⟩
  .exact⟨k2.1,by rw[show QN+i+1=QN+(i+1) from by omega];exact l3⟩
 | a0,.row E t::ps,svs0,vs,d,fz,bx,cx,r,j,i,e,hd,hF=>by
  obtain⟨n,sz,svs,rfl⟩:=VA e;simp only[gT,Q.run] at e;split at e
  .rename_i p0 q0 hk;simp only[bq,br] at e;obtain⟨rfl,rfl⟩:=e;split at hk
   .rename_i E' t' xs hl;split at hk
    next ys hE hsz hc=>have hE:=bG hE;subst hE;have hsz:=bG hsz;subst hsz;obtain⟨et,ez⟩:=jN hc;subst et;simp only at ez;subst ez;obtain⟨⟨d2,f2,b2,c2⟩,q3,q4,e3,e4,rfl⟩:=Q.run_bind _ _ _ hk;simp only[Q.run,bq,br] at e4;obtain⟨⟨rfl,rfl,rfl,rfl⟩,rfl⟩:=e4;simp only[aR,az] at hd;obtain⟨x,vr,rfl,hv,hr⟩:=hd;obtain⟨s1,s4,s6⟩:=uo m hA (Cg a0 n) ps svs vr d2 f2 b2 c2 q3 (j+1) i e3 hr hF;obtain⟨hw,hlk⟩:=NZ m hA hl;refine⟨s1,⟨hw,s4⟩,λhj ha hb hc=>?_⟩;have h0:=hb 0 n rfl;rw[ip] at h0;obtain⟨l1,l2,l3⟩:=s6 (λq=>(RM q).elim) (λn' hn=>by cases a0 with|some m=>exact ha n' hn|none=>cases hn;have e:=hj rfl;rw[e,ip] at h0;exact h0) (λk n hn=>by have:=hb (k+1) n (by simpa using hn);rwa [show j+(k+1)=j+1+k from by omega] at this) hc;refine⟨?_,⟨(hlk envc (PN+j)).1,by rw[show PN+j+1=PN+(j+1) from by omega];exact l2⟩,l3⟩;simp only[iC,aR,az];exact⟨_,vr,rfl,by rw[h0];exact hv,l1⟩
    .cases hk
   .cases hk
  .cases e
 | a0,[],_::_,_,_,_,_,_,_,_,_,e,_,_=>by simp[gT,Q.run] at e
 | _,.val _::_,[],_,_,_,_,_,_,_,_,e,_,_=>by simp[gT,Q.run] at e
end
end Go.SX
namespace Go.SX
section
variable {w0:World} {N0:f5} {A Ac:Nat->Prop} {env:aZ} {h:bP} {w:World}
def Bp:List Nat->Bool
 | []=>true
 | n::r => !oM n r&&Bp r
theorem KN:∀{l:List Nat},Bp l=true->l.Nodup
 | [],_=>List.nodup_nil
 | n::r,h=>by
  simp only[Bp,dM,rP] at h;refine List.nodup_cons.2 ⟨λhm=>?_,KN h.2⟩;rw[wQ.2 hm] at h;cases h.1
def jM:List (Option Nat)->List Nat
 | []=>[]
 | none::r=>jM r
 | some n::r=>n::jM r
theorem vZ{n:Nat}:∀{l:List (Option Nat)},n∈jM l↔some n∈l
 | []=>by simp[jM]
 | none::r=>by simp[jM,vZ (l:=r)]
 | some m::r=>by simp[jM,vZ (l:=r)]
theorem IE{n:Nat}:∀{l:List (Option Nat)}{i i':Nat},(jM l).Nodup->l[i]? = some (some n)->l[i']? = some (some n)->i=i'
 | [],i,i',_,h,_=>by simp at h
 | none::r,i,i',hn,h,h'=>by
  cases i with
  | zero=>simp at h
  | succ i=>cases i' with
   | zero=>simp at h'
   | succ i'=>have:=IE (i:=i) (i':=i') (l:=r) hn (by simpa using h) (by simpa using h');omega
 | some m::r,i,i',hn,h,h'=>by
  obtain⟨h1,h2⟩:=List.nodup_cons.1 hn;cases i with
  | zero =>
   simp at h;subst h;cases i' with
   | zero=>rfl
   | succ i'=>exact absurd (vZ.2 (pb (by simpa using h'))) h1
  | succ i=>cases i' with
   | zero=>simp at h';subst h';exact absurd (vZ.2 (pb (by simpa using h))) h1
   | succ i'=>have:=IE (i:=i) (i':=i') (l:=r) h2 (by simpa using h) (by simpa using h');omega
def pA(bx:List Nat)(cx:List (Option Nat))(n:Nat):Option (Option Nat):=match Nat.ble QN n with
 | true=>cx[n-QN]?
 | false=>match Nat.ble PN n with
  | true=>match bx[n-PN]? with
   | some m=>some (some m)
   | none=>none
  | false=>none
def oW(env:aZ)(bx:List Nat)(cx:List (Option Nat)):aZ:=λn=>match pA bx cx n with
 | some o=>pf env o
 | none => .un
theorem Qa{bx:List Nat}{cx:List (Option Nat)}{i n:Nat}(hl:bx.length<=PN)(hi:bx[i]? = some n):pA bx cx (PN+i)=some (some n):=by
 have hlt:=(List.getElem?_eq_some_iff.1 hi).1
 have h2:QN=PN+PN:=rfl
 unfold pA
 have h1:Nat.ble QN (PN+i)=false:=by
  cases hb:Nat.ble QN (PN+i) with
  | false=>rfl
  | true=>have:=kO hb;omega
 rw[h1,Nat.ble_eq_true_of_le (by omega)]
 simp only[lu,hi]
theorem KY{bx:List Nat}{cx:List (Option Nat)}{i:Nat}{o:Option Nat}(hi:cx[i]? = some o):pA bx cx (QN+i)=some o:=by
 unfold pA
 rw[Nat.ble_eq_true_of_le (by omega)]
 simp only[lu,hi]
theorem Fp{bx:List Nat}{cx:List (Option Nat)}{n:Nat}{o:Option Nat}(e:pA bx cx n=some o):(∃ i m,bx[i]? = some m/\n=PN+i/\n<QN/\o=some m)∨∃ i,cx[i]? = some o/\n=QN+i:=by
 unfold pA at e
 split at e
 next hb=>have:=kO hb;exact .inr ⟨n-QN,e,by omega⟩
 next hb=>
  have hlt:n<QN:=by
   refine Nat.lt_of_not_le λhle=>?_;rw[Nat.ble_eq_true_of_le hle] at hb;cases hb
  split at e
  .rename_i hb;have:=kO hb;split at e
   next m hm=>cases e;exact .inl ⟨n-PN,m,hm,by omega,hlt,rfl⟩
   .cases e
  .cases e
theorem Gx{bx:List Nat}{cx:List (Option Nat)}{i n:Nat}(hl:bx.length<=PN)(hi:bx[i]? = some n):oW env bx cx (PN+i)=env n:=by
 unfold oW;rw[Qa hl hi];rfl
theorem am0{bx:List Nat}{cx:List (Option Nat)}{i:Nat}{o:Option Nat}(hi:cx[i]? = some o):oW env bx cx (QN+i)=pf env o:=by
 unfold oW;rw[KY hi]
def DR(env:aZ)(bx:List Nat)(k:Nat):Prop:=∃ n l,n∈bx/\env n = .blk k l
theorem GC{a b:List (Nat×Nm)}{n:Nat}:eJ (a++b) n=if n∈a.map (·.1) then eJ a n else eJ b n:=by
 induction a with
 | nil=>simp
 | cons p a ih =>
  obtain⟨m,x⟩:=p;simp only[mF,eJ,fF,dK];cases hb:Nat.beq n m with
  | true=>have:=bG hb;simp[this]
  | false =>
   have hne:¬ n=m:=λe=>by rw[e,ub] at hb;cases hb
   simp only[hne,false_or,ih]
theorem ap2{A':Nat->Prop}{e':aZ}{bx:List Nat}{cx:List (Option Nat)}{lb lc:List (Nat×Nm)}(hl:bx.length<=PN)(hb:jU A' env h e' w (bx.map some) lb PN)(hc:jU A' env h e' w cx lc QN) :
  (∀ n o,pA bx cx n=some o→∃ b',eJ (lb++lc) n = .live b'∧b'.mut=true/\((∃ q b,o=some q/\h q = .live b/\b.mut=true/\(∀ k len,env q = .blk k len->jX A' e' w k len b')/\(env q = .nil→∃ E t,b' = .row E t []))∨(o=none∧∃ E t,b' = .row E t []))) ∧
  (∀ n,pA bx cx n=none->eJ (lb++lc) n = .un):=by
 obtain⟨hbl,hbg⟩:=hb.get
 obtain⟨hcl,hcg⟩:=hc.get
 have kb:∀ n,n∈lb.map (·.1)→∃ i,i<bx.length/\n=PN+i:=λn hn=>by
  obtain⟨⟨n',x⟩,hx,rfl⟩:=List.mem_map.1 hn;obtain⟨i,o,h1,h2⟩:=hb.keys _ _ hx;exact⟨i,by have:=(List.getElem?_eq_some_iff.1 h2).1;simpa using this,h1⟩
 have kc:∀ n,n∈lc.map (·.1)→∃ i o,cx[i]? = some o/\n=QN+i:=λn hn=>by
  obtain⟨⟨n',x⟩,hx,rfl⟩:=List.mem_map.1 hn;obtain⟨i,o,h1,h2⟩:=hc.keys _ _ hx;exact⟨i,o,h2,h1⟩
 have h2:QN=PN+PN:=rfl
 refine⟨λn o e=>?_,λn e=>?_⟩
 .rcases Fp e with⟨i,m,hi,rfl,hlt,rfl⟩|⟨i,hi,rfl⟩
  .obtain⟨b',g1,g2,g3⟩:=hbg i (some m) (by simp[hi]);refine⟨b',?_,g3⟩;rw[GC,am (sr (f:=(·.1)) g2)];exact g1
  .obtain⟨b',g1,g2,g3⟩:=hcg i o hi;refine⟨b',?_,g3⟩;rw[GC,af]
   .exact g1
   .intro hmem;obtain⟨i',hi',e'⟩:=kb _ hmem;omega
 .rw[GC,af]
  .refine OK λhmem=>?_;obtain⟨i,o,hi,rfl⟩:=kc n hmem;rw[KY hi] at e;cases e
  .intro hmem;obtain⟨i,hi,rfl⟩:=kb n hmem;rw[Qa hl (cK hi)] at e;cases e
theorem Mod.call(m:Mod w0 N0 A env h w){lb lc:List (Nat×Nm)}{fz:List (Nat×Nm)}{bx:List Nat}{cx:List (Option Nat)}(hfz:nQ h fz)(hl:bx.length<=PN)
  (hb:jU (gV A env fz) env h (oW env bx cx) w (bx.map some) lb PN) (hc:jU (gV A env fz) env h (oW env bx cx) w cx lc QN)
  (hdj:∀ n,n∈bx++jM cx->n ∉ fz.map (·.1)) (hnd:(bx++jM cx).Nodup) :
  Mod w ⟨DR env (bx++jM cx),gV A env fz,N0.g⟩ (gV A env fz) (oW env bx cx) (eJ (lb++lc)) w:=by
 obtain⟨hg,hgn⟩:=ap2 hl hb hc
 have mf:=(m.freeze hfz).1
 have memS:∀ {n o q},pA bx cx n=some o->o=some q->q∈bx++jM cx:=λ{n o q} e eo=>by
  subst eo;rcases Fp e with⟨i,m,hi,_,_,e⟩|⟨i,hi,_⟩
  .cases e;exact gu _ (pb hi)
  .exact jd _ (vZ.2 (pb hi))
 have inj:∀ {n n' q},pA bx cx n=some (some q)->pA bx cx n'=some (some q)->n=n':=λ{n n' q} e e'=>by
  obtain⟨hn1,hn2,hn3⟩:=List.nodup_append.1 hnd;rcases Fp e with⟨i,m,hi,rfl,_,em⟩|⟨i,hi,rfl⟩ <;> rcases Fp e' with⟨i',m',hi',rfl,_,em'⟩|⟨i',hi',rfl⟩
  .cases em;cases em';have:=(List.getElem?_inj (List.getElem?_eq_some_iff.1 hi).1 hn1).1 (hi.trans hi'.symm);rw[this]
  .cases em;exact absurd rfl (hn3 _ (pb hi) _ (vZ.2 (pb hi')))
  .cases em';exact absurd rfl (hn3 _ (pb hi') _ (vZ.2 (pb hi)))
  .rw[IE hn2 hi hi']
 have blk:∀ {n k l},oW env bx cx n = .blk k l→∃ q,pA bx cx n=some (some q)/\env q = .blk k l:=λ{n k l} he=>by
  unfold oW at he;split at he
  .rename_i o ho;cases o with
   | none=>cases he
   | some q=>exact⟨q,ho,he⟩
  .cases he
 refine⟨rfl,rfl,rfl,ir _,λ_ _ _=>rfl,mf.Alt,?_,?_,?_,λb hb=>.inl hb,mf.gl⟩
 .intro n;cases hs:pA bx cx n with
  | none =>
   rw[hgn n hs];show oW env bx cx n = .un;unfold oW;rw[hs]
  | some o =>
   obtain⟨b',g1,g4,g5⟩:=hg n o hs;rw[g1];have he:oW env bx cx n=pf env o:=by unfold oW;rw[hs]
   rcases g5 with⟨q,b,rfl,g2,g3,g5,g6⟩|⟨rfl,E,t,e2⟩
   .have hm:=m.nm q;rw[g2] at hm;rcases hm with⟨kk,len,e1,_⟩|⟨e1,_⟩
    .refine .inl ⟨kk,len,by rw[he];exact e1,g5 _ _ e1,λ_ hA=>?_⟩;rcases hA with hA|⟨n',x',l',hx,he'⟩
     .exact (m.live_blk g2 e1).2 g3 hA
     .obtain⟨E,t,xs,hl',_⟩:=hfz n' x' hx;have:=m.inj q n' b _ kk len l' g2 hl' g3 rfl e1 he';subst this;exact hdj q (memS hs rfl) (sr (f:=(·.1)) hx)
    .obtain⟨E,t,e⟩:=g6 e1;exact .inr ⟨by rw[he];exact e1,E,t,.inl e⟩
   .exact .inr ⟨by rw[he];rfl,E,t,.inl e2⟩
 .intro n b k l hl hm he;obtain⟨q,hs,e2⟩:=blk he;exact .inl ⟨q,l,memS hs rfl,e2⟩
 .intro n n' b c k l l' hl hl' hm hm' he he';obtain⟨q,hs,e1⟩:=blk he;obtain⟨q',hs',e2⟩:=blk he';obtain⟨b1,_,_,⟨q1,c1,e,g2,g3,_⟩|⟨e,_⟩⟩:=hg n _ hs
  .obtain⟨b2,_,_,⟨q2,c2,e',f2,f3,_⟩|⟨e',_⟩⟩:=hg n' _ hs'
   .cases e;cases e';have:=m.inj q q' c1 c2 k l l' g2 f2 g3 f3 e1 e2;subst this;exact inj hs hs'
   .cases e'
  .cases e
def kY(R:Rn)(env env1:aZ):aZ:=λn=>match bf R n with
 | none=>env n
 | some _=>iH R env1 n
theorem Mod.retn{As A' A1:Nat->Prop}{env1:aZ}{hs h1:bP}{w1:World}{Nc:f5}{U:List (Nat×Nm)}{R:Rn}
  (ms:Mod w0 N0 As env hs w) (m1:Mod w Nc A1 env1 h1 w1) (hshape:∀ b s,w.shape? b=some s->w1.shape? b=some s)
  (hU:∀ n x,(n,x)∈U->x = .dead∨∃ b,x = .live b/\b.mut=true/\((∃ m b0,bf R n=some (some m)/\h1 m = .live b0/\b0.mut=true ∧
   (∀ k len,env1 m = .blk k len->jX A' (kY R env env1) w1 k len b)/\(env1 m = .nil→∃ E t,b = .row E t []))∨(bf R n=some none∧∃ E t,b = .row E t [])))
  (hdom:∀ n,bf R n≠none->n∈U.map (·.1)) (hinj:iM R)
  (hold:∀ n,bf R n≠none->hs n = .un∨∃ b,hs n = .live b/\b.mut=true/\(iH R env1 n=env n))
  (hNc:∀ k,Nc.n k→∃ n b l,n∈U.map (·.1)/\hs n = .live b/\b.mut=true/\env n = .blk k l)
  (hA:∀ b,As b->A' b) (hA1:∀ b,A' b->As b∨((Nc.n b∨w.heap.size<=b)/\b<w1.heap.size))
  (hAm:∀ m b k l,h1 m = .live b->b.mut=true->env1 m = .blk k l->(∃ n,bf R n=some (some m))→¬ A' k) :
  Mod w0 N0 A' (kY R env env1) (cZ U hs) w1/\dw As env w A' (kY R env env1) w1:=by
 have src:∀ k,(Nc.n k∨w.heap.size<=k)->En (λn=>n∈U.map (·.1)) env hs w k:=λk hk=>by
  rcases hk with hk|hk
  .obtain⟨n,b,l,e1,e2,e3,e4⟩:=hNc k hk;exact .inr ⟨n,b,l,e1,e2,e3,e4⟩
  .exact .inl hk
 have mem:∀ n,n∈U.map (·.1)->(n,cZ U hs n)∈U:=λn hn=>by
  have hl:∀(V:List (Nat×Nm)) ,n∈V.map (·.1)->(n,cZ V hs n)∈V:=by
   intro V
   induction V with
   | nil=>intro h;simp at h
   | cons p V ih =>
    obtain⟨q,y⟩:=p;intro h;by_cases hq:n=q
    .subst hq;simp[cZ]
    .rw[cZ,bP.set_other _ _ hq];rcases dK.1 h with e|h
     .exact absurd e hq
     .exact fM _ (ih h)
  exact hl U hn
 have envR:∀ n y,bf R n=some y->kY R env env1 n=iH R env1 n:=λn y hn=>by
  unfold kY;rw[hn]
 have u:mK (λn=>n∈U.map (·.1)) Nc.n As env hs w A' (kY R env env1) (cZ U hs) w1:=by
  refine⟨⟨m1.os,m1.tape,m1.output,m1.size,m1.fr,hshape⟩,?_,hA,?_,?_,?_,λn hn=>nY hn,?_,?_,?_⟩
  .intro k hk;obtain⟨n,b,l,e1,e2,e3,e4⟩:=hNc k hk;exact⟨n,b,l,e1,e2,e3,e4⟩
  .intro b hb;rcases hA1 b hb with h|⟨h,h'⟩
   .exact .inl h
   .exact .inr ⟨src b h,h'⟩
  .intro n hn;unfold kY;cases hl:bf R n with
   | none=>rfl
   | some y=>exact absurd (hdom n (by rw[hl];simp)) hn
  .intro n hn;unfold kY;cases hl:bf R n with
   | none=>rfl
   | some y =>
    rcases hold n (by rw[hl];simp) with h|⟨b,_,_,h⟩
    .exact absurd (by have:=ms.nm n;rw[h] at this;exact this) hn
    .exact h
  .intro n hn;have hmem:=mem n hn;rcases hU n _ hmem with e|⟨b,e,hmut,hh⟩
   .rw[e];trivial
   .rw[e];rcases hh with⟨m',b0,e1,e2,e3,e4,e5⟩|⟨e1,E,t,e2⟩
    .have he:kY R env env1 n=env1 m':=by rw[envR n _ e1,ug e1]
     have hm':=m1.nm m';rw[e2] at hm';rcases hm' with⟨k,len,he',_,_⟩|⟨he',_⟩
     .exact .inl ⟨k,len,he.trans he',e4 k len he',λ_=>hAm m' b0 k len e2 e3 he' ⟨n,e1⟩⟩
     .obtain⟨E,t,e⟩:=e5 he';exact .inr ⟨he.trans he',E,t,.inl e⟩
    .exact .inr ⟨by rw[envR n _ e1,Cy e1],E,t,.inl e2⟩
  .intro n b k l hn hl hm he;have hmem:=mem n hn;rw[hl] at hmem;rcases hU n _ hmem with e|⟨b',e,hmut,hh⟩
   .cases e
   .rcases hh with⟨m',b0,e1,e2,e3,_⟩|⟨e1,_⟩
    .rw[envR n _ e1,ug e1] at he;exact src k (m1.own m' b0 k l e2 e3 he)
    .rw[envR n _ e1,Cy e1] at he;cases he
  .intro n n' b c k l l' hn hn' hl hl' hm hm' he he';have hmem1:=mem n hn;have hmem2:=mem n' hn';rw[hl] at hmem1;rw[hl'] at hmem2;rcases hU n _ hmem1 with e|⟨_,_,_,hh1⟩
   .cases e
   rcases hU n' _ hmem2 with e|⟨_,_,_,hh2⟩
   .cases e
   rcases hh1 with⟨m',b0,e1,e2,e3,_⟩|⟨e1,_⟩
   .rw[envR n _ e1,ug e1] at he;rcases hh2 with⟨m2,c0,f1,f2,f3,_⟩|⟨f1,_⟩
    .rw[envR n' _ f1,ug f1] at he';have:=m1.inj m' m2 b0 c0 k l l' e2 f2 e3 f3 he he';subst this;exact hinj n n' m' e1 f1
    .rw[envR n' _ f1,Cy f1] at he';cases he'
   .rw[envR n _ e1,Cy e1] at he;cases he
 exact⟨ms.upd u,ms.ext u⟩
end
end Go.SX
