/- Probe: probes, their packets and keys. -/
import Derived.Test.YtoipogagjfkjlaaGreatDoorIpv4
import Derived.Test.YtoipogagjfkjlaaGreatDoorIdent
import Derived.Laws.BitsAllLaws
set_option maxRecDepth 100000
set_option linter.unusedVariables false
open Int (toNat)
open List (length take set)
namespace Go.RS
open Go.SX Go.Proofs
abbrev r8:CT := .pair db (.pair db (.pair cI (.pair cI (.pair cI cI))))
abbrev bc:Type:=Int×Int×Int×Int×Int×Int
def qX(n:Int):Prop:=n=1∨n=6∨n=17
instance (n:Int):Decidable (qX n):=by unfold qX;infer_instance
def jT(p:bc):Prop:=(0<=p.2.2.2.1/\p.2.2.2.1<=1023)/\(0<=p.2.2.2.2.1/\p.2.2.2.2.1<=65534)/\1<=p.2.2.2.2.2/\p.2.2.2.2.2<=255
instance (p:bc):Decidable (jT p):=by unfold jT;infer_instance
def cP(p:bc):Int:=if ¬ qX p.2.2.1 then 16 else if ¬ jT p then 1 else 0
def ue(p:bc):Int:=oc (65535-(16384+p.2.2.2.1)+dM (dB (false,21075,p.2.2.2.2.1,[0,0])))
def xH(p:bc):Int:=oc (65535-(p.2.2.2.2.1+1)+f6 p.1 p.2.1 17 (fO (20000+p.2.2.2.1,33434,[0,0])))
def vy(p:bc):Int:=if xH p=0 then 65535 else xH p
def nK(p:bc):qk:=(false,21075,p.2.2.2.2.1,w2 (ue p))
def vK(p:bc):uu:=(20000+p.2.2.2.1,33434,w2 (vy p))
def pE(p:bc):mI:=(20000+p.2.2.2.1,80,p.2.2.2.2.1,0,2,1024,[])
def fJ(p:bc):ac:=if p.2.2.1=1 then fP (nK p) else if p.2.2.1=17 then kZ p.1 p.2.1 (vK p) else gc p.1 p.2.1 (pE p)
def wG(p:bc):dJ:=(0,p.2.2.2.2.1,p.2.2.2.2.2,p.2.2.1,true,p.1,p.2.1)
def build(p:bc):ac:=if cP p=0 then fN (wG p,fJ p) else []
def bA2:kx:=(0,0,0,0,0)
def O1:bc:=(0,0,0,0,0,0)
def Ch(x:nH):kx:=(x.1.2.2.2.2.2.1,x.1.2.2.2.2.2.2,x.1.2.2.2.1,if qX x.1.2.2.2.1/\4<=x.2.length then aR x.2 0 else 0,if qX x.1.2.2.2.1/\4<=x.2.length then aR x.2 2 else 0)
def iR(b:ac):kx:=if dE b=0 then Ch (cD b) else bA2
theorem qJ{p:bc}:cP p=0↔qX p.2.2.1/\jT p:=by
 unfold cP
 constructor
 .intro h;split at h
  .cases h
  .split at h
   .cases h
   next h1 h2=>exact⟨sI.1 h1,sI.1 h2⟩
 .rintro⟨h1,h2⟩;rw[ah (λk=>k h1),ah (λk=>k h2)]
theorem CM{b:ac}{i:Nat}{c:Int}(h:i+2<=b.length)(c0:0<=c)(c1:c<=65535):aR (de b i c) i=c:=by
 rw[N8 (by rw[ng];exact h)]
 unfold de
 rw[Gc ab,Qu ab,Qu (by rw[fF];omega)]
 omega
theorem zm{b:ac}{i j:Nat}{c:Int}(h:j+2<=b.length)(hn:j+2<=i∨i+2<=j):aR (de b i c) j=aR b j:=by
 rw[N8 (by rw[ng];exact h),N8 h]
 unfold de
 rw[Gc ab,Gc ab,Gc ab,Gc ab]
theorem FP{s d:Int}{p:Int}{X:ac}(hx:bytes X)(hp:0<p%256):0<=f6 s d p X/\f6 s d p X<=65534:=by
 have h1:=(B6 (a:=s) (b:=d) (p:=p) hx).1
 refine⟨h1,?_⟩
 unfold f6 at h1 ⊢
 split
 .omega
 .unfold dM;rw[PG];have h2:=VS s d p X.length;have h3:=(DU true X hx).1;unfold oc;rw[ah ab];omega
theorem UF:bytes [0,0]:=pd (by omega) (by omega) (pd (by omega) (by omega) qw)
theorem N1(t:Int):bytes (dB (false,21075,t,[0,0])):=BF UF
theorem AF(f:Int):bytes (fO (20000+f,33434,[0,0])):=Gq UF
theorem VM{p:bc}(h:jT p):1<=ue p/\ue p<=65535:=by
 have:=rX (N1 p.2.2.2.2.1)
 obtain⟨⟨h1,h2⟩,-⟩:=h
 unfold ue oc
 rw[ah ab];omega
theorem aN0{p:bc}(h:jT p):0<=xH p/\xH p<=65535:=by
 have:=FP (s:=p.1) (d:=p.2.1) (p:=17) (AF p.2.2.2.1) bo
 obtain⟨-,⟨h1,h2⟩,-⟩:=h
 exact xT ab
theorem Qw{p:bc}(h:jT p):1<=vy p/\vy p<=65535:=by
 have:=aN0 h
 unfold vy;split <;> omega
theorem aT5{p:bc}(h:jT p):oc (65535-Int.tmod (p.2.2.2.2.1+1) 65535+f6 p.1 p.2.1 17 (fO (20000+p.2.2.2.1,33434,[0,0])))=vy p:=by
 have hs:=FP (s:=p.1) (d:=p.2.1) (p:=17) (AF p.2.2.2.1) bo
 obtain⟨-,⟨h1,h2⟩,-⟩:=h
 unfold vy xH
 generalize f6 p.1 p.2.1 17 (fO (20000+p.2.2.2.1,33434,[0,0]))=s at hs
 rw[Gn ab]
 by_cases ht:p.2.2.2.2.1=65534
 .rw[ht];unfold oc;by_cases h0:s=0
  .subst h0;decide
  .rw[ah ab,ah ab,ah ab];omega
 .have e:(p.2.2.2.2.1+1)%65535=p.2.2.2.2.1+1:=Int.emod_eq_of_lt ab ab;rw[e];have:1<=oc (65535-(p.2.2.2.2.1+1)+s):=by unfold oc;rw[ah ab];omega
  rw[ah ab]
theorem bm6{s d:Int}{X:ac}(hx:bytes X):Int.tmod (lh s d X) 65535=f6 s d 17 X:=by
 have h:=FP (s:=s) (d:=d) (p:=17) hx bo
 unfold lh
 split
 next k=>rw[k];decide
 .rw[Gn ab];exact Int.emod_eq_of_lt ab ab
theorem zb(n:Int):(w2 n).length=2:=rfl
theorem P6{p:bc}(h:jT p):He (w2 (ue p)) (nK p):=by
 obtain⟨-,⟨h1,h2⟩,-⟩:=h
 exact⟨⟨(iQ _).2 ⟨by show (0:Int)<=21075;omega,by show (21075:Int)<=_;omega⟩,(iQ _).2 ⟨h1,by show p.2.2.2.2.1<=_;omega⟩⟩,rfl⟩
theorem Yi{p:bc}(h:jT p):KW (w2 (vy p)) (vK p):=by
 obtain⟨⟨h1,h2⟩,-⟩:=h
 exact⟨⟨(iQ _).2 ⟨by show (0:Int)<=20000+p.2.2.2.1;omega,by show 20000+p.2.2.2.1<=_;omega⟩,(iQ _).2 ⟨by show (0:Int)<=33434;omega,by show (33434:Int)<=_;omega⟩⟩,rfl⟩
theorem M0{p:bc}(h:jT p):Kx [] (pE p):=by
 obtain⟨⟨h1,h2⟩,⟨h3,h4⟩,-⟩:=h
 refine⟨⟨(iQ _).2 ⟨?_,?_⟩,(iQ _).2 ⟨?_,?_⟩,⟨?_,?_⟩,⟨?_,?_⟩,⟨?_,?_⟩,(iQ _).2 ⟨?_,?_⟩⟩,rfl⟩ <;> simp only[pE] <;> omega
theorem Lh{p:bc}(h:jT p):kL (nK p)=0:=EV (P6 h) (by rw[zb];omega)
theorem MT{p:bc}(h:jT p):mF (vK p)=0:=Lm (Yi h) (by rw[zb];omega)
theorem OV{p:bc}(h:jT p):mO (pE p)=0:=MW (M0 h) (by simp)
theorem CF{p:bc}(h:jT p)(h1:p.2.2.1=1):fJ p=de (dB (nK p)) 2 (dM (dB (nK p))):=by
 rw[fJ,aj h1,fP,aj (Lh h)]
theorem Ej{p:bc}(h:jT p)(h1:p.2.2.1=17):fJ p=de (fO (vK p)) 6 (lh p.1 p.2.1 (fO (vK p))):=by
 rw[fJ,ah ab,aj h1,kZ,aj (MT h)]
theorem De{p:bc}(h:jT p)(h1:p.2.2.1=6):fJ p=de (mT (pE p)) 16 (f6 p.1 p.2.1 6 (mT (pE p))):=by
 rw[fJ,ah ab,ah ab,gc,aj (OV h)]
theorem Dw{p:bc}(h:cP p=0):(p.2.2.1≠6/\(fJ p).length=10)∨(p.2.2.1=6/\(fJ p).length=20):=by
 obtain⟨h1|h1|h1,h2⟩:=qJ.1 h
 .rw[CF h2 h1,ng];exact .inl ⟨ab,rfl⟩
 .rw[De h2 h1,ng];exact .inr ⟨h1,rfl⟩
 .rw[Ej h2 h1,ng];exact .inl ⟨ab,rfl⟩
theorem RQ{p:bc}(h:cP p=0):bytes (fJ p):=by
 obtain⟨h1|h1|h1,h2⟩:=qJ.1 h
 .rw[CF h2 h1];exact wJ (BF (ou _))
 .rw[De h2 h1];exact wJ (CZ (M0 h2).1 qw)
 .rw[Ej h2 h1];exact wJ (Gq (ou _))
theorem MY{p:bc}(h:cP p=0):nh (wG p):=by
 obtain⟨h1,⟨-,⟨h2,h3⟩,h4,h5⟩⟩:=qJ.1 h
 refine⟨⟨?_,?_⟩,⟨?_,?_⟩,⟨?_,?_⟩,?_,?_⟩ <;> simp only[wG] <;> unfold qX at h1 <;> omega
theorem LO{p:bc}(h:cP p=0):gv (wG p,fJ p)=0:=by
 rw[gv,ah (λk=>k (MY h)),ah]
 rcases Dw h with h|h <;> rw[h.2] <;> simp
theorem JJ{p:bc}(h:cP p=0):build p=kQ (wG p) (20+(fJ p).length)++fJ p:=by
 rw[build,aj h,fN,aj (LO h)]
theorem ac6(p:bc):(build p).length<=40:=by
 by_cases h:cP p=0
 .rw[JJ h,cL,vu];rcases Dw h with h|h <;> omega
 .rw[build,ah h];simp
theorem Th(p:bc):bytes (build p):=by
 by_cases h:cP p=0
 .rw[JJ h];exact jN (OX (MY h)) (RQ h)
 .rw[build,ah h];exact qw
def at6:Ct:=⟨[.agg r8],[.val cI],λd=>[],λd=>((cP d.1,()),())⟩
def ub(a b:Bool)(c d e:Prop):=∀(f:Bool),f=a->cX f (br f) (au (bn f b) (au (bn f b) c d) e)
def rg(a b c d e f:Int):=ai (aQ a/\aQ b/\bG c d (aq e) (aq f))
def wv(a:Bool)(b:Prop)(c:Bool)(d e:Prop):=cG a a (aT b) (b->b) (au c d e)
def I5(a:Int)(b c:Bool)(d e:Prop):=True-> ∀(f:Bool),f=bW a 1->cG f f (aT f) (f->f) (∀(g:Bool),g=bw f b->wv g g (bw g c) d e)
theorem by1:
 ∀(a b c d e f:Int),rg a b c d e f->I5 c (bW c 6) (bW c 17) (16=cP (a,b,c,d,e,f)) (ub (dw d) (av 1023 d) (1=cP (a,b,c,d,e,f)) (0=cP (a,b,c,d,e,f)) (ub (dw e) (av 65534 e) (1=cP (a,b,c,d,e,f)) (0=cP (a,b,c,d,e,f)) (lw (av f 1) (av 255 f) (1=cP (a,b,c,d,e,f)) (0=cP (a,b,c,d,e,f))))):= by
  delta aq aI bO aQ aT bG bn cG bw cX br lw ub ai aD bW dw rg av wv I5
  rintro s d pr f t l - -
  (repeat (refine dq ?_;repeat refine dm ?_))
  refine ay (λhc=>?_) (λhc=>?_)
  .rw[cP,aj]
   simp only[qX]
   intro k
   rcases k with rfl|rfl|rfl <;> simp at hc
  have hp:qX pr:=by
   unfold qX
   by_cases h1:pr=1
   .exact .inl h1
   .by_cases h6:pr=6
    .exact .inr (.inl h6)
    .simp[h1,h6] at hc;exact .inr (.inr hc)
  have key:∀(v:Int),(v=if jT (s,d,pr,f,t,l) then 0 else 1)->v=cP (s,d,pr,f,t,l):=by
   intro v hv
   rw[cP,ah (λk=>k hp),hv]
   by_cases k:jT (s,d,pr,f,t,l)
   .rw[aj k,ah (λq=>q k)]
   .rw[ah k,aj k]
  (repeat (refine dq ?_;repeat refine dm ?_))
  refine ay (λh1=>?_) (λh1=>?_)
  .have hn:¬ jT (s,d,pr,f,t,l):=by
    rintro⟨⟨a,b⟩,-⟩
    simp only at a b
    simp[gb] at h1;omega
   exact ay (λ_=>key 1 (by rw[ah hn])) (λh=>by rw[h] at h1;cases h1)
  (repeat (refine dq ?_;repeat refine dm ?_))
  refine ay (λh2=>?_) (λh2=>?_)
  .have hn:¬ jT (s,d,pr,f,t,l):=by
    rintro⟨-,⟨a,b⟩,-⟩
    simp only at a b
    simp[gb] at h2;omega
   exact ay (λ_=>key 1 (by rw[ah hn])) (λh=>by rw[h] at h2;cases h2)
  (repeat (refine dq ?_;repeat refine dm ?_))
  simp[gb] at h1 h2
  refine ay (λh3=>?_) (λh3=>?_)
  .have hn:¬ jT (s,d,pr,f,t,l):=by
    rintro⟨-,-,a,b⟩
    simp only at a b
    simp[gb] at h3;omega
   exact key 1 (by rw[ah hn])
  .have hn:jT (s,d,pr,f,t,l):=by
    simp[gb] at h3
    refine⟨⟨?_,?_⟩,⟨?_,?_⟩,?_,?_⟩ <;> simp only <;> omega
   exact key 0 (by rw[aj hn])
theorem Jp:aB 68 at6.spec:=aF Tryz.func68 aC aS by1
def aU1:Ct:=⟨[.agg r8],[.val cI],λd=>[],λd=>((cP d.1,()),())⟩
theorem a06:
 ∀(a b c d e f:Int),rg a b c d e f->I5 c (bW c 17) (bW c 6) (16=cP (a,b,c,d,e,f)) (∀(g:Bool),g=dw d->cX g (br g) (CE (bn g (av 1023 d)) (dw e) (av 65534 e) (av f 1) (av 255 f) (1=cP (a,b,c,d,e,f)) (0=cP (a,b,c,d,e,f)))):= by
  delta aq aI bO aQ aT bG bn cG bw cX br lw ai CE Dj aD bW dw rg av wv I5
  rintro s d pr f t l - -
  (repeat (refine dq ?_;repeat refine dm ?_))
  refine ay (λhc=>?_) (λhc=>?_)
  .rw[cP,aj]
   simp only[qX]
   intro k
   rcases k with rfl|rfl|rfl <;> simp at hc
  have hp:qX pr:=by
   unfold qX
   by_cases h1:pr=1
   .exact .inl h1
   .by_cases h6:pr=17
    .exact .inr (.inr h6)
    .simp[h1,h6] at hc;exact .inr (.inl hc)
  have key:∀(v:Int),(v=if jT (s,d,pr,f,t,l) then 0 else 1)->v=cP (s,d,pr,f,t,l):=by
   intro v hv
   rw[cP,ah (λk=>k hp),hv]
   by_cases k:jT (s,d,pr,f,t,l)
   .rw[aj k,ah (λq=>q k)]
   .rw[ah k,aj k]
  (repeat (refine dq ?_;repeat refine dm ?_))
  refine ay (λh1=>?_) (λh1=>?_)
  .have hn:¬ jT (s,d,pr,f,t,l):=by
    rintro⟨⟨a,b⟩,⟨a2,b2⟩,a3,b3⟩
    simp only at a b a2 b2 a3 b3
    simp[gb] at h1;omega
   exact key 1 (by rw[ah hn])
  .have hn:jT (s,d,pr,f,t,l):=by
    simp[gb] at h1
    refine⟨⟨?_,?_⟩,⟨?_,?_⟩,?_,?_⟩ <;> simp only <;> omega
   exact key 0 (by rw[aj hn])
theorem bt5:aB 35 aU1.spec:=aF Tryz.func35 aC aS a06
def bd6:Ct:=⟨[.val cI,.val cI],[.own 5 bq],λd=>[0<=d.1,d.1<=65535,0<=d.2.1,d.2.1<=65535],λd=>((w2 (oc (65535-d.2.1+d.1)),()),())⟩
def Cg(a b:Int):=uh (ap (65535 -a)) b
theorem a70:
 ∀(a b:Int),dI a b->ao a (a<=65535) (aD b 65535)->(0:Int)<=(8:Int)/\IntKind.wrap IntKind.u8 (fy IntKind.i64 (Cg b a) 8)::bN (IntKind.wrap IntKind.u8 (Cg b a))=w2 (oc (65535 -b+a)):= by
  delta ap aq aI ao bN dI ai Cg aD uh
  rintro a b-⟨a0,a1,b0,b1⟩
  rw[aL (n:=65535-b) (by omega) (by omega),aj (by simp only[fe,iQ];omega)]
  have:=xT (n:=65535-b+a) (by omega)
  rw[J0 this.1,IntKind.wrap_u8',IntKind.wrap_u8']
  exact⟨by omega,rfl⟩
theorem aI4:aB 213 bd6.spec:=aF Tryz.func213 (am aC a30) aS a70
def aK5:Ct:=⟨[.agg r8],[.own 5 bq,.val cI],λd=>[cP d.1=0],λd=>((fJ d.1,0,()),())⟩
def mR(a:Int)(b c:Prop):=a<=1000000/\b/\c
def GE(a b:Int):=(ap (20000+a),(80:Int),b,(0:Int),(2:Int),(1024:Int),([]:ac))
theorem bN2:
 ∀(a b c d e f:Int),rg a b c d e f->cP (a,b,c,d,e,f)=0->au (iO c) (dj gR/\ ∀(g:ac),oD (g=fP (false,21075,e,gR)) (kL (false,21075,e,gR)) (aI (ae g)/\ ∀(h:Int),oD (h=dQ g 2 2) (tO g 2 2) (ao h (h<=65535) (ao (ap (16384+d)) (ap (16384+d)<=65535) (∀(i:ac),i=w2 (oc (65535 -ap (16384+d)+h))->dj i/\ ∀(j:ac)(k:Int),j=fP (false,21075,e,i)/\k=kL (false,21075,e,i)->j=fJ (a,b,c,d,e,f)/\k=0))))) (au (decide (c=17)) (dj gR/\ ∀(g:ac),oD (g=kZ a b (ap (20000+d),33434,gR)) (mF (ap (20000+d),33434,gR)) (aI (ae g)/\ ∀(h:Int),oD (h=dQ g 6 2) (tO g 6 2) ((65535:Int)≠(0:Int)/\(65535:Int)≠(0:Int)/\ao (Int.tmod h 65535) (Int.tmod h 65535<=65535) (ao (Int.tmod (ap (e+1)) 65535) (Int.tmod (ap (e+1)) 65535<=65535) (∀(i:ac),i=w2 (oc (65535 -Int.tmod (ap (e+1)) 65535+Int.tmod h
 65535))->dj i/\ ∀(j:ac)(k:Int),j=kZ a b (ap (20000+d),33434,i)/\k=mF (ap (20000+d),33434,i)->j=fJ (a,b,c,d,e,f)/\k=0))))) (mR (↑((0:Nat)):Int) (gc a b (GE d e)=fJ (a,b,c,d,e,f)) (mO (GE d e)=0))):= by
  delta ae ap aq aI aQ bG ao gR dj pm bN ai aD rg mR oD iO GE
  rintro s d pr f t l-he
  obtain⟨hp,hr⟩:=qJ.1 he
  have hr':=hr
  obtain⟨⟨f0,f1⟩,⟨t0,t1⟩,l0,l1⟩:=hr'
  simp only at f0 f1 t0 t1 l0 l1
  rw[aL (n:=16384+f) (by omega) (by omega),aL (n:=20000+f) (by omega) (by omega),aL (n:=t+1) (by omega) (by omega)]
  refine ay (λh1=>?_) (λh1=>ay (λh17=>?_) (λh17=>?_))
  .have h1:=aX h1
   have e0:kL (false,21075,t,[0,0])=0:=EV (data:=[0,0]) ⟨⟨(iQ _).2 ⟨by show (0:Int)<=21075;omega,by show (21075:Int)<=_;omega⟩,(iQ _).2 ⟨t0,by show t<=_;omega⟩⟩,rfl⟩ (by simp)
   have hc:=rX (N1 t)
   refine⟨by simp,?_⟩
   rintro b _ ⟨rfl,-⟩
   rw[fP,aj e0]
   have hl:(de (dB (false,21075,t,[0,0])) 2 (dM (dB (false,21075,t,[0,0])))).length=10:=by rw[ng];rfl
   refine⟨by omega,?_⟩
   rw[rR (by omega) (by omega),show toNat 2=2 from rfl,CM (by show 2+2<=10;omega) hc.1 hc.2]
   rintro _ _ ⟨rfl,-⟩
   refine⟨hc.1,hc.2,by omega,by omega,?_⟩
   rintro _ rfl
   refine⟨by rw[zb];omega,?_⟩
   rintro _ _ ⟨rfl,rfl⟩
   have e1:=Lh hr
   rw[fJ,aj h1]
   exact⟨rfl,e1⟩
  .have h17:=aX h17
   have e0:mF (20000+f,33434,[0,0])=0:=Lm (data:=[0,0]) ⟨⟨(iQ _).2 ⟨by show (0:Int)<=20000+f;omega,by show 20000+f<=_;omega⟩,(iQ _).2 ⟨by show (0:Int)<=33434;omega,by show (33434:Int)<=_;omega⟩⟩,rfl⟩ (by simp)
   have hc:=Pl (a:=s) (b:=d) (AF f)
   have hm:=bm6 (s:=s) (d:=d) (AF f)
   have hq:=FP (s:=s) (d:=d) (p:=17) (AF f) (by decide)
   refine⟨by simp,?_⟩
   rintro b _ ⟨rfl,-⟩
   rw[kZ,aj e0]
   have hl:(de (fO (20000+f,33434,[0,0])) 6 (lh s d (fO (20000+f,33434,[0,0])))).length=10:=by rw[ng];rfl
   refine⟨by omega,?_⟩
   rw[rR (by omega) (by omega),show toNat 6=6 from rfl,CM (by show 6+2<=10;omega) hc.1 hc.2]
   rintro _ _ ⟨rfl,-⟩
   rw[hm]
   have m0:=yu (a:=t+1) (b:=65535) (by omega)
   have m1:=yq (a:=t+1) (b:=65535) (by omega) (by omega)
   refine⟨by omega,by omega,hq.1,by omega,m0,by omega,?_⟩
   have hu:=aT5 (p:=(s,d,pr,f,t,l)) hr
   simp only at hu
   rw[hu]
   rintro _ rfl
   refine⟨by rw[zb];omega,?_⟩
   rintro _ _ ⟨rfl,rfl⟩
   have e1:=MT hr
   rw[fJ,ah (by simp only;omega),aj h17]
   exact⟨rfl,e1⟩
  .have h1:=bi h1
   have h17:=bi h17
   have e1:=OV hr
   rw[fJ,ah h1,ah h17]
   exact⟨by omega,rfl,e1⟩
theorem bN4:aB 147 aK5.spec:=aF Tryz.func147 (am (am (am (am (am aC (Ct.named S0)) (Ct.named Ez)) (Ct.named aI4)) (Ct.named Zf)) Ve) aS bN2
def Zx:Ct:=⟨[.agg r8],[.own 5 bq,.val cI],λd=>[],λd=>((build d.1,cP d.1,()),())⟩
def OY(a b c d e f:Int):=rg a b c d e f->True->au (bJ (cP (a,b,c,d,e,f))) (fM (build (a,b,c,d,e,f))/\cP (a,b,c,d,e,f)=cP (a,b,c,d,e,f)) (cP (a,b,c,d,e,f)=0/\dj (fJ (a,b,c,d,e,f))/\fN ((0,e,f,c,true,a,b),fJ (a,b,c,d,e,f))=build (a,b,c,d,e,f)/\gv ((0,e,f,c,true,a,b),fJ (a,b,c,d,e,f))=cP (a,b,c,d,e,f))
def JK:=∀(a b c d e f:Int),OY a b c d e f
theorem bu0:
 JK:= by
 delta ae aq aI aQ bG OY bJ dj ai aD bW rg JK fM
 rintro s d pr f t l - -
 refine ay (λh=>?_) (λh=>?_)
 .have h:¬ cP (s,d,pr,f,t,l)=0:=by simpa using h
  rw[build,ah h];exact⟨rfl,rfl⟩
 have h:cP (s,d,pr,f,t,l)=0:=by simpa using h
 have e0:=LO h
 have hl:=Dw h
 refine⟨h,by omega,?_⟩
 rw[build,aj h,h]
 exact⟨rfl,e0⟩
theorem bn0:aB 71 Zx.spec:=aF Tryz.func71 (am (am (am aC Jp) bN4) OR) aS bu0
def ba4:Ct:=⟨[.val (.sl bq)],[.agg O3,.val cI],λd=>[(d.1.length:Int)<=1099511627776],λd=>((iR d.1,dE d.1,()),())⟩
def GW(a:ac)(b c d:Int)(e:ac):=au (decide (4<=ae a)) (aI (ae a)/\aI (ae a)/\(b,c,d,dQ a 0 2,dQ a 2 2)=iR e/\0=dE e) ((b,c,d,0,0)=iR e/\0=dE e)
theorem aA8:
 ∀(a:ac),qd a (aG a) (∀(b:nH)(c:Int),b=cD a/\c=dE a->au (bJ c) ((0,0,0,0,0)=iR a/\c=dE a) (au (iO b.1.2.2.2.1) (au (iO b.1.2.2.2.1) (GW b.2 b.1.2.2.2.2.2.1 b.1.2.2.2.2.2.2 b.1.2.2.2.1 a) ((b.1.2.2.2.2.2.1,b.1.2.2.2.2.2.2,b.1.2.2.2.1,0,0)=iR a/\0=dE a)) (au (decide (b.1.2.2.2.1=6)) (au (decide (b.1.2.2.2.1=6)) (GW b.2 b.1.2.2.2.2.2.1 b.1.2.2.2.2.2.2 b.1.2.2.2.1 a) ((b.1.2.2.2.2.2.1,b.1.2.2.2.2.2.2,b.1.2.2.2.1,0,0)=iR a/\0=dE a)) (au (decide (b.1.2.2.2.1=17)) (GW b.2 b.1.2.2.2.2.2.1 b.1.2.2.2.2.2.2 b.1.2.2.2.1 a) ((b.1.2.2.2.2.2.1,b.1.2.2.2.2.2.2,b.1.2.2.2.1,0,0)=iR a/\0=dE a))))):= by
  delta ae aI aV aG cH bJ GW ai aD bW qd iO
  rintro b ⟨⟨-,hb⟩,-⟩ hl
  refine⟨hl,?_⟩
  rintro d e ⟨rfl,rfl⟩
  refine ay (λh=>?_) (λh=>?_)
  .have h:¬ dE b=0:=by simpa using h
   rw[iR,ah h];exact⟨rfl,rfl⟩
  have h:dE b=0:=by simpa using h
  have hdl:=DJ h
  have hk:iR b=Ch (cD b):=by rw[iR,aj h]
  rw[hk,h]
  have hpl:((cD b).2.length:Int)<=1500:=by rw[cD,aj h];simp only[ib];omega
  generalize cD b=x at *
  have yes:qX x.1.2.2.2.1->(4:Int)<=x.2.length->((x.2.length:Int)<=9223372036854775807/\(x.2.length:Int)<=9223372036854775807/\(x.1.2.2.2.2.2.1,x.1.2.2.2.2.2.2,x.1.2.2.2.1,dQ x.2 0 2,dQ x.2 2 2)=Ch x/\(0:Int)=0):=by
   intro h1 h2
   refine⟨ab,ab,?_,rfl⟩
   rw[rR ab ab,rR ab ab,Ch,aj ⟨h1,ab⟩,aj ⟨h1,ab⟩];rfl
  have no:¬ (qX x.1.2.2.2.1/\(4:Int)<=x.2.length)->((x.1.2.2.2.2.2.1,x.1.2.2.2.2.2.2,x.1.2.2.2.1,(0:Int),(0:Int))=Ch x/\(0:Int)=0):=by
   intro h1
   rw[Ch,ah (λk=>h1 ⟨k.1,ab⟩),ah (λk=>h1 ⟨k.1,ab⟩)];exact⟨rfl,rfl⟩
  refine ay (λh1=>?_) (λh1=>?_)
  .refine ay (λ_=>?_) (λk=>by rw[h1] at k;cases k)
   have h1:=aX h1
   exact ay (λh4=>yes (.inl h1) (aX h4)) (λh4=>no (λk=>(bi h4) k.2))
  refine ay (λh6=>?_) (λh6=>?_)
  .refine ay (λ_=>?_) (λk=>by rw[h6] at k;cases k)
   have h6:=aX h6
   exact ay (λh4=>yes (.inr (.inl h6)) (aX h4)) (λh4=>no (λk=>(bi h4) k.2))
  refine bP (λh17=>?_) (λh17=>?_)
  .exact ay (λh4=>yes (.inr (.inr h17)) (aX h4)) (λh4=>no (λk=>(bi h4) k.2))
  .have h1:=bi h1
   have h6:=bi h6
   exact no (λk=>by rcases k.1 with k|k|k <;> contradiction)
theorem aD6:aB 323 ba4.spec:=aF Tryz.func323 (am (am aC (Ct.named E8)) Ez) aS aA8
def YG:Ct:=⟨[.val cI,.val cI],[.val cI],λd=>[0<=d.1,d.1<=65535,0<=d.2.1,d.2.1<=65535],λd=>((if oc (65535-d.2.1+d.1)=0 then 65535 else oc (65535-d.2.1+d.1),()),())⟩
def Cw(a b c:Int):=if oc (a+b)=0 then (65535:Int) else oc (65535 -c+b)
theorem bF3:
 ∀(a b:Int),dI a b->ao a (a<=65535) (aD b 65535)->au (eG (Cg b a)) (65535=Cw (65535 -b) a b) (Cg b a=Cw (65535 -b) a b):= by
  delta ap aq aI ao dI ai Cg aD Cw eG uh
  rintro a b-⟨a0,a1,b0,b1⟩
  rw[aL (n:=65535-b) ab ab,aj (by simp only[fe,iQ];omega)]
  refine bP (λh=>?_) (λh=>?_)
  .rw[aj h]
  .rw[ah h]
theorem aX5:aB 79 YG.spec:=aF Tryz.func79 (am aC Xa) aS bF3
def aw2:Ct:=⟨[.agg r8],[.own 5 bq],λd=>[cP d.1=0],λd=>((fJ d.1,()),())⟩
theorem bz9:
 ∀(a b c d e f:Int),rg a b c d e f->cP (a,b,c,d,e,f)=0->au (iO c) (dj gR/\ ∀(g:ac),oD (g=fP (false,21075,e,gR)) (kL (false,21075,e,gR)) (aI (ae g)/\ ∀(h:Int),h=dQ g 2 2->ao h (h<=65535) (ao (ap (16384+d)) (ap (16384+d)<=65535) (∀(i:Int),i=Cw (65535 -ap (16384+d)) h (ap (16384+d))->r5/\ ∀(j:ac),j=putB [] i 2->dj j/\ ∀(k:ac),oD (k=fP (false,21075,e,j)) (kL (false,21075,e,j)) (k=fJ (a,b,c,d,e,f)))))) (au (decide (c=17)) (r5/\ ∀(g:ac),g=putB [] (ap (20000+d)) 2->aG g/\ ∀(h:ac),h=putB g 33434 2->gk h (0::10::tD)/\dj (h++0::10::tD)/\ ∀(i:Int),i=f6 a b 17 (h++0::10::tD)->ao i (i<=65535) (ao (ap (e+1)) (ap (e+1)<=65535) (∀(j:Int),j=Cw (65535 -ap (e+1)) i (ap (e+1))->r5/\ ∀(k:ac),k=putB [] j 2->dj k/\kZ a b (ap (20000+d),33434,k)=fJ (a,b,c,d,e,f))))
 ((↑((0:Nat)):Int)<=1000000/\gc a b (GE d e)=fJ (a,b,c,d,e,f))):= by
  delta ae ap aq aI aQ aG bG cH gk ao gR bv dj pm bN ai aD rg Cw oD iO r5 tD GE
  rintro s d pr f t l-he
  obtain⟨hp,hr⟩:=qJ.1 he
  have hr':=hr
  obtain⟨⟨f0,f1⟩,⟨t0,t1⟩,l0,l1⟩:=hr'
  simp only at f0 f1 t0 t1 l0 l1
  rw[aL (n:=16384+f) ab ab,aL (n:=20000+f) ab ab,aL (n:=t+1) ab ab]
  refine ay (λh1=>?_) (λh1=>ay (λh17=>?_) (λh17=>?_))
  .have h1:=aX h1
   have e0:kL (false,21075,t,[0,0])=0:=EV (data:=[0,0]) ⟨⟨(iQ _).2 ⟨by show (0:Int)<=21075;omega,by show (21075:Int)<=_;omega⟩,(iQ _).2 ⟨t0,by show t<=_;omega⟩⟩,rfl⟩ aw
   have hc:=rX (N1 t)
   refine⟨aw,?_⟩
   rintro b _ ⟨rfl,-⟩
   rw[fP,aj e0]
   have hl:(de (dB (false,21075,t,[0,0])) 2 (dM (dB (false,21075,t,[0,0])))).length=10:=by rw[ng];rfl
   refine⟨ab,?_⟩
   rw[rR ab ab,show toNat 2=2 from rfl,CM (by show 2+2<=10;omega) hc.1 hc.2]
   rintro _ rfl
   refine⟨hc.1,hc.2,ab,ab,?_⟩
   have hi:=VM hr
   have ei:oc (65535-(16384+f)+dM (dB (false,21075,t,[0,0])))=ue (s,d,pr,f,t,l):=rfl
   rw[ei,ah ab]
   rintro _ rfl
   refine⟨ab,?_⟩
   rw[lI ab ab]
   rintro _ rfl
   refine⟨by simp[w2],?_⟩
   rintro _ _ ⟨rfl,-⟩
   rw[fJ,aj h1];rfl
  .have h17:=aX h17
   refine⟨ab,?_⟩
   rw[lI ab ab]
   rintro _ rfl
   refine⟨by simp[w2],?_⟩
   rw[lI ab ab]
   rintro _ rfl
   have eb:[]++w2 (20000+f)++w2 33434++[0,10,0,0,0,0]=fO (20000+f,33434,[0,0]):=by simp[fO,w2]
   rw[eb]
   refine⟨by simp[w2],by show ((10:Nat):Int)<=_;omega,?_⟩
   have hq:=FP (s:=s) (d:=d) (p:=17) (AF f) bo
   rintro _ rfl
   refine⟨hq.1,ab,ab,ab,?_⟩
   have hu:=Qw hr
   have eu:(if oc (65535-(t+1)+f6 s d 17 (fO (20000+f,33434,[0,0])))=0 then 65535 else oc (65535-(t+1)+f6 s d 17 (fO (20000+f,33434,[0,0]))))=vy (s,d,pr,f,t,l):=rfl
   rw[eu]
   rintro _ rfl
   refine⟨ab,?_⟩
   rw[lI ab ab]
   rintro _ rfl
   refine⟨by simp[w2],?_⟩
   rw[fJ,ah (by simp only;omega),aj h17];rfl
  .have h1:=bi h1
   have h17:=bi h17
   rw[fJ,ah h1,ah h17]
   exact⟨ab,rfl⟩
theorem bt0:aB 37 aw2.spec:=aF Tryz.func37 (am (am (am (am (am (am (am aC (Ct.named Zd)) (Ct.named by3)) (Ct.named aX5)) (Ct.named BP)) (Ct.named Nn)) bf2) ak5) aS bz9
def u32(n:Int):Prop:=0<=n/\n<=4294967295
theorem aw6(h:dJ)(n:Int)(X:ac):kQ h n++X=69::h.1::n/256%256::n%256::h.2.1/256%256::h.2.1%256::(if h.2.2.2.2.1 then (16384:Int) else 0)/256%256::(if h.2.2.2.2.1 then (16384:Int) else 0)%256::h.2.2.1::h.2.2.2.1 ::
  dM (j3 h n)/256%256::dM (j3 h n)%256::h.2.2.2.2.2.1/16777216%256::h.2.2.2.2.2.1/65536%256::h.2.2.2.2.2.1/256%256::h.2.2.2.2.2.1%256::h.2.2.2.2.2.2/16777216%256::h.2.2.2.2.2.2/65536%256::h.2.2.2.2.2.2/256%256::h.2.2.2.2.2.2%256::X:=rfl
theorem Mb{n:Int}(h:u32 n):((n/16777216%256*256+n/65536%256)*256+n/256%256)*256+n%256=n:=by
 obtain⟨h0,h1⟩:=h;omega
theorem O9{h:dJ}{X:ac}(hk:nh h)(hs:u32 h.2.2.2.2.2.1)(hd:u32 h.2.2.2.2.2.2)(hl:(X.length:Int)<=1480)(hX:bytes X) :
  cy (kQ h (20+X.length)++X)=h/\dE (kQ h (20+X.length)++X)=0/\(kQ h (20+X.length)++X).drop 20=X:=by
 have hbb:bytes (kQ h (20+X.length)++X):=jN (OX hk) hX
 have hlen:(kQ h (20+X.length)++X).length=20+X.length:=by rw[cL,vu]
 have hc:=rX (Kd (n:=20+X.length) hk)
 obtain⟨tos,id,ttl,pr,kp,s,d⟩:=h
 obtain⟨h1,h2,h3,h4,h5⟩:=hk
 simp only at h1 h2 h3 h4 h5 hs hd
 have E:=aw6 (tos,id,ttl,pr,kp,s,d) (20+X.length) X
 simp only at E
 have w2e:aR (kQ (tos,id,ttl,pr,kp,s,d) (20+X.length)++X) 2=20+X.length:=by
  rw[E];show aR (_::_::_) 0=_;rw[ju];exact oB ab ab
 have w4e:aR (kQ (tos,id,ttl,pr,kp,s,d) (20+X.length)++X) 4=id:=by
  rw[E];show aR (_::_::_) 0=_;rw[ju];exact oB h4 h5
 have w6e:aR (kQ (tos,id,ttl,pr,kp,s,d) (20+X.length)++X) 6=if kp then 16384 else 0:=by
  rw[E];show aR (_::_::_) 0=_;rw[ju];cases kp <;> rfl
 have w10e:aR (kQ (tos,id,ttl,pr,kp,s,d) (20+X.length)++X) 10=dM (j3 (tos,id,ttl,pr,kp,s,d) (20+X.length)):=by
  rw[E];show aR (_::_::_) 0=_;rw[ju];exact oB hc.1 hc.2
 have hF:cy (kQ (tos,id,ttl,pr,kp,s,d) (20+X.length)++X)=(tos,id,ttl,pr,kp,s,d):=by
  unfold cy;rw[w4e,w6e,E];have e1:decide ((if kp=true then (16384:Int) else 0)=16384)=kp:=by cases kp <;> rfl
  rw[e1];have e2:=Mb hs;have e3:=Mb hd;show (tos,id,ttl,pr,kp,gX [_,_,_,_],gX [_,_,_,_])=_;rw[El,El,e2,e3]
 refine⟨hF,?_,?_⟩
 .have hb:=bP2 hbb ab (by rw[E];rfl) (by rw[w6e];cases kp <;> simp);rw[hF,w2e,w10e] at hb;have ht:(kQ (tos,id,ttl,pr,kp,s,d) (20+X.length)++X).take 20=kQ (tos,id,ttl,pr,kp,s,d) (20+X.length):=by
   rw[List.take_append_of_le_length (by rw[vu];omega),fH (by rw[vu];omega)]
  have hp:ja (kQ (tos,id,ttl,pr,kp,s,d) (20+X.length)++X)=0:=by
   rw[ja,ah ab,ah,ah]
   .rw[sI,w10e,← hb.1]
   .rw[sI];refine⟨by rw[E];rfl,by rw[w6e];cases kp <;> simp,by rw[w2e];omega⟩
  rw[dE,ah (λk=>k hp),ah (by rw[w2e,hlen];omega),ah (by rw[w2e];omega)]
 .rw[List.drop_append,vu,List.drop_of_length_le (by rw[vu];omega)];simp
theorem W8{p:bc}(h:cP p=0)(hs:u32 p.1)(hd:u32 p.2.1):cy (build p)=wG p/\dE (build p)=0/\(build p).drop 20=fJ p:=by
 rw[JJ h]
 refine O9 (MY h) hs hd ?_ (RQ h)
 rcases Dw h with h|h <;> omega
theorem ar5(t n:Int):cU true (dB (false,21075,t,w2 n))=cU true (dB (false,21075,t,[0,0]))+(n/256%256*256+n%256):=by
 simp[dB,w2,cU];omega
theorem aX9(f n:Int):cU true (fO (20000+f,33434,w2 n))=cU true (fO (20000+f,33434,[0,0]))+(n/256%256*256+n%256):=by
 simp[fO,w2,cU];omega
theorem a66(t:Int):2048<=cU true (dB (false,21075,t,[0,0])):=by
 simp[dB,w2,cU];omega
theorem Yd{p:bc}(h:jT p):dM (dB (nK p))=16384+p.2.2.2.1:=by
 have hn:=VM h
 obtain⟨⟨f0,f1⟩,-⟩:=h
 have e:ue p=oc (65535-(16384+p.2.2.2.1)+dM (dB (false,21075,p.2.2.2.2.1,[0,0]))):=rfl
 have hp:=a66 p.2.2.2.2.1
 unfold nK dM
 rw[ar5,oB ab hn.2,e]
 unfold dM
 generalize cU true (dB (false,21075,p.2.2.2.2.1,[0,0]))=S at hp ⊢
 unfold oc
 rw[ah (by omega:¬ S=0)]
 rw[ah ab,ah ab]
 omega
theorem bK8{p:bc}(h:jT p):lh p.1 p.2.1 (fO (vK p))=p.2.2.2.2.1+1:=by
 have hn:=Qw h
 obtain⟨-,⟨t0,t1⟩,-⟩:=h
 have l0:(fO (20000+p.2.2.2.1,33434,[0,0])).length=10:=rfl
 have l1:(fO (vK p)).length=10:=rfl
 have eX:xH p=oc (65535-(p.2.2.2.2.1+1)+f6 p.1 p.2.1 17 (fO (20000+p.2.2.2.1,33434,[0,0]))):=rfl
 have eN:vy p=if xH p=0 then 65535 else xH p:=rfl
 have hp:=VS p.1 p.2.1 17 10
 have h2:=(DU true (fO (20000+p.2.2.2.1,33434,[0,0])) (AF _)).1
 have eP:f6 p.1 p.2.1 17 (fO (20000+p.2.2.2.1,33434,[0,0]))=65535-oc (cU true (vJ p.1 p.2.1 17 10)+cU true (fO (20000+p.2.2.2.1,33434,[0,0]))):=by
  rw[f6,ah (by rw[l0];omega),dM,PG,l0];rfl
 have eQ:f6 p.1 p.2.1 17 (fO (vK p))=65535-oc (cU true (vJ p.1 p.2.1 17 10)+(cU true (fO (20000+p.2.2.2.1,33434,[0,0]))+vy p)):=by
  rw[f6,ah (by rw[l1];omega),dM,PG,l1];unfold vK;rw[aX9,oB ab hn.2];rfl
 rw[lh,eQ]
 rw[eP] at eX
 generalize cU true (vJ p.1 p.2.1 17 10)=H at *
 generalize cU true (fO (20000+p.2.2.2.1,33434,[0,0]))=S at *
 generalize vy p=N at *
 generalize xH p=X at *
 generalize p.2.2.2.2.1=t at *
 have hH:(17:Int)%256=17:=rfl
 rw[hH] at hp
 clear eP eQ l0 l1 hH
 have hN:(N-(65535-(t+1)+(65535-(H+S))))%65535=0:=by
  unfold oc at eX;rw[ah (by omega:¬ H+S=0)] at eX;split at eX <;> split at eN <;> omega
 unfold oc
 rw[ah (by omega:¬ H+(S+N)=0)]
 split <;> omega
def Cr(p:bc):Int:=if p.2.2.1=1 then 2048 else 20000+p.2.2.2.1
def A9(p:bc):Int:=if p.2.2.1=1 then 16384+p.2.2.2.1 else if p.2.2.1=17 then 33434 else 80
theorem bK2{p:bc}(h:cP p=0):aR (fJ p) 0=Cr p/\aR (fJ p) 2=A9 p:=by
 obtain⟨h1|h1|h1,h2⟩:=qJ.1 h
 .have hs:=Yd h2;have hf:=h2.1;rw[CF h2 h1,Cr,A9,aj h1,aj h1,zm (by show 0+2<=10;omega) ab,CM (by show 2+2<=10;omega) ab ab,hs];exact⟨rfl,rfl⟩
 .have hf:=h2.1;rw[De h2 h1,Cr,A9,ah ab,ah ab,ah ab,zm (by show 0+2<=20;omega) ab,zm (by show 2+2<=20;omega) ab];constructor
  .show aR (_::_::_) 0=_;rw[ju];exact oB (n:=20000+p.2.2.2.1) ab ab
  .rfl
 .have hf:=h2.1;rw[Ej h2 h1,Cr,A9,ah ab,ah ab,aj h1,zm (by show 0+2<=10;omega) ab,zm (by show 2+2<=10;omega) ab];constructor
  .show aR (_::_::_) 0=_;rw[ju];exact oB (n:=20000+p.2.2.2.1) ab ab
  .rfl
abbrev p8:CT := .pair db cI
def fc(a b:Int):Int:=if a<b then -1 else if b<a then 1 else 0
abbrev fD:Type:=Int×Int
def iY(p q:fD):Int:=if fc p.1 q.1≠0 then fc p.1 q.1 else fc p.2 q.2
def py:ac->Int
 | []=>0
 | x::xs=>if x≠0 then x else py xs
theorem aJ6{l:ac}{j:Int}(h0:0<=j)(h1:j<l.length):l.drop j.toNat=l.getD j.toNat default::l.drop (j+1).toNat:=by
 have hj:j.toNat<l.length:=ab
 rw[vj hj,ct,cM hj,jo]
 congr 2;omega
theorem TQ{α:Type} [Inhabited α] {l:List α} {j:Int} (h0:0<=j) (h1:j<l.length) {y:α} (hy:y∈l.take (j+1).toNat):y∈l.take j.toNat∨y=l.getD j.toNat default:=by
 have hj:j.toNat<l.length:=ab
 have e:(j+1).toNat=j.toNat+1:=ab
 rw[e,DS hj] at hy
 rcases fC.1 hy with hy|hy
 .exact .inl hy
 .right;simp at hy;rw[ct,cM hj,jo];exact hy
theorem bw5{l:ac}{v j:Int}(h0:0<=j)(h1:j<l.length)(hv:l.getD j.toNat default=v)(h2:∀ y∈l.take j.toNat,y≠v):l.idxOf v=j.toNat:=by
 have hj:j.toNat<l.length:=ab
 rw[ct,cM hj,jo] at hv
 have e:l=l.take j.toNat++l[j.toNat]::l.drop (j.toNat+1):=by
  rw[← vj hj,nZ]
 rw[e,List.idxOf_append,ah (λhm=>h2 v hm rfl),hv,List.idxOf_cons_self]
 simp;omega
def bx3:Ct:=⟨[.val cI],[.val .bool],λ_=>[],λ_=>((false,()),())⟩
theorem bv3:
 ∀(a:Int),ft (aq a) (bW a a=false):= by
  delta aq aI ai bW ft
  rintro x - -
  simp
theorem ah9:aB 113 bx3.spec:=aF Tryz.func113 aC aS bv3
def aN6:Ct:=⟨[.val db],[.val .bool],λ_=>[],λ_=>((false,()),())⟩
theorem Zs:
 ∀(a:Int),ft (aQ a) (bW a a=false):= by
  delta aQ ai aD bW ft
  rintro x - -
  simp
theorem Y9:aB 307 aN6.spec:=aF Tryz.func307 aC aS Zs
def bF2:Ct:=⟨[.val cI,.val cI],[.val cI],λ_=>[],λd=>((fc d.1 d.2.1,()),())⟩
def BQ(a b:Int):=True->au (av a b) ((-1)=fc a b) (au (av b a) (1=fc a b) (0=fc a b))
theorem bG1:
 ∀(a b:Int),dI a b->BQ a b:= by
  delta aq aI dI ai BQ av
  rintro x y - -
  unfold fc
  refine ay (λh=>?_) (λh=>ay (λh2=>?_) (λh2=>?_))
  .rw[aj (aX h)]
  .rw[ah (bi h),aj (aX h2)]
  .rw[ah (bi h),ah (bi h2)]
theorem IK:aB 48 bF2.spec:=aF Tryz.func48 (am aC ah9) aS bG1
def aZ7:Ct:=⟨[.val db,.val db],[.val cI],λ_=>[],λd=>((fc d.1 d.2.1,()),())⟩
theorem bn6:
 ∀(a b:Int),aQ a/\ai (aQ b)->BQ a b:= by
  delta aQ ai BQ aD av
  rintro x y - -
  unfold fc
  refine ay (λh=>?_) (λh=>ay (λh2=>?_) (λh2=>?_))
  .rw[aj (aX h)]
  .rw[ah (bi h),aj (aX h2)]
  .rw[ah (bi h),ah (bi h2)]
theorem ZY:aB 281 aZ7.spec:=aF Tryz.func281 (am aC Y9) aS bn6
def Q8:Ct:=⟨[.val (.sl cI)],[.val cI],λ_=>[],λd=>((py d.1,()),())⟩
def aq0:bp Q8.ps->bI:=(λd=>{loops:=(bt 3 (λS=>{ι:=Int,μ:=λi=>(d.1.length-i).toNat,inv:=λi=>0<=i/\i<=d.1.length/\py d.1=py (d.1.drop i.toNat),keep:=[3,6,7],slots:=λi=>[(8,.int .i64 i)]}) bZ)})
def KQ(a:Int)(b:ac):=ao a (a<=ae b) (py b=py (List.drop a.toNat b))
theorem bp6:
 ∀(a:ac),ft (cB a) ((∃(b:Int),KQ b a/\aA 0 (a=a) (aA (ae a) (0=b) True))/\ ∀(b:Int),KQ b a->au (av b (ae a)) (fw b (ae a) (bJ (af a b)) (af a b=py a) (∃(c:Int),KQ c a/\aZ (ae a) c b/\aA 0 (a=a) (aA (ae a) (aY b c) True))) (0=py a)):= by
  delta af ae ap aq aI cB aA aZ cu ao bJ aY ai bW av ft KQ fw
  rintro x ⟨⟨hl,-⟩,-⟩ -
  simp only[maxLen] at hl
  refine⟨⟨0,⟨ab,ab,rfl⟩,aK⟩,?_⟩
  rintro j ⟨h0,h1,h2⟩
  refine bP (λhj=>?_) (λhj=>?_)
  .have e:=aJ6 (l:=x) h0 hj
   rw[e] at h2
   refine⟨h0,hj,ay (λhz=>?_) (λhz=>?_)⟩
   .have hz:x.getD j.toNat default≠0:=by simpa only[pF,sF] using hz
    rw[h2,py,aj hz]
   .have hz:¬ x.getD j.toNat default≠0:=by simpa only[zR,pD,ne_eq,sI] using hz
    rw[py,ah hz] at h2
    exact⟨j+1,⟨ab,ab,h2⟩,ab,aK⟩
  .rw[h2,List.drop_eq_nil_of_le ab];rfl
theorem GM:aB 47 Q8.spec:=aF Tryz.func47 aC aq0 bp6
def bx1:Ct:=⟨[.agg p8,.agg p8],[.val cI],λ_=>[],λd=>((iY d.1 d.2.1,()),())⟩
theorem bf5:
 ∀(a b c d:Int),(aQ a/\aq b)/\ai (aQ c/\aq d)->True->py (fc a c::bN (fc b d))=iY (a,b) (c,d):= by
  delta aq aI aQ bN ai aD
  rintro x y z u - -
  simp only[py,iY]
  split
  .rfl
  .split
   .rfl
   next h=>simp at h;exact h.symm
theorem Tu:aB 252 bx1.spec:=aF Tryz.func252 (am (am (am aC ZY) IK) GM) aS bf5
def aL5:Ct:=⟨[.val cI,.val cI],[.val cI],λ_=>[],λd=>((fc d.1 d.2.1,()),())⟩
theorem bH5:
 ∀(a b:Int),dI a b->BQ a b:= by
  delta aq aI dI ai BQ av
  rintro x y - -
  unfold fc
  refine ay (λh=>?_) (λh=>ay (λh2=>?_) (λh2=>?_))
  .rw[aj (aX h)]
  .rw[ah (bi h),aj (aX h2)]
  .rw[ah (bi h),ah (bi h2)]
theorem by6:aB 245 aL5.spec:=aF Tryz.func245 aC aS bH5
def bo7:Ct:=⟨[.agg p8,.agg p8],[.val cI],λ_=>[],λd=>((iY d.1 d.2.1,()),())⟩
theorem bB7:
 ∀(a b c d:Int),(aQ a/\aq b)/\ai (aQ c/\aq d)->True->au (bW a c) (fc (ap a) (ap c)=iY (a,b) (c,d)) (fc b d=iY (a,b) (c,d)):= by
  delta ap aq aI aQ ai aD bW
  rintro x y z u ⟨⟨⟨h0,h1⟩,-⟩,⟨⟨h2,h3⟩,-⟩,-⟩ -
  unfold iY
  refine ay (λh=>?_) (λh=>?_)
  .simp at h
   rw[aL ab ab,aL ab ab,aj (by simp only[fc];split <;> first|omega|(split <;> omega))]
  .simp at h
   subst h
   rw[ah (by simp[fc])]
theorem bE8:aB 190 bo7.spec:=aF Tryz.func190 (am aC by6) aS bB7
def sz(n:Int):Int:=2^(32-n).toNat
def nE(p:fD):Bool:=decide (0<=p.2/\p.2<=32/\p.1%sz p.2=0)
def iF(p:fD)(a:Int):Bool:=nE p&&decide (p.1<=a/\a<p.1+sz p.2)
theorem bg5(n:Int):sz n=((2^(32-n).toNat:Nat):Int):=by unfold sz;rw[Int.natCast_pow];rfl
theorem L5{n:Int}(h0:0<=n)(h1:n<=32):∃ k:Nat,k<=32/\n=32-k/\sz n=((2^k:Nat):Int):=⟨(32-n).toNat,ab,ab,bg5 n⟩
theorem bm7{n:Int}(h0:0<=n)(h1:n<=32):gW .u32 4294967295 (32-n)=4294967296-sz n:=by
 obtain⟨k,hk,rfl,e⟩:=L5 h0 h1
 rw[e]
 have:(32:Int)-(32-(k:Int))=(k:Int):=ab
 rw[this]
 unfold gW
 rw[IntKind.wrap_u32]
 have hm:min ((k:Int)).toNat IntKind.u32.bits=k:=by simp only[IntKind.bits,Int.toNat_natCast];omega
 rw[hm]
 have hd:∀ k:Nat,k<=32->(4294967295*2^k:Int)%4294967296=4294967296-((2^k:Nat):Int):=bo
 exact hd k hk
theorem bR7{x n:Int}(h0:0<=x)(h1:x<=4294967295)(h2:0<=n)(h3:n<=32):bits .andNot .u32 x (4294967296-sz n)=x%sz n:=by
 obtain⟨k,hk,rfl,e⟩:=L5 h2 h3
 have hp:(2:Nat)^k<=2^32:=Nat.pow_le_pow_right bo hk
 have hp0:0<(2:Nat)^k:=Nat.two_pow_pos k
 rw[e,u32_andNot _ _ h0 ab ab ab]
 have e1:4294967295-((4294967296:Int)-((2^k:Nat):Int)).toNat=2^k-1:=ab
 rw[e1,Es]
 obtain⟨m,rfl⟩:=sC h0
 rw[Int.toNat_natCast,Int.natCast_emod]
theorem an8{a k:Nat}(hk:k<=32)(ha:a<4294967296):a &&& (4294967296-2^k)=a/2^k*2^k:=by
 have e:4294967296-2^k=(2^(32-k)-1) <<< k:=by
  rw[Nat.shiftLeft_eq,Nat.sub_mul,← Nat.pow_add,nA];congr 1;rw[show 32-k+k=32 from by omega]
 rw[e,← Nat.shiftRight_eq_div_pow,← Nat.shiftLeft_eq]
 apply Nat.eq_of_testBit_eq
 intro i
 simp only[Nat.testBit_and,Nat.testBit_shiftLeft,Nat.testBit_two_pow_sub_one,Nat.testBit_shiftRight]
 by_cases hi:k<=i
 .have e2:k+(i-k)=i:=ab;simp only[hi,decide_true,Bool.true_and,e2];by_cases h32:i<32
  .have:i-k<32-k:=ab;simp[this]
  .have:a.testBit i=false:=Nat.testBit_lt_two_pow (Nat.lt_of_lt_of_le ha (Nat.pow_le_pow_right (show 0<2 by decide) (by omega:32<=i)));simp[this]
 .simp[hi]
theorem ac7{a n x:Int}(h0:0<=a)(h1:a<=4294967295)(h2:0<=n)(h3:n<=32)(hx:0<=x)(hm:x%sz n=0) :
  (bits .and .u32 a (4294967296-sz n)=x)↔(x<=a/\a<x+sz n):=by
 obtain⟨k,hk,rfl,e⟩:=L5 h2 h3
 have hp:(2:Nat)^k<=2^32:=Nat.pow_le_pow_right bo hk
 have hp0:0<(2:Nat)^k:=Nat.two_pow_pos k
 rw[e] at hm ⊢
 rw[u32_and _ _ h0 ab ab ab]
 have e1:((4294967296:Int)-((2^k:Nat):Int)).toNat=4294967296-2^k:=ab
 rw[e1,an8 hk ab]
 obtain⟨m,rfl⟩:=sC h0
 obtain⟨y,rfl⟩:=sC hx
 rw[Int.toNat_natCast]
 have hm:y%2^k=0:=by
  have:((y%2^k:Nat):Int)=0:=by rw[Int.natCast_emod];exact hm
  omega
 generalize 2^k=s at *
 have d:=Nat.div_add_mod m s
 have dl:=Nat.mod_lt m hp0
 have dy:=Nat.div_add_mod y s
 rw[hm] at dy
 rw[Nat.mul_comm] at d
 constructor
 .intro h;omega
 .rintro⟨h,h'⟩;have hq:m/s=y/s:=by
   apply Nat.le_antisymm
   .have:m<(y/s+1)*s:=by rw[gY,nA,Nat.mul_comm (y/s)];omega
    have:=Nat.div_lt_of_lt_mul (Nat.mul_comm _ _▸this:m<s*(y/s+1));omega
   .exact Nat.div_le_div_right ab
  rw[hq,Nat.mul_comm];omega
def aa6:Ct:=⟨[.val cI],[.val db],λd=>[0<=d.1/\d.1<=32],λd=>((4294967296-sz d.1,()),())⟩
theorem bd0:
 ∀(a:Int),ai (aq a)->aD a 32->0<=ap (32 -a)/\gW IntKind.u32 4294967295 (ap (32 -a))=4294967296 -sz a:= by
  delta ap aq aI ai aD
  rintro x-⟨h0,h1⟩
  rw[aL ab ab]
  exact⟨ab,bm7 h0 h1⟩
theorem VB:aB 254 aa6.spec:=aF Tryz.func254 aC aS bd0
def bq9:Ct:=⟨[.agg p8],[.val .bool],λ_=>[],λd=>((nE d.1,()),())⟩
def ia(a:Bool)(b c d e:Prop):=cG a a (aT b) (b->c) (d/\e)
theorem an5:
 ∀(a b:Int),ft (aQ a/\aq b) (∀(c:Bool),c=gD b->cG c c (aT c) (c->c) (∀(d:Bool),d=bw c (decide (b<=32))->ia d d ((d->d)/\ai (aD b 32)) (d->d7 d) ((d->aT d)/\(d->d)/\bw d (eG (bits BinOp.andNot IntKind.u32 a (4294967296 -sz b)))=nE (a,b)))):= by
  delta aq aI aQ aT cG bw ia ai aD d7 eG gD ft
  rintro x n ⟨⟨⟨h0,h1⟩,-⟩,-⟩ -
  (repeat (refine dq ?_;repeat refine dm ?_))
  by_cases hn:0<=n/\n<=32
  .have:=bR7 (n:=n) h0 h1 hn.1 hn.2
   simp[nE,hn,this]
  .simp only[nE]
   by_cases h2:0<=n
   .have:¬ n<=32:=λh=>hn ⟨h2,h⟩
    simp[this]
   .simp[h2]
theorem Vi:aB 251 bq9.spec:=aF Tryz.func251 (am aC VB) aS an5
def aS9:Ct:=⟨[.agg p8,.val db],[.val .bool],λ_=>[],λd=>((iF d.1 d.2.1,()),())⟩
def m5(a:Bool)(b c:Int):=bw a (decide (b=c))
theorem bR3:
 ∀(a b c:Int),(aQ a/\aq b)/\ai (aQ c)->True-> ∀(d:Bool),d=nE (a,b)->cG d d ((d->d)/\ai (aD b 32)) (d->d7 d) (cG d d (d7 d) (d->d) (m5 d (bits BinOp.and IntKind.u32 c (4294967296 -sz b)) a=iF (a,b) c)):= by
  delta aq aI aQ aT cG bw ai aD d7 m5
  rintro x n a ⟨⟨⟨h0,h1⟩,-⟩,⟨h2,h3⟩,-⟩ -
  have hv:∀ b:Bool,b=nE (x,n)->b=true->0<=n/\n<=32/\x%sz n=0:=by
   rintro b rfl h;simpa[nE] using h
  rintro b hb
  have hr:=hv b hb
  refine⟨aw,λh=>⟨λ_=>h,⟨(hr h).1,(hr h).2.1⟩,aN⟩,aw,aw,aw,aw,?_⟩
  unfold iF
  rw[← hb]
  cases b with
  | false=>rfl
  | true =>
   obtain⟨r1,r2,r3⟩:=hr rfl
   have:=ac7 (n:=n) (x:=x) h2 h3 r1 r2 h0 r3
   rw[yG];simpa using this
theorem VV:aB 202 aS9.spec:=aF Tryz.func202 (am (am aC VB) Vi) aS bR3
def Q4:Ct:=⟨[.val (.sl cI),.val cI],[.val cI],λ_=>[],λd=>((if d.2.1∈d.1 then (d.1.idxOf d.2.1:Int) else -1,()),())⟩
def aw8:bp Q4.ps->bI:=(λd=>{loops:=(bt 2 (λS=>{ι:=Int,μ:=λi=>(d.1.length-i).toNat,inv:=λi=>0<=i/\i<=d.1.length∧∀ y∈d.1.take i.toNat,y≠d.2.1,keep:=[0,1,6,7],slots:=λi=>[(8,.int .i64 i)]}) bZ)})
def yX(a:Int)(b c:ac)(d:Int):=ao a (a<=ae b) (∀(e:Int),e∈c->e≠d)
theorem bQ9:
 ∀(a:ac)(b:Int),cB a/\ai (aq b)->True->(∃(c:Int),yX c a (take c.toNat a) b/\a=a/\aA b (a=a) (aA (ae a) (0=c) True))/\ ∀(c:Int),yX c a (take c.toNat a) b->au (av c (ae a)) (fw c (ae a) (decide (b=af a c)) (c=(if b∈a then (List.idxOf b a:Int) else (-1))) (∃(d:Int),yX d a (take d.toNat a) b/\aZ (ae a) d c/\a=a/\aA b (a=a) (aA (ae a) (aY c d) True))) ((-1:Int)=(if b∈a then (List.idxOf b a:Int) else (-1:Int))):= by
  delta af ae ap aq aI cB aA aZ cu ao aY ai yX av fw
  rintro x v ⟨⟨hl,-⟩,-⟩ -
  simp only[maxLen] at hl
  refine⟨⟨0,⟨ab,ab,aw⟩,aK⟩,?_⟩
  rintro j ⟨h0,h1,h2⟩
  refine bP (λhj=>?_) (λhj=>?_)
  .refine⟨h0,hj,bP (λhz=>?_) (λhz=>?_)⟩
   .have hm:v∈x:=by rw[hz];exact cA h0 hj
    rw[aj hm]
    have:=bw5 (l:=x) (v:=v) h0 hj hz.symm h2
    omega
   .refine⟨j+1,⟨ab,ab,λy hy=>?_⟩,ab,aK⟩
    rcases TQ h0 hj hy with hy|rfl
    .exact h2 y hy
    .exact λe=>hz e.symm
  .rw[fH ab] at h2
   rw[ah (λhm=>h2 v hm rfl)]
theorem aB6:aB 308 Q4.spec:=aF Tryz.func308 aC aw8 bQ9
def af2:Ct:=⟨[.val (.sl cI),.val cI],[.val .bool],λ_=>[],λd=>((decide (d.2.1∈d.1),()),())⟩
theorem YK:
 ∀(a:ac)(b:Int),cB a/\ai (aq b)->True->gD (if b∈a then (List.idxOf b a:Int) else (-1))=decide (b∈a):= by
  delta aq aI cB ai gD
  rintro x v - -
  by_cases h:v∈x
  .rw[aj h];simp[h];
  .rw[ah h];simp[h]
theorem an1:aB 282 af2.spec:=aF Tryz.func282 (am aC aB6) aS YK
abbrev CJ:CT := .pair db (.pair cI (.pair cI (.pair cI (.pair cI cI))))
abbrev qE:Type:=Int×Int×Int×Int×Int×Int
def Dk:qE:=(0,0,0,0,0,0)
def jg(a:Int):Int :=
 if a/16777216=0 then 1 else if a/16777216=127 then 2
 else if a/16777216=10∨(a/16777216=172/\16<=a/65536%256/\a/65536%256<32)∨(a/16777216=192/\a/65536%256=168) then 3
 else if a/16777216=169/\a/65536%256=254 then 4
 else if 224<=a/16777216/\a/16777216<240 then 5 else if 240<=a/16777216 then 6 else 0
def f9(a:Int):Prop:=jg a=0∨jg a=3
instance (a:Int):Decidable (f9 a):=by unfold f9;infer_instance
def BO(x:nH):Int:=x.1.2.2.2.1
def Oq(x:nH):Prop:=8<=x.2.length/\(x.1.2.2.2.1=1->x.2.getD 0 default=8)/\(x.1.2.2.2.1=6->14<=x.2.length->bits .and .u8 (x.2.getD 13 default) 4=0)/\f9 x.1.2.2.2.2.2.1
instance (x:nH):Decidable (Oq x):=by unfold Oq;infer_instance
def fq(b:ac):Prop:=dE b=0/\Oq (cD b)
instance (b:ac):Decidable (fq b):=by unfold fq;infer_instance
def B8(b:ac):Prop:=dE b=0/\8<=(cD b).2.length/\(BO (cD b)=1->(cD b).2.getD 0 default=8)/\(BO (cD b)=6->14<=(cD b).2.length->bits .and .u8 ((cD b).2.getD 13 default) 4=0)
instance (b:ac):Decidable (B8 b):=by unfold B8;infer_instance
def vH(b:ac):nH:=if B8 b then cD b else (sy,[])
def kv(id ttl:Int):Prop:=(0<=id/\id<=65535)/\0<=ttl/\ttl<=255
instance (i t:Int):Decidable (kv i t):=by unfold kv;infer_instance
def lz(src dst proto id ttl:Int)(data:ac):nH:=((0,id,ttl,proto,false,src,dst),data)
def dC(b:ac):Int:=(cy b).2.2.2.2.2.1
def g9(b:ac):Int:=(cy b).2.2.2.2.2.2
def d5(b:ac):Int:=(cy b).2.2.2.1
def uI(kind code id ttl:Int):Prop:=(kind=11∨kind=3)/\(0<=code/\code<=255)/\kv id ttl
instance (k c i t:Int):Decidable (uI k c i t):=by unfold uI;infer_instance
def iW(b:ac)(kind code id ttl:Int):Int:=if ¬ uI kind code id ttl then 1 else if fq b then 0 else 17
def lv(b:ac)(src kind code id ttl:Int):ac:=if iW b kind code id ttl=0 then fN (lz src (dC b) 1 id ttl (jL (kind,code,b.take 28))) else []
def oI(s:mI):mI:=(s.2.1,s.1,0,(s.2.2.1+1)%4294967296,20,0,[])
def yB(b:ac):Prop:=fq b/\((d5 b=1/\kX (b.drop 20)=0)∨(d5 b=17/\md (dC b) (g9 b) (b.drop 20)=0) ∨
 (d5 b=6/\lr (dC b) (g9 b) (b.drop 20)=0/\bits .and .i64 (gF (dC b) (g9 b) (b.drop 20)).2.2.2.2.1 2≠0/\bits .and .i64 (gF (dC b) (g9 b) (b.drop 20)).2.2.2.2.1 4=0))
instance (b:ac):Decidable (yB b):=by unfold yB;infer_instance
def jn(b:ac)(id ttl:Int):Int:=if ¬ kv id ttl then 1 else if yB b then 0 else 17
def lS(b:ac)(src id ttl:Int):ac :=
 if jn b id ttl=0 then
  if d5 b=1 then fN (lz src (dC b) 1 id ttl (fP (true,(g7 (b.drop 20)).2)))
  else if d5 b=17 then lv b src 3 3 id ttl
  else fN (lz src (dC b) 6 id ttl (gc src (dC b) (oI (gF (dC b) (g9 b) (b.drop 20)))))
 else []
def E5(b:ac):Prop:=ja b=0/\b.length=28/\(cy b).1=0/\(cy b).2.2.2.2.1=true
instance (b:ac):Decidable (E5 b):=by unfold E5;infer_instance
def Av(b:ac):Int:=if d5 b=1 then aR b 22-16384 else if d5 b=17∨d5 b=6 then aR b 20-20000 else 0
def tB(b:ac):bc:=(dC b,g9 b,d5 b,Av b,(cy b).2.1,(cy b).2.2.1)
def s9(b:ac):Prop :=
 (d5 b=1/\aR b 2=30/\aR b 20=2048/\aR b 24=21075/\aR b 26=(cy b).2.1) ∨
 (d5 b=17/\aR b 2=30/\aR b 22=33434/\aR b 24=aR b 2-20/\aR b 26=(cy b).2.1+1) ∨
 (d5 b=6/\aR b 2=40/\aR b 22=80/\gX ((b.drop 24).take 4)=(cy b).2.1)
instance (b:ac):Decidable (s9 b):=by unfold s9;infer_instance
def qI(b:ac):bc×Bool:=if E5 b then (tB b,decide (s9 b/\cP (tB b)=0)) else (O1,false)
def tH(p:bc)(t:Int):bc:=(p.1,p.2.1,p.2.2.1,p.2.2.2.1,p.2.2.2.2.1,t)
def yN(ty code:Int):Int:=if ty=11 then 1 else if code=3 then 3 else 5
abbrev Dm:Type:=bc×qE×Bool
def Ei:Dm:=(O1,Dk,false)
def mA(dst:Int)(b:ac):Dm :=
 if mZ b=0 then (tH (qI (nq b).2.2).1 0,(0,yN (nq b).1 (nq b).2.1,(nq b).2.1,0,0,(qI (nq b).2.2).1.2.2.2.2.2),(qI (nq b).2.2).2&&decide ((qI (nq b).2.2).1.1=dst)) else Ei
def Ga(b:ac):Prop:=kX b=0/\(g7 b).1=true/\(g7 b).2.1=21075/\(g7 b).2.2.2.length=2
instance (b:ac):Decidable (Ga b):=by unfold Ga;infer_instance
def pO(src dst:Int)(b:ac):Dm:=if Ga b then ((dst,src,1,aR b 2-18432,(g7 b).2.2.1,0),(0,2,0,0,0,0),true) else Ei
def EI(src dst:Int)(b:ac):Prop:=lr src dst b=0/\(gF src dst b).1=80/\(gF src dst b).2.2.1=0/\(gF src dst b).2.2.2.2.1=20/\(gF src dst b).2.2.2.2.2.1=0/\(gF src dst b).2.2.2.2.2.2=[]
instance (s d:Int) (b:ac):Decidable (EI s d b):=by unfold EI;infer_instance
def qa(src dst:Int)(b:ac):Dm:=if EI src dst b then ((dst,src,6,(gF src dst b).2.1-20000,(gF src dst b).2.2.2.1-1,0),(0,4,0,0,0,0),true) else Ei
def nR(b:ac):Dm :=
 if d5 b=1/\0<(b.drop 20).length/\(b.drop 20).getD 0 default=0 then pO (dC b) (g9 b) (b.drop 20)
 else if d5 b=1 then mA (g9 b) (b.drop 20) else if d5 b=6 then qa (dC b) (g9 b) (b.drop 20) else Ei
def Aw(b:ac):Prop:=dE b=0/\(nR b).2.2=true/\cP (tH (nR b).1 1)=0
instance (b:ac):Decidable (Aw b):=by unfold Aw;infer_instance
def fW(b:ac):bc×qE:=if Aw b then ((nR b).1,(dC b,(nR b).2.1.2.1,(nR b).2.1.2.2.1,(cy b).2.2.1,(cy b).2.1,(nR b).2.1.2.2.2.2.2)) else (O1,Dk)
def pL(b:ac):Int:=if Aw b then 0 else 17
theorem ak4(n:Int):bits .and .i64 n 4294967295=n%4294967296:=by
 have a:(BitVec.ofInt 64 4294967295).toNat=2^32-1:=bo
 have b:(BitVec.ofInt 64 n &&& BitVec.ofInt 64 4294967295).toNat=(n%((2^64:Nat):Int)).toNat%2^32:=by
  rw[BitVec.toNat_and,BitVec.toNat_ofInt,a,Es]
 show IntKind.i64.wrap ((BitVec.ofInt 64 n &&& BitVec.ofInt 64 4294967295).toNat:Nat)=n%4294967296
 rw[b,IntKind.wrap_i64]
 omega
theorem zQ{p n a s:Int}(hs:sz n=s)(hn:0<=n/\n<=32)(hp:p%s=0):iF (p,n) a=decide (p<=a/\a<p+s):=by
 unfold iF nE
 simp_all
theorem Ma{b:ac}:fq b↔B8 b/\f9 (cD b).1.2.2.2.2.2.1:=⟨λh=>⟨⟨h.1,h.2.1,h.2.2.1,h.2.2.2.1⟩,h.2.2.2.2⟩,λh=>⟨h.1.1,h.1.2.1,h.1.2.2.1,h.1.2.2.2,h.2⟩⟩
theorem Yh{b:ac}(h:fq b):vH b=(cy b,b.drop 20):=by rw[vH,aj (Ma.1 h).1,cD,aj h.1]
theorem tI{b:ac}(h:fq b):dE b=0/\28<=b.length/\(d5 b=1->(b.drop 20).getD 0 default=8)/\(d5 b=6->14<=(b.drop 20).length->bits .and .u8 ((b.drop 20).getD 13 default) 4=0)/\f9 (dC b):=by
 obtain⟨a,c⟩:=h
 rw[cD,aj a] at c
 obtain⟨k1,k2,k3,k4⟩:=c
 simp at k1
 exact⟨a,ab,k2,k3,k4⟩
theorem a50{b:ac}(a:dE b=0)(h2:28<=b.length)(h3:d5 b=1->(b.drop 20).getD 0 default=8)(h4:d5 b=6->14<=(b.drop 20).length->bits .and .u8 ((b.drop 20).getD 13 default) 4=0)(h5:f9 (dC b)):fq b:=by
 refine⟨a,?_⟩
 rw[cD,aj a]
 exact⟨by simp;omega,h3,h4,h5⟩
theorem DK{src dst proto id e:Int}{data:ac}(hn:kv id e)(hp:0<=proto/\proto<=255)(hl:(data.length:Int)<=1480):gv (lz src dst proto id e data)=0:=by
 obtain⟨⟨a,b⟩,c,d⟩:=hn
 rw[gv,ah,ah (by simp only[lz];omega)]
 rw[sI]
 exact⟨⟨gH _,by simp only[lz];omega⟩,⟨c,d⟩,hp,a,b⟩
theorem Jd{b:ac}{src kind code id a:Int}(c:uI kind code id a)(d:fq b) :
  iW b kind code id a=0/\lv b src kind code id a=fN (lz src (dC b) 1 id a (jL (kind,code,b.take 28)))/\lf (kind,code,b.take 28)=0/\gv (lz src (dC b) 1 id a (jL (kind,code,b.take 28)))=0:=by
 have e:iW b kind code id a=0:=by rw[iW,ah (λk=>k c),aj d]
 obtain⟨-,hl,-⟩:=tI d
 obtain⟨h1,h2,h3⟩:=c
 refine⟨e,by rw[lv,aj e],?_,DK h3 ab (M5 _)⟩
 have ht:(b.take 28).length=28:=by rw[dG];omega
 rw[lf,ah,ah,ah]
 .simp only;omega
 .simp only;omega
 .grind
theorem bL9{b:ac}{src kind code id a:Int}(hg:¬ uI kind code id a):([]:ac)=lv b src kind code id a/\1=iW b kind code id a:=by
 have he:iW b kind code id a=1:=by rw[iW,aj hg]
 rw[lv,he];exact⟨rfl,rfl⟩
theorem a85{b:ac}{src kind code id a:Int}(hg:uI kind code id a)(ha:¬ fq b):([]:ac)=lv b src kind code id a/\17=iW b kind code id a:=by
 have he:iW b kind code id a=17:=by rw[iW,ah (λk=>k hg),ah ha]
 rw[lv,he];exact⟨rfl,rfl⟩
theorem bS0(b:ac):fA b (toNat 0) (toNat 28)=b.take 28:=by
 show fA b 0 28=_
 simp[fA]
theorem a32{b:ac}{src id a:Int}(hn:¬ kv id a):([]:ac)=lS b src id a/\1=jn b id a:=by
 have he:jn b id a=1:=by rw[jn,aj hn]
 rw[lS,he];exact⟨rfl,rfl⟩
theorem Fv{b:ac}{src id a:Int}(hn:kv id a)(ha:¬ yB b):([]:ac)=lS b src id a/\17=jn b id a:=by
 have he:jn b id a=17:=by rw[jn,ah (λk=>k hn),ah ha]
 rw[lS,he];exact⟨rfl,rfl⟩
theorem D7{b:ac}{id a:Int}(hn:kv id a)(ha:yB b):jn b id a=0:=by rw[jn,ah (λk=>k hn),aj ha]
theorem In{b:ac}{src id a:Int}(hn:kv id a)(ha:fq b)(h:d5 b=1)(he:kX (b.drop 20)=0) :
  lS b src id a=fN (lz src (dC b) 1 id a (fP (true,(g7 (b.drop 20)).2)))/\jn b id a=0:=by
 have c:=D7 hn ⟨ha,.inl ⟨h,he⟩⟩
 rw[lS,aj c,aj h];exact⟨rfl,c⟩
theorem II{b:ac}{src id a:Int}(hn:kv id a)(ha:fq b)(h:d5 b=17)(he:md (dC b) (g9 b) (b.drop 20)=0) :
  lS b src id a=lv b src 3 3 id a/\jn b id a=0:=by
 have c:=D7 hn ⟨ha,.inr (.inl ⟨h,he⟩)⟩
 rw[lS,aj c,ah ab,aj h];exact⟨rfl,c⟩
theorem Kw{b:ac}{src id a:Int}(hn:kv id a)(ha:fq b)(h:d5 b=6)(he:lr (dC b) (g9 b) (b.drop 20)=0)
  (h2:bits .and .i64 (gF (dC b) (g9 b) (b.drop 20)).2.2.2.2.1 2≠0) (h4:bits .and .i64 (gF (dC b) (g9 b) (b.drop 20)).2.2.2.2.1 4=0) :
  lS b src id a=fN (lz src (dC b) 6 id a (gc src (dC b) (oI (gF (dC b) (g9 b) (b.drop 20)))))/\jn b id a=0:=by
 have c:=D7 hn ⟨ha,.inr (.inr ⟨h,he,h2,h4⟩)⟩
 rw[lS,aj c,ah ab,ah ab];exact⟨rfl,c⟩
theorem Pa{b:ac}{id a:Int}(hn:kv id a)(ha:fq b):iW b 3 3 id a=0:=by
 rw[iW,ah (λk=>k ⟨.inr rfl,⟨ab,ab⟩,hn⟩),aj ha]
theorem SA(b:ac):(g7 b).2.2.2.length<=b.length:=by
 unfold g7;split
 .simp_all
 .simp
theorem bk1(b:ac):(nq b).2.2.length<=b.length:=by
 unfold nq;split
 .simp_all
 .simp
theorem Uc{s d:Int}{b:ac}(a:bytes b):(0<=(gF s d b).2.1/\(gF s d b).2.1<=65535)/\(0<=(gF s d b).2.2.1/\(gF s d b).2.2.1<=4294967295)/\0<=(gF s d b).2.2.2.1/\(gF s d b).2.2.2.1<=4294967295:=by
 unfold gF;split
 .have h1:=rY a (toNat 2);have h2:=rY a (toNat 4);have h3:=rY a (toNat 6);have h4:=rY a (toNat 8);have h5:=rY a (toNat 10);simp only;omega
 .simp
def uQ(k:Int):fD:=([(0,8),(2130706432,8),(167772160,8),(2886729728,12),(3232235520,16),(2851995648,16),(3758096384,4),(4026531840,4)]:List fD).getD k.toNat (0,0)
def Yc:Ct:=⟨[.val db],[.val cI],λd=>[],λd=>((jg d.1,()),())⟩
def ZN:bp Yc.ps->bI:=(λd=>{cuts:=(bt 6 (λS=>{ι:=Unit,inv:=λi=>iF (uQ (S.i 6)) d.1=false,keep:=[0,5,6],slots:=λi=>[]}) bZ),unr:=λn=>match n with|2=>9|_=>0})
def sV:=Int.natAbs (2^IntKind.bits IntKind.i64)
def MU(a:Nat)(b:Int):=((a+1)%Int.natAbs b+1)%sV
def Cs(a b c:Nat):=MU (a%b) (2^c)
def GZ(a b c:Nat):=Cs (a%b+1) (Int.natAbs (2^c)) (IntKind.bits IntKind.i64)
def Nb(a b:Prop):=ce 1 2130706432 8 2 167772160 ((8:Int)=(8:Int)) (ce 3 2886729728 12 3 3232235520 ((16:Int)=(16:Int)) (ce 3 2851995648 16 4 3758096384 ((4:Int)=(4:Int)) (aU 5 4026531840 a b)))
def Ib(a:Int):=ap (ap (ap a+1)+1)
def Eu(a:Int):=Ib (ap a+1)
def jC(a b:Int):=aA a (b=b) True
def zy(a:Nat)(b c:Int):=iF (uQ (Int.ofNat a)) b=false/\aU b 0 ((8:Int)=(8:Int)) (Nb ((4:Int)=(4:Int)) (jC 6 c))
def EK(a:fD)(b:Int)(c:Bool)(d e f:Prop):=∀(g:Unit),iF a b=false->au c d e/\ ∀(h:Unit),f
def uU:=0+1
def AJ(a:Nat):=GZ (a+1) sV (IntKind.bits IntKind.i64)
def EO:=MU 0 (2^IntKind.bits IntKind.i64)
def Bq:=ap (ap (0+1)+1)
theorem ao9:
 ∀(a:Int),ft (aQ a) (au (iF (0,8) a) (1=jg a) (∃(b:Unit),iF (uQ 0) a=false/\aU a 0 ((8:Int)=(8:Int)) (Nb ((4:Int)=(4:Int)) (jC 6 0)))/\EK (uQ 0) a (iF (2130706432,8) a) (2=jg a) (∃(b:Unit),zy (uU%sV) a (ap (0+1))) (iF (uQ (Int.ofNat (uU%sV))) a=false->au (iF (167772160,8) a) (3=jg a) (∃(b:Unit),zy EO a Bq)/\EK (uQ (Int.ofNat EO)) a (iF (2886729728,12) a) (3=jg a) (∃(b:Unit),zy (Cs uU sV (IntKind.bits IntKind.i64)) a (Ib (0+1))) (iF (uQ (Int.ofNat (Cs uU sV (IntKind.bits IntKind.i64)))) a=false->au (iF (3232235520,16) a) (3=jg a) (∃(b:Unit),zy (GZ uU sV (IntKind.bits IntKind.i64)) a (Eu (0+1)))/\EK (uQ (Int.ofNat (GZ uU sV (IntKind.bits IntKind.i64)))) a (iF (2851995648,16) a) (4=jg a) (∃(b:Unit),zy (AJ
 (uU%sV)) a (Eu (ap (0+1)+1))) (iF (uQ (Int.ofNat (AJ (uU%sV)))) a=false->au (iF (3758096384,4) a) (5=jg a) (∃(b:Unit),zy (AJ EO) a (Eu (Bq+1)))/\EK (uQ (Int.ofNat (AJ EO))) a (iF (4026531840,4) a) (6=jg a) (∃(b:Unit),zy (AJ (Cs uU sV (IntKind.bits IntKind.i64))) a (Eu (Ib (0+1)+1))) (iF (uQ (Int.ofNat (AJ (Cs uU sV (IntKind.bits IntKind.i64))))) a=false->0=jg a))))):= by
  delta ap aQ aU aA GZ Cs MU Nb Eu Ib zy ce sV ai EK aD uU AJ ft EO Bq jC
  rintro a ⟨⟨a0,a1⟩,-⟩ -
  have b:=zQ (p:=0) (n:=8) (a:=a) (s:=16777216) rfl ab ab
  have c:=zQ (p:=2130706432) (n:=8) (a:=a) (s:=16777216) rfl ab ab
  have d:=zQ (p:=167772160) (n:=8) (a:=a) (s:=16777216) rfl ab ab
  have e:=zQ (p:=2886729728) (n:=12) (a:=a) (s:=1048576) rfl ab ab
  have f:=zQ (p:=3232235520) (n:=16) (a:=a) (s:=65536) rfl ab ab
  have g:=zQ (p:=2851995648) (n:=16) (a:=a) (s:=65536) rfl ab ab
  have i:=zQ (p:=3758096384) (n:=4) (a:=a) (s:=268435456) rfl ab ab
  have j:=zQ (p:=4026531840) (n:=4) (a:=a) (s:=268435456) rfl ab ab
  refine⟨ay (λh=>?_) (λh=>⟨(),h,aK⟩),?_⟩
  .rw[b] at h
   have h:=aX h
   unfold jg;rw[aj ab]
  rintro-h
  have h:iF (0,8) a=false:=h
  rw[b] at h
  have h0:=bi h
  refine⟨ay (λh=>?_) (λh=>⟨(),h,aK⟩),?_⟩
  .rw[c] at h
   have h:=aX h
   unfold jg;rw[ah ab,aj ab]
  rintro-h
  have h:iF (2130706432,8) a=false:=h
  rw[c] at h
  have h1:=bi h
  refine⟨ay (λh=>?_) (λh=>⟨(),h,aK⟩),?_⟩
  .rw[d] at h
   have h:=aX h
   unfold jg;rw[ah ab,ah ab,aj ab]
  rintro-h
  have h:iF (167772160,8) a=false:=h
  rw[d] at h
  have h2:=bi h
  refine⟨ay (λh=>?_) (λh=>⟨(),h,aK⟩),?_⟩
  .rw[e] at h
   have h:=aX h
   unfold jg;rw[ah ab,ah ab,aj ab]
  rintro-h
  have h:iF (2886729728,12) a=false:=h
  rw[e] at h
  have h3:=bi h
  refine⟨ay (λh=>?_) (λh=>⟨(),h,aK⟩),?_⟩
  .rw[f] at h
   have h:=aX h
   unfold jg;rw[ah ab,ah ab,aj ab]
  rintro-h
  have h:iF (3232235520,16) a=false:=h
  rw[f] at h
  have h4:=bi h
  refine⟨ay (λh=>?_) (λh=>⟨(),h,aK⟩),?_⟩
  .rw[g] at h
   have h:=aX h
   unfold jg;rw[ah ab,ah ab,ah ab,aj ab]
  rintro-h
  have h:iF (2851995648,16) a=false:=h
  rw[g] at h
  have h5:=bi h
  refine⟨ay (λh=>?_) (λh=>⟨(),h,aK⟩),?_⟩
  .rw[i] at h
   have h:=aX h
   unfold jg;rw[ah ab,ah ab,ah ab,ah ab,aj ab]
  rintro-h
  have h:iF (3758096384,4) a=false:=h
  rw[i] at h
  have h6:=bi h
  refine⟨ay (λh=>?_) (λh=>⟨(),h,aK⟩),?_⟩
  .rw[j] at h
   have h:=aX h
   unfold jg;rw[ah ab,ah ab,ah ab,ah ab,ah ab,aj ab]
  rintro-h
  have h:iF (4026531840,4) a=false:=h
  rw[j] at h
  have h7:=bi h
  unfold jg;rw[ah ab,ah ab,ah ab,ah ab,ah ab,ah ab]
theorem I6:aB 133 Yc.spec:=aF Tryz.func133 (aq3 (am aC VV) (d:=8)) ZN ao9
def bx2:Ct:=⟨[.val (.sl bq)],[.agg BY,.val .bool],λd=>[(d.1.length:Int)<=1099511627776],λd=>((vH d.1,decide (fq d.1),()),())⟩
def IL(a:Int)(b:nH)(c:ac):=∀(d:Bool),d=eG (jg a)->bO d/\br d/\b=vH c/\bn d (decide (jg a=3))=decide (fq c)
def I3(a:ac):=(qN,[])=vH a/\false=decide (fq a)
theorem bz0:
 ∀(a:ac),qd a (aG a) (∀(b:nH)(c:Int),b=cD a/\c=dE a->oa (bJ c) (av (ae b.2) 8) (I3 a) (au (iO b.1.2.2.2.1) (fw 0 (ae b.2) (bW (af b.2 0) 8) (I3 a) (IL b.1.2.2.2.2.2.1 b a)) (au (decide (b.1.2.2.2.1=6)) (∀(d:Bool),d=av 13 (ae b.2)->cG d d ((d->d)/\ao 13 (13<ae b.2) True) (d->aT d) (wv d d (bw d (bJ (bits BinOp.and IntKind.u8 (af b.2 13) 4))) (I3 a) (IL b.1.2.2.2.2.2.1 b a))) (IL b.1.2.2.2.2.2.1 b a)))):= by
  delta af ae bO aV aT aG cH bn cG bw cX ao br bJ oa ai IL qN aD bW av wv eG qd I3 iO fw lR
  rintro b ⟨⟨-,hb⟩,-⟩ hl
  refine⟨hl,?_⟩
  rintro d e ⟨rfl,rfl⟩
  have f:¬ B8 b->(((0,0,0,0,false,0,0),[]):nH)=vH b/\false=decide (fq b):=λh=>by rw[vH,ah h,fh (λk=>h (Ma.1 k).1)];exact⟨rfl,rfl⟩
  have a:B8 b->cD b=vH b/\(bif decide (jg (cD b).1.2.2.2.2.2.1=0) then true else decide (jg (cD b).1.2.2.2.2.2.1=3))=decide (fq b):=by
   intro h
   refine⟨by rw[vH,aj h],?_⟩
   rw[yG,rI,Ma]
   simp[h,f9,gb]
  (repeat (refine dq ?_;repeat refine dm ?_))
  refine ay (λh=>?_) (λh=>?_)
  .refine f (λk=>?_)
   obtain⟨k1,k2,-⟩:=k
   grind
  have j:dE b=0:=by
   simp_all
  have l:8<=(cD b).2.length:=by
   grind
  refine ay (λc=>?_) (λc=>?_)
  .have c:BO (cD b)=1:=aX c
   refine⟨ab,ab,ay (λi=>?_) (λi=>?_)⟩
   .refine f (λk=>?_)
    have:=k.2.2.1 c
    simp_all
   ·(repeat (refine dq ?_;repeat refine dm ?_))
    exact a ⟨j,l,λ_=>by simpa using i,λk=>ab⟩
  have c:¬ BO (cD b)=1:=bi c
  refine bP (λg=>?_) (λg=>?_)
  .have g:BO (cD b)=6:=g
   (repeat (refine dq ?_;repeat refine dm ?_))
   refine ay (λi=>?_) (λi=>?_)
   .refine f (λk=>?_)
    have:=k.2.2.2 g
    grind
   ·(repeat (refine dq ?_;repeat refine dm ?_))
    refine a ⟨j,l,λk=>absurd k c,λ_ hk=>?_⟩
    grind
  .have g:¬ BO (cD b)=6:=g
   (repeat (refine dq ?_;repeat refine dm ?_))
   exact a ⟨j,l,λk=>absurd k c,λk=>absurd k g⟩
theorem Qh:aB 313 bx2.spec:=aF Tryz.func313 (am (am aC (Ct.named E8)) I6) aS bz0
def au8:Ct:=⟨[.val cI,.val cI],[.val .bool],λd=>[],λd=>((decide (kv d.1 d.2.1),()),())⟩
theorem aO8:
 ∀(a b:Int),dI a b->True-> ∀(c:Bool),c=gD a->(c->aT c)/\(c->c)/\ ∀(d:Bool),d=bw c (decide (a<=65535))->(d->aT d)/\(d->d)/\uG (bw d (gD b)) (decide (b<=255)) (decide (kv a b)):= by
  delta aq aI aT bw dI ai gD uG
  rintro id ttl - -
  (repeat (refine dq ?_;repeat refine dm ?_))
  rw[yG];simp[kv,gb,and_assoc]
theorem Tm:aB 312 au8.spec:=aF Tryz.func312 aC aS aO8
def aH1:Ct:=⟨[.val db,.val db,.val cI,.val cI,.val cI,.val (.sl bq)],[.own 5 bq,.val cI],λd=>[(d.2.2.2.2.2.1.length:Int)<=1073741824],λd=>((fN (lz d.1 d.2.1 d.2.2.1 d.2.2.2.1 d.2.2.2.2.1 d.2.2.2.2.2.1),gv (lz d.1 d.2.1 d.2.2.1 d.2.2.2.1 d.2.2.2.2.1 d.2.2.2.2.2.1),()),())⟩
theorem ZB:
 ∀(a b c d e:Int)(f:ac),aQ a/\aQ b/\bG c d (aq e) (ai (aV f))->dj f->dj f/\fN ((0,d,e,c,false,a,b),f)=fN (lz a b c d e f)/\gv ((0,d,e,c,false,a,b),f)=gv (lz a b c d e f):= by
  delta ae aq aI aV aQ bG dj ai aD
  rintro s d p i t data-hl
  exact⟨hl,rfl,rfl⟩
theorem SU:aB 314 aH1.spec:=aF Tryz.func314 (am aC OR) aS ZB
def aD2:Ct:=⟨[.val (.sl bq),.val db,.val cI,.val cI,.val cI,.val cI],[.own 5 bq,.val cI],λd=>[(d.1.length:Int)<=1099511627776],λd=>((lv d.1 d.2.1 d.2.2.1 d.2.2.2.1 d.2.2.2.2.1 d.2.2.2.2.2.1,iW d.1 d.2.2.1 d.2.2.2.1 d.2.2.2.2.1 d.2.2.2.2.2.1,()),())⟩
theorem aO3:
 ∀(a:ac)(b c d e f:Int),aV a/\aQ b/\bG c d (aq e) (ai (aq f))->aG a-> ∀(g:Bool),g=bW c 11->(g->aT g)/\(g->g)/\ ∀(h:Bool),h=bw g (bW c 3)->bO h/\br h/\ ∀(i:Bool),i=bn h (dw d)->bO i/\br i/\ ∀(j:Bool),j=bn i (av 255 d)->fZ j/\jW j (bn j ( !decide (kv e f))) (lX (lv a b c d e f) (iW a c d e f)) (aG a/\ ∀(k:nH)(l:Bool),k=vH a/\l=decide (fq a)->au ( !l) (fM (lv a b c d e f)/\17=iW a c d e f) (bM 0 28 (28<=ae a) (dj (fA a (toNat 0) (toNat 28))/\ ∀(m:ac)(n:Int),m=jL (c,d,fA a (toNat 0) (toNat 28))/\n=lf (c,d,fA a (toNat 0) (toNat 28))->au (bJ n) (fM (lv a b c d e f)/\n=iW a c d e f) (dj m/\fN (lz b k.1.2.2.2.2.2.1 1 e f m)=lv a b c d e f/\gv (lz b k.1.2.2.2.2.2.1 1 e f m)=iW a c d e f)))):= by
  delta ae aq aI bO aV aQ aT aG bG cH bn bw ao br fZ bJ dj ai aD bW dw d7 bM av lX fM jW
  rintro b src kind code id ttl ⟨⟨-,hb⟩,-⟩ hl
  (repeat (refine dq ?_;repeat refine dm ?_))
  by_cases c:uI kind code id ttl
  rotate_left
  .refine ay (λ_=>bL9 c) (λh=>absurd ?_ c)
   by_cases i:kv id ttl
   .rw[fm i] at h
    refine⟨?_,?_,i⟩ <;> simp[gb] at h <;> omega
   .simp_all
  have f:=c
  obtain⟨g1,g2,g3⟩:=f
  refine ay (λh=>?_) (λ_=>⟨hl,?_⟩)
  .grind
  rintro d e ⟨rfl,rfl⟩
  refine ay (λh=>a85 c (by simpa using h)) (λh=>?_)
  have g:fq b:=by simpa using h
  have a:=Jd (src:=src) c g
  obtain⟨-,h28,-⟩:=tI g
  rw[Yh g,bS0]
  refine⟨ab,ab,ab,by rw[dG];omega,?_⟩
  rintro n e ⟨rfl,rfl⟩
  rw[a.2.2.1]
  have:=M5 (kind,code,b.take 28)
  refine⟨ab,a.2.1.symm,?_⟩
  rw[a.1];exact a.2.2.2
theorem Wv:aB 316 aD2.spec:=aF Tryz.func316 (am (am (am (am aC Tm) (Ct.named Qh)) (Ct.named az5)) SU) aS aO3
def a98:Ct:=⟨[.val (.sl bq),.val db,.val cI,.val cI],[.own 5 bq,.val cI],λd=>[(d.1.length:Int)<=1099511627776],λd=>((lS d.1 d.2.1 d.2.2.1 d.2.2.2.1,jn d.1 d.2.2.1 d.2.2.2.1,()),())⟩
def DG(a:ac)(b c d:Int):=fM (lS a b c d)/\17=jn a c d
def Lg(a:ac)(b c d e f:Int)(g:ac):=dj a/\fN (lz b c d e f a)=lS g b e f/\gv (lz b c d e f a)=jn g e f
theorem aG4:
 ∀(a:ac)(b c d:Int),aV a/\aQ b/\dI c d->aG a->au ( !decide (kv c d)) (lX (lS a b c d) (jn a c d)) (aG a/\ ∀(e:nH)(f:Bool),e=vH a/\f=decide (fq a)->au ( !f) (DG a b c d) (au (iO e.1.2.2.2.1) (bY e.2/\ ∀(g:Bool)(h i:Int)(j:ac)(k:Int),(g,h,i,j)=g7 e.2/\k=kX e.2->au (bJ k) (DG a b c d) (dj j/\ ∀(l:ac),oD (l=fP (true,h,i,j)) (kL (true,h,i,j)) (Lg l b e.1.2.2.2.2.2.1 e.1.2.2.2.1 c d a))) (au (decide (e.1.2.2.2.1=17)) (bY e.2/\ ∀(g h:Int)(i:ac)(j:Int),(g,h,i)=tR e.1.2.2.2.2.2.1 e.1.2.2.2.2.2.2 e.2/\j=md e.1.2.2.2.2.2.1 e.1.2.2.2.2.2.2 e.2->au (bJ j) (DG a b c d) (aG a/\lv a b 3 3 c d=lS a b c d/\iW a 3 3 c d=jn a c d)) (au (decide (e.1.2.2.2.1=6)) (bY e.2/\ ∀(g:mI)(h:Int),g=gF e.1.2.2.2.2.2.1 e.1.2.2.2.2.2.2 e.2/\h=lr e.1.2.2.2.2.2.1 e.1.2.2.2.2.2.2
 e.2-> ∀(i:Bool),i=bJ h->lR i (br i) (oa (bn i (eG (bits BinOp.and IntKind.i64 g.2.2.2.2.1 2))) (bJ (bits BinOp.and IntKind.i64 g.2.2.2.2.1 4)) (DG a b c d) ((↑((0:Nat)):Int)<=1000000/\ ∀(j:ac),oD (j=gc b e.1.2.2.2.2.2.1 (g.2.1,g.1,0,bits BinOp.and IntKind.i64 (ap (g.2.2.1+1)) 4294967295,20,gA)) (mO (g.2.1,g.1,0,bits BinOp.and IntKind.i64 (ap (g.2.2.1+1)) 4294967295,20,gA)) (Lg j b e.1.2.2.2.2.2.1 e.1.2.2.2.1 c d a)))) (DG a b c d))))):= by
  delta ae ap aq aI bO aV aQ aT aG cH bn cX br bJ dj bY oa dI gA ai aD bW DG eG oD lX Lg fM iO lR
  rintro b src id ttl ⟨⟨-,hb⟩,-⟩ y
  by_cases c:kv id ttl
  rotate_left
  .exact ay (λ_=>a32 c) (λh=>absurd (by simpa using h) c)
  refine ay (λh=>by simp[c] at h) (λ_=>⟨y,?_⟩)
  rintro _ _ ⟨rfl,rfl⟩
  refine ay (λh=>Fv c (λk=>?_)) (λh=>?_)
  .have:=k.1;simp[this] at h
  have l:fq b:=by simpa using h
  obtain⟨u,h28,hp1,hp6,-⟩:=tI l
  have hdl:=DJ u
  rw[Yh l]
  have v:bytes (b.drop 20):=Bh hb
  have hdr:(b.drop 20).length<=1480:=by rw[ib];omega
  refine ay (λf=>?_) (λf=>ay (λa=>?_) (λa=>ay (λg=>?_) (λg=>?_)))
  .have f:d5 b=1:=aX f
   refine⟨by show ((b.drop 20).length:Int)<=_;omega,?_⟩
   rintro r i q n e ⟨z,rfl⟩
   refine ay (λh=>?_) (λh=>?_)
   .refine Fv c (λk=>?_)
    obtain⟨-,⟨-,k⟩|⟨k,-⟩|⟨k,-⟩⟩:=k
    .simp[k] at h
    .omega
    .omega
   have h:kX (b.drop 20)=0:=by simpa using h
   have hh:=In (src:=src) c l f h
   have hlen:=SA (b.drop 20)
   have A:(i,q,n)=(g7 (b.drop 20)).2:=fj Prod.snd z
   have e3:n=(g7 (b.drop 20)).2.2.2:=by rw[← A]
   refine⟨by rw[e3];omega,?_⟩
   rintro o e ⟨rfl,rfl⟩
   rw[show ((true,i,q,n):qk)=(true,(i,q,n)) from rfl,A]
   have j:=bd7 (true,(g7 (b.drop 20)).2)
   refine⟨ab,?_,?_⟩
   .rw[hh.1,← f];rfl
   .rw[hh.2];exact DK c (by have:=f;unfold d5 at this;simp only;omega) j
  .have f:=bi f
   have a:d5 b=17:=aX a
   refine⟨by show ((b.drop 20).length:Int)<=_;omega,?_⟩
   rintro sp dp n e ⟨z,rfl⟩
   refine ay (λh=>?_) (λh=>?_)
   .refine Fv c (λk=>?_)
    obtain⟨-,⟨k,-⟩|⟨-,k⟩|⟨k,-⟩⟩:=k
    .omega
    .have k:md (cy b).2.2.2.2.2.1 (cy b).2.2.2.2.2.2 (b.drop 20)=0:=k
     simp[k] at h
    .omega
   have h:md (dC b) (g9 b) (b.drop 20)=0:=by
    have:md (cy b).2.2.2.2.2.1 (cy b).2.2.2.2.2.2 (b.drop 20)=0:=by simpa using h
    exact this
   have hh:=II (src:=src) c l a h
   exact⟨y,hh.1.symm,by rw[hh.2,Pa c l]⟩
  .have f:=bi f
   have g:d5 b=6:=aX g
   refine⟨by show ((b.drop 20).length:Int)<=_;omega,?_⟩
   rintro t e ⟨m,rfl⟩
   have m:t=gF (dC b) (g9 b) (b.drop 20):=m
   have hr:=Uc (s:=dC b) (d:=g9 b) v
   rw[← m] at hr
   have ee:lr (cy b).2.2.2.2.2.1 (cy b).2.2.2.2.2.2 (b.drop 20)=lr (dC b) (g9 b) (b.drop 20):=rfl
   rw[ee]
   (repeat (refine dq ?_;repeat refine dm ?_))
   refine ay (λh=>?_) (λh=>?_)
   .refine Fv c (λk=>?_)
    obtain⟨-,⟨k,-⟩|⟨k,-⟩|⟨-,p,w,B⟩⟩:=k
    .omega
    .omega
    .simp_all
   have p:lr (dC b) (g9 b) (b.drop 20)=0:=i5 λk=>by simp[k] at h
   have w:bits .and .i64 t.2.2.2.2.1 2≠0:=λk=>by simp[p,k] at h
   have B:bits .and .i64 t.2.2.2.2.1 4=0:=i5 λk=>by simp[p,w,k] at h
   have hh:=Kw (src:=src) c l g p (by rw[← m];exact w) (by rw[← m];exact B)
   refine⟨aw,?_⟩
   rintro o e ⟨rfl,rfl⟩
   rw[aL ab ab,ak4]
   have j:=aX8 src (dC b) (oI t)
   refine⟨by show ((gc src (dC b) (oI t)).length:Int)<=_;omega,?_,?_⟩
   .rw[hh.1,← m,← g];rfl
   .rw[hh.2];exact DK c (by have:=g;unfold d5 at this;simp only;omega) j
  .have f:=bi f
   have a:=bi a
   have g:=bi g
   refine Fv c (λk=>?_)
   obtain⟨-,⟨k,-⟩|⟨k,-⟩|⟨k,-⟩⟩:=k
   .exact f k
   .exact a k
   .exact g k
theorem ao0:aB 292 a98.spec:=aF Tryz.func292 (am (am (am (am (am (am (am (am (am aC Tm) (Ct.named Qh)) (Ct.named VT)) (Ct.named S0)) (Ct.named aT1)) (Ct.named UH)) (Ct.named Ve)) Wv) SU) aS aG4
def aW0:Ct:=⟨[.val (.sl bq),.val cI,.val cI],[.val cI],λd=>[(d.1.length:Int)<=1099511627776],λd=>((dQ d.1 d.2.1 d.2.2.1,()),())⟩
theorem bh4:
 ∀(a:ac)(b c:Int),aV a/\dI b c->aG a->aI (ae a)/\dQ a b c=dQ a b c:= by
  delta ae aq aI aV aG cH dI ai aD
  grind
theorem Qy:aB 241 aW0.spec:=aF Tryz.func241 (am aC Ez) aS bh4
def Yu:Ct:=⟨[.val (.sl bq)],[.agg r8,.val .bool],λd=>[(d.1.length:Int)<=1000000],λd=>(((qI d.1).1,(qI d.1).2,()),())⟩
def CV(a:Bool)(b c:Int)(d:bU9)(e:ac)(f:Int):=ia a a a ((b,c,d)=(qI e).1) (bw a (eG f)=(qI e).2)
def vp(a:Bool)(b c d:Int)(e:Int×Int×Int)(f:ac)(g:bc):=(a->false)/\ ∀(h:Bool),h=bw a false->CV h b c (d,e) f (cP g)
def EG(a:ac)(b:Bool)(c d e:Int)(f:bU9)(g:Int):=aG (i7 a)/\ ∀(h:Int),h=dQ (i7 a) 6 2->ia b b (aT b) (b->b) (∀(i:Bool),i=m5 b h c->CV i d e f a g)
def Fs(a:Bool)(b:ac)(c d e:Int)(f:bU9)(g:Int):=(a->a)/\aG (i7 b)/\ ∀(h:Int),h=dQ (i7 b) 6 2->cG a a (aT a) (a->a) (∀(i:Bool),i=m5 a h c->CV i d e f b g)
def kV(a b c:Int):=(ap (a -20000),b,c)
def pP(a b c:Int):=(ap (a -16384),b,c)
def pc:=((0:Int),(0:Int),(0:Int),(0:Int),(0:Int),(0:Int))
def PI(a:Bool)(b:ac)(c d e:Int)(f:bU9)(g:Int):=(a->a)/\aG (i7 b)/\ ∀(h:Int),h=dQ (i7 b) 4 4->cG a a (aT a) (a->a) (∀(i:Bool),i=m5 a h c->CV i d e f b g)
theorem aO2:
 ∀(a:ac),ai (aV a)->bY a->aG a/\ ∀(b:dJ)(c d:Int),b=rE a/\c=ra a/\d=ja a->Dj (bJ d) (bW (ae a) 28) (bJ b.1) ( !b.2.2.2.2.1) (pc=(qI a).1/\false=(qI a).2) (bM 20 (ae a) (ae a<=ae a) (au (iO b.2.2.2.1) (aG (i7 a)/\ ∀(e:Int),e=dQ (i7 a) 2 2-> ∀(f:Bool),f=decide (c=30)->pJ f f (aG (i7 a)) (∀(g:Int),g=dQ (i7 a) 0 2->(f->f)/\ ∀(h:Bool),h=m5 f g 2048->pJ h h (aG (i7 a)) (∀(i:Int),i=dQ (i7 a) 4 2->(h->h)/\ ∀(j:Bool),j=m5 h i 21075->au j (Fs j a b.2.1 b.2.2.2.2.2.1 b.2.2.2.2.2.2 (b.2.2.2.1,pP e b.2.1 b.2.2.1) (cP (b.2.2.2.2.2.1,b.2.2.2.2.2.2,b.2.2.2.1,pP e b.2.1 b.2.2.1))) ((j->aT j)/\j=false/\vp j b.2.2.2.2.2.1 b.2.2.2.2.2.2 b.2.2.2.1 (pP e b.2.1 b.2.2.1) a (b.2.2.2.2.2.1,b.2.2.2.2.2.2,b.2.2.2.1,pP e b.2.1 b.2.2.1))) (h->false) (∀(i:Bool),i=bw h false->au i (Fs i a b.2.1
 b.2.2.2.2.2.1 b.2.2.2.2.2.2 (b.2.2.2.1,pP e b.2.1 b.2.2.1) (cP (b.2.2.2.2.2.1,b.2.2.2.2.2.2,b.2.2.2.1,pP e b.2.1 b.2.2.1))) ((i->aT i)/\i=false/\vp i b.2.2.2.2.2.1 b.2.2.2.2.2.2 b.2.2.2.1 (pP e b.2.1 b.2.2.1) a (b.2.2.2.2.2.1,b.2.2.2.2.2.2,b.2.2.2.1,pP e b.2.1 b.2.2.1)))) (f->false) (∀(g:Bool),g=bw f false->pJ g g (aG (i7 a)) (∀(h:Int),h=dQ (i7 a) 4 2->(g->g)/\ ∀(i:Bool),i=m5 g h 21075->au i (Fs i a b.2.1 b.2.2.2.2.2.1 b.2.2.2.2.2.2 (b.2.2.2.1,pP e b.2.1 b.2.2.1) (cP (b.2.2.2.2.2.1,b.2.2.2.2.2.2,b.2.2.2.1,pP e b.2.1 b.2.2.1))) ((i->aT i)/\i=false/\vp i b.2.2.2.2.2.1 b.2.2.2.2.2.2 b.2.2.2.1 (pP e b.2.1 b.2.2.1) a (b.2.2.2.2.2.1,b.2.2.2.2.2.2,b.2.2.2.1,pP e b.2.1 b.2.2.1))) (g->false) (∀(h:Bool),h=bw g false->au h (Fs h a b.2.1 b.2.2.2.2.2.1 b.2.2.2.2.2.2 (b.2.2.2.1,pP e b.2.1 b.2.2.1) (cP
 (b.2.2.2.2.2.1,b.2.2.2.2.2.2,b.2.2.2.1,pP e b.2.1 b.2.2.1))) ((h->aT h)/\h=false/\vp h b.2.2.2.2.2.1 b.2.2.2.2.2.2 b.2.2.2.1 (pP e b.2.1 b.2.2.1) a (b.2.2.2.2.2.1,b.2.2.2.2.2.2,b.2.2.2.1,pP e b.2.1 b.2.2.1))))) (au (decide (b.2.2.2.1=17)) (aG (i7 a)/\ ∀(e:Int),e=dQ (i7 a) 0 2-> ∀(f:Bool),f=decide (c=30)->pJ f f (aG (i7 a)) (∀(g:Int),g=dQ (i7 a) 2 2->(f->f)/\ ∀(h:Bool),h=m5 f g 33434->au h ((h->h)/\aG (i7 a)/\ ∀(i:Int),i=dQ (i7 a) 4 2->cG h h (aT h) (h->h) (∀(j:Bool),j=m5 h i (ap (c -20))->au j ((j->j)/\EG a j (ap (b.2.1+1)) b.2.2.2.2.2.1 b.2.2.2.2.2.2 (b.2.2.2.1,kV e b.2.1 b.2.2.1) (cP (b.2.2.2.2.2.1,b.2.2.2.2.2.2,b.2.2.2.1,kV e b.2.1 b.2.2.1))) (cG j j (aT j) (j=false) (vp j b.2.2.2.2.2.1 b.2.2.2.2.2.2 b.2.2.2.1 (kV e b.2.1 b.2.2.1) a (b.2.2.2.2.2.1,b.2.2.2.2.2.2,b.2.2.2.1,kV e b.2.1 b.2.2.1)))))
 ((h->aT h)/\h=false/\(h->false)/\ ∀(i:Bool),i=bw h false->au i ((i->i)/\EG a i (ap (b.2.1+1)) b.2.2.2.2.2.1 b.2.2.2.2.2.2 (b.2.2.2.1,kV e b.2.1 b.2.2.1) (cP (b.2.2.2.2.2.1,b.2.2.2.2.2.2,b.2.2.2.1,kV e b.2.1 b.2.2.1))) (cG i i (aT i) (i=false) (vp i b.2.2.2.2.2.1 b.2.2.2.2.2.2 b.2.2.2.1 (kV e b.2.1 b.2.2.1) a (b.2.2.2.2.2.1,b.2.2.2.2.2.2,b.2.2.2.1,kV e b.2.1 b.2.2.1))))) (f->false) (∀(g:Bool),g=bw f false->au g ((g->g)/\aG (i7 a)/\ ∀(h:Int),h=dQ (i7 a) 4 2->cG g g (aT g) (g->g) (∀(i:Bool),i=m5 g h (ap (c -20))->au i ((i->i)/\EG a i (ap (b.2.1+1)) b.2.2.2.2.2.1 b.2.2.2.2.2.2 (b.2.2.2.1,kV e b.2.1 b.2.2.1) (cP (b.2.2.2.2.2.1,b.2.2.2.2.2.2,b.2.2.2.1,kV e b.2.1 b.2.2.1))) (cG i i (aT i) (i=false) (vp i b.2.2.2.2.2.1 b.2.2.2.2.2.2 b.2.2.2.1 (kV e b.2.1 b.2.2.1) a (b.2.2.2.2.2.1,b.2.2.2.2.2.2,b.2.2.2.1,kV e b.2.1
 b.2.2.1))))) ((g->aT g)/\g=false/\(g->false)/\ ∀(h:Bool),h=bw g false->au h ((h->h)/\EG a h (ap (b.2.1+1)) b.2.2.2.2.2.1 b.2.2.2.2.2.2 (b.2.2.2.1,kV e b.2.1 b.2.2.1) (cP (b.2.2.2.2.2.1,b.2.2.2.2.2.2,b.2.2.2.1,kV e b.2.1 b.2.2.1))) (cG h h (aT h) (h=false) (vp h b.2.2.2.2.2.1 b.2.2.2.2.2.2 b.2.2.2.1 (kV e b.2.1 b.2.2.1) a (b.2.2.2.2.2.1,b.2.2.2.2.2.2,b.2.2.2.1,kV e b.2.1 b.2.2.1)))))) (au (decide (b.2.2.2.1=6)) (aG (i7 a)/\ ∀(e:Int),e=dQ (i7 a) 0 2-> ∀(f:Bool),f=decide (c=40)->pJ f f (aG (i7 a)) (∀(g:Int),g=dQ (i7 a) 2 2->(f->f)/\ ∀(h:Bool),h=m5 f g 80->au h (PI h a b.2.1 b.2.2.2.2.2.1 b.2.2.2.2.2.2 (b.2.2.2.1,kV e b.2.1 b.2.2.1) (cP (b.2.2.2.2.2.1,b.2.2.2.2.2.2,b.2.2.2.1,kV e b.2.1 b.2.2.1))) ((h->aT h)/\h=false/\vp h b.2.2.2.2.2.1 b.2.2.2.2.2.2 b.2.2.2.1 (kV e b.2.1 b.2.2.1) a
 (b.2.2.2.2.2.1,b.2.2.2.2.2.2,b.2.2.2.1,kV e b.2.1 b.2.2.1))) (f->false) (∀(g:Bool),g=bw f false->au g (PI g a b.2.1 b.2.2.2.2.2.1 b.2.2.2.2.2.2 (b.2.2.2.1,kV e b.2.1 b.2.2.1) (cP (b.2.2.2.2.2.1,b.2.2.2.2.2.2,b.2.2.2.1,kV e b.2.1 b.2.2.1))) ((g->aT g)/\g=false/\vp g b.2.2.2.2.2.1 b.2.2.2.2.2.2 b.2.2.2.1 (kV e b.2.1 b.2.2.1) a (b.2.2.2.2.2.1,b.2.2.2.2.2.2,b.2.2.2.1,kV e b.2.1 b.2.2.1)))) (∀(e:Bool),e=false->CV e b.2.2.2.2.2.1 b.2.2.2.2.2.2 (b.2.2.2.1,0,b.2.1,b.2.2.1) a (cP (b.2.2.2.2.2.1,b.2.2.2.2.2.2,b.2.2.2.1,0,b.2.1,b.2.2.1))))))):= by
  delta ae ap bO aV aT aG cH bn CV cG bw cX i7 ao br bJ bY lw vp EG Fs ia ai kV Dj pJ aD bW pP bM eG pc PI iO m5
  rintro b ⟨⟨-,hb⟩,-⟩ hl
  refine⟨ab,?_⟩
  rintro d n e ⟨rfl,rfl,rfl⟩
  (repeat (refine dq ?_;repeat refine dm ?_))
  refine ay (λh=>?_) (λh=>?_)
  .rw[qI,ah]
   .exact⟨rfl,rfl⟩
   rintro⟨k1,k2,k3,k4⟩
   rw[rE,aj k1] at h;simp[k1,k2,k3,k4] at h
  have k1:ja b=0:=i5 λk=>by simp[k] at h
  rw[rE,aj k1] at h ⊢
  have hq:E5 b:=by
   simp[gb,k1] at h
   exact⟨k1,by have:=h.1.1;omega,h.1.2,h.2⟩
  clear h
  obtain⟨-,h28,-,-⟩:=id hq
  have hs:fA b (toNat 20) (toNat (b.length:Int))=b.drop 20:=BJ b 20
  have hdl:((b.drop 20).length:Int)=8:=by rw[ib];omega
  have wd:∀ i,aR (b.drop 20) i=aR b (20+i):=λi=>by unfold aR;rw[List.drop_drop]
  have g0:dQ (b.drop 20) 0 2=aR b 20:=by rw[rR ab ab,wd];rfl
  have g2:dQ (b.drop 20) 2 2=aR b 22:=by rw[rR ab ab,wd];rfl
  have g4:dQ (b.drop 20) 4 2=aR b 24:=by rw[rR ab ab,wd];rfl
  have g6:dQ (b.drop 20) 6 2=aR b 26:=by rw[rR ab ab,wd];rfl
  have g44:dQ (b.drop 20) 4 4=gX ((b.drop 24).take 4):=by rw[Lw ab ab,List.drop_drop];rfl
  have w20:=rY hb 20
  have w22:=rY hb 22
  have hid:=rY hb 4
  have hlen:=rY hb 2
  have eid:(cy b).2.1=aR b 4:=rfl
  rw[qI,aj hq,hs,ra,aj k1,g0,g2,g4,g6,g44]
  have le1:((b.drop 20).length:Int)<=1099511627776:=ab
  have e22:IntKind.i64.wrap (aR b 22-16384)=aR b 22-16384:=aL ab ab
  have e20:IntKind.i64.wrap (aR b 20-20000)=aR b 20-20000:=aL ab ab
  have e2:IntKind.i64.wrap (aR b 2-20)=aR b 2-20:=aL ab ab
  have e1:IntKind.i64.wrap ((cy b).2.1+1)=(cy b).2.1+1:=aL (by rw[eid];omega) (by rw[eid];omega)
  refine⟨ab,ab,ab,?_⟩
  have ep:(cy b).2.2.2.1=d5 b:=rfl
  rw[ep]
  refine ay (λh1=>?_) (λh1=>ay (λh17=>?_) (λh17=>ay (λh6=>?_) (λh6=>?_)))
  .have h1:=aX h1
   have eP:tB b=((cy b).2.2.2.2.2.1,(cy b).2.2.2.2.2.2,d5 b,aR b 22-16384,(cy b).2.1,(cy b).2.2.1):=by
    rw[tB,Av,aj h1];rfl
   have eR:s9 b↔(aR b 2=30/\aR b 20=2048/\aR b 24=21075/\aR b 26=(cy b).2.1):=by
    unfold s9;simp[h1]
   refine⟨le1,?_⟩
   rintro _ rfl
   rw[eP,e22]
   simp only[eR]
   by_cases c1:aR b 2=30 <;> by_cases c2:aR b 20=2048 <;> by_cases c3:aR b 24=21075 <;> by_cases c4:aR b 26=(cy b).2.1 <;> simp[au,c1,c2,c3,c4,h28]
  .have h1:¬ d5 b=1:=bi h1
   have h17:=aX h17
   have eP:tB b=((cy b).2.2.2.2.2.1,(cy b).2.2.2.2.2.2,d5 b,aR b 20-20000,(cy b).2.1,(cy b).2.2.1):=by
    rw[tB,Av,ah h1,aj (.inl h17)];rfl
   have eR:s9 b↔(aR b 2=30/\aR b 22=33434/\aR b 24=aR b 2-20/\aR b 26=(cy b).2.1+1):=by
    unfold s9;simp[h17]
   refine⟨le1,?_⟩
   rintro _ rfl
   rw[eP,e20]
   simp only[eR]
   by_cases c1:aR b 2=30 <;> by_cases c2:aR b 22=33434 <;> by_cases c3:aR b 24=10 <;> by_cases c4:aR b 26=(cy b).2.1+1 <;> simp[au,c1,c2,c3,c4,h28,e1,e2,show IntKind.i64.wrap 10=10 from rfl]
  .have h1:¬ d5 b=1:=bi h1
   have h17:¬ d5 b=17:=bi h17
   have h6:=aX h6
   have eP:tB b=((cy b).2.2.2.2.2.1,(cy b).2.2.2.2.2.2,d5 b,aR b 20-20000,(cy b).2.1,(cy b).2.2.1):=by
    rw[tB,Av,ah h1,aj (.inr h6)];rfl
   have eR:s9 b↔(aR b 2=40/\aR b 22=80/\gX ((b.drop 24).take 4)=(cy b).2.1):=by
    unfold s9;simp[h6]
   refine⟨le1,?_⟩
   rintro _ rfl
   rw[eP,e20]
   simp only[eR]
   by_cases c1:aR b 2=40 <;> by_cases c2:aR b 22=80 <;> by_cases c3:gX ((b.drop 24).take 4)=(cy b).2.1 <;> simp[au,c1,c2,c3,h28]
  .have h1:¬ d5 b=1:=bi h1
   have h17:¬ d5 b=17:=bi h17
   have h6:¬ d5 b=6:=bi h6
   have eP:tB b=((cy b).2.2.2.2.2.1,(cy b).2.2.2.2.2.2,d5 b,0,(cy b).2.1,(cy b).2.2.1):=by
    rw[tB,Av,ah h1,ah ab];rfl
   have eR:¬ s9 b:=by
    unfold s9;simp[h1,h17,h6]
   rw[eP]
   simp[eR]
theorem aE6:aB 243 Yu.spec:=aF Tryz.func243 (am (am (am aC (Ct.named QC)) (Ct.named Qy)) Jp) aS aO2
def aL7:Ct:=⟨[.agg oV,.val (.sl bq)],[.agg r8,.agg CJ,.val .bool],λd=>[(d.2.1.length:Int)<=1000000],λd=>(((mA d.1.2.2.2.2.2.2 d.2.1).1,(mA d.1.2.2.2.2.2.2 d.2.1).2.1,(mA d.1.2.2.2.2.2.2 d.2.1).2.2,()),())⟩
def Iv(a:Bool)(b c:Prop)(d e:Bool):=∀(f:Bool),f=a->ia f f (d7 f) (f->f) (b/\c/\bw f d=e)
theorem bs5:
 ∀(a:dJ)(b:ac),CT.wf oV a/\ai (aV b)->bY b->bY b/\ ∀(c d:Int)(e:ac)(f:Int),(c,d,e)=nq b/\f=mZ b->au (bJ f) (pc=(mA a.2.2.2.2.2.2 b).1/\pc=(mA a.2.2.2.2.2.2 b).2.1/\false=(mA a.2.2.2.2.2.2 b).2.2) (bY e/\ ∀(g h i j k l:Int)(m:Bool),(g,h,i,j,k,l)=(qI e).1/\m=(qI e).2->au (decide (c=11)) (Iv m ((g,h,i,j,k,0)=(mA a.2.2.2.2.2.2 b).1) ((0,1,d,0,0,l)=(mA a.2.2.2.2.2.2 b).2.1) (decide (g=a.2.2.2.2.2.2)) (mA a.2.2.2.2.2.2 b).2.2) (au (decide (d=3)) (Iv m ((g,h,i,j,k,0)=(mA a.2.2.2.2.2.2 b).1) ((0,3,d,0,0,l)=(mA a.2.2.2.2.2.2 b).2.1) (decide (g=a.2.2.2.2.2.2)) (mA a.2.2.2.2.2.2 b).2.2) (Iv m ((g,h,i,j,k,0)=(mA a.2.2.2.2.2.2 b).1) ((0,5,d,0,0,l)=(mA a.2.2.2.2.2.2 b).2.1) (decide (g=a.2.2.2.2.2.2)) (mA a.2.2.2.2.2.2 b).2.2))):= by
  delta ae aV aT cG bw bJ bY ia ai aD bW d7 pc Iv
  rintro h b ⟨-,⟨-,hb⟩,-⟩ hl
  refine⟨hl,?_⟩
  rintro ty code q e ⟨g,rfl⟩
  refine ay (λc=>?_) (λc=>?_)
  .have c:¬ mZ b=0:=by simpa using c
   rw[mA,ah c];exact⟨rfl,rfl,rfl⟩
  have c:mZ b=0:=by simpa using c
  have a:=bk1 b
  rw[mA,aj c,← g]
  rw[← g] at a
  refine⟨by simp only at a;omega,?_⟩
  rintro s d p f t l ok ⟨hp,rfl⟩
  rw[← hp]
  simp only[tH,yN]
  refine ay (λh1=>?_) (λh1=>ay (λh3=>?_) (λh3=>?_))
  .simp_all
  .simp_all
  .simp_all
theorem bh6:aB 187 aL7.spec:=aF Tryz.func187 (am (am aC (Ct.named an0)) (Ct.named aE6)) aS bs5
def aG8:Ct:=⟨[.agg oV,.val (.sl bq)],[.agg r8,.agg CJ,.val .bool],λd=>[(d.2.1.length:Int)<=1000000],λd=>(((pO d.1.2.2.2.2.2.1 d.1.2.2.2.2.2.2 d.2.1).1,(pO d.1.2.2.2.2.2.1 d.1.2.2.2.2.2.2 d.2.1).2.1,(pO d.1.2.2.2.2.2.1 d.1.2.2.2.2.2.2 d.2.1).2.2,()),())⟩
theorem a82:
 ∀(a:dJ)(b:ac),CT.wf oV a/\ai (aV b)->bY b->bY b/\ ∀(c:Bool)(d e:Int)(f:ac)(g:Int),(c,d,e,f)=g7 b/\g=kX b-> ∀(h:Bool),h=bJ g->cX h (br h) (∀(i:Bool),i=bn h ( !c)->cX i (br i) (oa (bn i (bW d 21075)) (bW (ae f) 2) (pc=(pO a.2.2.2.2.2.1 a.2.2.2.2.2.2 b).1/\pc=(pO a.2.2.2.2.2.1 a.2.2.2.2.2.2 b).2.1/\false=(pO a.2.2.2.2.2.1 a.2.2.2.2.2.2 b).2.2) (aG b/\ ∀(j:Int),j=dQ b 2 2->(a.2.2.2.2.2.2,a.2.2.2.2.2.1,1,ap (j -18432),e,0)=(pO a.2.2.2.2.2.1 a.2.2.2.2.2.2 b).1/\(0,2,0,0,0,0)=(pO a.2.2.2.2.2.1 a.2.2.2.2.2.2 b).2.1/\true=(pO a.2.2.2.2.2.1 a.2.2.2.2.2.2 b).2.2))):= by
  delta ae ap bO aV aT aG cH bn cX br bJ bY oa ai aD bW pc lR
  rintro h b ⟨-,⟨-,hb⟩,-⟩ hl
  refine⟨hl,?_⟩
  rintro r i q dt e ⟨c,rfl⟩
  (repeat (intro (b_:Bool) (a:b_=_);(repeat refine⟨(by first|(simp +contextual;done)|(rw[a];omega)),?_⟩)));subst_vars
  refine ay (λk=>?_) (λk=>?_)
  .rw[pO,ah]
   .exact⟨rfl,rfl,rfl⟩
   .rintro⟨k1,k2,k3,k4⟩
    grind
  .have f:Ga b:=by
    simp[gb] at k
    refine⟨k.1.1.1,?_,?_,?_⟩ <;> rw[← c] <;> simp only
    .exact k.1.1.2
    .exact k.1.2
    .omega
   have h8:=(bm8 f.1).1
   have hw:=rY hb 2
   refine⟨ab,?_⟩
   rintro _ rfl
   rw[rR ab ab,show toNat 2=2 from rfl,aL ab ab,pO,aj f,← c]
   exact⟨rfl,rfl,rfl⟩
theorem av7:aB 186 aG8.spec:=aF Tryz.func186 (am (am aC (Ct.named VT)) (Ct.named Qy)) aS a82
def ZE:Ct:=⟨[.agg oV,.val (.sl bq)],[.agg r8,.agg CJ,.val .bool],λd=>[(d.2.1.length:Int)<=1000000],λd=>(((qa d.1.2.2.2.2.2.1 d.1.2.2.2.2.2.2 d.2.1).1,(qa d.1.2.2.2.2.2.1 d.1.2.2.2.2.2.2 d.2.1).2.1,(qa d.1.2.2.2.2.2.1 d.1.2.2.2.2.2.2 d.2.1).2.2,()),())⟩
theorem ai1:
 ∀(a:dJ)(b:ac),CT.wf oV a/\ai (aV b)->bY b->bY b/\ ∀(c:mI)(d:Int),c=gF a.2.2.2.2.2.1 a.2.2.2.2.2.2 b/\d=lr a.2.2.2.2.2.1 a.2.2.2.2.2.2 b-> ∀(e:Bool),e=bJ d->cX e (br e) (∀(f:Bool),f=bn e (bW c.1 80)->cX f (br f) (∀(g:Bool),g=bn f (bJ c.2.2.1)->cX g (br g) (∀(h:Bool),h=bn g (bW c.2.2.2.2.1 20)->cX h (br h) (oa (bn h (bJ c.2.2.2.2.2.1)) (av 0 (ae c.2.2.2.2.2.2)) (pc=(qa a.2.2.2.2.2.1 a.2.2.2.2.2.2 b).1/\pc=(qa a.2.2.2.2.2.1 a.2.2.2.2.2.2 b).2.1/\false=(qa a.2.2.2.2.2.1 a.2.2.2.2.2.2 b).2.2) ((a.2.2.2.2.2.2,a.2.2.2.2.2.1,6,kV c.2.1 (ap (c.2.2.2.1 -1)) 0)=(qa a.2.2.2.2.2.1 a.2.2.2.2.2.2 b).1/\(0,4,0,0,0,0)=(qa a.2.2.2.2.2.1 a.2.2.2.2.2.2 b).2.1/\true=(qa a.2.2.2.2.2.1 a.2.2.2.2.2.2 b).2.2))))):= by
  delta ae ap bO aV aT bn cX br bJ bY oa ai kV aD bW av pc lR
  rintro h b ⟨-,⟨-,hb⟩,-⟩ hl
  refine⟨hl,?_⟩
  rintro t e ⟨ht,rfl⟩
  (repeat (intro (b_:Bool) (a:b_=_);(repeat refine⟨(by first|(simp +contextual;done)|(rw[a];omega)),?_⟩)));subst_vars
  refine ay (λk=>?_) (λk=>?_)
  .rw[qa,ah]
   .exact⟨rfl,rfl,rfl⟩
   .rintro⟨k1,k2,k3,k4,k5,k6⟩
    simp_all
  .have hg:EI h.2.2.2.2.2.1 h.2.2.2.2.2.2 b:=by
    simp[gb] at k
    exact⟨k.1.1.1.1.1,k.1.1.1.1.2,k.1.1.1.2,k.1.1.2,k.1.2,k.2⟩
   have hr:=Uc (s:=h.2.2.2.2.2.1) (d:=h.2.2.2.2.2.2) hb
   rw[aL ab ab,aL ab ab,qa,aj hg]
   exact⟨rfl,rfl,rfl⟩
theorem a27:aB 188 ZE.spec:=aF Tryz.func188 (am aC (Ct.named UH)) aS ai1
def bm3:Ct:=⟨[.val (.sl bq)],[.agg r8,.agg CJ,.val cI],λd=>[(d.1.length:Int)<=1000000],λd=>(((fW d.1).1,(fW d.1).2,pL d.1,()),())⟩
def Dp(a:ac):=pc=(fW a).1/\pc=(fW a).2/\17=pL a
theorem bi2:
 ∀(a:ac),ai (aV a)->bY a->aG a/\ ∀(b:nH)(c:Int),b=cD a/\c=dE a->au (bJ c) (Dp a) (∀(d:Bool),d=iO b.1.2.2.2.1->ia d d (aT d) (d->d) (∀(e:Bool),e=bw d (av 0 (ae b.2))->cG e e (vI e (ae b.2)) (e->aT e) ((e->aT e)/\(e->e)/\au (bw e (eG (af b.2 0))) (bY b.2/\ ∀(f g h i j k l m n o p q:Int)(r:Bool),(f,g,h,i,j,k)=(pO b.1.2.2.2.2.2.1 b.1.2.2.2.2.2.2 b.2).1/\(l,m,n,o,p,q)=(pO b.1.2.2.2.2.2.1 b.1.2.2.2.2.2.2 b.2).2.1/\r=(pO b.1.2.2.2.2.2.1 b.1.2.2.2.2.2.2 b.2).2.2->lw ( !r) (bJ (cP (f,g,h,i,j,1))) (Dp a) ((f,g,h,i,j,k)=(fW a).1/\(b.1.2.2.2.2.2.1,m,n,b.1.2.2.1,b.1.2.1,q)=(fW a).2/\0=pL a)) (au (iO b.1.2.2.2.1) (bY b.2/\ ∀(f g h i j k l m n o p q:Int)(r:Bool),(f,g,h,i,j,k)=(mA b.1.2.2.2.2.2.2 b.2).1/\(l,m,n,o,p,q)=(mA b.1.2.2.2.2.2.2 b.2).2.1/\r=(mA b.1.2.2.2.2.2.2 b.2).2.2->lw ( !r)
 (bJ (cP (f,g,h,i,j,1))) (Dp a) ((f,g,h,i,j,k)=(fW a).1/\(b.1.2.2.2.2.2.1,m,n,b.1.2.2.1,b.1.2.1,q)=(fW a).2/\0=pL a)) (au (decide (b.1.2.2.2.1=6)) (bY b.2/\ ∀(f g h i j k l m n o p q:Int)(r:Bool),(f,g,h,i,j,k)=(qa b.1.2.2.2.2.2.1 b.1.2.2.2.2.2.2 b.2).1/\(l,m,n,o,p,q)=(qa b.1.2.2.2.2.2.1 b.1.2.2.2.2.2.2 b.2).2.1/\r=(qa b.1.2.2.2.2.2.1 b.1.2.2.2.2.2.2 b.2).2.2->lw ( !r) (bJ (cP (f,g,h,i,j,1))) (Dp a) ((f,g,h,i,j,k)=(fW a).1/\(b.1.2.2.2.2.2.1,m,n,b.1.2.2.1,b.1.2.1,q)=(fW a).2/\0=pL a)) (lw ( !false) ( !decide (cP (0,0,0,0,0,1)=0)) (Dp a) (pc=(fW a).1/\(b.1.2.2.2.2.2.1,0,0,b.1.2.2.1,b.1.2.1,0)=(fW a).2/\0=pL a))))))):= by
  delta af ae bO aV aT aG cH bn cG bw cX ao br bJ bY lw ia Dp ai aD bW av eG pc iO vI
  rintro b ⟨⟨-,hb⟩,-⟩ hl
  refine⟨ab,?_⟩
  rintro d e ⟨rfl,rfl⟩
  have A:¬ Aw b->((0,0,0,0,0,0):bc)=(fW b).1/\((0,0,0,0,0,0):qE)=(fW b).2/\(17:Int)=pL b:=λk=>by
   rw[fW,pL,ah k,ah k];exact⟨rfl,rfl,rfl⟩
  refine ay (λh=>A (λk=>?_)) (λh=>?_)
  .simp[k.1] at h
  have h:dE b=0:=by simpa using h
  rw[cD,aj h]
  have v:((b.drop 20).length:Int)<=1000000:=by rw[ib];omega
  have C:(cy b).2.2.2.1=d5 b:=rfl
  have D:(cy b).2.2.2.2.2.1=dC b:=rfl
  have E:(cy b).2.2.2.2.2.2=g9 b:=rfl
  simp only[C,D,E]
  have m:∀ r:Dm,r=nR b→∀(a c f i j n s o p t u q:Int)(ok:Bool),(a,c,f,i,j,n)=r.1/\(s,o,p,t,u,q)=r.2.1/\ok=r.2.2 →
    au (bif !ok then true else !decide (cP (a,c,f,i,j,1)=0)) (((0,0,0,0,0,0):bc)=(fW b).1/\((0,0,0,0,0,0):qE)=(fW b).2/\(17:Int)=pL b)
     (((a,c,f,i,j,n):bc)=(fW b).1/\((dC b,o,p,(cy b).2.2.1,(cy b).2.1,q):qE)=(fW b).2/\(0:Int)=pL b):=by
   rintro r rfl a c f i j n s o p t u q ok ⟨hp,ha,rfl⟩
   have F:tH (nR b).1 1=(a,c,f,i,j,1):=by rw[← hp];rfl
   refine ay (λk=>A (λg=>?_)) (λk=>?_)
   .have G:=g.2.2
    rw[F] at G
    simp[g.2.1,G] at k
   .have g:Aw b:=by
     simp[gb] at k
     exact⟨h,k.1,by rw[F];exact k.2⟩
    rw[fW,pL,aj g,aj g]
    grind
  (repeat (refine dq ?_;repeat refine dm ?_))
  refine ay (λB=>?_) (λB=>?_)
  .have c3:(b.drop 20).getD 0 default=0:=i5 λk=>by
    have k:¬ (b.drop 20).getD (toNat 0) default=0:=k
    rw[fh k] at B;simp at B
   simp[gb] at B
   have w:pO (dC b) (g9 b) (b.drop 20)=nR b:=by
    rw[nR,aj]
    grind
   refine⟨v,?_⟩
   rintro a c f i j n s o p t u q ok hh
   have:=m _ w a c f i j n s o p t u q ok hh
   (repeat (refine dq ?_;repeat refine dm ?_))
   exact this
  have y:¬ (d5 b=1/\0<(b.drop 20).length/\(b.drop 20).getD 0 default=0):=by
   grind
  refine ay (λl=>?_) (λl=>ay (λz=>?_) (λz=>?_))
  .have l:=aX l
   have w:mA (g9 b) (b.drop 20)=nR b:=by
    rw[nR,ah y,aj l]
   refine⟨v,?_⟩
   rintro a c f i j n s o p t u q ok hh
   have:=m _ w a c f i j n s o p t u q ok hh
   (repeat (refine dq ?_;repeat refine dm ?_))
   exact this
  .have l:=bi l
   have z:=aX z
   have w:qa (dC b) (g9 b) (b.drop 20)=nR b:=by
    rw[nR,ah y,ah l,aj z]
   refine⟨v,?_⟩
   rintro a c f i j n s o p t u q ok hh
   have:=m _ w a c f i j n s o p t u q ok hh
   (repeat (refine dq ?_;repeat refine dm ?_))
   exact this
  .have l:=bi l
   have z:=bi z
   have w:Ei=nR b:=by rw[nR,ah y,ah l,ah z]
   have:=m _ w 0 0 0 0 0 0 0 0 0 0 0 0 false ⟨rfl,rfl,rfl⟩
   (repeat (refine dq ?_;repeat refine dm ?_))
   exact this
theorem ZH:aB 114 bm3.spec:=aF Tryz.func114 (am (am (am (am (am aC (Ct.named E8)) (Ct.named av7)) (Ct.named bh6)) (Ct.named a27)) Jp) aS bi2
abbrev qV:CT := .pair r8 (.pair cI (.pair cI (.pair .bool (.pair .bool (.pair cI CJ)))))
abbrev rW:CT := .pair cI (.pair cI (.pair cI (.pair cI (.pair db (.pair cI (.pair cI (.pair cI (.pair .bool (.pair .bool (.pair cI CJ))))))))))
abbrev iT:CT := .pair cI (.pair cI (.pair cI (.pair db (.pair cI (.pair (.sl qV) (.sl rW))))))
abbrev dD:Type:=bc×Int×Int×Bool×Bool×Int×qE
abbrev kG:Type:=Int×Int×Int×Int×Int×Int×Int×Int×Bool×Bool×Int×qE
abbrev bT:Type:=Int×Int×Int×Int×Int×List dD×List kG
def aM1:bT:=(0,0,0,0,0,[],[])
def Hl(v:bT):Int:=v.2.2.2.1
def vT(v:bT):Int:=v.2.2.2.2.1
def vW(v:bT):List dD:=v.2.2.2.2.2.1
def vR(v:bT):List kG:=v.2.2.2.2.2.2
def ig(x:dD):Int:=x.2.2.1
def nG(v:bT)(x:dD):kG:=(v.1,v.2.1,x.2.1,x.2.2.1,x.1.2.1,x.1.2.2.1,x.1.2.2.2.1,x.1.2.2.2.2.2,x.2.2.2.1,x.2.2.2.2.1,if x.2.2.2.1 then x.2.2.2.2.2.1 else IntKind.i64.wrap (x.2.2.1+v.2.2.2.2.1),x.2.2.2.2.2.2)
def iH(t at':Int)(x:dD):Bool:=decide (IntKind.i64.wrap (x.2.2.1+t)<=at')
def Ed(v:bT)(w:List dD)(r:List kG):bT:=(v.1,v.2.1,v.2.2.1,v.2.2.2.1,v.2.2.2.2.1,w,r)
def Cy(v:bT)(o:dD->Bool):bT:=Ed v ((vW v).filter λx => !o x) (vR v++((vW v).filter o).map (nG v))
def dN(v:bT)(at':Int):bT:=Cy v (iH (vT v) at')
def wQ(v:bT):bT:=Cy v (λ_=>true)
def AW(id run t:Int):Prop:=(0<=id/\id<16)/\(0<=run/\run<64)/\1<=t/\t<=1073741824
instance (i r t:Int):Decidable (AW i r t):=by unfold AW;infer_instance
def m8(id run a t:Int):Int:=if ¬ AW id run t then 1 else if ¬ f9 a then 10 else 0
def nW(id run a t:Int):bT:=if m8 id run a t=0 then (id,run,0,a,t,[],[]) else aM1
def rU(run n:Int):Int:=IntKind.i64.wrap (IntKind.i64.wrap (run*1000)+n)
def uo(v:bT)(dst proto flow ttl tag:Int):bc:=(Hl v,dst,proto,flow,tag,ttl)
def kz(v:bT)(at' dst proto flow ttl:Int):Int :=
 if cP (uo v dst proto flow ttl 0)≠0 then cP (uo v dst proto flow ttl 0) else if ¬ f9 dst then 10
 else if 1000<=v.2.2.1∨256<=(vW (dN v at')).length then 5 else cP (uo v dst proto flow ttl (rU v.2.1 v.2.2.1))
def V2(v:bT)(x:dD):bT:=(v.1,v.2.1,v.2.2.1+1,v.2.2.2.1,v.2.2.2.2.1,vW v++[x],vR v)
def oo(v:bT)(at' dst proto flow ttl:Int):bT :=
 if kz v at' dst proto flow ttl=0 then V2 (dN v at') (uo v dst proto flow ttl (rU v.2.1 v.2.2.1),v.2.2.1,at',false,false,0,Dk) else v
def nU(v:bT)(at' dst proto flow ttl:Int):ac:=if kz v at' dst proto flow ttl=0 then build (uo v dst proto flow ttl (rU v.2.1 v.2.2.1)) else []
def tT(p:bc)(x:dD):Bool:=decide (tH x.1 p.2.2.2.2.2=p)
def n8(at':Int)(a:qE)(x:dD):dD :=
 if x.2.2.2.1=false then (x.1,x.2.1,x.2.2.1,true,x.2.2.2.2.1,at',a) else if x.2.2.2.2.2.2≠a then (x.1,x.2.1,x.2.2.1,x.2.2.2.1,true,x.2.2.2.2.2.1,x.2.2.2.2.2.2) else x
def xr(w:bT)(p:bc):Nat:=(vW w).findIdx (tT p)
def qf(v:bT)(at':Int)(b:ac):Int :=
 if pL b≠0∨(fW b).1.1≠Hl v then 17 else if xr (dN v at') (fW b).1<(vW (dN v at')).length then 0 else 8
def kf(v:bT)(at':Int)(b:ac):bT :=
 if qf v at' b=0 then Ed (dN v at') ((vW (dN v at')).set (xr (dN v at') (fW b).1) (n8 at' (fW b).2 ((vW (dN v at')).getD (xr (dN v at') (fW b).1) default))) (vR (dN v at')) else dN v at'
theorem TM{α:Type}(o:α->Bool):∀(l:List α),(∀ i j (d:j<l.length) (h:i<=j),o l[j]=true->o (l[i]'ab)=true)→∃ k,k<=l.length/\l.filter o=l.take k/\(l.filter λx => !o x)=l.drop k/\(∀ i (b:i<l.length),k<=i->o l[i]=false)
 | [],_=>⟨0,aw,rfl,rfl,λi b=>by simp at b⟩
 | a::l,h=>by
  cases e:o a with
  | true =>
   obtain⟨k,k0,k1,k2,k3⟩:=TM o l (λi j d hij hh=>by
    have:=h (i+1) (j+1) (by simpa using d) ab (by simpa using hh);simpa using this)
   refine⟨k+1,by simpa using k0,by simp[e,k1],by simp[e,k2],λi b hki=>?_⟩;grind
  | false =>
   have c:∀ i (b:i<(a::l).length),o (a::l)[i]=false:=λi b=>by
    cases hh:o (a::l)[i] with
    | false=>rfl
    | true =>
     have:=h 0 i b ab hh;simp_all
   have allm:∀ x∈a::l,o x=false:=λx hx=>by
    obtain⟨i,b,rfl⟩:=List.mem_iff_getElem.1 hx;exact c i b
   refine⟨0,ab,?_,?_,λi b _=>c i b⟩
   .simp_all
   .simp_all
theorem Kj{α:Type} [Inhabited α] {l:List α} {k:Int} (h0:0<=k) (h1:k<l.length) (o:α->Bool) :
  (l.take (k+1).toNat).filter o=(l.take k.toNat).filter o++(if o (l.getD k.toNat default)=true then [l.getD k.toNat default] else []):=by
 rw[oG h0 h1,u5]
 grind
structure mC (v:bT) (L:List dD) (m:Nat) (at':Int):Prop where
 w:vW v=L.drop m
 r:vR v=(L.take m).map (nG v)
 m:m<=L.length
 next:v.2.2.1=L.length
 t:1<=vT v/\vT v<=1073741824
 now:0<=at'∧at'<=1000000000
 at0:∀ x∈L,0<=ig x/\ig x<=at'
 srt:∀ i j (hj:j<L.length) (h:i<=j),ig (L[i]'(by omega))<=ig L[j]
 num:∀ i (hi:i<L.length),L[i].2.1=i
 back:∀ x∈L,(x.2.2.2.1=true->ig x<=x.2.2.2.2.2.1/\x.2.2.2.2.2.1<ig x+vT v)
theorem FC{t at':Int}{x:dD}(ht:1<=t/\t<=1073741824)(hx:0<=ig x/\ig x<=1000000000):iH t at' x=decide (ig x+t<=at'):=by
 unfold iH ig at *
 rw[aL ab ab]
theorem M6{v a:bT}(h1:a.1=v.1)(h2:a.2.1=v.2.1)(h3:vT a=vT v)(x:dD):nG a x=nG v x:=by
 unfold nG vT at *;rw[h1,h2,h3]
theorem mC.expire{v:bT}{L:List dD}{m:Nat}{at' a:Int}(h:mC v L m at')(h2:at'<=a)(h3:a<=1000000000) :
  ∃ d,mC (dN v a) L d a∧∀ i (hi:i<L.length),d<=i->a<ig L[i]+vT v:=by
 have hm:=h.m
 have b:∀ x∈L,0<=ig x/\ig x<=1000000000:=λx c=>by have:=h.at0 x c;omega
 obtain⟨k,k0,k1,k2,k3⟩:=TM (iH (vT v) a) (L.drop m) (λi j hj hij hh=>by
  simp at hj;rw[List.getElem_drop] at hh ⊢;rw[FC h.t (b _ (List.getElem_mem _))] at hh ⊢;have:=h.srt (m+i) (m+j) ab ab;have:=aX hh;exact fm ab)
 simp at k0
 refine⟨m+k,⟨?_,?_,ab,h.next,h.t,⟨by have:=h.now;omega,h3⟩,λx c=>by have:=h.at0 x c;omega,h.srt,h.num,h.back⟩,?_⟩
 .show (vW v).filter _=_;rw[h.w,k2,List.drop_drop]
 .show vR v++((vW v).filter _).map (nG v)=_;rw[h.r,h.w,k1,← lx];have:L.take (m+k)=L.take m++(L.drop m).take k:=by rw[List.take_add]
  rw[this];exact List.map_congr_left λx _=>(M6 rfl rfl rfl x).symm
 .intro i hi hmi;have:=k3 (i-m) (by simp;omega) ab;rw[List.getElem_drop,FC h.t (b _ (List.getElem_mem _))] at this;grind
theorem mC.later{v:bT}{L:List dD}{m:Nat}{at' a:Int}(h:mC v L m at')(h2:at'<=a)(h3:a<=1000000000):mC v L m a :=
 ⟨h.w,h.r,h.m,h.next,h.t,⟨by have:=h.now;omega,h3⟩,λx hx=>by have:=h.at0 x hx;omega,h.srt,h.num,h.back⟩
def WD(L L':List dD):Prop:=L'.length=L.length∧∀ i (h:i<L.length) (h':i<L'.length),L'[i].1=L[i].1/\ig L'[i]=ig L[i]
theorem aO0(L:List dD):WD L L:=⟨rfl,λi h h'=>⟨rfl,rfl⟩⟩
theorem UW(at':Int)(a:qE)(x:dD):(n8 at' a x).1=x.1/\ig (n8 at' a x)=ig x/\(n8 at' a x).2.1=x.2.1:=by
 unfold n8 ig;split
 .exact⟨rfl,rfl,rfl⟩
 .grind
theorem Yl{at':Int}{a:qE}{x:dD}{t:Int}(h0:ig x<=at')(h1:at'<ig x+t)(h:x.2.2.2.1=true->ig x<=x.2.2.2.2.2.1/\x.2.2.2.2.2.1<ig x+t) :
  (n8 at' a x).2.2.2.1=true->ig (n8 at' a x)<=(n8 at' a x).2.2.2.2.2.1/\(n8 at' a x).2.2.2.2.2.1<ig (n8 at' a x)+t:=by
 rw[(UW at' a x).2.1]
 unfold n8
 grind
theorem mC.recv{v:bT}{L:List dD}{m:Nat}{at' a:Int}{b:ac}(h:mC v L m at')(h2:at'<=a)(h3:a<=1000000000) :
  ∃ u c,mC (kf v a b) u c a/\WD L u:=by
 obtain⟨c,d,p⟩:=h.expire h2 h3
 unfold kf
 split
 next q=>
  have g:xr (dN v a) (fW b).1<(vW (dN v a)).length:=by
   unfold qf at q;grind
  have y:vT (dN v a)=vT v:=rfl;generalize xr (dN v a) (fW b).1=i at g ⊢;generalize dN v a=w at d g y ⊢;rw[d.w] at g ⊢;simp at g;have l:(L.drop c).getD i default=L[c+i]:=by
   simp_all
  rw[l];have z:=UW a (fW b).2 L[c+i];have f:∀ j (o:j<L.length),(L.set (c+i) (n8 a (fW b).2 L[c+i]))[j]'(by rw[fF];exact o)=if c+i=j then n8 a (fW b).2 L[c+i] else L[j]:=λj o=>List.getElem_set _;refine⟨L.set (c+i) (n8 a (fW b).2 L[c+i]),c,⟨?_,?_,by rw[fF];exact d.m,by rw[fF];exact d.next,d.t,d.now,?_,?_,?_,?_⟩,?_⟩
  .show (L.drop c).set i _=_;rw[List.drop_set,ah ab];congr 1;omega
  .show vR w=_;rw[d.r,List.take_set_of_le ab];exact List.map_congr_left λx _=>M6 rfl rfl rfl x
  .intro x l;rcases zt l with l|rfl
   .exact d.at0 x l
   .rw[z.2.1];exact d.at0 _ (List.getElem_mem _)
  .intro j k hk hjk;rw[fF] at hk;have e:∀ n (s:n<L.length),ig ((L.set (c+i) (n8 a (fW b).2 L[c+i]))[n]'(by rw[fF];exact s))=ig L[n]:=λn s=>by
    rw[f n s];split
    .simp_all
    .rfl
   rw[e j ab,e k hk];exact d.srt j k hk hjk
  .intro j o;rw[fF] at o;rw[f j o];split
   next e=>subst e;rw[z.2.2];exact d.num _ o
   .exact d.num j o
  .intro x l;rcases zt l with l|rfl
   .exact d.back x l
   .have ht:vT (Ed w ((L.drop c).set i (n8 a (fW b).2 L[c+i])) (vR w))=vT w:=rfl;rw[ht];have ho:=p (c+i) ab ab;have q:=d.at0 _ (List.getElem_mem (show c+i<L.length by omega));have A:=d.back _ (List.getElem_mem (show c+i<L.length by omega));rw[y] at A ⊢;exact Yl q.2 ho A
  .refine⟨by rw[fF],λj o hj'=>?_⟩;rw[f j o];split
   .simp_all
   .exact⟨rfl,rfl⟩
 .exact⟨L,c,d,aO0 L⟩
theorem mC.add{v:bT}{L:List dD}{m:Nat}{at':Int}(h:mC v L m at'){p:bc} :
  mC (V2 v (p,v.2.2.1,at',false,false,0,Dk)) (L++[(p,v.2.2.1,at',false,false,0,Dk)]) m at':=by
 have d:=h.m
 have b:(L++[(p,v.2.2.1,at',false,false,0,Dk)]).length=L.length+1:=aw
 refine⟨?_,?_,ab,?_,h.t,h.now,?_,?_,?_,?_⟩
 .show vW v++_=_;rw[h.w,List.drop_append_of_le_length d]
 .show vR v=_;rw[h.r,List.take_append_of_le_length d];exact List.map_congr_left λx _=>M6 rfl rfl rfl x
 .rw[b];show v.2.2.1+1=_;rw[h.next];omega
 .intro x a;rcases fC.1 a with a|a
  .exact h.at0 x a
  .simp at a;subst a;exact⟨h.now.1,gH _⟩
 .intro i j hj hij;by_cases c:j<L.length
  .rw[List.getElem_append_left c,List.getElem_append_left ab];exact h.srt i j c hij
  .have e:j=L.length:=ab;subst e;simp;by_cases h2:i<L.length
   .rw[List.getElem_append_left h2];exact (h.at0 _ (List.getElem_mem _)).2
   .simp_all
 .intro i hi;by_cases c:i<L.length
  .rw[List.getElem_append_left c];exact h.num i c
  .have e:i=L.length:=ab;subst e;rw[List.getElem_append_right ab];simp;exact h.next
 .intro x a;rcases fC.1 a with a|a
  .exact h.back x a
  .simp_all
abbrev Ii:OT := .pair cI (.pair cI (.pair cI (.pair db (.pair cI (.pair (.row 106 qV) (.row 86 rW))))))
def jb(v:bT):Prop:=((vW v).length:Int)<=100000/\((vR v).length:Int)<=100000
def br0:Ct:=⟨[.val db],[.val .bool],λd=>[],λd=>((decide (f9 d.1),()),())⟩
def Ht:=∀(a:Int),ft (aQ a) (∀(b:Bool),b=eG (jg a)->bO b/\br b/\bn b (decide (jg a=3))=decide (f9 a))
theorem bN0:
 Ht:= by
 delta bO aQ aT bn br ai aD Ht eG ft
 unfold f9
 grind
theorem S7:aB 59 br0.spec:=aF Tryz.func59 (am aC I6) aS bN0
def bp1:Ct:=⟨[.val cI,.val cI,.val db,.val cI],[.agg iT,.val cI],λd=>[],λd=>((nW d.1 d.2.1 d.2.2.1 d.2.2.2.1,m8 d.1 d.2.1 d.2.2.1 d.2.2.2.1,()),())⟩
def IE(a b c d:Int):=au ( !decide (f9 a)) ((0,0,0,0,0,[],[])=nW b c a d/\10=m8 b c a d) ((b,c,0,a,d,[],[])=nW b c a d/\0=m8 b c a d)
def JH(a b c d:Int):=(0,0,0,0,0,[],[])=nW a b c d/\1=m8 a b c d
theorem bx7:
 ∀(a b c d:Int),bG a b (aQ c) (ai (aq d))->True-> ∀(e:Bool),e=dw a->jW e (bn e (decide (16<=a))) (au (bn e (decide (16<=a))) (JH a b c d) (IE c a b d)) (∀(f:Bool),f=dw b->jW f (bn f (decide (64<=b))) (au (bn f (decide (64<=b))) (JH a b c d) (IE c a b d)) (nt (av d 1) (av 1073741824 d) (JH a b c d) (IE c a b d))):= by
  delta aq aI bO aQ aT bG bn br nt IE ai aD dw av JH jW
  intro x x_1 x_2 x_3 _ _
  have bad:m8 x x_1 x_2 x_3≠0->((0,0,0,0,0,[],[]):bT)=nW x x_1 x_2 x_3:=λh=>by rw[nW,ah h];rfl
  have l:¬ AW x x_1 x_3->((0,0,0,0,0,[],[]):bT)=nW x x_1 x_2 x_3/\(1:Int)=m8 x x_1 x_2 x_3:=λh=>by
   have e:m8 x x_1 x_2 x_3=1:=by rw[m8,aj h]
   simp_all
  have b2:AW x x_1 x_3→¬ f9 x_2->((0,0,0,0,0,[],[]):bT)=nW x x_1 x_2 x_3/\(10:Int)=m8 x x_1 x_2 x_3:=λh k=>by
   have e:m8 x x_1 x_2 x_3=10:=by rw[m8,ah (λq=>q h),aj k]
   simp_all
  have b3:AW x x_1 x_3->f9 x_2->((x,x_1,0,x_2,x_3,[],[]):bT)=nW x x_1 x_2 x_3/\(0:Int)=m8 x x_1 x_2 x_3:=λh k=>by
   have e:m8 x x_1 x_2 x_3=0:=by rw[m8,ah (λq=>q h),ah (λq=>q k)]
   exact⟨by rw[nW,aj e],e.symm⟩
  have c:∀{a b:Bool}{y n:Prop},((a=true∨b=true)->y)->(a=false->b=false->n)->au (bif a then true else b) y n:=λ{a b y n} hy hn=>by
   cases a <;> cases b <;> simp_all[au]
  (repeat (intro (f:Bool) (d:f=_);(repeat refine⟨(by first|(simp;done)),?_⟩);subst d))
  refine c (λg=>?_) (λg o=>?_)
  .refine c (λ_=>l (λq=>?_)) (λk1 k2=>?_)
   .obtain⟨p,r,s⟩:=q;simp at g;omega
   .simp_all
  (repeat (intro (f:Bool) (d:f=_);(repeat refine⟨(by first|(simp;done)),?_⟩);subst d))
  refine c (λi=>?_) (λi t=>?_)
  .refine c (λ_=>l (λq=>?_)) (λk1 k2=>?_)
   .obtain⟨p,r,s⟩:=q;simp at i;omega
   .simp_all
  (repeat (intro (f:Bool) (d:f=_);(repeat refine⟨(by first|(simp;done)),?_⟩);subst d))
  refine c (λj=>l (λq=>?_)) (λj u=>?_)
  .obtain⟨p,r,s⟩:=q;simp at j;omega
  .have v:AW x x_1 x_3:=by
    simp at g o i t j u
    exact⟨⟨g,o⟩,⟨i,t⟩,j,u⟩
   refine ay (λm=>b2 v (by simpa using m)) (λm=>b3 v (by simpa using m))
theorem Xz:aB 27 bp1.spec:=aF Tryz.func27 (am aC S7) aS bx7
def ar3:Ct:=⟨[.val cI,.val cI],[.val cI],λd=>[],λd=>((rU d.1 d.2.1,()),())⟩
theorem bQ0:
 ∀(a b:Int),dI a b->True->ap (ap (a*1000)+b)=rU a b:= by
  delta ap aq aI dI ai
  intro x x_1 _ _
  rfl
theorem a52:aB 70 ar3.spec:=aF Tryz.func70 aC aS bQ0
def bl9:Ct:=⟨[.val (.sl qV)],[.own 106 qV],λd=>[(d.1.length:Int)<=100000],λd=>((d.1,()),())⟩
def IY(a:List dD):=a.length<=maxLen/\ ∀(b:dD),b∈a->(aQ b.1.1/\aQ b.1.2.1/\bG b.1.2.2.1 b.1.2.2.2.1 (aq b.1.2.2.2.2.1) (aq b.1.2.2.2.2.2))/\bG b.2.1 b.2.2.1 True (True/\aq b.2.2.2.2.2.1/\aQ b.2.2.2.2.2.2.1/\bG b.2.2.2.2.2.2.2.1 b.2.2.2.2.2.2.2.2.1 (aq b.2.2.2.2.2.2.2.2.2.1) (aq b.2.2.2.2.2.2.2.2.2.2.1/\aq b.2.2.2.2.2.2.2.2.2.2.2))
theorem a99:
 ∀(a:List dD),ai (IY a)->ae a<=100000->jj (a.length=0) ([]=a) (bv ((0+a.length)*120)/\a=a):= by
  delta ae aq aI aQ bG bv IY ai jj aD
  rintro x ⟨⟨hl,-⟩,-⟩ h b hb
  refine ay (λh1=>?_) (λh1=>⟨ab,rfl⟩)
  simp_all
theorem Xr:aB 107 bl9.spec:=aF Tryz.func107 aC aS a99
def a86:Ct:=⟨[.val (.sl rW)],[.own 86 rW],λd=>[(d.1.length:Int)<=100000],λd=>((d.1,()),())⟩
def Bl(a:List kG):=a.length<=maxLen/\ ∀(b:kG),b∈a->bG b.1 b.2.1 (aq b.2.2.1) (aq b.2.2.2.1/\aQ b.2.2.2.2.1/\bG b.2.2.2.2.2.1 b.2.2.2.2.2.2.1 (aq b.2.2.2.2.2.2.2.1) (True/\True/\aq b.2.2.2.2.2.2.2.2.2.2.1/\aQ b.2.2.2.2.2.2.2.2.2.2.2.1/\bG b.2.2.2.2.2.2.2.2.2.2.2.2.1 b.2.2.2.2.2.2.2.2.2.2.2.2.2.1 (aq b.2.2.2.2.2.2.2.2.2.2.2.2.2.2.1) (aq b.2.2.2.2.2.2.2.2.2.2.2.2.2.2.2.1/\aq b.2.2.2.2.2.2.2.2.2.2.2.2.2.2.2.2)))
theorem bk6:
 ∀(a:List kG),ai (Bl a)->ae a<=100000->jj (a.length=0) ([]=a) (bv ((0+a.length)*128)/\a=a):= by
  delta ae aq aI aQ Bl bG bv ai jj aD
  rintro x ⟨⟨hl,-⟩,-⟩ h b hb
  refine ay (λh1=>?_) (λh1=>⟨ab,rfl⟩)
  simp_all
theorem Rp:aB 108 a86.spec:=aF Tryz.func108 aC aS bk6
def a22:Ct:=⟨[.agg iT],[.agg Ii],λd=>[jb d.1],λd=>((d.1,()),())⟩
def xn(a:bT):=ae (vW a)<=100000/\ae (vR a)<=100000
theorem bk4:
 ∀(a:bT),ai (CT.wf iT a)->xn a->ae a.2.2.2.2.2.1<=100000/\ae a.2.2.2.2.2.2<=100000/\a=a:= by
  delta ae ai xn
  intro d _ h
  exact⟨h.1,h.2,rfl⟩
theorem PX:aB 69 a22.spec:=aF Tryz.func69 (am (am aC Xr) Rp) aS bk4
def ZO:Ct:=⟨[.agg iT,.agg qV],[.agg rW],λd=>[],λd=>((nG d.1 d.2.1,()),())⟩
theorem YN:
 ∀(a:bT)(b:dD),CT.wf iT a/\ai (CT.wf qV b)->True->au ( !b.2.2.2.1) ((a.1,a.2.1,b.2.1,b.2.2.1,b.1.2.1,b.1.2.2.1,b.1.2.2.2.1,b.1.2.2.2.2.2,b.2.2.2.1,b.2.2.2.2.1,ap (b.2.2.1+a.2.2.2.2.1),b.2.2.2.2.2.2)=nG a b) ((a.1,a.2.1,b.2.1,b.2.2.1,b.1.2.1,b.1.2.2.1,b.1.2.2.2.1,b.1.2.2.2.2.2,b.2.2.2)=nG a b):= by
  delta ap ai
  intro d x _ _
  unfold nG
  refine ay (λh=>?_) (λh=>?_)
  .simp_all
  .grind
theorem Wo:aB 117 ZO.spec:=aF Tryz.func117 aC aS YN
def bH3:Ct:=⟨[.agg qV,.box 60 iT,.box 3 cI],[.val .bool],λd=>[],λd=>((iH (vT d.2.1) d.2.2.1 d.1,()),(d.2.1,d.2.2.1,()))⟩
theorem a34:
 ∀(a:dD)(b:bT)(c:Int),CT.wf qV a/\CT.wf iT b/\ai (aq c)->True->decide (ap (a.2.2.1+b.2.2.2.2.1)<=c)=iH (vT b) c a/\b=b/\c=c:= by
  delta ap aq aI ai
  intro d v x _ _
  exact⟨rfl,rfl,rfl⟩
theorem Zw:aB 51 bH3.spec:=aF Tryz.func51 aC aS a34
def ae4:Ct:=⟨[.agg qV],[.val .bool],λd=>[],λd=>((true,()),())⟩
theorem az8:
 ∀(a:dD),ft (CT.wf qV a) true:= by
  delta ai ft
  intro d _ _
  rfl
theorem aO4:aB 74 ae4.spec:=aF Tryz.func74 aC aS az8
def Q5:Ct:=⟨[.agg iT,.fn 51 2,.box 60 iT,.box 3 cI],[.agg Ii],λd=>[jb d.1],λd=>((Cy d.1 (iH (vT d.2.2.1) d.2.2.2.1),()),(d.2.2.1,d.2.2.2.1,()))⟩
def bA8:bp Q5.ps->bI:=(λd=>{loops:=(bt 4 (λS=>{ι:=Int×(List dD)×(List kG),qn:=pI,μ:=λi=>((vW d.1).length-i.1).toNat,inv:=λi=>0<=i.1/\i.1<=(vW d.1).length/\i.2.1=((vW d.1).take i.1.toNat).filter (λx => !(iH (vT d.2.2.1) d.2.2.2.1) x)/\i.2.2=vR d.1++(((vW d.1).take i.1.toNat).filter (iH (vT d.2.2.1) d.2.2.2.1)).map (nG d.1),keep:=[1,2,4,11,12],slots:=λi=>[(13,.int .i64 i.1),(5,.own 524288 17)],keepN:=[160,80,1048576,1048577],names:=λi=>[(48,.live (.cells 60 [.int .i64 d.1.1,.int .i64 d.1.2.1,.int .i64 d.1.2.2.1,.int .u32 d.1.2.2.2.1,.int .i64 d.1.2.2.2.2.1,.own 160 17,.own 524289 17])),(524288,.live (.row 106 qV i.2.1)),(524289,.live (.row 86 rW i.2.2))]}) bZ)})
def C1(a b:Int)(c:List dD)(d e:Int):=[(a,b,(af c d).2.1,(af c d).2.2.1,(af c d).1.2.1,(af c d).1.2.2.1,(af c d).1.2.2.2.1,(af c d).1.2.2.2.2.2,(af c d).2.2.2.1,(af c d).2.2.2.2.1,if (af c d).2.2.2.1 then (af c d).2.2.2.2.2.1 else ap ((af c d).2.2.1+e),(af c d).2.2.2.2.2.2)]
def Eo(a:Int)(b:bT)(c:List dD)(d:bT)(e:Int)(f:List kG):=bM a (ae (vW b)) (c=List.filter (λ(g:dD)=> !iH (vT d) e g) (take a.toNat (vW b))) (f=vR b++List.map (nG b) (List.filter (iH (vT d) e) (take a.toNat (vW b))))
def pt(a b:Prop):=ce 0 0 0 0 0 a b
theorem bi8:
 ∀(a b:bT)(c:Int),CT.wf iT a/\True/\CT.wf iT b/\ai (aq c)->xn a->jb a/\(∃(d:Int) (e:List dD) (f:List kG),Eo d a e b c f/\aA (ae a.2.2.2.2.2.1) (0=d) (a.2.2.2.2.2.1=a.2.2.2.2.2.1/\pt (b.1=b.1) (gQ b.2.1 b.2.2.1 b.2.2.2.1 b.2.2.2.2.1 (b.2.2.2.2.2.1=b.2.2.2.2.2.1) (b.2.2.2.2.2.2=b.2.2.2.2.2.2/\ce c a.1 a.2.1 a.2.2.1 a.2.2.2.1 (a.2.2.2.2.1=a.2.2.2.2.1) (e=[]/\ai (a.2.2.2.2.2.2=f))))))/\ ∀(d:Int)(e:List dD)(f:List kG),Eo d a e b c f->fE d (ae a.2.2.2.2.2.1) (d<ae a.2.2.2.2.2.1) (au (iH (vT b) c (af a.2.2.2.2.2.1 d)) (bv ((f.length+length (C1 a.1 a.2.1 a.2.2.2.2.2.1 d a.2.2.2.2.1))*128)/\ ∃(g:Int) (h:List dD) (i:List kG),Eo g a h b c i/\aZ (ae (vW a)) g d/\aA (ae a.2.2.2.2.2.1) (aY d g) (a.2.2.2.2.2.1=a.2.2.2.2.2.1/\pt (b.1=b.1) (gQ b.2.1 b.2.2.1 b.2.2.2.1 b.2.2.2.2.1 (b.2.2.2.2.2.1=b.2.2.2.2.2.1)
 (b.2.2.2.2.2.2=b.2.2.2.2.2.2/\ce c a.1 a.2.1 a.2.2.1 a.2.2.2.1 (a.2.2.2.2.1=a.2.2.2.2.1) (e=h/\ai (f++C1 a.1 a.2.1 a.2.2.2.2.2.1 d a.2.2.2.2.1=i)))))) (bv ((e.length+length [af a.2.2.2.2.2.1 d])*120)/\ ∃(g:Int) (h:List dD) (i:List kG),Eo g a h b c i/\aZ (ae (vW a)) g d/\aA (ae a.2.2.2.2.2.1) (aY d g) (a.2.2.2.2.2.1=a.2.2.2.2.2.1/\pt (b.1=b.1) (gQ b.2.1 b.2.2.1 b.2.2.2.1 b.2.2.2.2.1 (b.2.2.2.2.2.1=b.2.2.2.2.2.1) (b.2.2.2.2.2.2=b.2.2.2.2.2.2/\ce c a.1 a.2.1 a.2.2.1 a.2.2.2.1 (a.2.2.2.2.1=a.2.2.2.2.1) (e++[af a.2.2.2.2.2.1 d]=h/\ai (f=i))))))) ((a.1,a.2.1,a.2.2.1,a.2.2.2.1,a.2.2.2.2.1,e,f)=Cy a (iH (vT b) c)) (b=b/\c=c):= by
  delta af ae ap aq aI aU aA aZ cu ao C1 bv Eo fE pt aY ce ai gQ xn bM av
  rintro d v x ⟨-,-,-,-,-⟩⟨hw,hr⟩
  refine⟨⟨hw,hr⟩,⟨0,[],vR d,⟨ab,ab,aw,aw⟩,aK⟩,?_⟩
  rintro k ls rs ⟨c,k1,rfl,rfl⟩
  have eW:d.2.2.2.2.2.1=vW d:=rfl
  rw[eW]
  refine bP (λa=>?_) (λa=>?_)
  .have f:=Kj c a (iH (vT v) x)
   have g:=Kj c a (λy => !iH (vT v) x y)
   have l1:=List.length_filter_le (iH (vT v) x) ((vW d).take k.toNat)
   have l2:=List.length_filter_le (λy => !iH (vT v) x y) ((vW d).take k.toNat)
   have l3:((vW d).take k.toNat).length<=(vW d).length:=by rw[dG];omega
   refine⟨c,a,ay (λb=>?_) (λb=>?_)⟩
   .rw[b] at f
    rw[show (!iH (vT v) x ((vW d).getD k.toNat default))=false by rw[b];rfl] at g
    refine⟨by simp;omega,k+1,_,_,⟨ab,ab,rfl,rfl⟩,ab,rfl,aL ab ab,?_⟩
    (repeat refine tW ?_)
    refine⟨?_,?_,aN⟩
    .rw[g];simp
    .rw[f];simp;rfl
   .rw[b] at f
    refine⟨by simp;omega,k+1,_,_,⟨ab,ab,rfl,rfl⟩,ab,rfl,aL ab ab,?_⟩
    simp_all
  .have e:(vW d).take k.toNat=vW d:=fH ab
   rw[e]
   exact⟨rfl,rfl,rfl⟩
theorem au2:aB 50 Q5.spec:=aF Tryz.func50 (am (am (am aC PX) Zw) Wo) bA8 bi8
def WJ:Ct:=⟨[.agg iT,.fn 74 0],[.agg Ii],λd=>[jb d.1],λd=>((Cy d.1 (λ_=>true),()),())⟩
def Zo:bp WJ.ps->bI:=(λd=>{loops:=(bt 4 (λS=>{ι:=Int×(List dD)×(List kG),qn:=pI,μ:=λi=>((vW d.1).length-i.1).toNat,inv:=λi=>0<=i.1/\i.1<=(vW d.1).length/\i.2.1=((vW d.1).take i.1.toNat).filter (λx => !(λ_=>true) x)/\i.2.2=vR d.1++(((vW d.1).take i.1.toNat).filter (λ_=>true)).map (nG d.1),keep:=[1,2,4,11,12],slots:=λi=>[(13,.int .i64 i.1),(5,.own 524288 17)],keepN:=[160,80],names:=λi=>[(48,.live (.cells 60 [.int .i64 d.1.1,.int .i64 d.1.2.1,.int .i64 d.1.2.2.1,.int .u32 d.1.2.2.2.1,.int .i64 d.1.2.2.2.2.1,.own 160 17,.own 524289 17])),(524288,.live (.row 106 qV i.2.1)),(524289,.live (.row 86 rW i.2.2))]}) bZ)})
def JL(a:Int)(b:bT)(c:List dD)(d:List kG):=bM a (ae (vW b)) (c=List.filter (λ(e:dD)=> !true) (take a.toNat (vW b))) (d=vR b++List.map (nG b) (List.filter (λ(e:dD)=>true) (take a.toNat (vW b))))
theorem ab3:
 ∀(a:bT),CT.wf iT a/\ai True->xn a->jb a/\(∃(b:Int) (c:List dD) (d:List kG),JL b a c d/\aA (ae a.2.2.2.2.2.1) (0=b) (a.2.2.2.2.2.1=a.2.2.2.2.2.1/\pt (a.1=a.1) (gQ a.2.1 a.2.2.1 a.2.2.2.1 a.2.2.2.2.1 (c=[]) (ai (a.2.2.2.2.2.2=d)))))/\ ∀(b:Int)(c:List dD)(d:List kG),JL b a c d->au (av b (ae a.2.2.2.2.2.1)) (bu b (ae a.2.2.2.2.2.1) (bv ((d.length+length (C1 a.1 a.2.1 a.2.2.2.2.2.1 b a.2.2.2.2.1))*128)) (∃(e:Int) (f:List dD) (g:List kG),JL e a f g/\aZ (ae (vW a)) e b/\aA (ae a.2.2.2.2.2.1) (aY b e) (a.2.2.2.2.2.1=a.2.2.2.2.2.1/\pt (a.1=a.1) (gQ a.2.1 a.2.2.1 a.2.2.2.1 a.2.2.2.2.1 (c=f) (ai (d++C1 a.1 a.2.1 a.2.2.2.2.2.1 b a.2.2.2.2.1=g)))))) ((a.1,a.2.1,a.2.2.1,a.2.2.2.1,a.2.2.2.2.1,c,d)=Cy a (λ(e:dD)=>true)):= by
  delta af ae ap aU aA aZ cu ao C1 bv pt JL aY ce ai gQ xn bu bM av
  rintro d-⟨hw,hr⟩
  refine⟨⟨hw,hr⟩,⟨0,[],vR d,⟨ab,ab,aw,aw⟩,aK⟩,?_⟩
  rintro k ls rs ⟨b,k1,rfl,rfl⟩
  have eW:d.2.2.2.2.2.1=vW d:=rfl
  rw[eW]
  refine bP (λa=>?_) (λa=>?_)
  .have f1:=Kj b a (λ_=>true)
   have f2:=Kj b a (λ_ => !true)
   have l1:=List.length_filter_le (λ_=>true) ((vW d).take k.toNat)
   have l3:((vW d).take k.toNat).length<=(vW d).length:=by rw[dG];omega
   refine⟨b,a,?_⟩
   refine⟨by simp;omega,k+1,_,_,⟨ab,ab,rfl,rfl⟩,ab,rfl,aL ab ab,?_⟩
   (repeat refine tW ?_)
   refine⟨?_,?_,aN⟩
   .rw[f2];simp
   .rw[f1];simp;rfl
  .have e:(vW d).take k.toNat=vW d:=fH ab
   rw[e]
   rfl
theorem bv5:aB 50 WJ.spec:=aF Tryz.func50 (am (am (am aC PX) aO4) Wo) Zo ab3
def a05:Ct:=⟨[.agg iT,.val cI],[.agg Ii],λd=>[jb d.1],λd=>((dN d.1 d.2.1,()),())⟩
theorem Z8:
 ∀(a:bT)(b:Int),CT.wf iT a/\ai (aq b)->xn a->jb a/\(a.1,a.2.1,a.2.2.1,a.2.2.2.1,a.2.2.2.2.1,List.filter (λ(c:dD)=> !iH (vT a) b c) (vW a),vR a++List.map (nG a) (List.filter (iH (vT a) b) (vW a)))=dN a b:= by
  delta ae aq aI ai xn
  rintro d x-⟨hw,hr⟩
  exact⟨⟨hw,hr⟩,rfl⟩
theorem NL:aB 19 a05.spec:=aF Tryz.func19 (am aC au2) aS Z8
def ay2:Ct:=⟨[.agg iT],[.agg iT],λd=>[jb d.1],λd=>((wQ d.1,()),())⟩
theorem Y1:
 ∀(a:bT),ai (CT.wf iT a)->xn a->jb a/\(a.1,a.2.1,a.2.2.1,a.2.2.2.1,a.2.2.2.2.1,List.filter (λ(b:dD)=> !true) (vW a),vR a++List.map (nG a) (List.filter (λ(b:dD)=>true) (vW a)))=wQ a:= by
  delta ae ai xn
  rintro d-⟨hw,hr⟩
  exact⟨⟨hw,hr⟩,rfl⟩
theorem bb6:aB 34 ay2.spec:=aF Tryz.func34 (am aC bv5) aS Y1
def aW8:Ct:=⟨[.agg iT,.val cI,.val db,.val cI,.val cI,.val cI],[.agg iT,.own 5 bq,.val cI],λd=>[jb d.1,0<=d.1.2.2.1],λd=>((oo d.1 d.2.1 d.2.2.1 d.2.2.2.1 d.2.2.2.2.1 d.2.2.2.2.2.1,nU d.1 d.2.1 d.2.2.1 d.2.2.2.1 d.2.2.2.2.1 d.2.2.2.2.2.1,kz d.1 d.2.1 d.2.2.1 d.2.2.2.1 d.2.2.2.2.1 d.2.2.2.2.2.1,()),())⟩
theorem bc9:
 ∀(a:bT)(b c d e f:Int),CT.wf iT a/\aq b/\aQ c/\bG d e (aq f) True->jb a/\0<=a.2.2.1->au (bJ (cP (a.2.2.2.1,c,d,e,0,f))) (jb a/\a=oo a b c d e f/\fM (nU a b c d e f)/\cP (a.2.2.2.1,c,d,e,0,f)=kz a b c d e f) (au ( !decide (f9 c)) (jb a/\a=oo a b c d e f/\fM (nU a b c d e f)/\10=kz a b c d e f) (jb a/\ ∀(g h i j k:Int)(l:List dD)(m:List kG),(g,h,i,j,k,l,m)=dN a b->oa (decide (1000<=a.2.2.1)) (decide (256<=ae l)) (jb a/\a=oo a b c d e f/\fM (nU a b c d e f)/\5=kz a b c d e f) (au (bJ (cP (a.2.2.2.1,c,d,e,rU a.2.1 a.2.2.1,f))) (jb a/\a=oo a b c d e f/\fM (nU a b c d e f)/\cP (a.2.2.2.1,c,d,e,rU a.2.1 a.2.2.1,f)=kz a b c d e f) (bv ((l.length+length [((a.2.2.2.1,c,d,e,rU a.2.1 a.2.2.1,f),a.2.2.1,b,false,false,(0:Int),pc)])*120)/\(g,h,ap (i+1),j,k,l++[((a.2.2.2.1,c,d,e,rU
 a.2.1 a.2.2.1,f),a.2.2.1,b,false,false,0,pc)],m)=oo a b c d e f/\build (a.2.2.2.1,c,d,e,rU a.2.1 a.2.2.1,f)=nU a b c d e f/\0=kz a b c d e f)))):= by
  delta ae ap aq aI bO aQ aT bG bn cX br bv bJ oa ai aD bW pc fM lR
  rintro d x dst c f a ⟨-,-,-,-,-,-,-⟩⟨⟨hw,hr⟩,hn⟩
  have j:jb d:=⟨hw,hr⟩
  have l:kz d x dst c f a≠0->d=oo d x dst c f a/\([]:ac)=nU d x dst c f a:=λh=>by
   rw[oo,nU,ah h,ah h];exact⟨rfl,rfl⟩
  refine ay (λh=>⟨j,?_⟩) (λh=>?_)
  .have h:¬ cP (uo d dst c f a 0)=0:=ke h
   have e:kz d x dst c f a=cP (uo d dst c f a 0):=by rw[kz,aj h]
   obtain⟨n,o⟩:=l (by rw[e];exact h)
   exact⟨n,o,e.symm⟩
  have h:cP (uo d dst c f a 0)=0:=kS h
  refine ay (λg=>⟨j,?_⟩) (λg=>⟨j,?_⟩)
  .have g:¬ f9 dst:=by simpa using g
   have e:kz d x dst c f a=10:=by rw[kz,ah (λk=>k h),aj g]
   grind
  have g:f9 dst:=by simpa using g
  rintro a1 a2 p a4 a5 a6 a7 ha
  have t:p=d.2.2.1:=fj (λq:bT=>q.2.2.1) ha
  have e6:a6=vW (dN d x):=fj (λq:bT=>q.2.2.2.2.2.1) ha
  (repeat (intro (b_:Bool) (r:b_=_);(repeat refine⟨(by first|(simp;done)),?_⟩);subst r))
  refine ay (λm=>⟨j,?_⟩) (λm=>?_)
  .have m:1000<=d.2.2.1∨256<=(vW (dN d x)).length:=by
    grind
   have e:kz d x dst c f a=5:=by rw[kz,ah (λk=>k h),ah (λk=>k g),aj m]
   grind
  have m:¬ (1000<=d.2.2.1∨256<=(vW (dN d x)).length):=by
   grind
  have s:kz d x dst c f a=cP (uo d dst c f a (rU d.2.1 d.2.2.1)):=by rw[kz,ah (λk=>k h),ah (λk=>k g),ah m]
  refine ay (λi=>⟨j,?_⟩) (λi=>⟨?_,?_⟩)
  .have i:¬ cP (uo d dst c f a (rU d.2.1 d.2.2.1))=0:=ke i
   obtain⟨n,o⟩:=l (by rw[s];exact i)
   exact⟨n,o,s.symm⟩
  .grind
  .have i:cP (uo d dst c f a (rU d.2.1 d.2.2.1))=0:=kS i
   have e:kz d x dst c f a=0:=s.trans i
   refine⟨?_,by rw[nU,aj e];rfl,e.symm⟩
   rw[oo,aj e,← ha]
   have:IntKind.i64.wrap (p+1)=p+1:=aL (by rw[t];omega) (by rw[t];omega)
   rw[this]
   rfl
theorem VX:aB 32 aW8.spec:=aF Tryz.func32 (am (am (am (am (am (am aC Jp) PX) S7) (Ct.named NL)) a52) bn0) aS bc9
def aF4:Ct:=⟨[.agg qV,.box 82 r8],[.val .bool],λd=>[],λd=>((tT d.2.1 d.1,()),(d.2.1,()))⟩
def pn(a b c d:Int)(e f:Bool):=decide (a=b)&&(decide (c=d)&&(e&&f))
theorem ad0:
 ∀(a:dD)(b c d e f g:Int),CT.wf qV a/\rg b c d e f g->True->pn a.1.1 b a.1.2.1 c (decide (a.1.2.2.1=d)) (pn a.1.2.2.2.1 e a.1.2.2.2.2.1 f (decide (g=g)) true)=tT (b,c,d,e,f,g) a/\(b,c,d,e,f,g)=(b,c,d,e,f,g):= by
  delta aq aI aQ bG pn ai aD rg
  unfold tT tH
  simp_all
theorem bL4:aB 116 aF4.spec:=aF Tryz.func116 aC aS ad0
def Sr:Ct:=⟨[.val (.sl qV),.fn 116 1,.box 82 r8],[.val cI],λd=>[],λd=>((if d.1.findIdx (tT d.2.2.1)<d.1.length then (d.1.findIdx (tT d.2.2.1):Int) else -1,()),(d.2.2.1,()))⟩
def aa7:bp Sr.ps->bI:=(λd=>{loops:=(bt 2 (λS=>{ι:=Int,μ:=λi=>(d.1.length-i).toNat,inv:=λi=>0<=i/\i<=d.1.length∧∀ x∈d.1.take i.toNat,tT d.2.2.1 x=false,keep:=[0,1,6,7],slots:=λi=>[(8,.int .i64 i)],keepN:=[1048576]}) bZ)})
def Fe(a b c d e f:Int)(g:List dD):=if List.findIdx (tT (a,b,c,d,e,f)) g<g.length then (List.findIdx (tT (a,b,c,d,e,f)) g:Int) else (-1:Int)
def Jj(a:Int)(b:List dD)(c d:Int)(e:bU9):=ao a (a<=ae b) (∀(f:dD),f∈take a.toNat b->tT (c,d,e) f=false)
theorem at2:
 ∀(a:List dD)(b c d e f g:Int),IY a/\True/\rg b c d e f g->True->(∃(h:Int),Jj h a b c (d,e,f,g)/\a=a/\a=a/\aA (ae a) (0=h) (ce b c d e f (g=g) True))/\ ∀(h:Int),Jj h a b c (d,e,f,g)->fE h (ae a) (h<ae a) (au (tT (b,c,d,e,f,g) (af a h)) (h=Fe b c d e f g a/\(b,c,d,e,f,g)=(b,c,d,e,f,g)) (∃(i:Int),Jj i a b c (d,e,f,g)/\aZ (ae a) i h/\a=a/\a=a/\aA (ae a) (aY h i) (ce b c d e f (g=g) True))) ((-1)=Fe b c d e f g a) ((b,c,d,e,f,g)=(b,c,d,e,f,g)):= by
  delta af ae ap aq aI aQ aU bG aA aZ cu ao fE IY aY ce ai aD Fe rg av Jj
  rintro l a b c e f g ⟨⟨hl,-⟩,-⟩ -
  simp only[maxLen] at hl
  refine⟨⟨0,⟨ab,ab,aw⟩,aK⟩,?_⟩
  rintro j ⟨h,j1,i⟩
  refine bP (λd=>?_) (λd=>?_)
  .refine⟨h,d,ay (λk=>?_) (λk=>?_)⟩
   .exact⟨EA h d i k,rfl⟩
   .exact⟨j+1,⟨ab,ab,xV h d i k⟩,ab,rfl,rfl,rfl,aL ab ab,aK⟩
  .exact⟨Ks d i,rfl⟩
theorem bj2:aB 115 Sr.spec:=aF Tryz.func115 (am aC bL4) aa7 at2
def be4:Ct:=⟨[.agg iT,.val cI,.val (.sl bq)],[.agg iT,.val cI],λd=>[jb d.1,(d.2.2.1.length:Int)<=1000000],λd=>((kf d.1 d.2.1 d.2.2.1,qf d.1 d.2.1 d.2.2.1,()),())⟩
def yQ(a:List dD)(b:Int):=set a b.toNat ((af a b).1,(af a b).2.1,(af a b).2.2.1,true,(af a b).2.2.2.2)
def zo(a:List dD)(b c:Int):=set (yQ a b) b.toNat ((af (yQ a b) b).1,(af (yQ a b) b).2.1,(af (yQ a b) b).2.2.1,(af (yQ a b) b).2.2.2.1,(af (yQ a b) b).2.2.2.2.1,c,(af (yQ a b) b).2.2.2.2.2.2)
theorem aG2:
 ∀(a:bT)(b:Int)(c:ac),CT.wf iT a/\aq b/\ai (aV c)->jb a/\bY c->jb a/\ ∀(d e f g h:Int)(i:List dD)(j:List kG),(d,e,f,g,h,i,j)=dN a b->bY c/\ ∀(k l m n o p q r s t u v w:Int),(k,l,m,n,o,p)=(fW c).1/\(q,r,s,t,u,v)=(fW c).2/\w=pL c-> ∀(x:Bool),x=bJ w->cX x (fZ x) (br x/\au (bn x (bW k g)) ((d,e,f,g,h,i,j)=kf a b c/\17=qf a b c) (∀(y z A B C D E:Int),y=Fe k l m n o p i/\(z,A,B,C,D,E)=(k,l,m,n,o,p)->au (dw y) ((d,e,f,g,h,i,j)=kf a b c/\8=qf a b c) (fw y (ae i) ( !(af i y).2.2.2.1) ((d,e,f,g,h,set (zo i y b) y.toNat ((af (zo i y b) y).1,(af (zo i y b) y).2.1,(af (zo i y b) y).2.2.1,(af (zo i y b) y).2.2.2.1,(af (zo i y b) y).2.2.2.2.1,(af (zo i y b) y).2.2.2.2.2.1,q,r,s,t,u,v),j)=kf a b c/\0=qf a b c) (au ( !pn (af i y).2.2.2.2.2.2.1 q (af i y).2.2.2.2.2.2.2.1 r (decide ((af i
 y).2.2.2.2.2.2.2.2.1=s)) (pn (af i y).2.2.2.2.2.2.2.2.2.1 t (af i y).2.2.2.2.2.2.2.2.2.2.1 u (decide ((af i y).2.2.2.2.2.2.2.2.2.2.2=v)) true)) ((d,e,f,g,h,set i y.toNat ((af i y).1,(af i y).2.1,(af i y).2.2.1,(af i y).2.2.2.1,true,(af i y).2.2.2.2.2),j)=kf a b c/\0=qf a b c) ((d,e,f,g,h,i,j)=kf a b c/\0=qf a b c))))):= by
  delta af ae aq aI bO aV zo aT bn cX ao br fZ bJ pn yQ bY ai aD bW Fe dw d7 av fw
  rintro d x b ⟨-,-,-,-⟩⟨hs,hl⟩
  refine⟨hs,?_⟩
  rintro a1 a2 a3 a4 a5 a6 a7 ha
  have e4:a4=Hl d:=fj (λq:bT=>q.2.2.2.1) ha
  have e6:a6=vW (dN d x):=fj (λq:bT=>q.2.2.2.2.2.1) ha
  refine⟨hl,?_⟩
  rintro p1 p2 p3 p4 p5 p6 c1 c2 c3 c4 c5 c6 e ⟨hp,hc,rfl⟩
  have ep1:p1=(fW b).1.1:=fj (λq:bc=>q.1) hp
  (repeat (intro (b_:Bool) (hb_:b_=_);(repeat refine⟨(by first|(simp;done)|(rw[hb_];simp +contextual;done)),?_⟩);subst hb_))
  have bad:qf d x b≠0->(a1,a2,a3,a4,a5,a6,a7)=kf d x b:=λh=>by rw[kf,ah h];exact ha
  refine vL (λh=>?_) (λh1 h2=>?_)
  .have e:qf d x b=17:=by
    rw[qf,aj]
    simp_all
   simp_all
  have h1:pL b=0:=kS h1
  have h2:p1=a4:=kS h2
  have hno:¬ (pL b≠0∨(fW b).1.1≠Hl d):=by rw[← ep1,← e4];exact λk=>k.elim (λk=>k h1) (λk=>k h2)
  rintro i q1 q2 q3 q4 q5 q6 ⟨hi,-⟩
  rw[hp] at hi
  have er:a6.findIdx (tT (fW b).1)=xr (dN d x) (fW b).1:=by rw[e6];rfl
  rw[er] at hi
  refine ay (λh=>?_) (λh=>?_)
  .have h:=aX h
   have hlt:¬ xr (dN d x) (fW b).1<a6.length:=λk=>by rw[aj k] at hi;omega
   have e:qf d x b=8:=by rw[qf,ah hno,ah (by rw[← e6];exact hlt)]
   simp_all
  have h:=bi h
  have hlt:xr (dN d x) (fW b).1<a6.length:=i5 λk=>by rw[ah k] at hi;omega
  have hin:i.toNat=xr (dN d x) (fW b).1:=ab
  have e:qf d x b=0:=by rw[qf,ah hno,aj (by rw[← e6];exact hlt)]
  have ev:kf d x b=(a1,a2,a3,a4,a5,a6.set i.toNat (n8 x (fW b).2 (a6.getD i.toNat default)),a7):=by
   rw[kf,aj e,hin,← ha];rfl
  refine⟨ab,ab,?_⟩
  rw[ev,e,← hc]
  have hil:i.toNat<a6.length:=ab
  generalize i.toNat=n at hil
  simp only[List.set_set,lD hil]
  have self:a6.set n (a6.getD n default)=a6:=by
   simp_all
  generalize hy:a6.getD n default=y at *
  refine ay (λh=>⟨?_,aN⟩) (λh=>ay (λh2=>⟨?_,aN⟩) (λh2=>⟨?_,aN⟩))
  .have h:y.2.2.2.1=false:=by simpa only[pF] using h
   rw[n8,aj h]
  .have h:y.2.2.2.1=true:=by simpa only[zR] using h
   rw[n8,ah (by rw[h];decide),aj]
   grind
  .have h:y.2.2.2.1=true:=by simpa only[zR] using h
   have k:y.2.2.2.2.2.2=(c1,c2,c3,c4,c5,c6):=by
    simp at h2
    obtain⟨k1,k2,k3,k4,k5,k6⟩:=h2
    simp only[Prod.ext_iff]
    exact⟨k1,k2,k3,k4,k5,k6⟩
   rw[n8,ah (by rw[h];decide),ah (λq=>q k),self]
theorem V8:aB 49 be4.spec:=aF Tryz.func49 (am (am (am aC (Ct.named NL)) (Ct.named ZH)) (Ct.named bj2)) aS aG2
end Go.RS
