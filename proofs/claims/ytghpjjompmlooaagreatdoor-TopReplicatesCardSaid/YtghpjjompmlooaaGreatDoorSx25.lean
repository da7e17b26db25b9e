/- Node1: what a node does with a packet: the program. -/
import Derived.Test.YtghpjjompmlooaaGreatDoorHome
import Derived.Test.YtghpjjompmlooaaGreatDoorSx32
import Derived.Laws.CopyRow
import Derived.Test.YtghpjjompmlooaaGreatDoorWire
import Derived.LaidMore
import Derived.Stop.Joined
import Derived.FnData
import Derived.MakeChecks
import Derived.Lib.LaidU8
set_option maxRecDepth 100000
set_option linter.all false
open Int (toNat)
open List (length set replicate)
open Bool renaming false->ct2,or_eq_false_iff->cI2,true->cs8
open Decidable renaming decide->cs7
open Go renaming DataW->cJ2,MemPlace->cL7,TypeId->ct5
open Go.Builtin renaming copy_->cx4
open Go.DataW renaming agg->cY0,lit->cX9,trod->cC2
open Go.IntKind renaming i64->ct0,u64->ct9,wrap->ct1
open Go.MakeChecks renaming laidMetH_plain->cZ0
open Inhabited renaming default->cs5
open Int renaming tdiv->cB9,tmod->cx2,tmod_lt_of_pos->cF1,tmod_nonneg->cE8,toNat->M
open List renaming all_eq_true->cz6,all_takeWhile->cR6,cons->cF0,drop_drop->cA1,eq_of_mem_replicate->cN1,getD->T,getElem_cons_succ->cO1,getElem_cons_zero->cC7,head_cons->cU2,head_dropWhile_not->cN6,length->V,map_nil->cH3,mem_iff_getElem->cv8,mem_map->cv1,pairwise_append->cw9,pairwise_cons->cu1,sum_cons->cN2
open List.Pairwise renaming nil->cx5
open Option renaming some->cV4,some->cs6
namespace Go.RS
open Go.SX Go.Proofs
abbrev aX7:OT := .pair (.dat (.sl fD)) (.pair cI (.pair (.row 3 cI) (.pair AE cI)))
abbrev uQ:OT := .pair eM (.pair aX7 (.pair cI (.pair cI (.pair (.dat (.sl bc)) qh))))
abbrev D6:CT := .pair cI (.sl bc)
abbrev fS:Type:=ar×NState×Int×Int×Z×cX
abbrev sO:Type:=NState×bL9×Int
def rb(h:cX):Int:=h.2.2.2.2.2.1
def mJ(h:cX):Int:=h.2.2.2.2.2.2
def CI(h:cX):Int:=h.2.1
def ET(h:cX):Int:=h.2.2.1
def IL(h:cX):Int:=h.2.2.2.1
def dV(x:ar)(link:Int):Int:=max (f8 x link) 0
def adr(x:ar)(i:Int):Int:=if i<0∨V (aV x)<=i then 0 else (T (aV x) (M i) cs5).1
def iU(s:NState)(a:Int):Bool:=ur (cR s) a&&cs7 (0<(cD (cR s) a).2.1.length)
def pickI(x:ar)(s:NState)(r:Rt)(k:lZ):Int:=(rE r.2.2 (LO x) k (p9 s) (V r.2.1)).1
def mW(x:ar)(s:NState)(r:Rt)(k:lZ):Int:=if V r.2.1=1 then T r.2.1 0 cs5 else T r.2.1 (M (pickI x s r k)) cs5
def ae0(s:NState)(b:Int):NState:=(s.1,s.2.1,s.2.2.1,s.2.2.2.1,b)
def jI(s:NState)(r:Rt):NState:=if V r.2.1=1 then s else ae0 s (ct0.wrap (p9 s+1))
def Iu(s:NState)(t:aq4):NState:=(s.1,s.2.1,s.2.2.1,t,s.2.2.2.2)
def ww(l:Z)(i:Int):Z:=if i<V l then l.set (M i) (ct0.wrap (T l (M i) cs5+1)) else l
def aq3(s:NState)(i:Int):NState:=(s.1,ct0.wrap (s.2.1+1),ww s.2.2.1 i,s.2.2.2)
def pb(x:ar)(i link:Int):Int:=if pI x=2 then adr x (f8 x link) else if pI x=3 then kX x else if pI x=4 then wj x else adr x i
def kf(w:fS)(s:NState):fS:=(w.1,s,w.2.2)
def IU(w:fS)(h:cX):fS:=(w.1,w.2.1,w.2.2.1,w.2.2.2.1,w.2.2.2.2.1,h)
def mE:Int×Z:=(0,[])
def oQ(w:fS):aq4×Bool:=lx (nI w.1) (zt w.2.1) w.2.2.2.1
def pc(w:fS):NState:=aq3 (Iu w.2.1 (oQ w).1) (dV w.1 w.2.2.1)
def pV(w:fS):Rt:=cD (cR w.2.1) (rb w.2.2.2.2.2)
def mL(B:Int->Int->Z)(w:fS):Int:=mW w.1 (pc w) (pV w) (jY (B (adr w.1 (dV w.1 w.2.2.1)) 0))
def jz(w:fS):Int:=pj w.1 (Iu w.2.1 (oQ w).1) (dV w.1 w.2.2.1) w.2.2.2.1 (CI w.2.2.2.2.2) (rb w.2.2.2.2.2)
def lG(B:Int->Int->Z)(w:fS)(own:Int):Int:=if own=0 then pb w.1 (dV w.1 w.2.2.1) (mL B w) else own
def fU(B:Int->Int->Z)(E:Int->Int)(w:fS)(own:Int):sO :=
 if own=0/\pF w.1=cs8 then (w.2.1,mE,4)
 else if E 0≠0 then (w.2.1,mE,6)
 else if iU w.2.1 (rb w.2.2.2.2.2)=ct2 then (w.2.1,mE,8)
 else if (oQ w).2=ct2 then (Iu w.2.1 (oQ w).1,mE,5)
 else (jI (pc w) (pV w),(mL B w,B (lG B w own) (jz w)),2)
def jO(w:fS)(f i:Int):Z:=md w.2.2.2.2.1 f i (mD w.1)
def qr(w:fS)(i:Int):Int:=jE w.2.2.2.2.1 i (mD w.1)
def ie(w:fS)(kind code f i:Int):Z:=lH w.2.2.2.2.1 f kind code i (mD w.1)
def qg(w:fS)(kind code i:Int):Int:=jf w.2.2.2.2.1 kind code i (mD w.1)
def ly(w:fS):sO :=
 if w.2.2.1 = -1∨qr w 0≠0 then (w.2.1,mE,1)
 else fU (jO w) (qr w) w (if IL w.2.2.2.2.2=17 then 0 else mJ w.2.2.2.2.2)
def ic(w:fS):sO :=
 if w.2.2.1 ≠ -1/\g7 w.1=ct2/\ET w.2.2.2.2.2<2 then fU (ie w 11 0) (qg w 11 0) w 0
 else if iU w.2.1 (mJ w.2.2.2.2.2)=ct2 then (if w.2.2.1 = -1 then (w.2.1,mE,8) else fU (ie w 3 0) (qg w 3 0) w 0)
 else (jI w.2.1 (cD (cR w.2.1) (mJ w.2.2.2.2.2)),(mW w.1 w.2.1 (cD (cR w.2.1) (mJ w.2.2.2.2.2)) (jY w.2.2.2.2.1),if w.2.2.1 ≠ -1/\g7 w.1=ct2 then mg w.2.2.2.2.1 else w.2.2.2.2.1),0)
def iG(w:fS):sO :=
 if eO w.2.2.2.2.1≠0 then (w.2.1,mE,6)
 else if qw w.1 (mJ (cN w.2.2.2.2.1).1)=cs8 then ly (IU w (cN w.2.2.2.2.1).1)
 else if qy w.1=cs8/\w.2.2.1 ≠ -1 then (w.2.1,mE,6)
 else ic (IU w (cN w.2.2.2.2.1).1)
def gX(x:ar)(s:NState)(link at':Int)(b:Z):sO:=iG (x,s,link,at',b,yz)
def tF(w:fS):Prop:=dY (cR w.2.1)/\okL (cR w.2.1)/\(V w.2.2.2.2.1:Int)<=1000000
theorem af5{way seed k count n}(h:1<=n):0<=(rE way seed k count n).1/\(rE way seed k count n).1<n:=by
 have h1:=IA seed k
 have h2:=IA seed (k.1,k.2.1,0,0,0)
 unfold rE
 split
 .omega
 next hn=>
  split
  .exact⟨cE8 _ h1.1,cF1 _ Y⟩
  .split
   .exact⟨cE8 _ h2.1,cF1 _ Y⟩
   .exact⟨cE8 _ Y,cF1 _ Y⟩
theorem Ns{r s}{o:bL9}{y:Int}(w)(e:r=(s,o,y)):o=r.2.1/\y=r.2.2/\kf w s=kf w r.1:=by subst e;exact⟨rfl,rfl,rfl⟩
variable{a:Int}
theorem Di{B E w}(h:a=0/\pF w.1=cs8):fU B E w a=(w.2.1,mE,4):=by unfold fU;rw[ao h]
theorem CM{B E w}(h:¬ (a=0/\pF w.1=cs8))(h1:E 0≠0):fU B E w a=(w.2.1,mE,6):=by unfold fU;rw[I h,ao h1]
theorem Fa{B E w}(h:¬ (a=0/\pF w.1=cs8))(h1:¬ E 0≠0)(h2:iU w.2.1 (rb w.2.2.2.2.2)=ct2):fU B E w a=(w.2.1,mE,8):=by
 unfold fU;rw[I h,I h1,ao h2]
theorem E0{B E w}(h:¬ (a=0/\pF w.1=cs8))(h1:¬ E 0≠0)(h2:¬ iU w.2.1 (rb w.2.2.2.2.2)=ct2)(h3:(oQ w).2=ct2):fU B E w a=(Iu w.2.1 (oQ w).1,mE,5):=by
 unfold fU;rw[I h,I h1,I h2,ao h3]
theorem F3{B E w}(h:¬ (a=0/\pF w.1=cs8))(h1:¬ E 0≠0)(h2:¬ iU w.2.1 (rb w.2.2.2.2.2)=ct2)(h3:¬ (oQ w).2=ct2) :
  fU B E w a=(jI (pc w) (pV w),(mL B w,B (lG B w a) (jz w)),2):=by
 unfold fU;rw[I h,I h1,I h2,I h3]
theorem Iv{s}(h:¬ iU s a=ct2):(cD (cR s) a).2.1≠[]:=by
 intro e;apply h;unfold iU;rw[e];simp
theorem QM(p):(V (gW p):Int)<=1500:=by
 unfold gW
 split
 next h=>
  unfold jB at h;split at h
  .cases h
  .split at h
   .cases h
   .rw[cw,zc];omega
 .simp
theorem XE(b)(src kind code id a):(V (lH b src kind code id a):Int)<=1500:=by
 unfold lH;split
 .exact QM _
 .simp
theorem a67(b)(src id a):(V (md b src id a):Int)<=1500:=by
 unfold md;split
 .split
  .exact QM _
  .split
   .exact XE ..
   .exact QM _
 .simp
theorem ae8(w)(f i):(V (jO w f i):Int)<=1500:=a67 ..
theorem QA(w)(k c f i):(V (ie w k c f i):Int)<=1500:=XE ..
theorem KZ(x)(k):0<=dV x k:=by unfold dV;omega
variable{i:Int}
theorem So{l}(h:i<V l):ww l i=l.set (M i) (ct0.wrap (T l (M i) cs5+1)):=ao h
theorem YL{l}(h:¬ i<V l):ww l i=l:=I h
def bd5:Ct:=⟨[.box 324 uQ],[.val cI],λd=>[],λd=>((dV d.1.1 d.1.2.2.1,()),(d.1,()))⟩
def qk(a:ar)(b:List cF)(c:Int)(d:Z×aq4×Int)(e f:Int)(g:Z×cX):=(a,(b,c,d),e,f,g)=(a,(b,c,d),e,f,g)
def lI(a b:Int)(c:Z)(d:cX):=bJ a b (aM c) (CT.wf qh d)
theorem aN1:
 ∀ a b c d e f g h i j k,dN (CT.wf eM a/\iD b c d e f g/\lI h i j k) (max (f8 a h) 0=dV a h/\qk a b c (d,(e,f),g) h i (j,k)):= by
  delta aq aH aM dh dC cU aT bJ iD J qk dN lI aF
  intros
  exact⟨rfl,rfl⟩
theorem ap0:aB 314 bd5.spec:=aG Tryz.func314 (C aC JD) aS aN1
def b05:Ct:=⟨[.box 324 uQ,.val cI],[.val dB],λd=>[],λd=>((adr d.1.1 d.2.1,()),(d.1,()))⟩
theorem bX1:
 ∀ a b c d e f g h i j k l,(CT.wf eM a/\iD b c d e f g/\lI h i j k)/\J (aq l)->True-> ∀ m,m=da l->cQ m (bN m) (cQ m (gv m) (bw m/\au (br m (cs7 (O a.1<=l))) (0=adr a l/\qk a b c (d,(e,f),g) h i (j,k)) (bP l (O a.1) ((N a.1 l).1=adr a l) (qk a b c (d,(e,f),g) h i (j,k))))):= by
  delta N O aq aH aM dh dC bN aK cU aT br am cQ bw bJ gv iD J dE qk da av bP lI aF
  rintro d x x1 x2 x3 x4 x5 x6 x7 x8 h i - -
  (repeat (refine cG ?_;repeat refine cH ?_))
  refine rI (λho=>?_) (λa c=>?_)
  .unfold adr
   rw[ao (by obtain q|q:=ho <;> have:=aX q <;> first|exact .inl this|exact .inr this)]
   exact⟨rfl,rfl⟩
  .have a:=bg a
   have c:=bg c
   refine⟨Y,Y,?_,rfl⟩
   unfold adr
   rw[I (by rintro (q|q);exact a q;exact c q)]
   rfl
theorem Tu:aB 315 b05.spec:=aG Tryz.func315 aC aS bX1
def by0:Ct:=⟨[.box 324 uQ,.agg fD,.val (.sl bc)],[.val cI],λd=>[d.2.1.2.1≠[],(V d.2.2.1:Int)<=1000000],λd=>((mW d.1.1 d.1.2.1 d.2.1 (jY d.2.2.1),()),(kf d.1 (jI d.1.2.1 d.2.1),()))⟩
theorem aI6:
 ∀ a b c d e f g h i j k l m n o p,(CT.wf eM a/\iD b c d e f g/\lI h i j k)/\dC l m n o/\J (aM p)->n≠[]/\bV p->au (gO (O n)) (bP 0 (O n) (N n 0=mW a (b,c,d,(e,f),g) ((l,m),n,o) (jY p)) ((a,(b,c,d,(e,f),g),h,i,j,k)=kf (a,(b,c,d,(e,f),g),h,i,j,k) (jI (b,c,d,(e,f),g) ((l,m),n,o)))) (aR p/\bP (rE o a.2.2.2.2.2.2.2.2.2.2.2.2.2.2 (jY p) g (O n)).1 (O n) (N n (rE o a.2.2.2.2.2.2.2.2.2.2.2.2.2.2 (jY p) g (O n)).1=mW a (b,c,d,(e,f),g) ((l,m),n,o) (jY p)) ((a,(b,c,d,(e,f),aA g),h,i,j,k)=kf (a,(b,c,d,(e,f),g),h,i,j,k) (jI (b,c,d,(e,f),g) ((l,m),n,o)))):= by
  delta N O ap aq aH aM dh dC cU aT aR am bJ bV aA iD J bP gO lI aF
  rintro d x x1 x2 x3 x4 x5 x6 x7 x8 h r1 r2 f bl b-⟨hn,hb⟩
  have e:1<=(V f:Int):=by cases f with
   | nil=>exact absurd rfl hn
   | cons a l=>simp;omega
  refine bT (λh1=>?_) (λh1=>?_)
  .have c:V f=1:=Y
   refine⟨Y,Y,?_,?_⟩
   .unfold mW;rw[ao c];rfl
   .unfold jI;rw[ao c];rfl
  .have c:¬ V f=1:=Y
   have g:=af5 (way:=bl) (seed:=d.2.2.2.2.2.2.2.2.2.2.2.2.2.2) (k:=jY b) (count:=x5) e
   refine⟨Y,g.1,g.2,?_,?_⟩
   .unfold mW;rw[I c];rfl
   .unfold jI;rw[I c];rfl
theorem QW:aB 289 by0.spec:=aG Tryz.func289 (C (C aC b06) ch4) aS aI6
def a86:Ct:=⟨[.box 324 uQ,.val dB],[.agg fD,.val .bool],λd=>[dY (cR d.1.2.1),okL (cR d.1.2.1)],λd=>((cD (cR d.1.2.1) d.2.1,iU d.1.2.1 d.2.1,()),(d.1,()))⟩
theorem bS0:
 ∀ a b c d e f g h i j k l,(CT.wf eM a/\iD b c d e f g/\lI h i j k)/\J (aT l)->(dY (cR (b,c,d,(e,f),g))/\O (cR (b,c,d,(e,f),g))<=134217728/\ ∀ m,m∈cR (b,c,d,(e,f),g)->aR m.2.1)->dY b/\okL b/\ ∀ m,m=ur b l->fp m m (aK m) (m->m) (cD b l=cD (cR (b,c,d,(e,f),g)) l/\bq m (av 0 (O (cD b l).2.1))=iU (b,c,d,(e,f),g) l/\qk a b c (d,(e,f),g) h i (j,k)):= by
  delta O aq aH aM dh dC aK cU aT aR cB bq bJ fp iD J qk av lI aF
  rintro d x x1 x2 x3 x4 x5 x6 x7 x8 h a-⟨h1,h2⟩
  refine⟨h1,h2,?_⟩
  (repeat (refine cG ?_;repeat refine cH ?_))
  refine⟨rfl,?_,rfl⟩
  show (bif ur x a then cs7 (0<((cD x a).2.1.length:Int)) else ct2)=(ur x a&&cs7 (0<(cD x a).2.1.length))
  cases ur x a <;> simp
theorem Tp:aB 288 a86.spec:=aG Tryz.func288 (C aC b53) aS bS0
def bd4:Ct:=⟨[.val dB,.val cI,.box 322 (.ref 324 uQ),.box 3 cI,.box 3 cI],[.own 5 bc,.val cI],λd=>[(V d.2.2.1.2.2.2.2.1:Int)<=1000000],λd=>((ie d.2.2.1 d.2.2.2.1 d.2.2.2.2.1 d.1 d.2.1,qg d.2.2.1 d.2.2.2.1 d.2.2.2.2.1 d.2.1,()),(d.2.2.1,d.2.2.2.1,d.2.2.2.2.1,()))⟩
theorem cc8:
 ∀ a b c d e f g h i j k l m n o,aT a/\aq b/\(CT.wf eM c/\iD d e f g h i/\lI j k l m)/\dP n o->bV l->aR l/\lH l a n o b c.2.2.2.2.2.2.2.2.2.2.2.2.2.1=ie (c,(d,e,f,(g,h),i),j,k,l,m) n o a b/\jf l n o b c.2.2.2.2.2.2.2.2.2.2.2.2.2.1=qg (c,(d,e,f,(g,h),i),j,k,l,m) n o b/\qk c d e (f,(g,h),i) j k (l,m)/\n=n/\o=o:= by
  delta O aq aH aM dh dC cU aT aR bJ bV iD J dP qk lI aF
  rintro x x1 d y y1 y2 y3 y4 y5 y6 y7 b h k c-hb
  exact⟨Y,rfl,rfl,rfl,rfl,rfl⟩
theorem bg3:aB 318 bd4.spec:=aG Tryz.func318 (C aC aq2) aS cc8
def bQ8:Ct:=⟨[.box 324 uQ,.val cI,.val cI],[.fn 318 3,.box 322 .ali,.box 3 cI,.box 3 cI],λd=>[],λd=>(((),(),d.2.1,d.2.2.1,()),(d.1,()))⟩
theorem bv1:
 ∀ a b c d e f g h i j k l m,(CT.wf eM a/\iD b c d e f g/\lI h i j k)/\dP l m->True->()=()/\()=()/\l=l/\m=m/\qk a b c (d,(e,f),g) h i (j,k):= by
  delta aq aH aM dh dC cU aT bJ iD J dP qk lI aF
  simp_all
theorem a04:aB 287 bQ8.spec:=aG Tryz.func287 aC aS bv1
def cl6:Ct:=⟨[.val dB,.val cI,.box 322 (.ref 324 uQ)],[.own 5 bc,.val cI],λd=>[(V d.2.2.1.2.2.2.2.1:Int)<=1000000],λd=>((jO d.2.2.1 d.1 d.2.1,qr d.2.2.1 d.2.1,()),(d.2.2.1,()))⟩
theorem aP5:
 ∀ a b c d e f g h i j k l m,aT a/\aq b/\J (CT.wf eM c/\iD d e f g h i/\lI j k l m)->bV l->aR l/\md l a b c.2.2.2.2.2.2.2.2.2.2.2.2.2.1=jO (c,(d,e,f,(g,h),i),j,k,l,m) a b/\jE l b c.2.2.2.2.2.2.2.2.2.2.2.2.2.1=qr (c,(d,e,f,(g,h),i),j,k,l,m) b/\qk c d e (f,(g,h),i) j k (l,m):= by
  delta O aq aH aM dh dC cU aT aR bJ bV iD J qk lI aF
  rintro x x1 d y y1 y2 y3 y4 y5 y6 y7 b h-hb
  exact⟨Y,rfl,rfl,rfl⟩
theorem W3:aB 284 cl6.spec:=aG Tryz.func284 (C aC b88) aS aP5
def aW9:Ct:=⟨[.box 324 uQ,.val cI,.val cI],[.val dB],λd=>[],λd=>((pb d.1.1 d.2.1 d.2.2.1,()),(d.1,()))⟩
theorem bw8:
 ∀ a b c d e f g h i j k l m,(CT.wf eM a/\iD b c d e f g/\lI h i j k)/\dP l m->True->au (cs7 (a.2.2.2.2.2.1=2)) (adr a (f8 a m)=pb a l m/\qk a b c (d,(e,f),g) h i (j,k)) (au (cs7 (a.2.2.2.2.2.1=3)) (a.2.1=pb a l m/\qk a b c (d,(e,f),g) h i (j,k)) (au (cs7 (a.2.2.2.2.2.1=4)) (a.2.2.2.2.2.2.1=pb a l m/\qk a b c (d,(e,f),g) h i (j,k)) (adr a l=pb a l m/\qk a b c (d,(e,f),g) h i (j,k)))):= by
  delta aq aH aM dh dC cU aT bJ iD J dP qk lI aF
  rintro d x x1 x2 x3 x4 x5 x6 x7 x8 h i l - -
  unfold pb pI kX wj
  refine ay (λh1=>?_) (λh1=>?_)
  .simp_all
  refine ay (λh2=>?_) (λh2=>?_)
  .simp_all
  refine ay (λh3=>?_) (λh3=>?_)
  .simp_all
  simp_all
theorem ag0:aB 317 aW9.spec:=aG Tryz.func317 (C (C aC JD) Tu) aS bw8
def Z5:Ct:=⟨[.box 324 uQ,.fn 284 1,.box 322 .ali,.val dB],[.agg D6,.val cI],λd=>[tF d.1],λd=>(((fU (jO d.1) (qr d.1) d.1 d.2.2.2.1).2.1,(fU (jO d.1) (qr d.1) d.1 d.2.2.2.1).2.2,()),(kf d.1 (fU (jO d.1) (qr d.1) d.1 d.2.2.2.1).1,(),()))⟩
def ch8:bG Z5.ps->bL:=(λd=>{cuts:=(bz 17 (λS=>{ι:=Int×Z×aq4,qn:=ot,inv:=λi=>fU (jO d.1) (qr d.1) d.1 d.2.2.2.1=(jI (pc d.1) (pV d.1),(mL (jO d.1) d.1,(jO d.1) (lG (jO d.1) d.1 d.2.2.2.1) (jz d.1)),2)/\(pV d.1).2.1≠[]/\(cR d.1.2.1,i.1,i.2.1,i.2.2,p9 d.1.2.1)=pc d.1,keep:=[0,1,2,6,9,11],slots:=λi=>[(8,.int .i64 (dV d.1.1 d.1.2.2.1)),(13,.int .i64 (jz d.1))],keepN:=[112,192,560,1048577],names:=λi=>[(1048576,.live (.cells 324 (cS eM d.1.1++([.dsl fD (cR d.1.2.1),.int .i64 i.1,.own 524288 1]++(cS AE i.2.2++([.int .i64 (p9 d.1.2.1),.int .i64 d.1.2.2.1,.int .i64 d.1.2.2.2.1,.dsl bc d.1.2.2.2.2.1]++cS qh d.1.2.2.2.2.2)))))),(524288,.live (.row 3 cI i.2.1))]}) cm)})
def jT(a:List cF)(b:Int)(c:Z)(d e f:Int)(g:cX):=cD (cR (a,b,c,(d,e),f)) g.2.2.2.2.2.1
def j5(a:ar)(b:NState×Int×Int×Z×cX)(c:List cF×Int×Z×aq4×Int)(d:Int×Int×Z×cX)(e:Int):=fU (jO (a,b)) (qr (a,b)) (a,c,d) e
def Gy(a b:Int)(c:Z)(d:cX)(e f:Z):=bp a b (c=c) (bh d.1 d.2.1 d.2.2.1 (d.2.2.2.1=d.2.2.2.1) (d.2.2.2.2.1=d.2.2.2.2.1/\bp d.2.2.2.2.2.1 d.2.2.2.2.2.2 (e=f) True))
def qp(a:ar)(b c d:Int):=lx a.2.2.2.2.2.2.2.2.2.2.1 (b,c) d
def qj(a:Z)(b:Int):=set a (M b) (aA (N a b))
def zn(a:List cF)(b:Int)(c:Z)(d e f:Int)(g:Z):=dY (cR (a,b,c,(d,e),f))/\okL (cR (a,b,c,(d,e),f))/\bV g
def zO(a:ar)(b:List cF)(c:cs4)(d:Int)(e:Int×Z×cX):=jO (a,(b,c),d,e) (adr a (dV a d)) 0
def BN(a:ar)(b:List cF)(c:cs4)(d:Int)(e:Int×Z×cX):=jI (pc (a,(b,c),d,e)) (pV (a,(b,c),d,e))
def FA(a b:Bool)(c d:Prop):=∀(e:Bool),e=a->fp e e (aK e) (e->aK e) ((e->e)/\au (bq e b) c d)
def BF(a:ar×NState×Int×Int×Z×cX)(b:List cF×Int×Z×aq4×Int)(c:Int)(d:Z×aq4×Int)(e:ar)(f:NState×Int×Int×Z×cX):=(pV a).2.1≠[]/\(cR b,c,d)=pc (e,f)
def Gb(a:List cF)(b:Int)(c:Z)(d e f:Int)(g:cX):=(jT a b c d e f g).2.1=(jT a b c d e f g).2.1
def FE(a:List cF)(b:Int)(c:Z)(d e f:Int)(g:cX):=(jT a b c d e f g).2.2=(jT a b c d e f g).2.2
def MB(a:ar)(b:NState×Int×Int×Z×cX)(c:List cF×Int×Z×aq4×Int)(d:Int×Int×Z×cX)(e:ar×NState×Int×Int×Z×cX)(f:Int):=((mL (jO (a,b)) (a,c,d),jO (a,c,d) (lG (jO e) (a,b) f) (jz (a,b))),(2:Int))
theorem aB7:
 ∀ a b c d e f g h i j k l,(CT.wf eM a/\iD b c d e f g/\lI h i j k)/\True/\True/\J (aT l)->zn b c d e f g j->FA (aY l) a.2.2.2.2.2.2.2.2.2.2.2.1 (fA=(j5 a ((b,c,d,(e,f),g),h,i,j,k) (b,c,d,(e,f),g) (h,i,j,k) l).2.1/\4=(j5 a ((b,c,d,(e,f),g),h,i,j,k) (b,c,d,(e,f),g) (h,i,j,k) l).2.2/\(a,(b,c,d,(e,f),g),h,i,j,k)=kf (a,(b,c,d,(e,f),g),h,i,j,k) (j5 a ((b,c,d,(e,f),g),h,i,j,k) (b,c,d,(e,f),g) (h,i,j,k) l).1/\()=()) (bV j/\au ( !aY (qr (a,(b,c,d,(e,f),g),h,i,j,k) 0)) (fA=(j5 a ((b,c,d,(e,f),g),h,i,j,k) (b,c,d,(e,f),g) (h,i,j,k) l).2.1/\6=(j5 a ((b,c,d,(e,f),g),h,i,j,k) (b,c,d,(e,f),g) (h,i,j,k) l).2.2/\(a,(b,c,d,(e,f),g),h,i,j,k)=kf (a,(b,c,d,(e,f),g),h,i,j,k) (j5 a ((b,c,d,(e,f),g),h,i,j,k) (b,c,d,(e,f),g) (h,i,j,k) l).1/\()=()) (dY (cR (b,c,d,(e,f),g))/\okL (cR
 (b,c,d,(e,f),g))/\au ( !iU (b,c,d,(e,f),g) k.2.2.2.2.2.1) (fA=(j5 a ((b,c,d,(e,f),g),h,i,j,k) (b,c,d,(e,f),g) (h,i,j,k) l).2.1/\8=(j5 a ((b,c,d,(e,f),g),h,i,j,k) (b,c,d,(e,f),g) (h,i,j,k) l).2.2/\(a,(b,c,d,(e,f),g),h,i,j,k)=kf (a,(b,c,d,(e,f),g),h,i,j,k) (j5 a ((b,c,d,(e,f),g),h,i,j,k) (b,c,d,(e,f),g) (h,i,j,k) l).1/\()=()) (au ( !(qp a e f i).2) (fA=(j5 a ((b,c,d,(e,f),g),h,i,j,k) (b,c,d,(e,f),g) (h,i,j,k) l).2.1/\5=(j5 a ((b,c,d,(e,f),g),h,i,j,k) (b,c,d,(e,f),g) (h,i,j,k) l).2.2/\(a,(b,c,d,(qp a e f i).1,g),h,i,j,k)=kf (a,(b,c,d,(e,f),g),h,i,j,k) (j5 a ((b,c,d,(e,f),g),h,i,j,k) (b,c,d,(e,f),g) (h,i,j,k) l).1/\()=()) (au (av (dV a h) (O d)) (am (dV a h) (dV a h<O d) (am (dV a h) (dV a h<O d) (∃ m n o,(j5 a ((b,c,d,(e,f),g),h,i,j,k) (b,c,d,(e,f),g) (h,i,j,k) l=(BN a b (c,d,(e,f),g) h (i,j,k),MB a
 ((b,c,d,(e,f),g),h,i,j,k) (b,c,d,(e,f),g) (h,i,j,k) (a,(b,c,d,(e,f),g),h,i,j,k) l)/\BF (a,(b,c,d,(e,f),g),h,i,j,k) (b,c,d,(e,f),g) m (n,o,p9 (b,c,d,(e,f),g)) a ((b,c,d,(e,f),g),h,i,j,k))/\bp l (dV a h) (pj a (b,c,d,(qp a e f i).1,g) (dV a h) i k.2.1 k.2.2.2.2.2.1=jz (a,(b,c,d,(e,f),g),h,i,j,k)) (bh 0 (jT b c d e f g k).1.1 (jT b c d e f g k).1.2 (Gb b c d e f g k) (FE b c d e f g k/\zO a b (c,d,(e,f),g) h (i,j,k)=zO a b (c,d,(e,f),g) h (i,j,k)/\AM a (t9 a) (b=cR (b,c,d,(e,f),g)/\aA c=m/\(qp a e f i).1.1=o.1/\(qp a e f i).1.2=o.2/\g=p9 (b,c,d,(e,f),g)/\Gy h i j k (qj d (dV a h)) n)))))) (∃ m n o,(j5 a ((b,c,d,(e,f),g),h,i,j,k) (b,c,d,(e,f),g) (h,i,j,k) l=(BN a b (c,d,(e,f),g) h (i,j,k),MB a ((b,c,d,(e,f),g),h,i,j,k) (b,c,d,(e,f),g) (h,i,j,k) (a,(b,c,d,(e,f),g),h,i,j,k) l)/\BF
 (a,(b,c,d,(e,f),g),h,i,j,k) (b,c,d,(e,f),g) m (n,o,p9 (b,c,d,(e,f),g)) a ((b,c,d,(e,f),g),h,i,j,k))/\bp l (dV a h) (pj a (b,c,d,(qp a e f i).1,g) (dV a h) i k.2.1 k.2.2.2.2.2.1=jz (a,(b,c,d,(e,f),g),h,i,j,k)) (bh 0 (jT b c d e f g k).1.1 (jT b c d e f g k).1.2 (Gb b c d e f g k) (FE b c d e f g k/\zO a b (c,d,(e,f),g) h (i,j,k)=zO a b (c,d,(e,f),g) h (i,j,k)/\AM a (t9 a) (b=cR (b,c,d,(e,f),g)/\aA c=m/\(qp a e f i).1.1=o.1/\(qp a e f i).1.2=o.2/\g=p9 (b,c,d,(e,f),g)/\Gy h i j k d n))))/\ ∀ m n o,j5 a ((b,c,d,(e,f),g),h,i,j,k) (b,c,d,(e,f),g) (h,i,j,k) l=(BN a b (c,d,(e,f),g) h (i,j,k),MB a ((b,c,d,(e,f),g),h,i,j,k) (b,c,d,(e,f),g) (h,i,j,k) (a,(b,c,d,(e,f),g),h,i,j,k) l)/\BF (a,(b,c,d,(e,f),g),h,i,j,k) (b,c,d,(e,f),g) m (n,o,p9 (b,c,d,(e,f),g)) a ((b,c,d,(e,f),g),h,i,j,k)->(jT
 b c d e f g k).2.1≠[]/\bV (zO a b (c,d,(e,f),g) h (i,j,k))/\au (aY l) (bV j/\(mW a (b,m,n,o,g) (jT b c d e f g k) (jY (zO a b (c,d,(e,f),g) h (i,j,k))),jO (a,jI (b,m,n,o,g) (jT b c d e f g k),h,i,j,k) (pb a (dV a h) (mW a (b,m,n,o,g) (jT b c d e f g k) (jY (zO a b (c,d,(e,f),g) h (i,j,k))))) (jz (a,(b,c,d,(e,f),g),h,i,j,k)))=(j5 a ((b,c,d,(e,f),g),h,i,j,k) (b,c,d,(e,f),g) (h,i,j,k) l).2.1/\2=(j5 a ((b,c,d,(e,f),g),h,i,j,k) (b,c,d,(e,f),g) (h,i,j,k) l).2.2/\(a,jI (b,m,n,o,g) (jT b c d e f g k),h,i,j,k)=kf (a,(b,c,d,(e,f),g),h,i,j,k) (j5 a ((b,c,d,(e,f),g),h,i,j,k) (b,c,d,(e,f),g) (h,i,j,k) l).1/\()=()) (bV j/\(mW a (b,m,n,o,g) (jT b c d e f g k) (jY (zO a b (c,d,(e,f),g) h (i,j,k))),jO (a,jI (b,m,n,o,g) (jT b c d e f g k),h,i,j,k) l (jz (a,(b,c,d,(e,f),g),h,i,j,k)))=(j5 a ((b,c,d,(e,f),g),h,i,j,k)
 (b,c,d,(e,f),g) (h,i,j,k) l).2.1/\2=(j5 a ((b,c,d,(e,f),g),h,i,j,k) (b,c,d,(e,f),g) (h,i,j,k) l).2.2/\(a,jI (b,m,n,o,g) (jT b c d e f g k),h,i,j,k)=kf (a,(b,c,d,(e,f),g),h,i,j,k) (j5 a ((b,c,d,(e,f),g),h,i,j,k) (b,c,d,(e,f),g) (h,i,j,k) l).1/\()=()))))):= by
  delta N O ap aq aH aM dh dC D0 aK bh cU aT bp yS cB bq am yJ t9 jT bJ aY bV j5 aA fp iD J Gy qp qj fA zn av zO BN FA AM BF Gb FE lI MB aF
  rintro d x z A F G u v Q x8 h i-⟨hs,hl,K⟩
  obtain⟨w,a⟩:∃ w,w=(d,(x,z,A,(F,G),u),v,Q,x8,h):=⟨_,rfl⟩
  have e0:d.2.2.2.2.2.2.2.2.2.2.2.1=pF w.1:=by rw[a];rfl
  have e2:iU (x,z,A,(F,G),u) h.2.2.2.2.2.1=iU w.2.1 (rb w.2.2.2.2.2):=by rw[a];rfl
  have L:lx d.2.2.2.2.2.2.2.2.2.2.1 (F,G) Q=oQ w:=by rw[a];rfl
  rw[e0,e2,L,← a]
  have c:=λ{s o y}=>Ns (r:=fU (jO w) (qr w) w i) (s:=s) (o:=o) (y:=y) w
  intro b hb0
  (repeat refine⟨(by first|(simp;done)|(cases b <;> simp)),?_⟩)
  have R:(bif b then pF w.1 else ct2)=cs8↔i=0/\pF w.1=true:=by rw[hb0];by_cases k:i=0 <;> simp[k]
  refine ay (λj=>?_) (λj=>?_)
  .have ⟨e,f,g⟩:=c (Di (R.1 j))
   exact⟨e,f,by rw[← g,a];rfl,rfl⟩
  have j:¬ (i=0/\pF w.1=cs8):=λk=>by rw[R.2 k] at j;cases j
  refine⟨K,ay (λp=>?_) (λp=>?_)⟩
  .have ⟨e,f,g⟩:=c (CM j (by simpa using p))
   exact⟨e,f,by rw[← g,a];rfl,rfl⟩
  have p:¬ (qr w) 0≠0:=by simpa using p
  refine⟨hs,hl,ay (λq=>?_) (λq=>?_)⟩
  .have ⟨e,f,g⟩:=c (Fa j p (by simpa using q))
   exact⟨e,f,by rw[← g,a];rfl,rfl⟩
  have q:¬ iU w.2.1 (rb w.2.2.2.2.2)=false:=by simpa using q
  refine ay (λS=>?_) (λS=>⟨?_,?_⟩)
  .have ⟨e,f,g⟩:=c (E0 j p q (by simpa using S))
   exact⟨e,f,by rw[← g,a];rfl,rfl⟩
  .have S:¬ (oQ w).2=false:=by simpa using S
   have H:=F3 (B:=jO w) j p q S
   have m:=Iv q
   have D:=KZ d v
   have E:pj d (x,z,A,(oQ w).1,u) (dV d v) Q h.2.1 h.2.2.2.2.2.1=jz w:=by rw[← L,a];rfl
   have P:pc w=(x,ct0.wrap (z+1),ww A (dV d v),(oQ w).1,u):=by rw[← L,a];rfl
   refine bT (λn=>?_) (λn=>?_)
   .refine⟨D,n,D,n,_,_,_,⟨H,m,?_⟩,rfl,rfl,E,aI⟩
    rw[P,So n];rfl
   .refine⟨_,_,_,⟨H,m,?_⟩,rfl,rfl,E,aI⟩
    rw[P,YL n];rfl
  .rintro k l t ⟨H,m,P⟩
   have e4:cD (cR (x,z,A,(F,G),u)) h.2.2.2.2.2.1=pV w:=by rw[a];rfl
   have e5:(x,k,l,t,u)=pc w:=P
   have e6:mW d (pc w) (pV w) (jY ((jO w) (adr d (dV d v)) 0))=mL (jO w) w:=by rw[a];rfl
   rw[e4,e5,e6]
   have ⟨e,f,g⟩:=c H
   have hlen:=ae8 w (adr d (dV d v)) 0
   refine⟨m,Y,bT (λn=>?_) (λn=>?_)⟩
   .refine⟨K,?_,f,by rw[← g,a];rfl,rfl⟩
    rw[← e];unfold lG;rw[ao n,a];rfl
   .refine⟨K,?_,f,by rw[← g,a];rfl,rfl⟩
    rw[← e];unfold lG;rw[I n,a];rfl
theorem au9:aB 286 Z5.spec:=aG Tryz.func286 (C (C (C (C (C (C (C (C aC ap0) Tu) W3) Tp) Qw) T9) QW) ag0) ch8 aB7
def VK:Ct:=⟨[.box 324 uQ,.fn 318 3,.box 322 .ali,.box 3 cI,.box 3 cI,.val dB],[.agg D6,.val cI],λd=>[tF d.1],λd=>(((fU (ie d.1 d.2.2.2.1 d.2.2.2.2.1) (qg d.1 d.2.2.2.1 d.2.2.2.2.1) d.1 d.2.2.2.2.2.1).2.1,(fU (ie d.1 d.2.2.2.1 d.2.2.2.2.1) (qg d.1 d.2.2.2.1 d.2.2.2.2.1) d.1 d.2.2.2.2.2.1).2.2,()),(kf d.1 (fU (ie d.1 d.2.2.2.1 d.2.2.2.2.1) (qg d.1 d.2.2.2.1 d.2.2.2.2.1) d.1 d.2.2.2.2.2.1).1,(),d.2.2.2.1,d.2.2.2.2.1,()))⟩
def ba9:bG VK.ps->bL:=(λd=>{cuts:=(bz 17 (λS=>{ι:=Int×Z×aq4,qn:=ot,inv:=λi=>fU (ie d.1 d.2.2.2.1 d.2.2.2.2.1) (qg d.1 d.2.2.2.1 d.2.2.2.2.1) d.1 d.2.2.2.2.2.1=(jI (pc d.1) (pV d.1),(mL (ie d.1 d.2.2.2.1 d.2.2.2.2.1) d.1,(ie d.1 d.2.2.2.1 d.2.2.2.2.1) (lG (ie d.1 d.2.2.2.1 d.2.2.2.2.1) d.1 d.2.2.2.2.2.1) (jz d.1)),2)/\(pV d.1).2.1≠[]/\(cR d.1.2.1,i.1,i.2.1,i.2.2,p9 d.1.2.1)=pc d.1,keep:=[0,1,2,6,9,11],slots:=λi=>[(8,.int .i64 (dV d.1.1 d.1.2.2.1)),(13,.int .i64 (jz d.1))],keepN:=[112,192,560,1048577,1048578,1048579],names:=λi=>[(1048576,.live (.cells 324 (cS eM d.1.1++([.dsl fD (cR d.1.2.1),.int .i64 i.1,.own 524288 1]++(cS AE i.2.2++([.int .i64 (p9 d.1.2.1),.int .i64 d.1.2.2.1,.int .i64 d.1.2.2.2.1,.dsl bc d.1.2.2.2.2.1]++cS qh d.1.2.2.2.2.2)))))),(524288,.live (.row 3 cI i.2.1))]}) cm)})
def kA(a:ar)(b:NState×Int×Int×Z×cX)(c d:Int)(e:List cF×Int×Z×aq4×Int)(f:Int×Int×Z×cX)(g:Int):=fU (ie (a,b) c d) (qg (a,b) c d) (a,e,f) g
def Au(a:ar)(b:List cF)(c:cs4)(d:Int)(e:Int×Z×cX)(f g:Int):=ie (a,(b,c),d,e) f g (adr a (dV a d)) 0
def CK(a b:Int):=()=()/\a=a/\b=b
theorem bI4:
 ∀ a b c d e f g h i j k l m n,(CT.wf eM a/\iD b c d e f g/\lI h i j k)/\True/\True/\bJ l m (aT n) True->zn b c d e f g j->FA (aY n) a.2.2.2.2.2.2.2.2.2.2.2.1 (fA=(kA a ((b,c,d,(e,f),g),h,i,j,k) l m (b,c,d,(e,f),g) (h,i,j,k) n).2.1/\4=(kA a ((b,c,d,(e,f),g),h,i,j,k) l m (b,c,d,(e,f),g) (h,i,j,k) n).2.2/\(a,(b,c,d,(e,f),g),h,i,j,k)=kf (a,(b,c,d,(e,f),g),h,i,j,k) (kA a ((b,c,d,(e,f),g),h,i,j,k) l m (b,c,d,(e,f),g) (h,i,j,k) n).1/\CK l m) (bV j/\au ( !aY (qg (a,(b,c,d,(e,f),g),h,i,j,k) l m 0)) (fA=(kA a ((b,c,d,(e,f),g),h,i,j,k) l m (b,c,d,(e,f),g) (h,i,j,k) n).2.1/\6=(kA a ((b,c,d,(e,f),g),h,i,j,k) l m (b,c,d,(e,f),g) (h,i,j,k) n).2.2/\(a,(b,c,d,(e,f),g),h,i,j,k)=kf (a,(b,c,d,(e,f),g),h,i,j,k) (kA a ((b,c,d,(e,f),g),h,i,j,k) l m (b,c,d,(e,f),g) (h,i,j,k) n).1/\CK l m)
 (dY (cR (b,c,d,(e,f),g))/\okL (cR (b,c,d,(e,f),g))/\au ( !iU (b,c,d,(e,f),g) k.2.2.2.2.2.1) (fA=(kA a ((b,c,d,(e,f),g),h,i,j,k) l m (b,c,d,(e,f),g) (h,i,j,k) n).2.1/\8=(kA a ((b,c,d,(e,f),g),h,i,j,k) l m (b,c,d,(e,f),g) (h,i,j,k) n).2.2/\(a,(b,c,d,(e,f),g),h,i,j,k)=kf (a,(b,c,d,(e,f),g),h,i,j,k) (kA a ((b,c,d,(e,f),g),h,i,j,k) l m (b,c,d,(e,f),g) (h,i,j,k) n).1/\CK l m) (au ( !(qp a e f i).2) (fA=(kA a ((b,c,d,(e,f),g),h,i,j,k) l m (b,c,d,(e,f),g) (h,i,j,k) n).2.1/\5=(kA a ((b,c,d,(e,f),g),h,i,j,k) l m (b,c,d,(e,f),g) (h,i,j,k) n).2.2/\(a,(b,c,d,(qp a e f i).1,g),h,i,j,k)=kf (a,(b,c,d,(e,f),g),h,i,j,k) (kA a ((b,c,d,(e,f),g),h,i,j,k) l m (b,c,d,(e,f),g) (h,i,j,k) n).1/\CK l m) (au (av (dV a h) (O d)) (am (dV a h) (dV a h<O d) (am (dV a h) (dV a h<O d) (∃ o p q,(kA a
 ((b,c,d,(e,f),g),h,i,j,k) l m (b,c,d,(e,f),g) (h,i,j,k) n=(BN a b (c,d,(e,f),g) h (i,j,k),(mL (ie (a,(b,c,d,(e,f),g),h,i,j,k) l m) (a,(b,c,d,(e,f),g),h,i,j,k),ie (a,(b,c,d,(e,f),g),h,i,j,k) l m (lG (ie (a,(b,c,d,(e,f),g),h,i,j,k) l m) (a,(b,c,d,(e,f),g),h,i,j,k) n) (jz (a,(b,c,d,(e,f),g),h,i,j,k))),2)/\BF (a,(b,c,d,(e,f),g),h,i,j,k) (b,c,d,(e,f),g) o (p,q,p9 (b,c,d,(e,f),g)) a ((b,c,d,(e,f),g),h,i,j,k))/\bp n (dV a h) (pj a (b,c,d,(qp a e f i).1,g) (dV a h) i k.2.1 k.2.2.2.2.2.1=jz (a,(b,c,d,(e,f),g),h,i,j,k)) (bh 0 (jT b c d e f g k).1.1 (jT b c d e f g k).1.2 (Gb b c d e f g k) (FE b c d e f g k/\Au a b (c,d,(e,f),g) h (i,j,k) l m=Au a b (c,d,(e,f),g) h (i,j,k) l m/\bp l m (a.1=a.1) (yS a (yJ a) (t9 a/\b=cR (b,c,d,(e,f),g)/\aA c=o/\(qp a e f i).1.1=q.1/\(qp a e f i).1.2=q.2/\g=p9
 (b,c,d,(e,f),g)/\Gy h i j k (qj d (dV a h)) p))))))) (∃ o p q,(kA a ((b,c,d,(e,f),g),h,i,j,k) l m (b,c,d,(e,f),g) (h,i,j,k) n=(BN a b (c,d,(e,f),g) h (i,j,k),(mL (ie (a,(b,c,d,(e,f),g),h,i,j,k) l m) (a,(b,c,d,(e,f),g),h,i,j,k),ie (a,(b,c,d,(e,f),g),h,i,j,k) l m (lG (ie (a,(b,c,d,(e,f),g),h,i,j,k) l m) (a,(b,c,d,(e,f),g),h,i,j,k) n) (jz (a,(b,c,d,(e,f),g),h,i,j,k))),2)/\BF (a,(b,c,d,(e,f),g),h,i,j,k) (b,c,d,(e,f),g) o (p,q,p9 (b,c,d,(e,f),g)) a ((b,c,d,(e,f),g),h,i,j,k))/\bp n (dV a h) (pj a (b,c,d,(qp a e f i).1,g) (dV a h) i k.2.1 k.2.2.2.2.2.1=jz (a,(b,c,d,(e,f),g),h,i,j,k)) (bh 0 (jT b c d e f g k).1.1 (jT b c d e f g k).1.2 (Gb b c d e f g k) (FE b c d e f g k/\Au a b (c,d,(e,f),g) h (i,j,k) l m=Au a b (c,d,(e,f),g) h (i,j,k) l m/\bp l m (a.1=a.1) (yS a (yJ a) (t9 a/\b=cR
 (b,c,d,(e,f),g)/\aA c=o/\(qp a e f i).1.1=q.1/\(qp a e f i).1.2=q.2/\g=p9 (b,c,d,(e,f),g)/\Gy h i j k d p)))))/\ ∀ o p q,kA a ((b,c,d,(e,f),g),h,i,j,k) l m (b,c,d,(e,f),g) (h,i,j,k) n=(BN a b (c,d,(e,f),g) h (i,j,k),(mL (ie (a,(b,c,d,(e,f),g),h,i,j,k) l m) (a,(b,c,d,(e,f),g),h,i,j,k),ie (a,(b,c,d,(e,f),g),h,i,j,k) l m (lG (ie (a,(b,c,d,(e,f),g),h,i,j,k) l m) (a,(b,c,d,(e,f),g),h,i,j,k) n) (jz (a,(b,c,d,(e,f),g),h,i,j,k))),2)/\BF (a,(b,c,d,(e,f),g),h,i,j,k) (b,c,d,(e,f),g) o (p,q,p9 (b,c,d,(e,f),g)) a ((b,c,d,(e,f),g),h,i,j,k)->(jT b c d e f g k).2.1≠[]/\bV (Au a b (c,d,(e,f),g) h (i,j,k) l m)/\au (aY n) (bV j/\(mW a (b,o,p,q,g) (jT b c d e f g k) (jY (Au a b (c,d,(e,f),g) h (i,j,k) l m)),ie (a,jI (b,o,p,q,g) (jT b c d e f g k),h,i,j,k) l m (pb a (dV a h) (mW a (b,o,p,q,g) (jT b
 c d e f g k) (jY (Au a b (c,d,(e,f),g) h (i,j,k) l m)))) (jz (a,(b,c,d,(e,f),g),h,i,j,k)))=(kA a ((b,c,d,(e,f),g),h,i,j,k) l m (b,c,d,(e,f),g) (h,i,j,k) n).2.1/\2=(kA a ((b,c,d,(e,f),g),h,i,j,k) l m (b,c,d,(e,f),g) (h,i,j,k) n).2.2/\(a,jI (b,o,p,q,g) (jT b c d e f g k),h,i,j,k)=kf (a,(b,c,d,(e,f),g),h,i,j,k) (kA a ((b,c,d,(e,f),g),h,i,j,k) l m (b,c,d,(e,f),g) (h,i,j,k) n).1/\CK l m) (bV j/\(mW a (b,o,p,q,g) (jT b c d e f g k) (jY (Au a b (c,d,(e,f),g) h (i,j,k) l m)),ie (a,jI (b,o,p,q,g) (jT b c d e f g k),h,i,j,k) l m n (jz (a,(b,c,d,(e,f),g),h,i,j,k)))=(kA a ((b,c,d,(e,f),g),h,i,j,k) l m (b,c,d,(e,f),g) (h,i,j,k) n).2.1/\2=(kA a ((b,c,d,(e,f),g),h,i,j,k) l m (b,c,d,(e,f),g) (h,i,j,k) n).2.2/\(a,jI (b,o,p,q,g) (jT b c d e f g k),h,i,j,k)=kf (a,(b,c,d,(e,f),g),h,i,j,k) (kA a ((b,c,d,(e,f),g),h,i,j,k) l m (b,c,d,(e,f),g)
 (h,i,j,k) n).1/\CK l m))))):= by
  delta N O ap aq aH aM dh dC D0 aK bh cU aT bp yS cB bq am yJ t9 jT bJ aY bV kA aA fp iD J Gy qp qj fA zn av Au BN FA BF Gb FE lI CK aF
  rintro d x x1 x2 x3 x4 x5 x6 x7 x8 h ki co own-⟨hs,hl,hb⟩
  obtain⟨w,hw⟩:∃ w,w=(d,(x,x1,x2,(x3,x4),x5),x6,x7,x8,h):=⟨_,rfl⟩
  have e0:d.2.2.2.2.2.2.2.2.2.2.2.1=pF w.1:=by rw[hw];rfl
  have e2:iU (x,x1,x2,(x3,x4),x5) h.2.2.2.2.2.1=iU w.2.1 (rb w.2.2.2.2.2):=by rw[hw];rfl
  have e3:lx d.2.2.2.2.2.2.2.2.2.2.1 (x3,x4) x7=oQ w:=by rw[hw];rfl
  rw[e0,e2,e3,← hw]
  have fin:=λ{s o y}=>Ns (r:=fU (ie w ki co) (qg w ki co) w own) (s:=s) (o:=o) (y:=y) w
  intro b hb0
  (repeat refine⟨(by first|(simp;done)|(rw[hb0];simp;done)|(cases b <;> simp)),?_⟩)
  have hq:(bif b then pF w.1 else ct2)=cs8↔own=0/\pF w.1=true:=by rw[hb0];by_cases k:own=0 <;> simp[k]
  refine ay (λh0=>?_) (λh0=>?_)
  .have ⟨f1,f2,f3⟩:=fin (Di (hq.1 h0))
   exact⟨f1,f2,by rw[← f3,hw];rfl,rfl,rfl,rfl⟩
  have h0:¬ (own=0/\pF w.1=cs8):=λk=>by rw[hq.2 k] at h0;cases h0
  refine⟨hb,ay (λh1=>?_) (λh1=>?_)⟩
  .have ⟨f1,f2,f3⟩:=fin (CM h0 (by simpa using h1))
   exact⟨f1,f2,by rw[← f3,hw];rfl,rfl,rfl,rfl⟩
  have h1:¬ (qg w ki co) 0≠0:=by simpa using h1
  refine⟨hs,hl,ay (λh2=>?_) (λh2=>?_)⟩
  .have ⟨f1,f2,f3⟩:=fin (Fa h0 h1 (by simpa using h2))
   exact⟨f1,f2,by rw[← f3,hw];rfl,rfl,rfl,rfl⟩
  have h2:¬ iU w.2.1 (rb w.2.2.2.2.2)=false:=by simpa using h2
  refine ay (λh3=>?_) (λh3=>⟨?_,?_⟩)
  .have ⟨f1,f2,f3⟩:=fin (E0 h0 h1 h2 (by simpa using h3))
   exact⟨f1,f2,by rw[← f3,hw];rfl,rfl,rfl,rfl⟩
  .have h3:¬ (oQ w).2=false:=by simpa using h3
   have eg:=F3 (B:=ie w ki co) h0 h1 h2 h3
   have hne:=Iv h2
   have hin:=KZ d x6
   have CI:pj d (x,x1,x2,(oQ w).1,x5) (dV d x6) x7 h.2.1 h.2.2.2.2.2.1=jz w:=by rw[← e3,hw];rfl
   have hS:pc w=(x,ct0.wrap (x1+1),ww x2 (dV d x6),(oQ w).1,x5):=by rw[← e3,hw];rfl
   refine bT (λh4=>?_) (λh4=>?_)
   .refine⟨hin,h4,hin,h4,_,_,_,⟨eg,hne,?_⟩,rfl,rfl,CI,aI⟩
    rw[hS,So h4];rfl
   .refine⟨_,_,_,⟨eg,hne,?_⟩,rfl,rfl,CI,aI⟩
    rw[hS,YL h4];rfl
  .rintro k l t ⟨eg,hne,hS⟩
   have e4:cD (cR (x,x1,x2,(x3,x4),x5)) h.2.2.2.2.2.1=pV w:=by rw[hw];rfl
   have e5:(x,k,l,t,x5)=pc w:=hS
   have e6:mW d (pc w) (pV w) (jY ((ie w ki co) (adr d (dV d x6)) 0))=mL (ie w ki co) w:=by rw[hw];rfl
   rw[e4,e5,e6]
   have ⟨f1,f2,f3⟩:=fin eg
   have hlen:=QA w ki co (adr d (dV d x6)) 0
   refine⟨hne,Y,bT (λh4=>?_) (λh4=>?_)⟩
   .refine⟨hb,?_,f2,by rw[← f3,hw];rfl,rfl,rfl,rfl⟩
    rw[← f1];unfold lG;rw[ao h4,hw];rfl
   .refine⟨hb,?_,f2,by rw[← f3,hw];rfl,rfl,rfl,rfl⟩
    rw[← f1];unfold lG;rw[I h4,hw];rfl
theorem bc1:aB 286 VK.spec:=aG Tryz.func286 (C (C (C (C (C (C (C (C aC ap0) Tu) bg3) Tp) Qw) T9) QW) ag0) ba9 bI4
def aA5:Ct:=⟨[.box 324 uQ],[.agg D6,.val cI],λd=>[tF d.1],λd=>(((ly d.1).2.1,(ly d.1).2.2,()),(kf d.1 (ly d.1).1,()))⟩
theorem aN7:
 ∀ a b c d e f g h i j k,J (CT.wf eM a/\iD b c d e f g/\lI h i j k)->zn b c d e f g j->bV j/\nG (cs7 (h=(-1))) ( !aY (qr (a,(b,c,d,(e,f),g),h,i,j,k) 0)) (fA=(ly (a,(b,c,d,(e,f),g),h,i,j,k)).2.1/\1=(ly (a,(b,c,d,(e,f),g),h,i,j,k)).2.2/\(a,(b,c,d,(e,f),g),h,i,j,k)=kf (a,(b,c,d,(e,f),g),h,i,j,k) (ly (a,(b,c,d,(e,f),g),h,i,j,k)).1) (au (cs7 (k.2.2.2.1=17)) (tF (a,(b,c,d,(e,f),g),h,i,j,k)/\(j5 a ((b,c,d,(e,f),g),h,i,j,k) (b,c,d,(e,f),g) (h,i,j,k) 0).2.1=(ly (a,(b,c,d,(e,f),g),h,i,j,k)).2.1/\(j5 a ((b,c,d,(e,f),g),h,i,j,k) (b,c,d,(e,f),g) (h,i,j,k) 0).2.2=(ly (a,(b,c,d,(e,f),g),h,i,j,k)).2.2/\(a,(j5 a ((b,c,d,(e,f),g),h,i,j,k) (b,c,d,(e,f),g) (h,i,j,k) 0).1,h,i,j,k)=kf (a,(b,c,d,(e,f),g),h,i,j,k) (ly (a,(b,c,d,(e,f),g),h,i,j,k)).1) (tF (a,(b,c,d,(e,f),g),h,i,j,k)/\(j5
 a ((b,c,d,(e,f),g),h,i,j,k) (b,c,d,(e,f),g) (h,i,j,k) k.2.2.2.2.2.2).2.1=(ly (a,(b,c,d,(e,f),g),h,i,j,k)).2.1/\(j5 a ((b,c,d,(e,f),g),h,i,j,k) (b,c,d,(e,f),g) (h,i,j,k) k.2.2.2.2.2.2).2.2=(ly (a,(b,c,d,(e,f),g),h,i,j,k)).2.2/\(a,(j5 a ((b,c,d,(e,f),g),h,i,j,k) (b,c,d,(e,f),g) (h,i,j,k) k.2.2.2.2.2.2).1,h,i,j,k)=kf (a,(b,c,d,(e,f),g),h,i,j,k) (ly (a,(b,c,d,(e,f),g),h,i,j,k)).1)):= by
  delta O aq aH aM dh dC bN aK cU aT br bw bJ aY bV j5 iD J nG fA zn kx lI aF
  rintro d x x1 x2 x3 x4 x5 x6 x7 x8 h-⟨hs,hl,hb⟩
  obtain⟨w,hw⟩:∃ w,w=(d,(x,x1,x2,(x3,x4),x5),x6,x7,x8,h):=⟨_,rfl⟩
  rw[← hw]
  have fin:=λ{s o y}=>Ns (r:=ly w) (s:=s) (o:=o) (y:=y) w
  have e0:w.2.2.1=x6:=by rw[hw]
  have e1:h=w.2.2.2.2.2:=by rw[hw]
  have okw:tF w:=by rw[hw];exact⟨hs,hl,hb⟩
  refine⟨hb,?_⟩
  (repeat (refine cG ?_;repeat refine cH ?_))
  refine rI (λho=>?_) (λh1 h2=>?_)
  .have ⟨f1,f2,f3⟩:=fin (s:=w.2.1) (o:=mE) (y:=1) (by unfold ly;rw[ao];obtain q|q:=ho;left;rw[e0];exact aX q;right;simpa using q)
   exact⟨f1,f2,by rw[← f3,hw];rfl⟩
  have hn:¬ (w.2.2.1 = -1∨qr w 0≠0):=by
   rintro (q|q)
   .rw[e0] at q;exact bg h1 q
   .apply q;simpa using h2
  have er:ly w=fU (jO w) (qr w) w (if h.2.2.2.1=17 then 0 else h.2.2.2.2.2.2):=by unfold ly;rw[I hn,e1];rfl
  rw[er]
  refine bT (λh3=>?_) (λh3=>?_)
  .rw[ao h3]
   exact⟨okw,rfl,rfl,by rw[hw];rfl⟩
  .rw[I h3]
   exact⟨okw,rfl,rfl,by rw[hw];rfl⟩
theorem a64:aB 247 aA5.spec:=aG Tryz.func247 (C (C aC W3) au9) aS aN7
def aF2:Ct:=⟨[.box 324 uQ],[.agg D6,.val cI],λd=>[tF d.1],λd=>(((ic d.1).2.1,(ic d.1).2.2,()),(kf d.1 (ic d.1).1,()))⟩
theorem aw8:
 ∀ a b c d e f g h i j k,J (CT.wf eM a/\iD b c d e f g/\lI h i j k)->zn b c d e f g j-> ∀ l,l=db h (-1)->oq l l (aK l) (aK l) (l->l) (∀ m,m=bq l ( !a.2.2.2.2.2.2.2.2.2.2.2.2.1)->oq m m (aK m) (aK m) (m->m) (au (bq m (av k.2.2.1 2)) (tF (a,(b,c,d,(e,f),g),h,i,j,k)/\(kA a ((b,c,d,(e,f),g),h,i,j,k) 11 0 (b,c,d,(e,f),g) (h,i,j,k) 0).2.1=(ic (a,(b,c,d,(e,f),g),h,i,j,k)).2.1/\(kA a ((b,c,d,(e,f),g),h,i,j,k) 11 0 (b,c,d,(e,f),g) (h,i,j,k) 0).2.2=(ic (a,(b,c,d,(e,f),g),h,i,j,k)).2.2/\(a,(kA a ((b,c,d,(e,f),g),h,i,j,k) 11 0 (b,c,d,(e,f),g) (h,i,j,k) 0).1,h,i,j,k)=kf (a,(b,c,d,(e,f),g),h,i,j,k) (ic (a,(b,c,d,(e,f),g),h,i,j,k)).1) (dY (cR (b,c,d,(e,f),g))/\okL (cR (b,c,d,(e,f),g))/\ ∀ n,n=( !iU (b,c,d,(e,f),g) k.2.2.2.2.2.2)->(n->n)/\au (lW n h (-1))
 (fA=(ic (a,(b,c,d,(e,f),g),h,i,j,k)).2.1/\8=(ic (a,(b,c,d,(e,f),g),h,i,j,k)).2.2/\(a,(b,c,d,(e,f),g),h,i,j,k)=kf (a,(b,c,d,(e,f),g),h,i,j,k) (ic (a,(b,c,d,(e,f),g),h,i,j,k)).1) (au ( !iU (b,c,d,(e,f),g) k.2.2.2.2.2.2) (tF (a,(b,c,d,(e,f),g),h,i,j,k)/\(kA a ((b,c,d,(e,f),g),h,i,j,k) 3 0 (b,c,d,(e,f),g) (h,i,j,k) 0).2.1=(ic (a,(b,c,d,(e,f),g),h,i,j,k)).2.1/\(kA a ((b,c,d,(e,f),g),h,i,j,k) 3 0 (b,c,d,(e,f),g) (h,i,j,k) 0).2.2=(ic (a,(b,c,d,(e,f),g),h,i,j,k)).2.2/\(a,(kA a ((b,c,d,(e,f),g),h,i,j,k) 3 0 (b,c,d,(e,f),g) (h,i,j,k) 0).1,h,i,j,k)=kf (a,(b,c,d,(e,f),g),h,i,j,k) (ic (a,(b,c,d,(e,f),g),h,i,j,k)).1) ((cD (cR (b,c,d,(e,f),g)) k.2.2.2.2.2.2).2.1≠[]/\bV j/\j=j/\j=j/\aR j/\ ∀ o,o=db h (-1)->oq o o (aK o) (aK o) (o->o) (au (bq o ( !a.2.2.2.2.2.2.2.2.2.2.2.2.1)) (aR j/\(mW a (b,c,d,(e,f),g) (cD (cR (b,c,d,(e,f),g))
 k.2.2.2.2.2.2) (jY j),mg j)=(ic (a,(b,c,d,(e,f),g),h,i,j,k)).2.1/\0=(ic (a,(b,c,d,(e,f),g),h,i,j,k)).2.2/\(a,jI (b,c,d,(e,f),g) (cD (cR (b,c,d,(e,f),g)) k.2.2.2.2.2.2),h,i,j,k)=kf (a,(b,c,d,(e,f),g),h,i,j,k) (ic (a,(b,c,d,(e,f),g),h,i,j,k)).1) ((mW a (b,c,d,(e,f),g) (cD (cR (b,c,d,(e,f),g)) k.2.2.2.2.2.2) (jY j),j)=(ic (a,(b,c,d,(e,f),g),h,i,j,k)).2.1/\0=(ic (a,(b,c,d,(e,f),g),h,i,j,k)).2.2/\(a,jI (b,c,d,(e,f),g) (cD (cR (b,c,d,(e,f),g)) k.2.2.2.2.2.2),h,i,j,k)=kf (a,(b,c,d,(e,f),g),h,i,j,k) (ic (a,(b,c,d,(e,f),g),h,i,j,k)).1))))))):= by
  delta O aq aH aM dh dC aK cU aT aR cB bq bJ bV kA iD J fA zn av oq db lW lI aF
  rintro d x x1 x2 x3 x4 x5 x6 x7 x8 h-⟨hs,hl,hb⟩
  obtain⟨w,hw⟩:∃ w,w=(d,(x,x1,x2,(x3,x4),x5),x6,x7,x8,h):=⟨_,rfl⟩
  have e0:d.2.2.2.2.2.2.2.2.2.2.2.2.1=g7 w.1:=by rw[hw];rfl
  have e2:iU (x,x1,x2,(x3,x4),x5) h.2.2.2.2.2.2=iU w.2.1 (mJ w.2.2.2.2.2):=by rw[hw];rfl
  have e3:x6=w.2.2.1:=by rw[hw]
  have e4:h.2.2.1=ET w.2.2.2.2.2:=by rw[hw];rfl
  have e5:cD (cR (x,x1,x2,(x3,x4),x5)) h.2.2.2.2.2.2=cD (cR w.2.1) (mJ w.2.2.2.2.2):=by rw[hw];rfl
  have okw:tF w:=by rw[hw];exact⟨hs,hl,hb⟩
  have fin:=λ{s o y}=>Ns (r:=ic w) (s:=s) (o:=o) (y:=y) w
  rw[← hw,e0,e2,e4,e5]
  intro b hb0
  (repeat refine⟨(by first|(simp;done)|(rw[hb0];simp;done)|(cases b <;> simp)),?_⟩)
  intro b1 hb1
  (repeat refine⟨(by first|(simp;done)|(rw[hb1];simp;done)|(cases b1 <;> simp)|(cases b <;> cases b1 <;> simp)),?_⟩)
  have h1b:b1=cs8↔w.2.2.1 ≠ -1/\g7 w.1=false:=by rw[hb1,hb0,e3];by_cases k:w.2.2.1 = -1 <;> cases g7 w.1 <;> simp[k]
  have hq:(bif b1 then cs7 (ET w.2.2.2.2.2<2) else ct2)=cs8↔w.2.2.1 ≠ -1/\g7 w.1=ct2/\ET w.2.2.2.2.2<2:=by
   rw[← and_assoc,← h1b];cases b1 <;> simp
  refine ay (λk1=>?_) (λk1=>?_)
  .have e:ic w=fU (ie w 11 0) (qg w 11 0) w 0:=by unfold ic;rw[ao (hq.1 k1)]
   rw[e]
   exact⟨okw,rfl,rfl,by rw[hw];rfl⟩
  have k1:¬ (w.2.2.1 ≠ -1/\g7 w.1=ct2/\ET w.2.2.2.2.2<2):=λk=>by rw[hq.2 k] at k1;cases k1
  refine⟨hs,hl,?_⟩
  intro c hc
  (repeat refine⟨(by first|(simp;done)|(rw[hc];simp;done)|(cases c <;> simp)),?_⟩)
  refine ay (λk2=>?_) (λk2=>?_)
  .have q:iU w.2.1 (mJ w.2.2.2.2.2)=ct2/\w.2.2.1 = -1:=by
    rw[hc,e3] at k2
    cases hh:iU w.2.1 (mJ w.2.2.2.2.2) with
    | true=>rw[hh] at k2;simp at k2
    | false=>rw[hh] at k2;exact⟨rfl,by simpa using k2⟩
   have ⟨f1,f2,f3⟩:=fin (s:=w.2.1) (o:=mE) (y:=8) (by unfold ic;rw[I k1,ao q.1,ao q.2])
   exact⟨f1,f2,by rw[← f3,hw];rfl⟩
  refine ay (λk3=>?_) (λk3=>?_)
  .have k3:iU w.2.1 (mJ w.2.2.2.2.2)=false:=by simpa using k3
   have q:¬ w.2.2.1 = -1:=λq=>by rw[hc,k3,e3,q] at k2;simp at k2
   have e:ic w=fU (ie w 3 0) (qg w 3 0) w 0:=by unfold ic;rw[I k1,ao k3,I q]
   rw[e]
   exact⟨okw,rfl,rfl,by rw[hw];rfl⟩
  have k3:¬ iU w.2.1 (mJ w.2.2.2.2.2)=false:=by simpa using k3
  refine⟨Iv k3,hb,?_⟩
  clear h1b hq
  (repeat refine⟨(by first|(with_reducible rfl)|trivial|omega),?_⟩)
  intro b' hb0'
  (repeat refine⟨(by first|(simp;done)|(rw[hb0'];simp;done)|(cases b' <;> simp)),?_⟩)
  have hq:(bif b' then !g7 w.1 else ct2)=cs8↔w.2.2.1 ≠ -1/\g7 w.1=false:=by rw[hb0',e3];by_cases k:w.2.2.1 = -1 <;> cases g7 w.1 <;> simp[k]
  have e:ic w=(jI w.2.1 (cD (cR w.2.1) (mJ w.2.2.2.2.2)),(mW w.1 w.2.1 (cD (cR w.2.1) (mJ w.2.2.2.2.2)) (jY w.2.2.2.2.1),if w.2.2.1 ≠ -1/\g7 w.1=ct2 then mg w.2.2.2.2.1 else w.2.2.2.2.1),0):=by unfold ic;rw[I k1,I k3]
  have ⟨f1,f2,f3⟩:=fin e
  refine ay (λk4=>?_) (λk4=>?_)
  .refine⟨Y,?_,f2,by rw[← f3,hw];rfl⟩
   rw[← f1,ao (hq.1 k4),hw]
  .refine⟨?_,f2,by rw[← f3,hw];rfl⟩
   rw[← f1,I (λk=>by rw[hq.2 k] at k4;cases k4),hw]
theorem b44:aB 248 aF2.spec:=aG Tryz.func248 (C (C (C (C (C (C aC a04) bc1) Tp) QW) bU2) po) aS aw8
def az4:Ct:=⟨[.box 324 uQ],[.agg D6,.val cI],λd=>[tF d.1],λd=>(((iG d.1).2.1,(iG d.1).2.2,()),((d.1.1,(iG d.1).1,d.1.2.2.1,d.1.2.2.2.1,d.1.2.2.2.2.1,(cN d.1.2.2.2.2.1).1),()))⟩
def qx(a:Z):=(a,(cN a).1)
theorem b51:
 ∀ a b c d e f g h i j k,J (CT.wf eM a/\iD b c d e f g/\lI h i j k)->zn b c d e f g j->aR j/\au ( !aY (eO j)) (fA=(iG (a,(b,c,d,(e,f),g),h,i,j,k)).2.1/\6=(iG (a,(b,c,d,(e,f),g),h,i,j,k)).2.2/\(a,(b,c,d,(e,f),g),h,i,qx j)=(a,(iG (a,(b,c,d,(e,f),g),h,i,j,k)).1,h,i,qx j)) (au (qw a (cN j).1.2.2.2.2.2.2) (tF (a,(b,c,d,(e,f),g),h,i,qx j)/\(ly (a,(b,c,d,(e,f),g),h,i,qx j)).2.1=(iG (a,(b,c,d,(e,f),g),h,i,j,k)).2.1/\(ly (a,(b,c,d,(e,f),g),h,i,qx j)).2.2=(iG (a,(b,c,d,(e,f),g),h,i,j,k)).2.2/\(a,(ly (a,(b,c,d,(e,f),g),h,i,qx j)).1,h,i,qx j)=(a,(iG (a,(b,c,d,(e,f),g),h,i,j,k)).1,h,i,qx j)) (FA a.2.2.2.1 (db h (-1)) (fA=(iG (a,(b,c,d,(e,f),g),h,i,j,k)).2.1/\6=(iG (a,(b,c,d,(e,f),g),h,i,j,k)).2.2/\(a,(b,c,d,(e,f),g),h,i,qx j)=(a,(iG
 (a,(b,c,d,(e,f),g),h,i,j,k)).1,h,i,qx j)) (tF (a,(b,c,d,(e,f),g),h,i,qx j)/\(ic (a,(b,c,d,(e,f),g),h,i,qx j)).2.1=(iG (a,(b,c,d,(e,f),g),h,i,j,k)).2.1/\(ic (a,(b,c,d,(e,f),g),h,i,qx j)).2.2=(iG (a,(b,c,d,(e,f),g),h,i,j,k)).2.2/\(a,(ic (a,(b,c,d,(e,f),g),h,i,qx j)).1,h,i,qx j)=(a,(iG (a,(b,c,d,(e,f),g),h,i,j,k)).1,h,i,qx j)))):= by
  delta O aq aH aM dh dC aK cU aT aR cB bq bJ aY bV fp iD J fA zn db qx FA lI aF
  rintro d x x1 x2 x3 x4 x5 x6 x7 x8 h-⟨hs,hl,hb⟩
  refine⟨Y,ay (λh1=>?_) (λh1=>?_)⟩
  .have e:iG (d,(x,x1,x2,(x3,x4),x5),x6,x7,x8,h)=((x,x1,x2,(x3,x4),x5),mE,6):=by unfold iG;rw[ao (by simpa using h1)]
   rw[e];exact⟨rfl,rfl,rfl⟩
  have h1:¬ eO x8≠0:=by simpa using h1
  refine ay (λh2=>?_) (λh2=>?_)
  .have e:iG (d,(x,x1,x2,(x3,x4),x5),x6,x7,x8,h)=ly (d,(x,x1,x2,(x3,x4),x5),x6,x7,x8,(cN x8).1):=by unfold iG;rw[I h1];exact ao h2
   rw[e];exact⟨⟨hs,hl,hb⟩,rfl,rfl,rfl⟩
  have h2:¬ qw d (mJ (cN x8).1)=true:=by show ¬ qw d (cN x8).1.2.2.2.2.2.2=cs8;rw[h2];simp
  intro b hb0
  (repeat refine⟨(by first|(simp;done)|(rw[hb0];simp;done)|(cases b <;> simp)),?_⟩)
  have hq:(bif b then !cs7 (x6 = -1) else ct2)=cs8↔qy d=cs8/\x6 ≠ -1:=by rw[hb0];show (bif d.2.2.2.1 then _ else _)=cs8↔d.2.2.2.1=cs8/\_;cases d.2.2.2.1 <;> simp
  refine ay (λh3=>?_) (λh3=>?_)
  .have e:iG (d,(x,x1,x2,(x3,x4),x5),x6,x7,x8,h)=((x,x1,x2,(x3,x4),x5),mE,6):=by unfold iG;rw[I h1,I h2];exact ao (hq.1 h3)
   rw[e];exact⟨rfl,rfl,rfl⟩
  .have e:iG (d,(x,x1,x2,(x3,x4),x5),x6,x7,x8,h)=ic (d,(x,x1,x2,(x3,x4),x5),x6,x7,x8,(cN x8).1):=by unfold iG;rw[I h1,I h2];exact I (λk=>by rw[hq.2 k] at h3;cases h3)
   rw[e];exact⟨⟨hs,hl,hb⟩,rfl,rfl,rfl⟩
theorem ay2:aB 201 az4.spec:=aG Tryz.func201 (C (C (C (C aC G4) aT0) a64) b44) aS b51
def bt6:Ct:=⟨[.val (.sl fD)],[.own 156 fD],λd=>[(V d.1:Int)<=134217728],λd=>((d.1,()),())⟩
theorem bG4:
 ∀ a,J (dh a)->O a<=134217728->kw (V a=0) ([]=a) (bR ((0+V a)*48)/\a=a):= by
  delta O aq aH dh dC cU aT bR J kw aF
  rintro x ⟨⟨hl,-⟩,-⟩ h b hb
  refine ay (λh1=>?_) (λh1=>⟨Y,aw⟩)
  have:=hb h1
  exact (Be this).symm
theorem Zx:aB 196 bt6.spec:=aG Tryz.func196 aC aS bG4
def vj(x:ar):NState:=(ce x,0,replicate (V (aV x)) 0,Bq (nI x) 0,0)
def F6(b t:aq4):Prop:=(0<=t.2/\t.2<=1125899906842624)/\(b=(0,0)->t.1=0)/\(b≠(0,0)->0<=t.1/\t.1<=b.1*b.2)
structure j6 (x:ar) (s:NState) (K:Int):Prop where
 srt:dY (cR s)
 okl:okL (cR s)
 rt:∀ r∈cR s,pO r (dc x)
 ps:V (oh s)=V (aV x)
 tk:F6 (nI x) (zt s)
 cn:0<=xP s/\xP s<=K
 cp:∀ y∈oh s,0<=y/\y<=K
def Mh(x:ar)(s:NState)(link at':Int)(b:Z):fS:=(x,s,link,at',b,(cN b).1)
def kB(kind:Int)(w:fS)(f i:Int):Z:=if kind=2 then ie w 11 0 f i else if kind=3 then ie w 3 0 f i else jO w f i
def kE(kind:Int)(w:fS)(i:Int):Int:=if kind=2 then qg w 11 0 i else if kind=3 then qg w 3 0 i else qr w i
def tM(kind:Int)(w:fS):Int:=if kind=0 then mJ w.2.2.2.2.2 else 0
def yO(w:fS)(kind:Int):sO:=fU (kB kind w) (kE kind w) w (tM kind w)
variable{b:aq4}
theorem Ma(h:jJ b=0):b=(0,0)∨(1<=b.1/\b.1<=65536/\1<=b.2/\b.2<=1073741824/\b.2<=b.1*b.2/\b.1*b.2<=70368744177664):=by
 unfold jJ at h
 split at h
 next hh=>
  obtain hh|⟨h1,h2,h3,h4⟩:=hh
  .exact .inl hh
  .refine .inr ⟨h1,h2,h3,h4,?_,?_⟩
   .have:=Int.mul_le_mul_of_nonneg_right (a:=1) (b:=b.1) (c:=b.2) h1 Y;omega
   .have:=Int.mul_le_mul (a:=b.1) (b:=b.2) (c:=65536) (d:=1073741824) h2 h4 Y Y;omega
 .cases h
theorem bi6(h:jJ b=0)(x):Bq b x=(b.1*b.2,x):=by
 obtain rfl|hh:=Ma h
 .rfl
 .unfold Bq w;rw[aJ Y Y]
variable{t:aq4}{x:Int}
theorem b85(h:jJ b=0)(hb:b≠(0,0))(ht:F6 b t)(hx:0<=x/\x<=1125899906842624) :
  lx b t x=if min (t.1+(max x t.2-t.2)) (b.1*b.2)<b.2 then ((min (t.1+(max x t.2-t.2)) (b.1*b.2),max x t.2),ct2) else ((min (t.1+(max x t.2-t.2)) (b.1*b.2)-b.2,max x t.2),cs8):=by
 obtain⟨h1,-,h3⟩:=ht
 have h3:=h3 hb
 have hc:=(Ma h).resolve_left hb
 have e:zH b t (max x t.2)=min (t.1+(max x t.2-t.2)) (b.1*b.2):=by
  unfold zH w;rw[aJ (n:=max x t.2-t.2) Y Y,aJ Y Y,aJ Y Y]
 unfold lx w
 rw[I hb,e]
 split
 .rfl
 .rw[aJ Y Y]
theorem br4(h:jJ b=0)(ht:F6 b t)(hx:0<=x/\x<=1125899906842624):F6 b (lx b t x).1/\(lx b t x).1.2=max x t.2:=by
 have h1:=ht.1
 by_cases hb:b=(0,0)
 .subst hb;rw[show lx (0,0) t x=((0,max x t.2),cs8) by simp[lx]];exact⟨⟨⟨by show 0<=max x t.2;omega,by show max x t.2<=_;omega⟩,λ_=>rfl,λk=>absurd rfl k⟩,rfl⟩
 .have hc:=(Ma h).resolve_left hb;have h3:=ht.2.2 hb;rw[b85 h hb ht hx];split
  .exact⟨⟨⟨by show 0<=max x t.2;omega,by show max x t.2<=_;omega⟩,λk=>absurd k hb,λ_=>⟨by show 0<=min _ _;omega,by show min _ _<=_;omega⟩⟩,rfl⟩
  .exact⟨⟨⟨by show 0<=max x t.2;omega,by show max x t.2<=_;omega⟩,λk=>absurd k hb,λ_=>⟨by show 0<=min _ _-_;omega,by show min _ _-_<=_;omega⟩⟩,rfl⟩
structure wE (x:ar):Prop where
 n1:1<=V (aV x)
 n32:V (aV x)<=32
 id:rN x=0
 bk:jJ (nI x)=0
 rt:jH (ce x) (dc x)=0
 loop:¬ uo x
 ports:∀ i,i<V (aV x)->lR x i=0
 form:¬ tw x
variable{x:ar}
theorem ZW(h:iS x=0):wE x:=by
 unfold iS at h
 split at h
 .cases h
 rename_i a1
 split at h
 next k=>exact absurd h k
 rename_i a2
 split at h
 .cases h
 rename_i a3
 split at h
 .cases h
 rename_i a4
 split at h
 next k=>exact absurd h k
 rename_i a5
 split at h
 next k=>exact absurd h k
 rename_i a6
 refine⟨?_,Y,by simpa using a5,by simpa using a6,h,a3,B2 (by simpa using a2),a4⟩
 by_cases k:V (aV x)=0
 .exact absurd (.inr (.inr (.inr (.inr (.inr (.inr k)))))) a4
 .omega
theorem cf8(h:gm a):a≠0:=by
 rintro rfl
 revert h
 unfold gm
 decide
variable{l:cq7}
theorem zW{q}(h:0<=kC q l):kC q l<V l/\q (T l (M (kC q l)) cs5)=true:=by
 unfold kC at h ⊢
 split at h
 next hlt=>rw[ao hlt];refine⟨Y,?_⟩;rw[Int.toNat_natCast,cK,cT hlt,jb];exact List.findIdx_getElem (w:=hlt)
 .omega
theorem am7{q y}(hy:y∈l)(hq:q y=cs8):0<=kC q l:=by
 have hlt:=List.findIdx_lt_length_of_exists ⟨y,hy,hq⟩
 unfold kC;rw[ao hlt];omega
theorem ah2{i}(h:lR x i=0):gm (T (aV x) i cs5).1∧¬ (T (aV x) i cs5).2<0:=by
 unfold lR at h
 split at h
 .cases h
 next k=>
  split at h
  .cases h
  next k2=>exact⟨Az.1 λq=>k (.inl q),λq=>k2 (.inl q)⟩
theorem aM4(h:wE x)(ha:qw x a=cs8):a≠0:=by
 rintro rfl
 unfold qw at ha
 simp only[uJ,pJ,fB,sS,xZ] at ha
 obtain ha|⟨h1,h2⟩:=ha
 .have ha:0<=kC (qb 0) (aV x):=ha;have ⟨k1,k2⟩:=zW (q:=qb 0) (l:=aV x) ha;have:=(ah2 (h.ports (M (kC (qb 0) (aV x))) Y)).1;have e:=aX k2;rw[e] at this;exact cf8 this rfl
 .exact h1 h2
theorem bM0(h:wE x)(k):dV x k<V (aV x):=by
 have:=h.n1
 unfold dV
 by_cases hk:0<=f8 x k
 .have:=(zW hk).1;have e:f8 x k=kC (nN k) (aV x):=rfl;omega
 .omega
variable{i:Int}
theorem Zy(h0:0<=i)(h1:i<V (aV x)):adr x i=(T (aV x) (M i) cs5).1:=by
 unfold adr;rw[I Y]
theorem aH1{l}(h:ur l a=cs8):cD l a∈l:=by
 have key:∀(l:List Rt)(b:Option Rt)(r:Rt),l.foldl (BI a) b=cs6 r->r∈l∨b=cs6 r:=by
  intro l
  induction l with
  | nil=>intro b r e;exact .inr e
  | cons y l ih =>
   intro b r e;obtain h1|h1:=ih _ _ e
   .exact .inl (eZ _ h1)
   .unfold BI at h1;split at h1
    .split at h1
     .cases h1;exact .inl dU
     .split at h1
      .cases h1;exact .inl dU
      .exact .inr h1
    .exact .inr h1
 unfold ur at h
 unfold cD
 cases hl:tv l a with
 | none=>rw[hl] at h;cases h
 | some r =>
  obtain k|k:=key l none r hl
  .exact k
  .cases k
theorem WS{s}(h:¬ iU s a=ct2):cD (cR s) a∈cR s:=by
 refine aH1 ?_
 unfold iU at h
 cases hb:ur (cR s) a with
 | true=>rfl
 | false=>rw[hb] at h;simp at h
theorem ab6{s r k}(h:r.2.1≠[]):mW x s r k∈r.2.1:=by
 have hpos:1<=(V r.2.1:Int):=by cases hh:r.2.1 with
  | nil=>exact absurd hh h
  | cons a l=>simp;omega
 unfold mW
 split
 .exact cW (i:=0) Y Y
 .have hc:=af5 (way:=r.2.2) (seed:=LO x) (k:=k) (count:=p9 s) hpos;exact cW hc.1 hc.2
theorem Wh{r links}(h:pO r links):∀ y∈r.2.1,y∈links:=by
 intro y hy
 obtain⟨i,hi,rfl⟩:=cv8.1 hy
 have:=(h.1.2 i hi).2
 rwa [cK,cT hi,jb] at this
theorem OX{k}(h:k∈dc x):0<=f8 x k:=by
 obtain⟨y,hy,rfl⟩:=cv1.1 h
 exact am7 hy (by simp[nN])
variable{K:Int}
theorem a29{s}(hs:j6 x s K)(hw:¬ iU s a=ct2)(s')(k):0<=f8 x (mW x s' (cD (cR s) a) k) :=
 OX (Wh (hs.rt _ (WS hw)) _ (ab6 (Iv hw)))
theorem bW3{l}(h:∀ y∈l,0<=y/\y<=K)(hK:0<=K/\K<=2199023255552)(h0:0<=i):V (ww l i)=V l∧∀ y∈ww l i,0<=y/\y<=K+1:=by
 unfold ww
 split
 next hi=>
  refine⟨f5,λy hy=>?_⟩;obtain hy|rfl:=AL hy
  .have:=h y hy;omega
  .have:=h _ (cW h0 hi);rw[aJ Y Y];omega
 .exact⟨rfl,λy hy=>by have:=h y hy;omega⟩
variable{K':Int}
theorem j6.more{s}(h:j6 x s K)(hk:K<=K'):j6 x s K' :=
 ⟨h.srt,h.okl,h.rt,h.ps,h.tk,by have:=h.cn;omega,λy hy=>by have:=h.cp y hy;omega⟩
theorem j6.tok{s}(h:j6 x s K)(ht:F6 (nI x) t):j6 x (Iu s t) K:=⟨h.srt,h.okl,h.rt,h.ps,ht,h.cn,h.cp⟩
theorem j6.bal{s}(h:j6 x s K)(b):j6 x (ae0 s b) K:=⟨h.srt,h.okl,h.rt,h.ps,h.tk,h.cn,h.cp⟩
theorem j6.pick{s}(h:j6 x s K)(r):j6 x (jI s r) K:=by
 unfold jI;split
 .exact h
 .exact h.bal _
theorem j6.sent{s}(h:j6 x s K)(hK:0<=K/\K<=2199023255552)(h0:0<=i):j6 x (aq3 s i) (K+1):=by
 have ⟨b1,b2⟩:=bW3 h.cp hK h0
 refine⟨h.srt,h.okl,h.rt,b1.trans h.ps,h.tk,?_,b2⟩
 have:=h.cn
 show 0<=ct0.wrap (xP s+1)/\ct0.wrap (xP s+1)<=K+1
 rw[aJ Y Y];omega
theorem Qt{B E w own}(hx:wE w.1)(hs:j6 w.1 w.2.1 K)(hK:0<=K/\K<=2199023255552)(ha:0<=w.2.2.2.1/\w.2.2.2.1<=1125899906842624) :
  j6 w.1 (fU B E w own).1 (K+1):=by
 have ht:=br4 hx.bk hs.tk ha
 unfold fU
 split
 .exact hs.more Y
 split
 .exact hs.more Y
 split
 .exact hs.more Y
 split
 .exact (hs.tok ht.1).more Y
 .exact ((hs.tok ht.1).sent hK (KZ _ _)).pick _
variable{at':Int}
theorem aY3{s link b}(hx:wE x)(hs:j6 x s K)(hK:0<=K/\K<=2199023255552)(ha:0<=at'∧at'<=1125899906842624):j6 x (gX x s link at' b).1 (K+1):=by
 have m:j6 x s (K+1):=hs.more Y
 unfold gX iG
 split
 .exact m
 split
 .unfold ly;split
  .exact m
  .exact Qt (w:=IU (x,s,link,at',b,yz) (cN b).1) hx hs hK ha
 split
 .exact m
 .unfold ic;split
  .exact Qt (w:=IU (x,s,link,at',b,yz) (cN b).1) hx hs hK ha
  split
  .split
   .exact m
   .exact Qt (w:=IU (x,s,link,at',b,yz) (cN b).1) hx hs hK ha
  .exact m.pick _
theorem VW(hx:wE x):j6 x (vj x) 0:=by
 have ⟨h1,h2⟩:=CZ hx.rt
 obtain⟨-,-,h3⟩:=I0 hx.rt
 refine⟨h1,h2,λr hr=>(h3 r hr).2,wU,?_,⟨fJ _,fJ _⟩,λy hy=>by rw[cN1 hy];exact⟨fJ _,fJ _⟩⟩
 show F6 (nI x) (Bq (nI x) 0)
 rw[bi6 hx.bk]
 refine⟨⟨aw,aw⟩,λk=>by rw[k];rfl,λk=>?_⟩
 have:=(Ma hx.bk).resolve_left k
 exact⟨by show 0<=_*_;omega,fJ _⟩
def ar1:Ct:=⟨[.val (.sl fD)],[.own 156 fD],λd=>[okL d.1],λd=>((d.1,()),())⟩
def bO9:bG ar1.ps->bL:=(λd=>{loops:=(bz 3 (λS=>{ι:=Int,μ:=λi=>M (V d.1-i),inv:=λi=>0<=i/\i<=V d.1,keep:=[3,8,9],slots:=λi=>[(10,.int .i64 i)],keepN:=[128]}) cm)})
def Lg(a:List cF):=J (dh a)->xA a->O a<=134217728/\sa (O a) (qP a) (J (a=a))/\ ∀(b:Int),aF b (O a)->au (av b (O a)) (bP b (O a) (aR (N a b).2.1) (am b (b<O a) (rC (O a) b (qP a) (aA b) (J (set a (M b) (N a b)=a))))) (a=a)
theorem aQ8:
 ∀ a,Lg a:= by
  delta N O ap aq aH dh dC cU aT aR bi bZ am Lg aA J rC xA sa av bP rW aF qP
  rintro l ⟨⟨hl,-⟩,-⟩⟨h1,h2⟩
  simp only[maxLen] at hl
  refine⟨h1,⟨0,⟨Y,Y⟩,aI⟩,?_⟩
  rintro j ⟨j0,j1⟩
  refine bT (λhj=>?_) (λhj=>?_)
  .refine⟨j0,hj,h2 _ (cW j0 hj),j0,hj,j+1,⟨Y,Y⟩,Y,?_⟩
   (repeat refine g9 ?_)
   exact⟨ze j0 hj,aQ⟩
  .rfl
theorem ar4:aB 125 ar1.spec:=aG Tryz.func125 (C (C aC Zx) F2) bO9 aQ8
def bE3:Ct:=⟨[.agg eM],[.agg u9],λd=>[okL (ce d.1),(V (aV d.1):Int)<=1000000],λd=>((vj d.1,()),())⟩
def Kb(a:ar):=((w (a.2.2.2.2.2.2.2.2.2.2.1.1*a.2.2.2.2.2.2.2.2.2.2.1.2),(0:Int)),(0:Int))
theorem ch9:
 ∀ a,J (CT.wf eM a)->okL (ce a)/\O (aV a)<=1000000->bo (O a.1) (O a.1) (tJ ((↑((8:Nat)):Int)*O a.1)) (okL a.2.2.2.2.1/\(a.2.2.2.2.1,0,replicate (M (O a.1)) 0,Kb a)=vj a):= by
  delta O am bo J tJ Kb
  rintro d-⟨h,hl⟩
  have hl:(V d.1:Int)<=1000000:=hl
  exact⟨Y,Y,Y,h,rfl⟩
theorem ch5:aB 59 bE3.spec:=aG Tryz.func59 (C (C aC Zv) ar4) aS ch9
def bx2:Ct:=⟨[.agg eM,.agg u9,.val cI,.val cI,.val (.sl bc)],[.agg u9,.agg D6,.val cI],λd=>[dY (cR d.2.1),okL (cR d.2.1),(V (oh d.2.1):Int)<=1000000,(V d.2.2.2.2.1:Int)<=1000000],λd=>(((gX d.1 d.2.1 d.2.2.1 d.2.2.2.1 d.2.2.2.2.1).1,(gX d.1 d.2.1 d.2.2.1 d.2.2.2.1 d.2.2.2.2.1).2.1,(gX d.1 d.2.1 d.2.2.1 d.2.2.2.1 d.2.2.2.2.1).2.2,()),())⟩
theorem aU2:
 ∀ a b c d e f g h i j,CT.wf eM a/\iD b c d e f g/\bJ h i (aM j) True->dY (cR (b,c,d,(e,f),g))/\okL (cR (b,c,d,(e,f),g))/\bV (oh (b,c,d,(e,f),g))/\bV j->aR d/\okL b/\tF (a,(b,c,d,(e,f),g),h,i,j,sA)/\(iG (a,(b,c,d,(e,f),g),h,i,j,sA)).1=(gX a (b,c,d,(e,f),g) h i j).1/\(iG (a,(b,c,d,(e,f),g),h,i,j,sA)).2.1=(gX a (b,c,d,(e,f),g) h i j).2.1/\(iG (a,(b,c,d,(e,f),g),h,i,j,sA)).2.2=(gX a (b,c,d,(e,f),g) h i j).2.2:= by
  delta O aq aH aM dh dC cU aT aR bJ bV iD sA aF
  rintro d x x1 x2 x3 x4 x5 x6 x7 x8-⟨hs,hl,hp,hb⟩
  have e2:oh (x,x1,x2,(x3,x4),x5)=x2:=rfl
  rw[e2] at hp
  exact⟨Y,hl,⟨hs,hl,hb⟩,rfl,rfl,rfl⟩
theorem bg8:aB 136 bx2.spec:=aG Tryz.func136 (C (C (C aC F2) ar4) ay2) aS aU2
theorem Ez(s)(r):jI s r=(s.1,s.2.1,s.2.2.1,s.2.2.2.1,p9 (jI s r)):=by unfold jI;split <;> rfl
theorem b36(k)(w)(f i):(V (kB k w f i):Int)<=1500:=by
 unfold kB;split
 .exact QA ..
 .split
  .exact QA ..
  .exact ae8 ..
theorem aY6(w):yO w 0=fU (jO w) (qr w) w (mJ w.2.2.2.2.2):=rfl
theorem b45(w):yO w 1=fU (jO w) (qr w) w 0:=rfl
theorem co8(w):yO w 2=fU (ie w 11 0) (qg w 11 0) w 0:=rfl
theorem b61(w):yO w 3=fU (ie w 3 0) (qg w 3 0) w 0:=rfl
variable{n:cO}
theorem aL3(b:mi n=0)(d:bytes n.2.2):nQ (kP n)=0/\nj (kP n)=n:=by
 have c:=jW λk=>by rw[mi,ao k] at b;cases b
 have e:¬ (V n.2.2:Int)<28:=λk=>by rw[mi,I (λq=>q c),ao k] at b;cases b
 have h3:¬ (1472:Int)<V n.2.2:=λk=>by rw[mi,I (λq=>q c),I e,ao k] at b;cases b
 have hc:=xL (Qg c d)
 have ⟨t,k,l⟩:=n
 simp only at c h3 d hc e
 generalize hB:kP (t,k,l)=B
 have a:B=t::k::(eJ (qC (t,k,l))/256%256)::(eJ (qC (t,k,l))%256)::0::0::0::0::l:=by rw[← hB,kP,ao b];rfl
 have i2:aW B (M 2)=eJ (qC (t,k,l))/256%256*256+eJ (qC (t,k,l))%256:=by rw[a];exact jG _ _ _
 have i4:aW B (M 4)=0:=by rw[a];exact (jG 0 0 _)
 have i6:aW B (M 6)=0:=by rw[a];exact (jG 0 0 _)
 have hset:dR B (M 2) 0=qC (t,k,l):=by rw[a];rfl
 have hlen:(V B:Int)=8+V l:=by rw[a];simp;omega
 have f:T B (M 0) cs5=t:=by rw[a];rfl
 have g1:T B (M 1) cs5=k:=by rw[a];rfl
 have g8:B.drop 8=l:=by rw[a];rfl
 have g:nQ B=0:=by
  rw[nQ,I Y,I (λq=>q ⟨by rw[f];exact c.1,i4,i6⟩),I Y,I];grind
 refine⟨g,?_⟩
 rw[nj,ao g,f,g1,g8]
theorem YN(h0:mi n=0):T (kP n) 0 cs5=n.1/\V (kP n)=8+V n.2.2:=by
 rw[kP,ao h0];exact⟨rfl,by rw[oJ,T1]⟩
theorem Sl(a:mi n=0)(hb:bytes n.2.2):bytes (kP n):=by
 have h1:=jW λk=>by rw[mi,ao k] at a;cases a
 rw[kP,ao a];exact zA (Qg h1 hb)
structure eV (p:bu):Prop where
 ok:dJ p=0
 s:u32 p.1
 d:u32 p.2.1
variable{p:bu}
theorem eV.dec(g:eV p):cC (build p)=yK p/\eO (build p)=0/\(build p).drop 20=ib p:=Vl g.ok g.s g.d
theorem eV.len(g:eV p):((p.2.2.1≠6/\V (build p)=30)∨(p.2.2.1=6/\V (build p)=40)):=by
 rw[NO g.ok,cw,zc]
 obtain h|h:=Jd g.ok
 .simp_all
 .simp_all
theorem ab9(g:eV p):(p.2.2.1=1->T (ib p) 0 cs5=8)/\(p.2.2.1=6->T (ib p) 13 cs5=2):=by
 have a:=(qM.1 g.ok).2
 constructor
 .intro h;rw[Fu a h];rfl
 .intro h;rw[Gx a h];rfl
theorem R0(g:eV p):fV (build p)↔gm p.1:=by
 have ⟨a,e2,b⟩:=g.dec
 have c:dI (build p)=p.1:=by rw[dI,a];rfl
 constructor
 .intro h;rw[← c];exact (wz h).2.2.2.2
 .intro hu;refine bG2 e2 (by obtain h|h:=g.len <;> omega) ?_ ?_ (by rw[c];exact hu)
  .rw[b];intro h;exact (ab9 g).1 (by rw[fw,a] at h;exact h)
  .rw[b];intro h _;rw[(ab9 g).2 (by rw[fw,a] at h;exact h)];decide
theorem a16(g:eV p):(p.2.2.1=1->aW (ib p) 4=21075/\aW (ib p) 6=p.2.2.2.2.1)/\(p.2.2.1=17->aW (ib p) 4=10/\aW (ib p) 6=p.2.2.2.2.1+1)/\(p.2.2.1=6->gk (((ib p).drop 4).take 4)=p.2.2.2.2.1):=by
 have a:=(qM.1 g.ok).2
 obtain⟨hf,ht,-⟩:=id a
 refine⟨λh=>?_,λh=>?_,λh=>?_⟩
 .rw[Fu a h,Cv (by show 4+2<=10;omega) Y,Cv (by show 6+2<=10;omega) Y];refine⟨rfl,?_⟩;show aW (_::_::_) 0=_;rw[jG];exact rr (n:=p.2.2.2.2.1) Y Y
 .have hs:=bt0 a;rw[IT a h,Cv (by show 4+2<=10;omega) Y,IK (by show 6+2<=10;omega) Y Y];refine⟨?_,hs⟩;show aW (_::_::_) 0=10;rw[jG];have:((wM p).2.2.length:Int)=2:=rfl;rw[this];decide
 .rw[Gx a h];show gk [_,_,_,_]=_;rw[I8];exact Qv (n:=p.2.2.2.2.1) ⟨Y,Y⟩
theorem br8(g:eV p):V ((build p).take 28)=28/\bytes ((build p).take 28)/\ox ((build p).take 28)=(p,cs8):=by
 have ⟨e1,n,o⟩:=g.dec
 have a:V ((build p).take 28)=28:=by rw[fF];obtain h|h:=g.len <;> omega
 refine⟨a,TE (Wp p),?_⟩
 have c:cC ((build p).take 28)=yK p:=by
  rw[← e1];unfold cC;rw[Ch Y,Ch Y,Ch Y,wP Y,wP Y,Fs Y,Fs Y]
 have j:jh ((build p).take 28)=0:=by
  have q:=L0 n;rw[jh,I Y] at q ⊢;rw[Ch Y,wP Y,wP Y,wP Y,List.take_take];exact q
 have d:∀ i,i+2<=8->aW ((build p).take 28) (20+i)=aW (ib p) i:=λi hi=>by
  rw[wP Y,← o];unfold aW;rw[cA1]
 have r:=d 0 Y
 have s:=d 2 Y
 have w4:=d 4 Y
 have w6:=d 6 Y
 have n4:gk ((((build p).take 28).drop 24).take 4)=gk (((ib p).drop 4).take 4):=by rw[Fs Y,← o,cA1]
 have e:=bQ7 g.ok
 have f:=a16 g
 have l:aW ((build p).take 28) 2=V (build p):=by rw[wP Y,(ER n).2]
 have hq:HC ((build p).take 28):=⟨j,a,by rw[c];rfl,by rw[c];rfl⟩
 have b:fw ((build p).take 28)=p.2.2.1:=by rw[fw,c];rfl
 have m:DV ((build p).take 28)=p.2.2.2.1:=by
  rw[DV,b];rw[s,r,e.1,e.2];obtain h|h|h:=(qM.1 g.ok).1 <;> simp[h,FL,DK] <;> omega
 have hP:vD ((build p).take 28)=p:=by
  rw[vD,m,b,dI,iw,c];rfl
 rw[ox,ao hq,hP]
 have hR:uM ((build p).take 28):=by
  unfold uM;rw[b,c];rw[r,s,w4,w6,n4,e.1,e.2,l];obtain h|h|h:=(qM.1 g.ok).1
  .refine .inl ⟨h,?_,by rw[FL,ao h],(f.1 h).1,(f.1 h).2⟩;obtain k|k:=g.len <;> omega
  .refine .inr (.inr ⟨h,?_,by rw[DK,I Y,I Y],f.2.2 h⟩);obtain k|k:=g.len <;> omega
  .refine .inr (.inl ⟨h,?_,by rw[DK,I Y,ao h],?_,(f.2.1 h).2⟩)
   .obtain k|k:=g.len <;> omega
   .obtain k|k:=g.len <;> omega
 rw[f7 ⟨hR,g.ok⟩]
variable{dst id:Int}
theorem Gn{src proto e data}(f:lF id e)(g:0<=proto/\proto<=255)(hs:u32 src)(hd:u32 dst)(i:(V data:Int)<=1480)(hb:bytes data) :
  eO (gW (lK src dst proto id e data))=0/\cC (gW (lK src dst proto id e data))=(0,id,e,proto,ct2,src,dst)/\(gW (lK src dst proto id e data)).drop 20=data/\V (gW (lK src dst proto id e data))=20+V data:=by
 have h0:=EL (src:=src) (dst:=dst) f g i
 have ⟨⟨a,b⟩,c,d⟩:=f
 rw[gW,ao h0]
 have:=TF (h:=(0,id,e,proto,ct2,src,dst)) ⟨⟨fJ _,by simp only;omega⟩,⟨c,d⟩,g,a,b⟩ hs hd i hb
 refine⟨this.2.1,this.1,this.2.2,?_⟩
 show V (nU _ _++data)=_
 rw[cw,zc]
structure GY (p:bu) (a:oI) (x:Z):Prop where
 no:¬ fV x
 rd:gu x=(wc p 0,a)
 re:rH x=0
 len:V x<=1500
theorem eV.t1(g:eV p)(t)(h:1<=t/\t<=255):dJ (wc p t)=0:=by
 obtain⟨h1,h2,h3,-⟩:=qM.1 g.ok
 exact qM.2 ⟨h1,h2,h3,h⟩
theorem Qf{a x}(g:eV p)(c:eO x=0)(b:kF x=(wc p 0,(0,a.2.1,a.2.2.1,0,0,a.2.2.2.2.2),cs8))(ha:a.1=dI x)(hl:a.2.2.2.1=(cC x).2.2.1)(hi:a.2.2.2.2.1=(cC x).2.1)(hn:¬ fV x):GY p a x:=by
 have d:Eg x:=⟨c,by rw[b],by rw[b];exact g.t1 1 Y⟩
 have:=ER c
 refine⟨hn,?_,by rw[rH,ao d],Y⟩
 rw[gu,ao d,b,← ha,← hl,← hi]
variable{a kind code:Int}
theorem MT(g:eV p)(hu:gm p.1){b}(hf:u32 a)(f:Bj kind code id b) :
  jf (build p) kind code id b=0/\GY p (a,xN kind code,code,b,id,p.2.2.2.2.2) (lH (build p) a kind code id b)/\V (lH (build p) a kind code id b)=56:=by
 have ha:=(R0 g).2 hu
 obtain⟨e0,eB,h,-⟩:=Nt f ha
 obtain⟨e1,-,-⟩:=g.dec
 have ⟨ql,l,qv⟩:=br8 g
 have hs:dI (build p)=p.1:=by rw[dI,e1];rfl
 have hk:=f.1
 refine⟨e0,?_⟩
 rw[eB,hs]
 generalize hD:kP (kind,code,(build p).take 28)=D
 have i:=aL3 h l
 have e:=YN h
 have m:=Sl h l
 rw[hD] at i e m
 rw[ql] at e
 have n:=Gn (proto:=1) f.2.2 Y hf g.s Y m
 generalize gW (lK a p.1 1 id b D)=x at n
 have ⟨s1,c,o,s4⟩:=n
 have d:fw x=1:=by rw[fw,c]
 have j:¬ T D 0 cs5=8:=by rw[e.1];omega
 refine⟨Qf g s1 ?_ (by rw[dI,c]) (by rw[c]) (by rw[c]) (λk=>?_),by rw[s4,e.2]⟩
 .rw[kF,I,ao d,o,uC,ao i.1,i.2]
  .simp only;rw[qv];simp[iw,c,wc]
  .grind
 .exact j (by have:=(wz k).2.2.1 d;rw[o] at this;exact this)
theorem b83(t n):dS cs8 (fc (cs8,21075,t,w2 n))=dS cs8 (fc (ct2,21075,t,w2 n))-2048:=by
 simp[fc,w2,dS];omega
theorem cr0(t n):23000<=dS cs8 (fc (ct2,21075,t,w2 n)):=by
 simp[fc,w2,dS];omega
def yX(p:bu)(id ttl:Int):oI:=if p.2.2.1=6 then (p.2.1,4,0,ttl,id,0) else if p.2.2.1=17 then (p.2.1,3,3,ttl,id,p.2.2.2.2.2) else (p.2.1,2,0,ttl,id,0)
variable{c:Int}
theorem ZF(g:eV p)(hu:gm p.1)(r:lF id c) :
  jE (build p) id c=0/\GY p (yX p id c) (md (build p) p.2.1 id c):=by
 have ha:=(R0 g).2 hu
 have ⟨e1,e2,t⟩:=g.dec
 have v:dI (build p)=p.1:=by rw[dI,e1];rfl
 have hd:iw (build p)=p.2.1:=by rw[iw,e1];rfl
 have j:fw (build p)=p.2.2.1:=by rw[fw,e1];rfl
 have f:=(qM.1 g.ok).2
 have hr':=f
 obtain⟨hf,ht,-⟩:=hr'
 obtain h|h|h:=(qM.1 g.ok).1
 .have l:ib p=gY (ph p):=by rw[Fu f h,gY,ao (Si f)]
  have u:=VP (SD f) (px _) (by rw[BB];omega);have hh:=L8 (src:=p.2.1) r ha (by rw[j];exact h) (by rw[t,l];exact u.1);refine⟨hh.2,?_⟩;rw[hh.1,v,t,l,u.2];have w:N3 (w2 (z5 p)) (cs8,(ph p).2):=⟨(SD f).1,rfl⟩
  have b:=VP w (px _) (by rw[BB];omega);have eg:=KE w (by rw[BB];omega);have a:gY (cs8,(ph p).2)=dR (fc (cs8,(ph p).2)) 2 (eJ (fc (cs8,(ph p).2))):=by rw[gY,ao eg]
  have bb:bytes (fc (cs8,(ph p).2)):=EB (px _);have hcs:=xL bb;have ecs:eJ (fc (cs8,(ph p).2))=18432+p.2.2.2.1:=by
   have h1:=Yb f;have h2:=b83 p.2.2.2.2.1 (z5 p);unfold eJ at h1 ⊢;have k1:ph p=(ct2,21075,p.2.2.2.2.1,w2 (z5 p)):=rfl;rw[k1] at h1 ⊢;simp only;unfold oc at h1 ⊢;omega
  have w2c:aW (gY (cs8,(ph p).2)) 2=18432+p.2.2.2.1:=by
   rw[a,IK (by show 2+2<=10;omega) hcs.1 hcs.2,ecs]
  have hl10:V (gY (cs8,(ph p).2))=10:=by rw[a,oJ];rfl
  have hb:bytes (gY (cs8,(ph p).2)):=by rw[a];exact zA bb
  have h0:T (gY (cs8,(ph p).2)) 0 cs5=0:=by rw[a];rfl
  generalize hD:gY (cs8,(ph p).2)=D at *;have sb:=Gn (proto:=1) r Y g.d g.s Y hb;generalize gW (lK p.2.1 p.1 1 id c D)=x at sb;have ⟨s1,i,m,s4⟩:=sb;have e:fw x=1:=by rw[fw,i]
  have hx:iw x=p.1:=by rw[iw,i]
  have hy:dI x=p.2.1:=by rw[dI,i]
  rw[yX,I Y,I Y];refine Qf g s1 ?_ hy.symm (by rw[i]) (by rw[i]) (λk=>?_)
  .have n:Jf D:=⟨b.1,by rw[b.2],by rw[b.2];rfl,by rw[b.2];rfl⟩
   rw[kF,ao ⟨e,by rw[m];omega,by rw[m];exact h0⟩,m,wT,ao n,hx,hy,w2c,b.2];have e9:18432+p.2.2.2.1-18432=p.2.2.2.1:=Y;rw[e9,wc,h];rfl
  .have:=(wz k).2.2.1 e;simp_all
 .have l:ib p=io p.1 p.2.1 (qL p):=by rw[Gx f h,io,ao (Sw f)]
  have u:=an0 (s:=p.1) (d:=p.2.1) (Rv f) rT aw;have o:gG (dI (build p)) (iw (build p)) ((build p).drop 20)=qL p:=by rw[v,hd,t,l];exact u.2
  have hh:=Jv (src:=p.2.1) r ha (by rw[j];exact h) (by rw[v,hd,t,l];exact u.1) (by rw[o];show bits .and .i64 2 2≠0;decide) (by rw[o];show bits .and .i64 2 4=0;decide);refine⟨hh.2,?_⟩;rw[hh.1,o,v];have eY:pB (qL p)=(80,20000+p.2.2.2.1,0,p.2.2.2.2.1+1,20,0,[]):=by
   have:(p.2.2.2.2.1+1)%4294967296=p.2.2.2.2.1+1:=Y;show (80,20000+p.2.2.2.1,0,(p.2.2.2.2.1+1)%4294967296,20,0,[])=_;rw[this]
  have q:N1 [] (pB (qL p)):=by
   rw[eY];refine⟨⟨(jP _).2 ⟨?_,?_⟩,(jP _).2 ⟨?_,?_⟩,⟨?_,?_⟩,⟨?_,?_⟩,⟨?_,?_⟩,(jP _).2 ⟨?_,?_⟩⟩,rfl⟩ <;> simp only <;> omega
  have b:=an0 (s:=p.2.1) (d:=p.1) q rT aw;have eg:=QC q aw;have a:io p.2.1 p.1 (pB (qL p))=dR (pg (pB (qL p))) 16 (jc p.2.1 p.1 6 (pg (pB (qL p)))):=by rw[io,ao eg]
  have hb:bytes (io p.2.1 p.1 (pB (qL p))):=by rw[a];exact zA (H4 q.1 rT)
  have hl20:V (io p.2.1 p.1 (pB (qL p)))=20:=by rw[a,oJ];rfl
  have h13:T (io p.2.1 p.1 (pB (qL p))) 13 cs5=20:=by rw[a];rfl
  rw[eY] at b;generalize hD:io p.2.1 p.1 (pB (qL p))=D at *;rw[← eY,hD] at b;have sb:=Gn (proto:=6) r Y g.d g.s Y hb;generalize gW (lK p.2.1 p.1 6 id c D)=x at sb;have ⟨s1,i,m,s4⟩:=sb;have e:fw x=6:=by rw[fw,i]
  have hx:iw x=p.1:=by rw[iw,i]
  have hy:dI x=p.2.1:=by rw[dI,i]
  rw[eY] at b;rw[yX,ao h];refine Qf g s1 ?_ hy.symm (by rw[i]) (by rw[i]) (λk=>?_)
  .have n:Ji p.2.1 p.1 D:=⟨b.1,by rw[b.2],by rw[b.2],by rw[b.2],by rw[b.2],by rw[b.2]⟩
   rw[kF,I (by rw[e];omega),I Y,ao e,m,hx,hy,wW,ao n,b.2];have e9:20000+p.2.2.2.1-20000=p.2.2.2.1:=Y;have e8:p.2.2.2.2.1+1-1=p.2.2.2.2.1:=Y;rw[e9,e8,wc,h]
  .have:=(wz k).2.2.2.1 e (by rw[m];omega);rw[m,h13] at this;exact absurd this aD
 .have l:ib p=py p.1 p.2.1 (wM p):=by rw[IT f h,py,ao (S9 f)]
  have u:=as8 (s:=p.1) (d:=p.2.1) (UT f) (px _) (by rw[BB];omega);have hh:=LW (src:=p.2.1) r ha (by rw[j];exact h) (by rw[v,hd,t,l];exact u.1);refine⟨hh.2,?_⟩;rw[hh.1,yX,I Y,ao h];exact (MT g hu g.d (code:=3) ⟨.inr rfl,Y,r⟩).2.1
def U3(p:bu)(x:Z):Prop:=(¬ gm p.1->x=[])/\(gm p.1→∃ a:oI,0<a.2.1/\GY p a x)
def DB(x:ar):Prop:=(∀ y∈aV x,u32 y.1)/\u32 (kX x)/\u32 (wj x)
theorem a38{n}(h:DN n){i}(a:i<V n.1):DB (T n.1 i cs5):=by
 have d:=h.d i a
 have l10:=h.l10
 have n7:=h.n7
 refine⟨λy hy=>?_,?_,?_⟩
 .have ⟨j,hj,q⟩:=(h.port a).1 hy;unfold iE at q;obtain⟨-,rfl⟩|⟨-,rfl⟩:=q <;> (constructor <;> simp only <;> omega)
 .obtain q|q:=d.loop <;> (rw[q];constructor <;> omega)
 .obtain q|q:=d.fix
  .constructor <;> omega
  .constructor <;> omega
theorem al8{B F w}(h:F 0≠0):(fU B F w a).2.2≠2:=by
 by_cases k:a=0/\pF w.1=cs8
 .rw[Di k];show (4:Int)≠2;decide
 .rw[CM k h];show (6:Int)≠2;decide
variable{b:Z}
theorem J6(h:¬ fV b)(k c i t):jf b k c i t≠0:=by
 unfold jf
 grind
theorem Uc(h:¬ fV b)(i t):jE b i t≠0:=by
 unfold jE
 by_cases g:lF i t
 .rw[I (by simpa using g),I (λk=>h k.1)];decide
 .rw[ao g];decide
variable{t lk:Int}{x:ar}
theorem aC5{s}(h:¬ fV b):(gX x s lk t b).2.2≠2:=by
 unfold gX iG
 split
 .simp_all
 split
 .unfold ly;rw[ao (.inr (by exact Uc h _ _))];show (1:Int)≠2;decide
 split
 .simp_all
 unfold ic
 split
 .exact al8 (J6 h _ _ _ _)
 split
 .split
  .simp_all
  .exact al8 (J6 h _ _ _ _)
 .simp_all
theorem TO{B F w}:(fU B F w a).2.2≠0/\(fU B F w a).2.2≠1:=by
 by_cases k:a=0/\pF w.1=cs8
 .rw[Di k];exact⟨(by show (4:Int)≠0;decide),(by show (4:Int)≠1;decide)⟩
 by_cases b:F 0≠0
 .rw[CM k b];exact⟨(by show (6:Int)≠0;decide),(by show (6:Int)≠1;decide)⟩
 by_cases c:iU w.2.1 (rb w.2.2.2.2.2)=ct2
 .rw[Fa k b c];exact⟨(by show (8:Int)≠0;decide),(by show (8:Int)≠1;decide)⟩
 by_cases d:(oQ w).2=ct2
 .rw[E0 k b c d];exact⟨(by show (5:Int)≠0;decide),(by show (5:Int)≠1;decide)⟩
 .rw[F3 k b c d];exact⟨(by show (2:Int)≠0;decide),(by show (2:Int)≠1;decide)⟩
structure WG (x:ar) (s:NState) (lk:Int) (b:Z):Prop where
 dec:eO b=0
 own:¬ qw x (mJ (cN b).1)=cs8
 host:¬ (qy x=cs8/\lk ≠ -1)
 ttl:¬ (lk ≠ -1/\g7 x=ct2/\ET (cN b).1<2)
 way:¬ iU s (mJ (cN b).1)=ct2
def JF(s:NState)(b:Z):Rt:=cD (cR s) (mJ (cN b).1)
theorem QH{s}(h:WG x s lk b):gX x s lk t b=(jI s (JF s b),(mW x s (JF s b) (jY b),if lk ≠ -1/\g7 x=ct2 then mg b else b),0):=by
 show iG (x,s,lk,t,b,yz)=_
 unfold iG
 rw[I (by simpa using h.dec),I h.own,I h.host]
 have e:∀ w,w.1=x->w.2.1=s->w.2.2.1=lk->w.2.2.2.2.1=b->w.2.2.2.2.2=(cN b).1->ic w=(jI s (JF s b),(mW x s (JF s b) (jY b),if lk ≠ -1/\g7 x=ct2 then mg b else b),0):=by
  intro w e1 e2 e3 e4 e5;unfold ic;rw[e1,e2,e3,e4,e5,I h.ttl,I h.way];rfl
 exact e _ rfl rfl rfl rfl rfl
theorem SM{s}(h:(gX x s lk t b).2.2=0):WG x s lk b:=by
 have h:(iG (x,s,lk,t,b,yz)).2.2=0:=h
 unfold iG at h
 by_cases c:eO b≠0
 .simp_all
 rw[I c] at h
 by_cases a:qw x (mJ (cN b).1)=cs8
 .rw[ao a] at h;unfold ly at h;split at h
  .simp_all
  .exact absurd h TO.1
 rw[I a] at h
 by_cases d:qy x=cs8/\lk ≠ -1
 .simp_all
 rw[I d] at h
 unfold ic at h
 split at h
 .exact absurd h TO.1
 rename_i k5
 split at h
 .split at h
  .simp_all
  .exact absurd h TO.1
 rename_i k6
 exact⟨by simpa using c,a,d,k5,k6⟩
theorem bh7(g:eV p):eO (build p)=0/\(cN (build p)).1=yK p:=by
 have h:=Vl g.ok g.s g.d
 exact⟨h.2.1,by rw[cN,ao h.2.1];exact h.1⟩
def OI(x:ar)(s s':NState)(t why:Int):Prop :=
 cR s'=cR s/\V (oh s')=V (oh s) ∧
  ((why≠2/\xP s'=xP s/\(zt s'=zt s∨(zt s'=(lx (nI x) (zt s) t).1/\(lx (nI x) (zt s) t).2=ct2))) ∨
    (why=2/\xP s'=ct0.wrap (xP s+1)/\zt s'=(lx (nI x) (zt s) t).1/\(lx (nI x) (zt s) t).2=cs8))
theorem DT{s why}(h:why≠2):OI x s s t why:=⟨rfl,rfl,.inl ⟨h,rfl,.inl rfl⟩⟩
theorem aP9(l)(i):V (ww l i)=V l:=by
 unfold ww;split
 .exact f5
 .rfl
theorem QY{B F w}:OI w.1 w.2.1 (fU B F w a).1 w.2.2.2.1 (fU B F w a).2.2:=by
 by_cases k:a=0/\pF w.1=cs8
 .rw[Di k];exact DT (by show (4:Int)≠2;decide)
 by_cases b:F 0≠0
 .rw[CM k b];exact DT (by show (6:Int)≠2;decide)
 by_cases d:iU w.2.1 (rb w.2.2.2.2.2)=ct2
 .rw[Fa k b d];exact DT (by show (8:Int)≠2;decide)
 by_cases c:(oQ w).2=ct2
 .rw[E0 k b d c];exact⟨rfl,rfl,.inl ⟨(by show (5:Int)≠2;decide),rfl,.inr ⟨rfl,c⟩⟩⟩
 .rw[F3 k b d c];have k4:(oQ w).2=true:=by simpa using c
  refine⟨?_,?_,.inr ⟨rfl,?_,?_,k4⟩⟩
  .rw[Ez];rfl
  .rw[Ez];exact aP9 _ _
  .rw[Ez];rfl
  .rw[Ez];rfl
theorem WP(x)(s)(lk t)(b):OI x s (gX x s lk t b).1 t (gX x s lk t b).2.2:=by
 unfold gX iG
 split
 .exact DT (by show (6:Int)≠2;decide)
 split
 .unfold ly;split
  .exact DT (by show (1:Int)≠2;decide)
  .exact QY
 split
 .exact DT (by show (6:Int)≠2;decide)
 unfold ic
 split
 .exact QY
 split
 .split
  .exact DT (by show (8:Int)≠2;decide)
  .exact QY
 .refine⟨?_,?_,.inl ⟨(by show (0:Int)≠2;decide),?_,.inl ?_⟩⟩ <;> (rw[Ez];rfl)
theorem ab1{n s b}(hb:0<=sw n/\sw n<=65535)(ha:0<=b/\b<=65535):0<=pj n s c a b dst/\pj n s c a b dst<=65535:=by
 have hc:∀ x,0<=xK n x a/\xK n x a<=65535:=λx=>by unfold xK;omega
 unfold pj
 grind
theorem JT(A:DB x){i:Int}(a:0<=i)(b:i<V (aV x)):u32 (adr x i)/\qw x (adr x i)=true:=by
 have c:=cW a b
 rw[Zy a b]
 refine⟨A.1 _ c,?_⟩
 have:0<=pT x (T (aV x) (M i) cs5).1:=am7 c (by simp[qb])
 unfold qw
 rw[f7 this];rfl
variable{L:Int}
theorem bb7(S:wE x)(A:DB x)(a:0<=f8 x lk)(f:0<=f8 x L) :
  u32 (pb x (dV x lk) L)/\(qw x (pb x (dV x lk) L)=cs8∨(pI x=4/\pb x (dV x lk) L=wj x))/\(pI x=1->pb x (dV x lk) L=(T (aV x) (M (f8 x lk)) cs5).1):=by
 have e:dV x lk=f8 x lk:=by unfold dV;omega
 have g:=(zW a).1
 have l1:=(zW f).1
 rw[e]
 unfold pb
 by_cases h:pI x=2
 .rw[ao h];have k:=JT A f l1;simp_all
 rw[I h]
 by_cases b:pI x=3
 .rw[ao b];have c:kX x≠0:=λq=>S.form (.inr (.inr (.inl ⟨b,q⟩)));refine⟨A.2.1,.inl ?_,λq=>Y⟩;unfold qw;simp[c]
 rw[I b]
 by_cases d:pI x=4
 .rw[ao d];exact⟨A.2.2,.inr ⟨d,rfl⟩,λq=>Y⟩
 rw[I d]
 have k:=JT A a g
 exact⟨k.1,.inl k.2,λ_=>Zy a g⟩
theorem T3{B F w}(h:(fU B F w a).2.2=2) :
  F 0=0∧¬ iU w.2.1 (rb w.2.2.2.2.2)=ct2/\fU B F w a=(jI (pc w) (pV w),(mL B w,B (lG B w a) (jz w)),2):=by
 by_cases k:a=0/\pF w.1=cs8
 .rw[Di k] at h;exact absurd h (by show (4:Int)≠2;decide)
 by_cases b:F 0≠0
 .rw[CM k b] at h;exact absurd h (by show (6:Int)≠2;decide)
 by_cases c:iU w.2.1 (rb w.2.2.2.2.2)=ct2
 .rw[Fa k b c] at h;exact absurd h (by show (8:Int)≠2;decide)
 by_cases d:(oQ w).2=ct2
 .rw[E0 k b c d] at h;exact absurd h (by show (5:Int)≠2;decide)
 .exact⟨by simpa using b,c,F3 k b c d⟩
variable{b:Z}
theorem OD{s}(h:(gX x s lk t b).2.2=2) :
  ∃ ki,gX x s lk t b=yO (Mh x s lk t b) ki/\((ki=0/\qw x (mJ (cN b).1)=cs8/\IL (cN b).1≠17)∨(ki=1/\IL (cN b).1=17)∨ki=2∨ki=3):=by
 have e0:gX x s lk t b=iG (x,s,lk,t,b,yz):=rfl
 rw[e0] at h ⊢
 unfold iG at h ⊢
 by_cases k1:eO b≠0
 .simp_all
 rw[I k1] at h ⊢
 by_cases k2:qw x (mJ (cN b).1)=cs8
 .rw[ao k2] at h ⊢;unfold ly at h ⊢;split at h
  .simp_all
  rename_i k3;rw[I k3];by_cases k4:IL (cN b).1=17
  .exact⟨1,by rw[b45];exact dL (fU _ _ _) (ao k4),.inr (.inl ⟨rfl,k4⟩)⟩
  .exact⟨0,by rw[aY6];exact dL (fU _ _ _) (I k4),.inl ⟨rfl,k2,k4⟩⟩
 rw[I k2] at h ⊢
 by_cases k4:qy x=cs8/\lk ≠ -1
 .simp_all
 rw[I k4] at h ⊢
 unfold ic at h ⊢
 split at h
 next k5=>exact⟨2,by rw[ao k5,co8];rfl,.inr (.inr (.inl rfl))⟩
 rename_i k5
 rw[I k5]
 split at h
 next k6=>
  rw[ao k6];split at h
  .simp_all
  rename_i k7;exact⟨3,by rw[I k7,b61];rfl,.inr (.inr (.inr rfl))⟩
 .simp_all
variable{ki:Int}
theorem Qa{w}(h:kE ki w 0=0):fV w.2.2.2.2.1:=jW λk=>by
 unfold kE at h
 split at h
 .exact J6 k _ _ _ _ h
 split at h
 .exact J6 k _ _ _ _ h
 .exact Uc k _ _ h
structure bQ9 (x:ar) (lk:Int) (p:bu) (a:oI) (r:sO):Prop where
 is:GY p a r.2.1.2
 left:a.2.2.2.1=mD x
 quoted:a.2.2.2.2.2=0∨a.2.2.2.2.2=p.2.2.2.2.2
 out:0<=f8 x r.2.1.1
 exc:a.2.1=1->pI x=1->a.1=(T (aV x) (M (f8 x lk)) cs5).1
 own:qw x a.1=cs8∨(pI x=4/\a.1=wj x)
 cnt:T (oh r.1) (M (f8 x lk)) cs5=1
theorem R9(B:wE x)(A:DB x)(g:eV p)(hlk:lk∈dc x)(h:(gX x (vj x) lk 0 (build p)).2.2=2):∃ a,bQ9 x lk p a (gX x (vj x) lk 0 (build p)):=by
 have st:=VW B
 have ⟨c,e,hk⟩:=OD h
 rw[e] at h ⊢
 have ⟨d1,d2⟩:=bh7 g
 obtain⟨w,l⟩:∃ w,w=Mh x (vj x) lk 0 (build p):=⟨_,rfl⟩
 rw[← l] at h ⊢
 have ⟨a1,a2,a3⟩:=T3 h
 have i:w.1=x:=by rw[l];rfl
 have w2:w.2.1=vj x:=by rw[l];rfl
 have w3:w.2.2.1=lk:=by rw[l];rfl
 have o:w.2.2.2.2.1=build p:=by rw[l];rfl
 have w6:w.2.2.2.2.2=yK p:=by rw[l];exact d2
 have s:gm p.1:=by
  have:=Qa a1;rw[o] at this;exact (R0 g).1 this
 have hi:=OX hlk
 have hin:dV x lk=f8 x lk:=by unfold dV;omega
 have i1:f8 x lk<V (aV x):=(zW hi).1
 have m:0<=f8 x (mL (kB c w) w):=by
  have:=a29 st (by rw[← w2];exact a2) (pc w) (jY (kB c w (adr w.1 (dV w.1 w.2.2.1)) 0));unfold mL pV;simp_all
 have ⟨s1,s2,s3⟩:=bb7 B A hi m
 have hr:=(qM.1 g.ok).2
 obtain⟨hf,ht,-⟩:=id hr
 have hb:0<=sw x/\sw x<=65535:=by
  have h:=B.id;unfold rN at h;split at h
  next k=>have:=aX k;omega
  .cases h
 have d:lF (jz w) (mD x):=by
  have f:=B.form;unfold tw at f;refine⟨?_,Y,Y⟩;unfold jz;rw[i,w6];exact ab1 hb ⟨by show 0<=p.2.2.2.2.1;omega,by show p.2.2.2.2.1<=65535;omega⟩
 have hc:T (oh (yO w c).1) (M (f8 x lk)) cs5=1:=by
  have e1:(yO w c).1=jI (pc w) (pV w):=dL (λr:sO=>r.1) a3;have e2:oh (yO w c).1=ww (replicate (V (aV x)) 0) (f8 x lk):=by
   rw[e1,Ez];show ww (oh w.2.1) (dV w.1 w.2.2.1)=_;rw[i,w2,w3,hin];rfl
  rw[e2,So (by rw[wU];exact i1)];have:M (f8 x lk)<V (replicate (V (aV x)) (0:Int)):=by rw[wU];omega
  rw[cK,List.getElem?_set_self this,jb,cK,cT this,jb,List.getElem_replicate];decide
 have b:(yO w c).2.1=(mL (kB c w) w,kB c w (lG (kB c w) w (tM c w)) (jz w)):=dL (λr:sO=>r.2.1) a3
 have hsrc:pb w.1 (dV w.1 w.2.2.1) (mL (kB c w) w)=pb x (dV x lk) (mL (kB c w) w):=by rw[i,w3]
 have hF:tM c w=0->lG (kB c w) w (tM c w)=pb x (dV x lk) (mL (kB c w) w):=λq=>by unfold lG;rw[ao q,hsrc]
 generalize hid2:jz w=id at d b
 generalize hLL:mL (kB c w) w=L at m s1 s2 s3 b hF
 generalize pb x (dV x lk) L=F at s1 s2 s3 hF
 have hp17:IL (cN (build p)).1=p.2.2.1:=by rw[d2];rfl
 obtain⟨rfl,n,q2⟩|⟨rfl,n⟩|rfl|rfl:=hk
 .have hd:mJ (cN (build p)).1=p.2.1:=by rw[d2];rfl
  have ko:tM 0 w=p.2.1:=by show mJ w.2.2.2.2.2=_;rw[w6];rfl
  rw[hd] at n;have hne:=aM4 B n;have ef:lG (kB 0 w) w (tM 0 w)=p.2.1:=by unfold lG;rw[ko,I hne]
  rw[ef] at b;have j:kB 0 w p.2.1 id=md (build p) p.2.1 id (mD x):=by show jO w _ _=_;unfold jO;rw[o,i]
  rw[j] at b;have S:=(ZF g s d).2;refine⟨yX p id (mD x),by rw[b];exact S,?_,?_,by rw[b];exact m,?_,.inl ?_,hc⟩
  .unfold yX;split
   .rfl
   .split <;> rfl
  .unfold yX;split
   .exact .inl rfl
   .simp_all
  .intro k;unfold yX at k;grind
  .have:(yX p id (mD x)).1=p.2.1:=by unfold yX;split;rfl;split <;> rfl
   rw[this];exact n
 .rw[hF rfl] at b;rw[hp17] at n;have hpr:fw (build p)=17:=by rw[fw,g.dec.1];exact n
  have j:kB 1 w F id=lH (build p) F 3 3 id (mD x):=by
   show jO w _ _=_;unfold jO md;rw[o,i,ao (ZF g s d).1,I (by rw[hpr];decide),ao hpr]
  rw[j] at b;have S:=(MT g s s1 (code:=3) ⟨.inr rfl,Y,d⟩).2.1;exact⟨(F,xN 3 3,3,mD x,id,p.2.2.2.2.2),by rw[b];exact S,rfl,.inr rfl,by rw[b];exact m,λk=>absurd k (by show xN 3 3≠1;decide),s2,hc⟩
 .rw[hF rfl] at b;have j:kB 2 w F id=lH (build p) F 11 0 id (mD x):=by show ie w 11 0 _ _=_;unfold ie;rw[o,i]
  rw[j] at b;have S:=(MT g s s1 (code:=0) ⟨.inl rfl,Y,d⟩).2.1;exact⟨(F,xN 11 0,0,mD x,id,p.2.2.2.2.2),by rw[b];exact S,rfl,.inr rfl,by rw[b];exact m,λ_ k=>s3 k,s2,hc⟩
 .rw[hF rfl] at b;have j:kB 3 w F id=lH (build p) F 3 0 id (mD x):=by show ie w 3 0 _ _=_;unfold ie;rw[o,i]
  rw[j] at b;have S:=(MT g s s1 (code:=0) ⟨.inr rfl,Y,d⟩).2.1;exact⟨(F,xN 3 0,0,mD x,id,p.2.2.2.2.2),by rw[b];exact S,rfl,.inr rfl,by rw[b];exact m,λk=>absurd k (by show xN 3 0≠1;decide),s2,hc⟩
theorem OP{B F w}(h:(fU B F w a).2.2≠2):(fU B F w a).2.1=mE:=by
 by_cases k:a=0/\pF w.1=cs8
 .rw[Di k]
 by_cases b:F 0≠0
 .rw[CM k b]
 by_cases c:iU w.2.1 (rb w.2.2.2.2.2)=ct2
 .rw[Fa k b c]
 by_cases d:(oQ w).2=ct2
 .rw[E0 k b c d]
 .rw[F3 k b c d] at h;exact absurd rfl h
theorem aQ5{s}(h:(gX x s lk t b).2.2≠2)(h0:(gX x s lk t b).2.2≠0):(gX x s lk t b).2.1=mE:=by
 unfold gX iG at h h0 ⊢
 split at h
 next k=>rw[ao k]
 rename_i k1
 rw[I k1] at h0 ⊢
 split at h
 next k2=>
  rw[ao k2];unfold ly at h ⊢;split at h
  next k=>rw[ao k]
  next k=>rw[I k];exact OP h
 rename_i k2
 rw[I k2] at h0 ⊢
 split at h
 next k=>rw[ao k]
 rename_i k3
 rw[I k3] at h0 ⊢
 unfold ic at h h0 ⊢
 split at h
 next k=>rw[ao k];exact OP h
 rename_i k4
 rw[I k4] at h0 ⊢
 split at h
 next k=>
  rw[ao k];split at h
  next k=>rw[ao k]
  next k=>rw[I k];exact OP h
 simp_all
theorem Ml{p}(h:jB p=0):V (gW p)=20+V p.2/\(bytes p.2->bytes (gW p)):=by
 rw[gW,ao h]
 refine⟨by rw[cw,zc],λhb=>j4 (O9 ?_) hb⟩
 exact jW λk=>by rw[jB,ao k] at h;cases h
theorem Eu(hb:bytes b)(h:eO b=0):nX (cC b)/\20<=V b/\V b<=1500:=by
 have hp:=L0 h
 have hl:=NM hp
 have hd:=ER h
 have w:=tu hb 4
 have g:∀ i,0<=T b i cs5/\T b i cs5<=255:=λi=>by
  by_cases k:i<V b
  .have:=hb _ (cW (i:=(i:Int)) Y Y);simpa using this
  .rw[cK,xQ Y];decide
 exact⟨⟨g 1,g 8,g 9,w.1,w.2⟩,Y,Y⟩
theorem bK2(hb:bytes b)(h:kT b=0):V (mg b)=V b/\bytes (mg b):=by
 have hd:=jW λk=>by rw[kT,ao k] at h;exact k h
 have ht:¬ (cC b).2.2.1<2:=λk=>by rw[kT,I (λq=>q hd),ao k] at h;cases h
 have ⟨⟨h1,⟨h2,h2'⟩,h3,h4,h5⟩,l1,l2⟩:=Eu hb hd
 have e:jB (FR (cC b),b.drop 20)=0:=by
  rw[jB,I,I (by simp only[gR];omega)];rw[Az];exact⟨h1,⟨by show 0<=(cC b).2.2.1-1;omega,by show (cC b).2.2.1-1<=255;omega⟩,h3,h4,h5⟩
 have k:=Ml e
 rw[mg,ao h]
 refine⟨?_,k.2 (zL hb)⟩
 rw[k.1];simp only[gR];omega
variable{f ttl:Int}
theorem RB(hb:bytes b)(h:jf b kind code id ttl=0):0<V (lH b f kind code id ttl)/\bytes (lH b f kind code id ttl):=by
 have hg:=jW λk=>by rw[jf,ao k] at h;cases h
 have ha:=jW λk=>by rw[jf,I (λq=>q hg),I k] at h;cases h
 obtain⟨-,e,en,ei⟩:=Nt (src:=f) hg ha
 have k:=Ml ei
 rw[e]
 exact⟨by rw[k.1];omega,k.2 (Sl en (TE hb))⟩
theorem Z4{e}(h:bytes e.2.2.2)(hl:(V e.2.2.2:Int)<=1472):(V (gY e):Int)<=1480/\bytes (gY e):=by
 unfold gY
 split
 .exact⟨by rw[oJ,R6];omega,zA (EB h)⟩
 .exact⟨aw,rT⟩
theorem ah4{s d e}(h:e.2.2.2.2.2.2=[]):(V (io s d e):Int)<=1480/\bytes (io s d e):=by
 unfold io
 split
 next k=>
  have ok:=jW λq=>by rw[pQ,ao q] at k;cases k
  exact⟨by rw[oJ,JP,h];simp,zA (H4 ok (by rw[h];exact rT))⟩
 .exact⟨aw,rT⟩
theorem bh9(hb:bytes b)(h:jE b id ttl=0):0<V (md b f id ttl)/\bytes (md b f id ttl):=by
 have hn:=jW λk=>by rw[jE,ao k] at h;cases h
 have hg:=jW λk=>by rw[jE,I (λq=>q hn),I k] at h;cases h
 obtain⟨-,l1,l2⟩:=Eu hb hg.1.1
 have hd:=zL (n:=20) hb
 obtain⟨ha,⟨g1,g2⟩|⟨g1,g2⟩|⟨g1,g2,g3,g4⟩⟩:=hg
 .rw[(L8 (src:=f) hn ha g1 g2).1];have hl:=Xq (b.drop 20);have hE:(V (gY (cs8,(ip (b.drop 20)).2)):Int)<=1480/\bytes (gY (cs8,(ip (b.drop 20)).2)):=by
   have e:(ip (b.drop 20)).2.2.2=(b.drop 20).drop 8:=by unfold ip;rw[ao g2]
   refine Z4 ?_ ?_
   .show bytes (ip (b.drop 20)).2.2.2;rw[e];exact zL hd
   .show ((ip (b.drop 20)).2.2.2.length:Int)<=1472;rw[e];simp only[gR];omega
  have k:=Ml (EL (src:=f) (dst:=dI b) hn (proto:=1) Y hE.1);exact⟨by rw[k.1];omega,k.2 hE.2⟩
 .rw[(LW (src:=f) hn ha g1 g2).1];exact RB hb (Se hn ha)
 .rw[(Jv (src:=f) hn ha g1 g2 g3 g4).1];have hE:(V (io f (dI b) (pB (gG (dI b) (iw b) (b.drop 20)))):Int)<=1480/\bytes (io f (dI b) (pB (gG (dI b) (iw b) (b.drop 20)))):=ah4 rfl;have k:=Ml (EL (src:=f) (dst:=dI b) hn (proto:=6) Y hE.1);exact⟨by rw[k.1];omega,k.2 hE.2⟩
theorem bX4{w}(hb:bytes w.2.2.2.2.1)(hn:lF id (mD w.1))(h:kE ki w 0=0):0<V (kB ki w f id)/\bytes (kB ki w f id):=by
 have ha:=Qa h
 unfold kB
 split
 .exact RB hb (by rw[jf,I (λk=>k ⟨.inl rfl,Y,hn⟩),ao ha])
 split
 .exact RB hb (by rw[jf,I (λk=>k ⟨.inr rfl,Y,hn⟩),ao ha])
 next k2 k3=>
  have h:jE w.2.2.2.2.1 0 (mD w.1)=0:=by
   unfold kE at h;rw[I k2,I k3] at h;exact h
  have hg:CQ w.2.2.2.2.1:=jW λq=>by
   rw[jE] at h;split at h
   .cases h
   .cases h
  exact bh9 hb (Hp hn hg)
structure UY (x:ar) (s:NState) (r:sO):Prop where
 some:r.2.2=0∨r.2.2=2->0<V r.2.1.2/\V r.2.1.2<=1500/\0<=f8 x r.2.1.1
 none:r.2.2≠0->r.2.2≠2->r.2.1=mE
 byt:bytes r.2.1.2
 rt:cR r.1=cR s
theorem Yd{w}(hid:rN w.1=0)(hf:¬ tw w.1)(hI:0<=CI w.2.2.2.2.2/\CI w.2.2.2.2.2<=65535):lF (jz w) (mD w.1):=by
 have hb:0<=sw w.1/\sw w.1<=65535:=by
  unfold rN at hid;split at hid
  next k=>have:=aX k;omega
  .cases hid
 unfold tw at hf
 refine⟨?_,Y,Y⟩
 unfold jz
 exact ab1 hb hI
theorem Pt{s}(hrt:∀ r∈cR s,pO r (dc x))(hw:¬ iU s a=ct2)(s')(k):0<=f8 x (mW x s' (cD (cR s) a) k) :=
 OX (Wh (hrt _ (WS hw)) _ (ab6 (Iv hw)))
theorem PR{s}(S:wE x)(hs:∀ r∈cR s,pO r (dc x))(hb:bytes b):UY x s (gX x s lk t b):=by
 have A:=(WP x s lk t b).1
 by_cases h0:(gX x s lk t b).2.2=0
 .have F:=SM h0;have e:=QH (t:=t) F;obtain⟨-,l1,l2⟩:=Eu hb F.dec;have hlow:lk ≠ -1/\g7 x=ct2->kT b=0:=λk=>by
   have ht:=F.ttl;have e1:(cN b).1=cC b:=by rw[cN,ao F.dec]
   rw[e1] at ht;rw[kT,I (λq=>q F.dec)];exact I (λq=>ht ⟨k.1,k.2,q⟩)
  have key:V (if lk ≠ -1/\g7 x=ct2 then mg b else b)=V b/\bytes (if lk ≠ -1/\g7 x=ct2 then mg b else b):=by
   split
   next k=>exact bK2 hb (hlow k)
   .exact⟨rfl,hb⟩
  refine⟨λ_=>?_,λk=>absurd h0 k,?_,A⟩
  .rw[e];exact⟨by show 0<V _;rw[key.1];omega,by show V _<=1500;rw[key.1];omega,Pt hs F.way _ _⟩
  .rw[e];exact key.2
 by_cases h2:(gX x s lk t b).2.2=2
 .have ⟨ki,e,hk⟩:=OD h2;rw[e] at h2;obtain⟨w,hw⟩:∃ w,w=Mh x s lk t b:=⟨_,rfl⟩
  rw[← hw] at h2 e;have ⟨a1,a2,a3⟩:=T3 h2;have w1:w.1=x:=by rw[hw];rfl
  have w2:w.2.1=s:=by rw[hw];rfl
  have w5:w.2.2.2.2.1=b:=by rw[hw];rfl
  have hI:0<=CI w.2.2.2.2.2/\CI w.2.2.2.2.2<=65535:=by
   have:w.2.2.2.2.2=(cN b).1:=by rw[hw];rfl
   rw[this];unfold cN;split
   .exact tu hb 4
   .exact⟨by show (0:Int)<=0;omega,by show (0:Int)<=65535;omega⟩
  have hn:=Yd (w:=w) (by rw[w1];exact S.id) (by rw[w1];exact S.form) hI;have ho:(gX x s lk t b).2.1=(mL (kB ki w) w,kB ki w (lG (kB ki w) w (tM ki w)) (jz w)):=by rw[e];exact dL (λr:sO=>r.2.1) a3
  have k:=bX4 (f:=lG (kB ki w) w (tM ki w)) (by rw[w5];exact hb) hn a1;have kl:=b36 ki w (lG (kB ki w) w (tM ki w)) (jz w);have hL:0<=f8 x (mL (kB ki w) w):=by
   have:=Pt hs (a:=rb w.2.2.2.2.2) (by rw[← w2];exact a2) (pc w) (jY (kB ki w (adr w.1 (dV w.1 w.2.2.1)) 0));unfold mL pV;rw[w1,w2];rw[w1] at this;exact this
  refine⟨λ_=>?_,λ_ q=>absurd (by rw[e];exact h2) q,?_,A⟩
  .rw[ho];exact⟨k.1,by have:(V (kB ki w (lG (kB ki w) w (tM ki w)) (jz w)):Int)<=1500:=kl;show V (kB ki w (lG (kB ki w) w (tM ki w)) (jz w))<=1500;omega,hL⟩
  .rw[ho];exact k.2
 .have e:=aQ5 h2 h0;refine⟨λk=>?_,λ_ _=>e,by rw[e];exact rT,A⟩;obtain k|k:=k
  .exact absurd k h0
  .exact absurd k h2
abbrev qA:CT := .pair cI (.pair cI (.pair cI (.pair cI (.pair cI (.sl bc)))))
abbrev Flight:Type:=Int×Int×Int×Int×Int×Z
abbrev DS:CT := .pair cI (.pair cI (.sl bc))
abbrev Del:Type:=Int×Int×Z
abbrev Ea:CT := .pair cI (.pair cI (.pair cI (.pair cI cI)))
abbrev EndR:Type:=Int×Int×Int×Int×Int
abbrev tc:CT := .pair mM (.pair cI (.pair cI (.pair cI (.pair (.sl u9) (.pair (.sl cI) (.pair (.sl qA) (.pair (.sl DS) (.sl Ea))))))))
abbrev aP:Type:=Net×Int×Int×Int×List NState×Z×List Flight×List Del×List EndR
def aZ(f:Flight):Int:=f.1
def qU(f:Flight):Int:=f.2.1
def ci(f:Flight):Int:=f.2.2.1
def jU(f:Flight):Int:=f.2.2.2.1
def rG(f:Flight):Int:=f.2.2.2.2.1
def iH(f:Flight):Z:=f.2.2.2.2.2
def aN(w:aP):Net:=w.1
def cu(w:aP):Int:=w.2.1
def dw(w:aP):Int:=w.2.2.1
def eI(w:aP):Int:=w.2.2.2.1
def dD(w:aP):List NState:=w.2.2.2.2.1
def iZ(w:aP):Z:=w.2.2.2.2.2.1
def aO(w:aP):List Flight:=w.2.2.2.2.2.2.1
def bO(w:aP):List Del:=w.2.2.2.2.2.2.2.1
def d9(w:aP):List EndR:=w.2.2.2.2.2.2.2.2
def cV(w:aP)(t:Int):aP:=(w.1,t,w.2.2)
def ku(w:aP)(l:List NState):aP:=(w.1,w.2.1,w.2.2.1,w.2.2.2.1,l,w.2.2.2.2.2)
def uH(w:aP)(k:Int):aP:=(w.1,w.2.1,w.2.2.1,k,w.2.2.2.2)
def AF(w:aP)(l:Z):aP:=(w.1,w.2.1,w.2.2.1,w.2.2.2.1,w.2.2.2.2.1,l,w.2.2.2.2.2.2)
def gN(w:aP)(l:List Flight):aP:=(w.1,w.2.1,w.2.2.1,w.2.2.2.1,w.2.2.2.2.1,w.2.2.2.2.2.1,l,w.2.2.2.2.2.2.2)
def A6(w:aP)(l:List Del):aP:=(w.1,w.2.1,w.2.2.1,w.2.2.2.1,w.2.2.2.2.1,w.2.2.2.2.2.1,w.2.2.2.2.2.2.1,l,w.2.2.2.2.2.2.2.2)
def QJ(w:aP)(l:List EndR):aP:=(w.1,w.2.1,w.2.2.1,w.2.2.2.1,w.2.2.2.2.1,w.2.2.2.2.2.1,w.2.2.2.2.2.2.1,w.2.2.2.2.2.2.2.1,l)
def Xe(w:aP)(k:Int):aP:=(w.1,w.2.1,k,w.2.2.2)
def SR(s:NState)(l:List Rt):NState:=(l,s.2)
def jt(l:List Flight)(f:Flight):List Flight:=(l.takeWhile λx=>cs7 (aZ x<=aZ f))++f::l.dropWhile λx=>cs7 (aZ x<=aZ f)
def EV(w:aP)(f:Flight):aP:=gN (Xe w (ct0.wrap (dw w+1))) (jt (aO w) (aZ f,dw w,f.2.2))
def mV(w:aP):cJ:=(aN w).2.2.getD (M (eI w)) cs5
def oU(w:aP):Bool:=cs7 (eI w<(aN w).2.2.length)&&cs7 (j8 (mV w)<=cu w)
def kq(w:aP):aP :=
 uH (ku w ((dD w).set (M (de (mV w))) (SR (T (dD w) (M (de (mV w))) cs5) (jX (cR (T (dD w) (M (de (mV w))) cs5)) (mV w))))) (ct0.wrap (eI w+1))
def ft:Nat->aP->aP
 | 0,w=>w
 | n+1,w=>if oU w=cs8 then ft n (kq w) else w
def dA(w:aP):aP:=ft ((aN w).2.2.length-M (eI w)) w
def sI(w:aP)(f:Flight)(link why:Int):aP:=QJ w (d9 w++[(rG f,aZ f,ci f,link,why)])
def yZ(l:cz)(c:Int):Int:=pL (bits .xor .u64 (pL (ct1 .u64 (A8 l))) (ct1 .u64 c))
def fY(w:aP)(k:Int):cz:=(aN w).2.1.getD (M k) cs5
def qQ(w:aP)(k:Int):Int:=T (iZ w) (M k) cs5
def HX(w:aP)(k:Int):Int:=ct0.wrap (cx2 (cB9 (yZ (fY w k) (qQ w k)) 65536) (ct1 .u64 (ct0.wrap (nE (fY w k)+1))))
def rM(w:aP)(k:Int):Int:=ct0.wrap (ct0.wrap (cu w+rJ (fY w k))+HX w k)
def iO(w:aP)(f:Flight)(out:bL9):aP :=
 let v:=AF w ((iZ w).set (M out.1) (ct0.wrap (qQ w out.1+1)))
 if cx2 (yZ (fY w out.1) (qQ w out.1)) 65536<ct1 .u64 (yg (fY w out.1)) then sI v f out.1 3
 else if 1125899906842624<rM w out.1∨(4096:Int)<=V (aO w) then sI v f out.1 7
 else EV v (rM w out.1,0,kK (aN w).2.1 out.1 (ci f),out.1,rG f,out.2)
def cj(w:aP)(f:Flight):sO:=gX ((aN w).1.getD (M (ci f)) cs5) (T (dD w) (M (ci f)) cs5) (jU f) (aZ f) (iH f)
def lC(w:aP)(f:Flight):aP :=
 let r:=cj w f
 let a:=ku w ((dD w).set (M (ci f)) r.1)
 let b:=if r.2.2=1 then A6 a (bO a++[(aZ f,ci f,iH f)]) else a
 let c:=if r.2.2≠0 then sI b f (jU f) r.2.2 else b
 if 0<V r.2.1.2 then iO c f r.2.1 else c
def fi(w:aP):aP:=lC (dA (cV (gN w (aO w).tail) (aZ ((aO w).headD cs5)))) ((aO w).headD cs5)
def fO(w:aP)(to:Int):Bool:=match aO w with
 | []=>ct2
 | f::_=>cs7 (aZ f<=to)
def kD:Nat->aP->Int->aP
 | 0,w,_=>w
 | n+1,w,to=>if fO w to=cs8 then kD n (fi w) to else w
def gK(to:Int)(l:List Flight):Nat:=(l.map λf=>M (to+1-aZ f)).sum
def pM(w:aP)(to:Int):aP:=dA (cV (kD (gK to (aO w)) w to) to)
variable{l:List Flight}{f:Flight}
theorem NW{x}:x∈jt l f↔x=f∨x∈l:=by
 unfold jt
 rw[dX,dm]
 have e:=oR (p:=λx=>cs7 (aZ x<=aZ f)) (l:=l)
 constructor
 .rintro (h|h|h)
  .right;rw[← e];exact gq _ h
  .exact .inl h
  .right;rw[← e];exact gU _ h
 .rintro (h|h)
  .exact .inr (.inl h)
  .rw[← e] at h;obtain h|h:=dX.1 h
   .exact .inl h
   .exact .inr (.inr h)
theorem G6(l)(f):V (jt l f)=V l+1:=by
 have e:=dL V (oR (p:=λx=>cs7 (aZ x<=aZ f)) (l:=l))
 rw[cw] at e
 unfold jt
 rw[cw,fa];omega
theorem ar0(to)(l)(f):gK to (jt l f)=gK to l+M (to+1-aZ f):=by
 have e:gK to l=gK to ((l.takeWhile λx=>cs7 (aZ x<=aZ f))++(l.dropWhile λx=>cs7 (aZ x<=aZ f))):=by rw[oR]
 rw[e]
 unfold gK jt
 simp only[kV,f6,List.sum_append,cN2]
 omega
def je(a b:Flight):Prop:=aZ a<aZ b∨aZ a=aZ b/\qU a<qU b
theorem XA(h:l.Pairwise je)(hn:∀ x∈l,qU x<qU f):(jt l f).Pairwise je:=by
 have e:=oR (p:=λx=>cs7 (aZ x<=aZ f)) (l:=l)
 have h2:=h
 rw[← e] at h2
 have ⟨a,b,c⟩:=cw9.1 h2
 have hd:∀ x∈l.dropWhile (λx=>cs7 (aZ x<=aZ f)),aZ f<aZ x:=by
  intro x hx;cases hh:l.dropWhile (λx=>cs7 (aZ x<=aZ f)) with
  | nil=>rw[hh] at hx;cases hx
  | cons y r =>
   have hy:¬ aZ y<=aZ f:=by
    have:=cN6 (p:=λx=>cs7 (aZ x<=aZ f)) (l:=l) (by rw[hh];simp);simp only[hh,cU2] at this;simpa using this
   rw[hh] at hx b;obtain rfl|hx:=dm.1 hx
   .omega
   .obtain k|k:=(cu1.1 b).1 x hx <;> omega
 unfold jt
 refine cw9.2 ⟨a,cu1.2 ⟨λx hx=>.inl (hd x hx),b⟩,λx hx y hy=>?_⟩
 have hxl:x∈l:=by rw[← e];exact gq _ hx
 have hxf:aZ x<=aZ f:=by
  have:=cz6.1 (cR6 (p:=λx=>cs7 (aZ x<=aZ f)) (l:=l)) x hx;simpa using this
 obtain rfl|hy:=dm.1 hy
 .have:=hn x hxl;unfold je;omega
 .exact .inl (by have:=hd y hy;omega)
variable{n:Net}
theorem Nh(h:jA n=0):wh n=0/\sW n=0/\sG n=0/\vA n=0/\uR n=0:=by
 have ⟨h1,h⟩:=wy h
 have ⟨h2,h⟩:=wy h
 have ⟨h3,h⟩:=wy h
 have ⟨h4,h⟩:=wy h
 have ⟨h5,h⟩:=wy h
 have ⟨h6,h⟩:=wy h
 exact⟨h1,h2,h3,h4,h⟩
variable{i:Nat}
theorem Cb(h:jA n=0)(hi:i<V n.1):wE (T n.1 i cs5):=by
 have a:=B2 (Nh h).2.2.1 i hi
 unfold tE at a
 split at a
 .simp_all
 next k=>exact ZW (Az.1 k)
theorem I5(h:jA n=0):1<=V n.1/\V n.1<=64/\V n.2.1<=128/\V n.2.2<=64:=by
 have:=(Nh h).1
 unfold wh at this
 omega
theorem JB(h:jA n=0){k}(hk:k<V n.2.2):(0<=j8 (T n.2.2 k cs5)/\j8 (T n.2.2 k cs5)<=1125899906842624)/\(0<=de (T n.2.2 k cs5)/\de (T n.2.2 k cs5)<V n.1) ∧
  jH (jX (T (gB n k) (M (de (T n.2.2 k cs5))) cs5) (T n.2.2 k cs5)) (dc (T n.1 (M (de (T n.2.2 k cs5))) cs5))=0:=by
 have hs:=B2 (Nh h).2.2.2.2 k hk
 unfold o5 uI at hs
 grind
theorem ap2{n}(h:jA n=0):∀ k,k<=V n.2.2→∀ i,i<V n.1->jH (T (gB n k) i cs5) (dc (T n.1 i cs5))=0
 | 0,_,i,a=>by rw[gB,GR a];exact (Cb h a).rt
 | k+1,hk,i,a=>by
  obtain⟨-,h2,h3⟩:=JB h (k:=k) Y;rw[gB];by_cases e:M (de (T n.2.2 k cs5))=i
  .rw[← e,kW (by rw[xG];omega)];exact h3
  .rw[qN e];exact ap2 h k Y i a
structure zJ (n:Net) (now ord:Int) (f:Flight):Prop where
 t:now<=aZ f/\aZ f<=1125899906842624
 o:0<=qU f/\qU f<ord
 nd:0<=ci f/\ci f<V n.1
 l:jU f = -1∨jU f∈dc (T n.1 (M (ci f)) cs5)
 g:0<=rG f/\rG f<ord
 b:bytes (iH f)
 d:(V (iH f):Int)<=2000
structure dW (w:aP) (K:Int):Prop where
 net:jA (aN w)=0
 now:0<=cu w/\cu w<=1125899906842624
 ord:0<=dw w/\dw w<=K
 done:0<=eI w/\eI w<=(aN w).2.2.length
 len:V (dD w)=(aN w).1.length
 st:∀ i:Nat,i<(aN w).1.length->j6 ((aN w).1.getD i cs5) (T (dD w) i cs5) K/\cR (T (dD w) i cs5)=T (gB (aN w) (M (eI w))) i cs5
 cl:V (iZ w)=(aN w).2.1.length
 cr:∀ c∈iZ w,0<=c/\c<=K
 fl:(aO w).Pairwise je
 fo:∀ f∈aO w,zJ (aN w) (cu w) (dw w) f
 fn:V (aO w)<=4096
theorem dW.more{w}(h:dW w K)(hk:K<=K'):dW w K' :=
 ⟨h.net,h.now,by have:=h.ord;omega,h.done,h.len,λi a=>⟨(h.st i a).1.more hk,(h.st i a).2⟩,h.cl,λc hc=>by have:=h.cr c hc;omega,h.fl,h.fo,h.fn⟩
theorem j6.rts{x s}(h:j6 x s K){l}(a:jH l (dc x)=0):j6 x (SR s l) K:=by
 have ⟨h1,h2⟩:=CZ a
 obtain⟨-,-,h3⟩:=I0 a
 exact⟨h1,h2,λr hr=>(h3 r hr).2,h.ps,h.tk,h.cn,h.cp⟩
theorem dW.chg{w}(h:dW w K)(g:oU w=cs8):dW (kq w) K/\eI (kq w)=eI w+1:=by
 unfold oU at g
 rw[fB,uq,uq] at g
 have hk:M (eI w)<(aN w).2.2.length:=by have:=h.done;omega
 obtain⟨-,⟨w0,w1⟩,c⟩:=JB h.net hk
 have sz:=I5 h.net
 have e1:ct0.wrap (eI w+1)=eI w+1:=aJ (by have:=h.done;omega) (by have:=h.done;omega)
 have d:eI (kq w)=eI w+1:=e1
 have j:aN (kq w)=aN w:=rfl
 have hwho:de (mV w)=de ((aN w).2.2.getD (M (eI w)) cs5):=rfl
 have a:M (de (mV w))<(aN w).1.length:=Y
 have b:=(h.st _ a)
 have c:jH (jX (T (gB (aN w) (M (eI w))) (M (de (mV w))) cs5) (mV w)) (dc ((aN w).1.getD (M (de (mV w))) cs5))=0:=c
 rw[← b.2] at c
 refine⟨⟨h.net,h.now,h.ord,by have:=h.done;rw[d,j];omega,?_,λi f=>?_,h.cl,h.cr,h.fl,h.fo,h.fn⟩,d⟩
 .show (V ((dD w).set _ _))=_;rw[f5];exact h.len
 .have f:=f;rw[d,j,show M (eI w+1)=M (eI w)+1 by have:=h.done;omega,gB];show j6 _ (T ((dD w).set (M (de (mV w))) _) i cs5) K/\cR (T ((dD w).set (M (de (mV w))) _) i cs5)=_;by_cases e:M (de (mV w))=i
  .subst e;rw[kW (by rw[h.len];exact a),show ((aN w).2.2.getD (M (eI w)) cs5)=mV w from rfl,kW (by rw[xG];exact a),← b.2];exact⟨b.1.rts c,rfl⟩
  .rw[qN e,show ((aN w).2.2.getD (M (eI w)) cs5)=mV w from rfl,qN e];exact h.st i f
theorem OQ{K}:∀ n{w:aP},dW w K->dW (ft n w) K/\(ft n w).1=w.1/\(ft n w).2.1=w.2.1/\(ft n w).2.2.1=w.2.2.1/\(ft n w).2.2.2.2.2=w.2.2.2.2.2
 | 0,w,h=>⟨h,rfl,rfl,rfl,rfl⟩
 | n+1,w,h=>by
  rw[ft];split
  next hd=>have k:=OQ n (h.chg hd).1;exact⟨k.1,k.2.1.trans rfl,k.2.2.1.trans rfl,k.2.2.2.1.trans rfl,k.2.2.2.2.trans rfl⟩
  .simp_all
theorem dW.change{w}(h:dW w K):dW (dA w) K:=(OQ _ h).1
variable{k:Int}
theorem F9(h:jA n=0)(hi:i<V n.1)(p:k∈dc (T n.1 i cs5)) :
  (0<=k/\k<V n.2.1)/\pE (V n.1) (T n.2.1 (M k) cs5)/\(0<=kK n.2.1 k i/\kK n.2.1 k i<V n.1)/\k∈dc (T n.1 (M (kK n.2.1 k i)) cs5):=by
 obtain⟨-,g,hb,hp,-⟩:=Nh h
 have b:=B2 hb i hi
 unfold tE at b
 split at b
 .simp_all
 rename_i hv
 have S:=ZW (Az.1 hv)
 split at b
 .cases b
 have c:AC n i k=false:=by
  simp_all
 unfold AC at c
 simp only[cI2,xZ,BE,uJ,pJ] at c
 have ⟨h1,h2⟩:=c
 obtain⟨q,hq,rfl⟩:=cv1.1 p
 obtain⟨j,hj,rfl⟩:=cv8.1 hq
 have r:0<=((aV (T n.1 i cs5))[j]).2:=by
  have:=(ah2 (S.ports j hj)).2;grind
 generalize ((aV (T n.1 i cs5))[j]).2=k at p h1 h2 r
 have m:M k<V n.2.1:=Y
 have d:pE (V n.1) (T n.2.1 (M k) cs5):=by
  unfold sW at g;split at g
  next z=>exact aX (cz6.1 z _ (sC m))
  .cases g
 have o:Am n (M k)=false:=by
  unfold vA at hp;simp_all
 unfold Am at o
 simp only[cI2,xZ] at o
 have ⟨s,t⟩:=o
 rw[show ((M k:Nat):Int)=k by omega] at s t
 have f:∀ x,¬ f8 x k<0->k∈dc x:=λx u=>by
  have ⟨a,b⟩:=zW (q:=nN k) (l:=aV x) (by unfold f8 at u;omega);have hm:=sC (xs:=aV x) (i:=M (kC (nN k) (aV x))) (by unfold f8 at u;omega);exact cv1.2 ⟨_,hm,aX b⟩
 refine⟨⟨r,Y⟩,d,?_⟩
 obtain⟨s1,s2,s3,s4,s5,-⟩:=d
 unfold kK
 rw[I Y]
 by_cases e:(i:Int)=lA (T n.2.1 (M k) cs5)
 .rw[ao e];exact⟨⟨s3,s4⟩,f _ t⟩
 .have e2:lB (T n.2.1 (M k) cs5)=i:=by
   grind
  rw[I e,ao e2.symm];exact⟨⟨s1,s2⟩,f _ s⟩
theorem O1{n}(h0:0<=n)(h1:n<=9223372036854775807):ct9.wrap n=n:=by
 obtain⟨m,rfl⟩:∃ m:Nat,n=m:=⟨M n,Y⟩
 rw[SL];omega
theorem aI4(x):0<=pL x:=Int.natCast_nonneg _
theorem Jk{w}(hs:pE (aN w).1.length (fY w k))(hn:0<=cu w/\cu w<=1125899906842624):cu w+1<=rM w k/\rM w k<=cu w+rJ (fY w k)+nE (fY w k):=by
 obtain⟨-,-,-,-,-,d1,d2,j1,j2,-⟩:=hs
 have hh:0<=yZ (fY w k) (qQ w k):=aI4 _
 have e1:ct0.wrap (nE (fY w k)+1)=nE (fY w k)+1:=aJ Y Y
 have e2:ct9.wrap (nE (fY w k)+1)=nE (fY w k)+1:=O1 Y Y
 have hd:0<=cB9 (yZ (fY w k) (qQ w k)) 65536:=Int.tdiv_nonneg hh Y
 have t0:=cE8 (nE (fY w k)+1) hd
 have t1:=cF1 (cB9 (yZ (fY w k) (qQ w k)) 65536) (show 0<nE (fY w k)+1 by omega)
 have el:HX w k=cx2 (cB9 (yZ (fY w k) (qQ w k)) 65536) (nE (fY w k)+1):=by
  unfold HX;rw[e1,e2,aJ Y Y]
 have e3:ct0.wrap (cu w+rJ (fY w k))=cu w+rJ (fY w k):=aJ Y Y
 have e4:rM w k=cu w+rJ (fY w k)+HX w k:=by
  unfold rM;rw[e3,aJ Y Y]
 omega
theorem dW.ends{w}(h:dW w K)(f)(link a):dW (sI w f link a) K:=⟨h.net,h.now,h.ord,h.done,h.len,h.st,h.cl,h.cr,h.fl,h.fo,h.fn⟩
theorem dW.dels{w}(h:dW w K)(l):dW (A6 w l) K:=⟨h.net,h.now,h.ord,h.done,h.len,h.st,h.cl,h.cr,h.fl,h.fo,h.fn⟩
theorem dW.crosses{w}(h:dW w K)(hK:K<=2199023255552){out}(hf:0<=ci f/\ci f<(aN w).1.length)(hg:0<=rG f/\rG f<dw w)
  (hk:out.1∈dc ((aN w).1.getD (M (ci f)) cs5)) (hb:bytes out.2) (hl:(V out.2:Int)<=2000):dW (iO w f out) (K+1):=by
 have hi:M (ci f)<(aN w).1.length:=Y
 have ⟨⟨k0,k1⟩,snd,o1,o2⟩:=F9 h.net hi hk
 rw[show ((M (ci f):Nat):Int)=ci f by omega] at o1 o2
 have ov:=Jk (w:=w) (k:=out.1) snd h.now
 have hcl:M out.1<V (iZ w):=by rw[h.cl];omega
 have hc0:qQ w out.1∈iZ w:=sC hcl
 have hc1:=h.cr _ hc0
 have hord:=h.ord
 have base:dW (AF w ((iZ w).set (M out.1) (ct0.wrap (qQ w out.1+1)))) (K+1):=by
  have h':=h.more (K':=K+1) Y;refine⟨h'.net,h'.now,h'.ord,h'.done,h'.len,h'.st,?_,λc hc=>?_,h'.fl,h'.fo,h'.fn⟩
  .show (V ((iZ w).set _ _))=_;rw[f5];exact h.cl
  .have hc:=hc;obtain hc|rfl:=AL hc
   .have:=h.cr c hc;omega
   .rw[aJ Y Y];omega
 unfold iO
 dsimp only
 split
 .exact base.ends _ _ _
 split
 .exact base.ends _ _ _
 rename_i q
 have ew:ct0.wrap (dw w+1)=dw w+1:=aJ Y Y
 refine⟨base.net,base.now,?_,base.done,base.len,base.st,base.cl,base.cr,?_,?_,?_⟩
 .show 0<=ct0.wrap (dw w+1)/\ct0.wrap (dw w+1)<=K+1;rw[ew];omega
 .exact XA h.fl λx hx=>(h.fo x hx).o.2
 .intro x hx;have hx:=hx;show zJ (aN w) (cu w) (ct0.wrap (dw w+1)) x;rw[ew];obtain rfl|hx:=NW.1 hx
  .exact⟨⟨by show cu w<=rM w out.1;omega,by show rM w out.1<=_;omega⟩,⟨by show 0<=dw w;omega,by show dw w<dw w+1;omega⟩,o1,.inr o2,⟨hg.1,by show rG f<dw w+1;omega⟩,hb,hl⟩
  .have k:=h.fo x hx;exact⟨k.t,⟨k.o.1,by have:=k.o.2;omega⟩,k.nd,k.l,⟨k.g.1,by have:=k.g.2;omega⟩,k.b,k.d⟩
 .show (V (jt (aO w) _))<=4096;rw[G6];omega
theorem dW.land{w}(h:dW w K)(hK:K<=1099511627776)(hf:zJ (aN w) (cu w) (dw w) f)(ht:aZ f=cu w):dW (lC w f) (K+2):=by
 have hi:M (ci f)<(aN w).1.length:=by have:=hf.nd;omega
 have ⟨st,rt⟩:=h.st _ hi
 have A:=Cb h.net hi
 have D:=PR (lk:=jU f) (t:=aZ f) A st.rt hf.b
 have S:=aY3 (link:=jU f) (b:=iH f) (at':=aZ f) A st ⟨by have:=h.ord;omega,Y⟩ ⟨by have:=h.now;omega,by have:=h.now;omega⟩
 have eH:cj w f=gX ((aN w).1.getD (M (ci f)) cs5) (T (dD w) (M (ci f)) cs5) (jU f) (aZ f) (iH f):=rfl
 rw[← eH] at D S
 have ha:dW (ku w ((dD w).set (M (ci f)) (cj w f).1)) (K+1):=by
  have h':=h.more (K':=K+1) Y;refine⟨h'.net,h'.now,h'.ord,h'.done,?_,λi hl=>?_,h'.cl,h'.cr,h'.fl,h'.fo,h'.fn⟩
  .show (V ((dD w).set _ _))=_;rw[f5];exact h.len
  .have hl:=hl;show j6 _ (T ((dD w).set (M (ci f)) (cj w f).1) i cs5) _/\cR (T ((dD w).set (M (ci f)) (cj w f).1) i cs5)=_;by_cases e:M (ci f)=i
   .subst e;rw[kW (by rw[h.len];exact hi)];exact⟨S,D.rt.trans rt⟩
   .rw[qN e];exact h'.st i hl
 have hb:dW (if (cj w f).2.2=1 then A6 (ku w ((dD w).set (M (ci f)) (cj w f).1)) (bO (ku w ((dD w).set (M (ci f)) (cj w f).1))++[(aZ f,ci f,iH f)]) else ku w ((dD w).set (M (ci f)) (cj w f).1)) (K+1):=by
  split
  .exact ha.dels _
  .exact ha
 unfold lC
 dsimp only
 generalize hB:(if (cj w f).2.2=1 then A6 (ku w ((dD w).set (M (ci f)) (cj w f).1)) (bO (ku w ((dD w).set (M (ci f)) (cj w f).1))++[(aZ f,ci f,iH f)]) else ku w ((dD w).set (M (ci f)) (cj w f).1))=B at hb
 have eB:aN B=aN w/\dw B=dw w:=by rw[← hB];split <;> exact⟨rfl,rfl⟩
 have hc:dW (if (cj w f).2.2≠0 then sI B f (jU f) (cj w f).2.2 else B) (K+1):=by
  split
  .exact hb.ends _ _ _
  .exact hb
 have eC:aN (if (cj w f).2.2≠0 then sI B f (jU f) (cj w f).2.2 else B)=aN w/\dw (if (cj w f).2.2≠0 then sI B f (jU f) (cj w f).2.2 else B)=dw w:=by
  split
  .exact eB
  .exact eB
 split
 next hp=>
  have hr:(cj w f).2.2=0∨(cj w f).2.2=2:=by
   by_cases z0:(cj w f).2.2=0
   .exact .inl z0
   by_cases z2:(cj w f).2.2=2
   .exact .inr z2
   .have:=D.none z0 z2;rw[this] at hp;exact absurd hp (by simp[mE])
  have ⟨p1,p2,p3⟩:=D.some hr;have hm:(cj w f).2.1.1∈dc ((aN w).1.getD (M (ci f)) cs5):=by
   have ⟨a,b⟩:=zW (q:=nN (cj w f).2.1.1) (l:=aV ((aN w).1.getD (M (ci f)) cs5)) p3;have hm:=sC (xs:=aV ((aN w).1.getD (M (ci f)) cs5)) (i:=M (kC (nN (cj w f).2.1.1) (aV ((aN w).1.getD (M (ci f)) cs5)))) (by unfold f8 at p3;omega);exact cv1.2 ⟨_,hm,aX b⟩
  have z:=dW.crosses hc Y (by rw[eC.1];exact hf.nd) (by rw[eC.2];exact hf.g) (by rw[eC.1];exact hm) D.byt Y;grind
 .exact hc.more Y
theorem ac7(w)(f)(a):aN (iO w f a)=aN w/\cu (iO w f a)=cu w ∧
  (aO (iO w f a)=aO w∨∃ g,aZ g=rM w a.1/\aO (iO w f a)=jt (aO w) g):=by
 unfold iO
 split
 .exact⟨rfl,rfl,.inl rfl⟩
 split
 .exact⟨rfl,rfl,.inl rfl⟩
 .exact⟨rfl,rfl,.inr ⟨_,rfl,rfl⟩⟩
theorem Ht{n}(h:jA n=0)(hi:i<V n.1)(c:0<=f8 (T n.1 i cs5) k):k∈dc (T n.1 i cs5):=by
 have ⟨a,b⟩:=zW c
 have hm:=sC (xs:=aV (T n.1 i cs5)) (i:=M (kC (nN k) (aV (T n.1 i cs5)))) (by unfold f8 at c;omega)
 exact cv1.2 ⟨_,hm,aX b⟩
theorem bJ0{w}(h:dW w K)(i:zJ (aN w) (cu w) (dw w) f):aN (lC w f)=aN w/\cu (lC w f)=cu w ∧
  (aO (lC w f)=aO w∨∃ g,cu w+1<=aZ g/\aO (lC w f)=jt (aO w) g):=by
 have a:M (ci f)<(aN w).1.length:=by have:=i.nd;omega
 have ⟨st,rt⟩:=h.st _ a
 have S:=Cb h.net a
 have A:=PR (lk:=jU f) (t:=aZ f) S st.rt i.b
 have eH:cj w f=gX ((aN w).1.getD (M (ci f)) cs5) (T (dD w) (M (ci f)) cs5) (jU f) (aZ f) (iH f):=rfl
 rw[← eH] at A
 have c:∀ B,aN B=aN w->cu B=cu w->aO B=aO w->iZ B=iZ w →
   (aN (if 0<(cj w f).2.1.2.length then iO B f (cj w f).2.1 else B)=aN w/\cu (if 0<(cj w f).2.1.2.length then iO B f (cj w f).2.1 else B)=cu w ∧
    (aO (if 0<(cj w f).2.1.2.length then iO B f (cj w f).2.1 else B)=aO w∨∃ g,cu w+1<=aZ g/\aO (if 0<(cj w f).2.1.2.length then iO B f (cj w f).2.1 else B)=jt (aO w) g)):=by
  intro B j k b3 b4;split
  .rename_i l;have ⟨c1,c2,d⟩:=ac7 B f (cj w f).2.1;refine⟨c1.trans j,c2.trans k,?_⟩;obtain d|⟨g,g1,g2⟩:=d
   .exact .inl (d.trans b3)
   .have hr:(cj w f).2.2=0∨(cj w f).2.2=2:=by
     by_cases m:(cj w f).2.2=0
     .exact .inl m
     by_cases n:(cj w f).2.2=2
     .exact .inr n
     .have:=A.none m n;rw[this] at l;exact absurd l (by simp[mE])
    have hl:=Ht h.net a (A.some hr).2.2;obtain⟨-,e,-⟩:=F9 h.net a hl;have ov:=Jk (by unfold fY;rw[j];exact e) (by rw[k];exact h.now);grind
  .simp_all
 apply c
 all_goals (split <;> (split <;> rfl))
theorem we(to)(f)(r):gK to (f::r)=M (to+1-aZ f)+gK to r:=by
 unfold gK;rw[f6,cN2]
variable{r:List Flight}
theorem dW.step{w}(h:dW w K)(hK:K<=1099511627776)(e:aO w=f::r) :
  dW (fi w) (K+2)/\aN (fi w)=aN w/\cu (fi w)=aZ f∧∀ to,aZ f<=to->gK to (aO (fi w))+1<=gK to (aO w):=by
 have p:=h.fl
 rw[e] at p
 have ⟨p1,p2⟩:=cu1.1 p
 have a:=h.fo f (by rw[e];exact dU)
 have j:∀ x∈r,aZ f<=aZ x:=λx c=>by obtain k|k:=p1 x c <;> omega
 have ed:(aO w).headD cs5=f:=by rw[e];rfl
 have et:(aO w).tail=r:=by rw[e];rfl
 have hb:dW (cV (gN w r) (aZ f)) K:=by
  refine⟨h.net,⟨by show 0<=aZ f;have:=h.now;have:=a.t;omega,a.t.2⟩,h.ord,h.done,h.len,h.st,h.cl,h.cr,p2,λx c=>?_,?_⟩
  .have c:=c;have k:=h.fo x (by rw[e];exact eZ _ c);exact⟨⟨j x c,k.t.2⟩,k.o,k.nd,k.l,k.g,k.b,k.d⟩
  .show (V r)<=4096;have:=h.fn;grind
 have s:=OQ ((aN w).2.2.length-M (eI w)) hb
 have u:fi w=lC (dA (cV (gN w r) (aZ f))) f:=by unfold fi;rw[ed,et]
 have ec:dA (cV (gN w r) (aZ f))=ft ((aN w).2.2.length-M (eI w)) (cV (gN w r) (aZ f)):=rfl
 rw[← ec] at s
 have ⟨m,y,z,A,B⟩:=s
 generalize dA (cV (gN w r) (aZ f))=v at m y z A B u
 have S:aN v=aN w:=y
 have n:cu v=aZ f:=z
 have n3:dw v=dw w:=A
 have D:aO v=r:=dL (λx:Z×List Flight×List Del×List EndR=>x.2.1) B
 have i:zJ (aN v) (cu v) (dw v) f:=by
  rw[S,n,n3];exact⟨⟨fJ _,a.t.2⟩,a.o,a.nd,a.l,a.g,a.b,a.d⟩
 have L:=bJ0 m i
 rw[u]
 refine⟨m.land hK i n.symm,L.1.trans S,L.2.1.trans n,λto hto=>?_⟩
 rw[e,we]
 obtain q|⟨g,g1,g2⟩:=L.2.2
 .rw[q,D];omega
 .rw[g2,D,ar0];omega
theorem dW.run{to}:∀ n{w:aP}{K:Int},dW w K->gK to (aO w)<=n->K+2*n<=1099511627776->dW (kD n w to) (K+2*n)/\fO (kD n w to) to=ct2/\aN (kD n w to)=aN w
 | 0,w,K,h,b,hK=>by
  refine⟨by simpa[kD] using h,?_,rfl⟩;show fO w to=ct2;unfold fO;cases e:aO w with
  | nil=>rfl
  | cons f r =>
   rw[e,we] at b;exact gH Y
 | n+1,w,K,h,b,hK=>by
  rw[kD];split
  .rename_i a;unfold fO at a;cases e:aO w with
   | nil=>rw[e] at a;cases a
   | cons f r =>
    rw[e] at a;have a:=aX a;obtain⟨s1,s2,-,s4⟩:=h.step Y e;have:=s4 to a;have ⟨t1,t2,t3⟩:=dW.run (to:=to) n s1 Y Y;grind
  next a=>exact⟨h.more Y,by simpa using a,rfl⟩
def okDn(w:aP):Prop:=0<=eI w/\((aN w).2.2.length:Int)<=1099511627776
def mK(w:aP):Nat:=(aN w).2.2.length-M (eI w)
theorem He{w}(h:okDn w)(hd:oU w=cs8):eI (kq w)=eI w+1/\okDn (kq w)/\mK (kq w)+1=mK w:=by
 unfold oU at hd
 rw[fB,uq,uq] at hd
 have ⟨h0,h1⟩:=h
 have e:eI (kq w)=eI w+1:=aJ (n:=eI w+1) Y Y
 refine⟨e,⟨by rw[e];omega,h1⟩,?_⟩
 unfold mK
 rw[e]
 show (aN w).2.2.length-_+1=_
 omega
theorem UO{w}(h:okDn w)(hd:oU w=cs8):0<mK w:=by
 unfold oU at hd
 rw[fB,uq,uq] at hd
 have:=h.1
 unfold mK;omega
theorem Ta:∀ n m{w:aP},okDn w->mK w<=n->mK w<=m->ft n w=ft m w
 | 0,0,_,_,_,_=>rfl
 | 0,m+1,w,h,hn,_=>by
  rw[ft,ft,I];intro hd;have:=UO h hd;omega
 | n+1,0,w,h,_,hm=>by
  rw[ft,ft,I];intro hd;have:=UO h hd;omega
 | n+1,m+1,w,h,hn,hm=>by
  rw[ft,ft];split
  next hd=>obtain⟨-,o,r⟩:=He h hd;exact Ta n m o Y Y
  .rfl
theorem N7{w}(h:okDn w){n}(hn:mK w<=n):dA w=ft n w:=Ta _ _ h (dq _) hn
theorem bm4{w}:oU (cV w t)=(cs7 (eI w<(aN w).2.2.length)&&cs7 (j8 (mV w)<=t)):=rfl
theorem WN{t t'}(ht:t<=t'):∀ n{w:aP},okDn w->mK w<=n->ft n (cV (ft n (cV w t)) t')=ft n (cV w t')
 | 0,w,h,hn=>rfl
 | n+1,w,h,hn=>by
  by_cases hd:oU (cV w t)=cs8
  .have hd':oU (cV w t')=true:=by
    rw[bm4,fB,uq,uq] at hd ⊢;exact⟨hd.1,Y⟩
   have c:=He (w:=cV w t) h hd;have e1:ft (n+1) (cV w t)=ft n (cV (kq w) t):=by rw[ft,ao hd];rfl
   have e2:ft (n+1) (cV w t')=ft n (cV (kq w) t'):=by rw[ft,ao hd'];rfl
   have o:okDn (kq w):=c.2.1;have r:mK (kq w)+1=mK w:=c.2.2;have ih:=WN ht n o Y;rw[e1,e2,← ih];have of':okDn (cV (ft n (cV (kq w) t)) t')/\mK (cV (ft n (cV (kq w) t)) t')<=n:=by
    have key:∀(k:Nat){v:aP},okDn v->okDn (ft k v)/\mK (ft k v)<=mK v:=by
     intro k
     induction k with
     | zero=>intro v hv;exact⟨hv,dq _⟩
     | succ k ihk =>
      intro v hv;rw[ft];split
      next hdv=>obtain⟨-,a,b⟩:=He hv hdv;have:=ihk a;exact⟨this.1,Y⟩
      .exact⟨hv,dq _⟩
    have k:=key n (v:=cV (kq w) t) o;exact⟨k.1,by have:=k.2;show mK (ft n (cV (kq w) t))<=n;have e:mK (cV (kq w) t)=mK (kq w):=rfl;omega⟩
   exact Ta _ _ of'.1 Y of'.2
  .have e1:ft (n+1) (cV w t)=cV w t:=by rw[ft,I hd]
   rw[e1];rfl
theorem ai8{w t'}(h:okDn w)(ht:t<=t'):dA (cV (dA (cV w t)) t')=dA (cV w t'):=by
 have e1:=N7 (w:=cV w t) h (dq _)
 have e2:dA (cV w t')=ft (mK w) (cV w t'):=N7 (w:=cV w t') h (dq _)
 rw[e1,e2,← WN ht (mK w) h (dq _)]
 have key:∀(k:Nat){v:aP},okDn v->okDn (ft k v)/\mK (ft k v)<=mK v:=by
  intro k
  induction k with
  | zero=>intro v hv;exact⟨hv,dq _⟩
  | succ k ihk =>
   intro v hv;rw[ft];split
   next hdv=>obtain⟨-,a,b⟩:=He hv hdv;have:=ihk a;exact⟨this.1,Y⟩
   .exact⟨hv,dq _⟩
 have k:=key (mK w) (v:=cV w t) h
 exact N7 (w:=cV (ft (mK w) (cV w t)) t') k.1 k.2
theorem GX:∀ n w,(ft n w).1=w.1/\(ft n w).2.1=w.2.1/\(ft n w).2.2.1=w.2.2.1/\(ft n w).2.2.2.2.2=w.2.2.2.2.2
 | 0,w=>⟨rfl,rfl,rfl,rfl⟩
 | n+1,w=>by
  rw[ft];split
  .have k:=GX n (kq w);exact⟨k.1.trans rfl,k.2.1.trans rfl,k.2.2.1.trans rfl,k.2.2.2.trans rfl⟩
  .exact⟨rfl,rfl,rfl,rfl⟩
theorem Ov(w):aO (dA w)=aO w/\cu (dA w)=cu w:=⟨dL (λx:Z×List Flight×List Del×List EndR=>x.2.1) (GX _ w).2.2.2,(GX _ w).2.1⟩
theorem cd6(w)(l):kq (gN w l)=gN (kq w) l:=rfl
theorem ao4(l):∀ n w,ft n (gN w l)=gN (ft n w) l
 | 0,w=>rfl
 | n+1,w=>by
  rw[ft,ft];by_cases hd:oU w=cs8
  .rw[ao hd,ao (show oU (gN w l)=cs8 from hd),cd6,ao4 l n]
  .rw[I hd,I (show ¬ oU (gN w l)=cs8 from hd)]
theorem cf3{w}(h:okDn w)(ht:t<=aZ ((aO w).headD cs5)):fi (dA (cV w t))=fi w:=by
 have e:=(Ov (cV w t)).1
 have e:aO (dA (cV w t))=aO w:=e
 unfold fi
 rw[e]
 congr 1
 have e1:gN (dA (cV w t)) (aO w).tail=dA (cV (gN w (aO w).tail) t):=(ao4 _ _ _).symm
 rw[e1]
 exact ai8 (w:=gN w (aO w).tail) h ht
def gc(w:aP)(to:Int):aP:=kD (gK to (aO w)) w to
variable{to:Int}
theorem a56:∀ n m{w:aP}{K:Int},dW w K->gK to (aO w)<=n->gK to (aO w)<=m->K+2*(gK to (aO w))<=1099511627776->kD n w to=kD m w to:=by
 have stop:∀{w:aP},gK to (aO w)=0->fO w to=false:=by
  intro w hw;unfold fO;cases e:aO w with
  | nil=>rfl
  | cons f r =>
   rw[e,we] at hw;exact gH Y
 intro n
 induction n with
 | zero =>
  intro m w K h hn hm hK;have hb:=stop (w:=w) Y;cases m with
  | zero=>rfl
  | succ m=>rw[kD,kD,I (by rw[hb];simp)]
 | succ n ih =>
  intro m w K h hn hm hK;cases m with
  | zero =>
   have hb:=stop (w:=w) Y;rw[kD,kD,I (by rw[hb];simp)]
  | succ m =>
   rw[kD,kD];split
   .rename_i hb;unfold fO at hb;cases e:aO w with
    | nil=>rw[e] at hb;cases hb
    | cons f r =>
     rw[e] at hb;have hb:=aX hb;have hpos:1<=gK to (aO w):=by rw[e,we];omega
     obtain⟨s1,-,-,s4⟩:=h.step Y e;have:=s4 to hb;exact ih m s1 Y Y Y
   .rfl
theorem Jn{w}(h:dW w K)(hK:K+2*(gK to (aO w))<=1099511627776)(hb:fO w to=cs8) :
  gc w to=gc (fi w) to/\dW (fi w) (K+2)/\gK to (aO (fi w))+1<=gK to (aO w):=by
 have hb0:=hb
 unfold fO at hb
 cases e:aO w with
 | nil=>rw[e] at hb;cases hb
 | cons f r =>
  rw[e] at hb;have hb:=aX hb;have hpos:1<=gK to (aO w):=by rw[e,we];omega
  obtain⟨s1,-,-,s4⟩:=h.step Y e;have:=s4 to hb;refine⟨?_,s1,by rw[← e];exact this⟩;obtain⟨k,hk⟩:∃ k,gK to (aO w)=k+1:=⟨gK to (aO w)-1,Y⟩
  have e1:gc w to=kD k (fi w) to:=by unfold gc;rw[hk,kD,ao hb0]
  rw[e1];exact a56 _ _ s1 Y (dq _) Y
theorem IS{w}(hb:fO w to=ct2):∀ n,kD n w to=w
 | 0=>rfl
 | n+1=>by rw[kD,I (by rw[hb];simp)]
variable{b:Int}
theorem aZ8{w}(h:a<=b)(hb:fO w a=cs8):fO w b=true:=by
 unfold fO at hb ⊢
 cases e:aO w with
 | nil=>rw[e] at hb;cases hb
 | cons f r =>
  rw[e] at hb;have hb:=aX hb;exact f7 Y
theorem YI{a b}(h:a<=b):∀ l,gK a l<=gK b l
 | []=>dq _
 | f::r=>by rw[we,we];have:=YI h r;omega
theorem bX2(hab:a<=b):∀ n{w:aP}{K:Int},dW w K->gK a (aO w)<=n->K+2*(gK b (aO w))<=1099511627776 →
  gc (gc w a) b=gc w b/\(∃ K',dW (gc w a) K'∧K'+2*(gK b (aO (gc w a)))<=1099511627776)/\fO (gc w a) a=ct2/\cu (gc w a)<=max (cu w) a:=by
 intro n
 induction n with
 | zero =>
  intro w K h hn hK;have hb:fO w a=false:=by
   unfold fO;cases e:aO w with
   | nil=>rfl
   | cons f r =>
    rw[e,we] at hn;exact gH Y
  have e:gc w a=w:=IS hb _;rw[e];exact⟨rfl,⟨K,h,hK⟩,hb,Y⟩
 | succ n ih =>
  intro w K h hn hK;by_cases hb:fO w a=cs8
  .have l:=YI hab (aO w);have ⟨r1,r2,r3⟩:=Jn h Y hb;have ⟨q1,q2,q3⟩:=Jn h hK (aZ8 hab hb);have now:cu (fi w)<=a:=by
    unfold fO at hb;cases e:aO w with
    | nil=>rw[e] at hb;cases hb
    | cons f r =>
     rw[e] at hb;have hb:=aX hb;have hpos:1<=gK a (aO w):=by rw[e,we];omega
     obtain⟨-,-,s3,-⟩:=h.step Y e;omega
   rw[r1,q1];have ⟨i1,i2,i3,i4⟩:=ih r2 Y Y;exact⟨i1,i2,i3,Y⟩
  .have hb:fO w a=false:=by simpa using hb
   have e:gc w a=w:=IS hb _;rw[e];exact⟨rfl,⟨K,h,hK⟩,hb,Y⟩
theorem dW.okDn{w}(h:dW w K):okDn w:=⟨h.done.1,by have:=I5 h.net;omega⟩
theorem bH7{w}(hb:fO w a=ct2)(hb2:fO w b=cs8):a<=aZ ((aO w).headD cs5):=by
 unfold fO at hb hb2
 cases e:aO w with
 | nil=>rw[e] at hb2;cases hb2
 | cons f r =>
  rw[e] at hb;have hb:=bg hb;show a<=aZ f;omega
theorem dW.wait{w}(h:dW w K)(hb:fO w a=ct2)(ha:0<=a/\a<=1125899906842624):dW (cV w a) K:=by
 refine⟨h.net,ha,h.ord,h.done,h.len,h.st,h.cl,h.cr,h.fl,λx hx=>?_,h.fn⟩
 have hx:x∈aO w:=hx
 have k:=h.fo x hx
 refine⟨⟨?_,k.t.2⟩,k.o,k.nd,k.l,k.g,k.b,k.d⟩
 show a<=aZ x
 have hp:=h.fl
 unfold fO at hb
 cases e:aO w with
 | nil=>rw[e] at hx;cases hx
 | cons f r =>
  rw[e] at hb hx hp;have hb:=bg hb;obtain rfl|hx:=dm.1 hx
  .omega
  .obtain q|q:=(cu1.1 hp).1 x hx <;> omega
theorem bN4{w}(h:dW w K)(ha:0<=a)(hab:a<=b)(hb:b<=1125899906842624)(hK:K+2*(gK b (aO w))<=1099511627776):pM (pM w a) b=pM w b:=by
 obtain⟨t1,⟨K',t2,t3⟩,t4,-⟩:=bX2 hab _ h (dq _) hK
 have ea:pM w a=dA (cV (gc w a) a):=rfl
 have eb:pM w b=dA (cV (gc w b) b):=rfl
 rw[ea,eb,← t1]
 generalize gc w a=u at t2 t3 t4
 have hv:=(t2.wait t4 ⟨ha,Y⟩).change
 have fl:aO (dA (cV u a))=aO u:=(Ov _).1
 have hbz:fO (dA (cV u a)) b=fO u b:=by unfold fO;rw[fl]
 show dA (cV (gc (dA (cV u a)) b) b)=_
 by_cases hz:fO u b=cs8
 .obtain⟨r1,-,-⟩:=Jn t2 t3 hz;obtain⟨q1,-,-⟩:=Jn hv (by rw[fl];exact t3) (hbz.trans hz);rw[q1,r1,cf3 t2.okDn (bH7 t4 hz)]
 .have hz:fO u b=false:=by simpa using hz
  rw[show gc (dA (cV u a)) b=dA (cV u a) from IS (hbz.trans hz) _,show gc u b=u from IS hz _];exact ai8 t2.okDn hab
def JO(f:Flight):Int×Int×Int×Int×Z:=(f.1,f.2.2)
def Lr(c:Int)(l l':List Flight):Prop:=∃ (g:Flight) (pre post:List Flight),l'=pre++g::post/\(pre++post).map JO=l.map JO/\c<aZ g/\(∀ y∈pre,aZ y<=aZ g)∧∀ y∈post,aZ g<=aZ y
theorem UE{x y}(h:JO x=JO y):aZ x=aZ y/\x.2.2=y.2.2:=⟨dL (·.1) h,dL (·.2) h⟩
variable{l l':List Flight}
theorem Lr.len(h:Lr c l l'):V l'=V l+1:=by
 obtain⟨g,pre,post,rfl,h1,-⟩:=h
 have:=dL V h1
 rw[nT,nT,cw] at this
 rw[cw,fa];omega
theorem Lr.busy(h:Lr c l l')(w)(o')(e:aO w=l):fO (gN (Xe w o') l') c=fO w c:=by
 obtain⟨g,pre,post,rfl,h1,h2,h3,h4⟩:=h
 show (match pre++g::post with|[]=>ct2|f::_=>cs7 (aZ f<=c))=(match aO w with|[]=>ct2|f::_=>cs7 (aZ f<=c))
 rw[e]
 cases pre with
 | nil =>
  rw[x9];have hg:cs7 (aZ g<=c)=false:=gH Y;show cs7 (aZ g<=c)=_;rw[hg];cases post with
  | nil =>
   cases l with
   | nil=>rfl
   | cons f r=>cases h1
  | cons y p =>
   cases l with
   | nil=>rfl
   | cons f r =>
    rw[x9,f6,f6,cF0.injEq] at h1;have:=(UE h1.1).1;have:=h4 y dU;exact (gH Y).symm
 | cons f' pre =>
  cases l with
  | nil=>cases h1
  | cons f r =>
   rw[kQ,f6,f6,cF0.injEq] at h1;have:=(UE h1.1).1;show cs7 (aZ f'<=c)=cs7 (aZ f<=c);rw[this]
structure Ba (n:Net) (now:Int) (f:Flight):Prop where
 t:now<=aZ f/\aZ f<=1125899906842624
 nd:0<=ci f/\ci f<V n.1
 l:jU f = -1∨jU f∈dc (T n.1 (M (ci f)) cs5)
 b:bytes (iH f)
 d:(V (iH f):Int)<=2000
structure ij (w:aP):Prop where
 net:jA (aN w)=0
 now:0<=cu w/\cu w<=1125899906842624
 done:0<=eI w/\eI w<=(aN w).2.2.length
 len:V (dD w)=(aN w).1.length
 st:∀ i:Nat,i<(aN w).1.length->cR (T (dD w) i cs5)=T (gB (aN w) (M (eI w))) i cs5/\V (oh (T (dD w) i cs5))=V (aV ((aN w).1.getD i cs5))
 cl:V (iZ w)=(aN w).2.1.length
 fl:(aO w).Pairwise λa b=>aZ a<=aZ b
 fo:∀ f∈aO w,Ba (aN w) (cu w) f
 fn:V (aO w)<=4096
theorem dW.weak{w}(h:dW w K):ij w :=
 ⟨h.net,h.now,h.done,h.len,λi hi=>⟨(h.st i hi).2,(h.st i hi).1.ps⟩,h.cl,h.fl.imp λq=>by obtain q|q:=q <;> omega,
  λf hf=>by have k:=h.fo f hf;exact⟨k.t,k.nd,k.l,k.b,k.d⟩,h.fn⟩
theorem ij.chk{w}(h:ij w)(hi:i<(aN w).1.length):jH (cR (T (dD w) i cs5)) (dc ((aN w).1.getD i cs5))=0:=by
 rw[(h.st i hi).1]
 exact ap2 h.net _ (by have:=h.done;omega) i hi
theorem ij.chg{w}(h:ij w)(hd:oU w=cs8):ij (kq w):=by
 have hd0:=hd
 unfold oU at hd
 rw[fB,uq,uq] at hd
 have hk:M (eI w)<(aN w).2.2.length:=by have:=h.done;omega
 obtain⟨-,⟨w0,w1⟩,-⟩:=JB h.net hk
 have sz:=I5 h.net
 have eD:eI (kq w)=eI w+1:=aJ (n:=eI w+1) (by have:=h.done;omega) (by have:=h.done;omega)
 have eN:aN (kq w)=aN w:=rfl
 have hwho:de (mV w)=de ((aN w).2.2.getD (M (eI w)) cs5):=rfl
 have hlt:M (de (mV w))<(aN w).1.length:=Y
 have hst:=h.st _ hlt
 refine⟨h.net,h.now,by have:=h.done;rw[eD,eN];omega,?_,λi hi=>?_,h.cl,h.fl,h.fo,h.fn⟩
 .show (V ((dD w).set _ _))=_;rw[f5];exact h.len
 .have hi:=hi;rw[eD,eN,show M (eI w+1)=M (eI w)+1 by have:=h.done;omega,gB];show cR (T ((dD w).set (M (de (mV w))) _) i cs5)=_/\V (oh (T ((dD w).set (M (de (mV w))) _) i cs5))=_;by_cases e:M (de (mV w))=i
  .subst e;rw[kW (by rw[h.len];exact hlt),show ((aN w).2.2.getD (M (eI w)) cs5)=mV w from rfl,kW (by rw[xG];exact hlt),← hst.1];exact⟨rfl,hst.2⟩
  .rw[qN e,show ((aN w).2.2.getD (M (eI w)) cs5)=mV w from rfl,qN e];exact h.st i hi
theorem QU:∀ n{w:aP},ij w->ij (ft n w)
 | 0,w,h=>h
 | n+1,w,h=>by
  rw[ft];split
  next hd=>exact QU n (h.chg hd)
  .exact h
theorem bt1(h:l.Pairwise λa b=>aZ a<=aZ b):(jt l f).Pairwise λa b=>aZ a<=aZ b:=by
 induction l with
 | nil=>simp[jt]
 | cons x l ih =>
  have ⟨a,b⟩:=cu1.1 h;have ih:=ih b;by_cases c:aZ x<=aZ f
  .have e:jt (x::l) f=x::jt l f:=by
    unfold jt;rw[List.takeWhile_cons_of_pos (by simpa using c),List.dropWhile_cons_of_pos (by simpa using c)];rfl
   rw[e];refine cu1.2 ⟨λy hy=>?_,ih⟩;obtain rfl|hy:=NW.1 hy
   .exact c
   .exact a y hy
  .have e:jt (x::l) f=f::x::l:=by
    unfold jt;rw[List.takeWhile_cons_of_neg (by simpa using c),List.dropWhile_cons_of_neg (by simpa using c)];rfl
   rw[e];refine cu1.2 ⟨λy hy=>?_,h⟩;obtain rfl|hy:=dm.1 hy
   .omega
   .have:=a y hy;omega
theorem ij.crosses{w}(h:ij w){out}(hf:0<=ci f/\ci f<(aN w).1.length)
  (hk:out.1∈dc ((aN w).1.getD (M (ci f)) cs5)) (hb:bytes out.2) (hl:(V out.2:Int)<=2000):ij (iO w f out):=by
 have hi:M (ci f)<(aN w).1.length:=Y
 have ⟨⟨k0,k1⟩,snd,o1,o2⟩:=F9 h.net hi hk
 rw[show ((M (ci f):Nat):Int)=ci f by omega] at o1 o2
 have ov:=Jk (w:=w) (k:=out.1) snd h.now
 have base:ij (AF w ((iZ w).set (M out.1) (ct0.wrap (qQ w out.1+1)))):=by
  refine⟨h.net,h.now,h.done,h.len,h.st,?_,h.fl,h.fo,h.fn⟩;show V ((iZ w).set _ _)=_;rw[f5];exact h.cl
 unfold iO
 dsimp only
 split
 .exact⟨base.net,base.now,base.done,base.len,base.st,base.cl,base.fl,base.fo,base.fn⟩
 split
 .exact⟨base.net,base.now,base.done,base.len,base.st,base.cl,base.fl,base.fo,base.fn⟩
 rename_i q
 refine⟨base.net,base.now,base.done,base.len,base.st,base.cl,bt1 h.fl,?_,?_⟩
 .intro x hx;have hx:=hx;obtain rfl|hx:=NW.1 hx
  .exact⟨⟨by show cu w<=rM w out.1;omega,by show rM w out.1<=_;omega⟩,o1,.inr o2,hb,hl⟩
  .exact h.fo x hx
 .show (V (jt (aO w) _))<=4096;rw[G6];omega
theorem ij.out{w}(h:ij w)(hf:Ba (aN w) (cu w) f) :
  UY ((aN w).1.getD (M (ci f)) cs5) (T (dD w) (M (ci f)) cs5) (cj w f):=by
 have hi:M (ci f)<(aN w).1.length:=by have:=hf.nd;omega
 obtain⟨-,-,h3⟩:=I0 (h.chk hi)
 exact PR (lk:=jU f) (t:=aZ f) (Cb h.net hi) (λr hr=>(h3 r hr).2) hf.b
theorem ij.land{w}(h:ij w)(hf:Ba (aN w) (cu w) f):ij (lC w f):=by
 have hi:M (ci f)<(aN w).1.length:=by have:=hf.nd;omega
 have S:=h.out hf
 have A:=(WP ((aN w).1.getD (M (ci f)) cs5) (T (dD w) (M (ci f)) cs5) (jU f) (aZ f) (iH f)).2.1
 have eH:cj w f=gX ((aN w).1.getD (M (ci f)) cs5) (T (dD w) (M (ci f)) cs5) (jU f) (aZ f) (iH f):=rfl
 rw[← eH] at A
 have ha:ij (ku w ((dD w).set (M (ci f)) (cj w f).1)):=by
  refine⟨h.net,h.now,h.done,?_,λi hl=>?_,h.cl,h.fl,h.fo,h.fn⟩
  .show (V ((dD w).set _ _))=_;rw[f5];exact h.len
  .have hl:=hl;show cR (T ((dD w).set (M (ci f)) (cj w f).1) i cs5)=_/\V (oh (T ((dD w).set (M (ci f)) (cj w f).1) i cs5))=_;by_cases e:M (ci f)=i
   .subst e;rw[kW (by rw[h.len];exact hi)];exact⟨S.rt.trans (h.st _ hi).1,A.trans (h.st _ hi).2⟩
   .rw[qN e];exact h.st i hl
 unfold lC
 dsimp only
 have key:∀ B,ij B->aN B=aN w->ij (if 0<(cj w f).2.1.2.length then iO B f (cj w f).2.1 else B):=by
  intro B hB b1;split
  .rename_i hp;have hr:(cj w f).2.2=0∨(cj w f).2.2=2:=by
    by_cases z0:(cj w f).2.2=0
    .exact .inl z0
    by_cases z2:(cj w f).2.2=2
    .exact .inr z2
    .have:=S.none z0 z2;rw[this] at hp;exact absurd hp (by simp[mE])
   have ⟨p1,p2,p3⟩:=S.some hr;exact hB.crosses (by rw[b1];exact hf.nd) (by rw[b1];exact Ht h.net hi p3) S.byt Y
  .exact hB
 apply key
 .split <;> (split <;> exact⟨ha.net,ha.now,ha.done,ha.len,ha.st,ha.cl,ha.fl,ha.fo,ha.fn⟩)
 .split <;> (split <;> rfl)
theorem Y4{w}(h:ij w)(hf:Ba (aN w) (cu w) f):aN (lC w f)=aN w/\cu (lC w f)=cu w ∧
  (aO (lC w f)=aO w∨∃ g,cu w+1<=aZ g/\aO (lC w f)=jt (aO w) g):=by
 have hi:M (ci f)<(aN w).1.length:=by have:=hf.nd;omega
 have S:=h.out hf
 unfold lC
 dsimp only
 have key:∀ B,aN B=aN w->cu B=cu w->aO B=aO w →
   (aN (if 0<(cj w f).2.1.2.length then iO B f (cj w f).2.1 else B)=aN w/\cu (if 0<(cj w f).2.1.2.length then iO B f (cj w f).2.1 else B)=cu w ∧
    (aO (if 0<(cj w f).2.1.2.length then iO B f (cj w f).2.1 else B)=aO w∨∃ g,cu w+1<=aZ g/\aO (if 0<(cj w f).2.1.2.length then iO B f (cj w f).2.1 else B)=jt (aO w) g)):=by
  intro B b1 b2 b3;split
  .rename_i hp;have ⟨c1,c2,c3⟩:=ac7 B f (cj w f).2.1;refine⟨c1.trans b1,c2.trans b2,?_⟩;obtain c3|⟨g,g1,g2⟩:=c3
   .exact .inl (c3.trans b3)
   .have hr:(cj w f).2.2=0∨(cj w f).2.2=2:=by
     by_cases z0:(cj w f).2.2=0
     .exact .inl z0
     by_cases z2:(cj w f).2.2=2
     .exact .inr z2
     .have:=S.none z0 z2;rw[this] at hp;exact absurd hp (by simp[mE])
    obtain⟨-,snd,-⟩:=F9 h.net hi (Ht h.net hi (S.some hr).2.2);have ov:=Jk (w:=B) (k:=(cj w f).2.1.1) (by unfold fY;rw[b1];exact snd) (by rw[b2];exact h.now);exact .inr ⟨g,by rw[g1,← b2];exact ov.1,by rw[g2,b3]⟩
  .exact⟨b1,b2,.inl b3⟩
 apply key
 all_goals (split <;> (split <;> rfl))
theorem ij.step{w}(h:ij w)(e:aO w=f::r) :
  ij (fi w)/\aN (fi w)=aN w/\cu (fi w)=aZ f∧∀ to,aZ f<=to->gK to (aO (fi w))+1<=gK to (aO w):=by
 have hp:=h.fl
 rw[e] at hp
 have ⟨p1,p2⟩:=cu1.1 hp
 have hf:=h.fo f (by rw[e];exact dU)
 have hb:ij (cV (gN w r) (aZ f)):=by
  refine⟨h.net,⟨by show 0<=aZ f;have:=h.now;have:=hf.t;omega,hf.t.2⟩,h.done,h.len,h.st,h.cl,p2,λx hx=>?_,?_⟩
  .have hx:=hx;have k:=h.fo x (by rw[e];exact eZ _ hx);exact⟨⟨p1 x hx,k.t.2⟩,k.nd,k.l,k.b,k.d⟩
  .show (V r)<=4096;have:=h.fn;rw[e,fa] at this;omega
 have es:fi w=lC (dA (cV (gN w r) (aZ f))) f:=by unfold fi;rw[e];rfl
 have c1:ij (dA (cV (gN w r) (aZ f))):=QU _ hb
 have c2:=GX ((aN w).2.2.length-M (eI w)) (cV (gN w r) (aZ f))
 have n1:aN (dA (cV (gN w r) (aZ f)))=aN w:=c2.1
 have n2:cu (dA (cV (gN w r) (aZ f)))=aZ f:=c2.2.1
 have n4:aO (dA (cV (gN w r) (aZ f)))=r:=(Ov _).1
 generalize dA (cV (gN w r) (aZ f))=v at c1 n1 n2 n4 es
 have hfv:Ba (aN v) (cu v) f:=by
  rw[n1,n2];exact⟨⟨fJ _,hf.t.2⟩,hf.nd,hf.l,hf.b,hf.d⟩
 have L:=Y4 c1 hfv
 rw[es]
 refine⟨c1.land hfv,L.1.trans n1,L.2.1.trans n2,λto hto=>?_⟩
 rw[e,we]
 obtain q|⟨g,g1,g2⟩:=L.2.2
 .rw[q,n4];omega
 .rw[g2,n4,ar0];rw[n2] at g1;omega
variable{b:Z}
theorem ZR(hb:bytes b)(h:kT b=0):cC (mg b)=FR (cC b)/\eO (mg b)=0/\(mg b).drop 20=b.drop 20:=by
 have hd:=jW λk=>by rw[kT,ao k] at h;exact k h
 have ht:¬ (cC b).2.2.1<2:=λk=>by rw[kT,I (λq=>q hd),ao k] at h;cases h
 have ⟨⟨h1,⟨h2,h2'⟩,h3,h4,h5⟩,l1,l2⟩:=Eu hb hd
 have hk:nX (FR (cC b)):=⟨h1,⟨by show 0<=(cC b).2.2.1-1;omega,by show (cC b).2.2.1-1<=255;omega⟩,h3,h4,h5⟩
 have hl:(V (b.drop 20):Int)<=1480:=by rw[gR];omega
 have e:jB (FR (cC b),b.drop 20)=0:=by
  rw[jB,I (by rw[Az];exact hk),I (by simp only;omega)]
 rw[mg,ao h,gW,ao e]
 exact TF hk (AX hb 12) (AX hb 16) hl (zL hb)
theorem bz7(hb:bytes b)(hn:¬ fV b):¬ fV (if kT b=0 then mg b else b):=by
 split
 next h=>
  have ⟨e1,e2,e3⟩:=ZR hb h;have hd:=jW λk=>by rw[kT,ao k] at h;exact k h
  rintro⟨-,k⟩;apply hn;refine⟨hd,?_⟩;rw[cN,ao e2,e1,e3] at k;rw[cN,ao hd];exact k
 .exact hn
variable{f:Int}
theorem OJ(hb:bytes b)(hf:u32 f)(h:jf b kind code id ttl=0):¬ fV (lH b f kind code id ttl):=by
 have hg:=jW λk=>by rw[jf,ao k] at h;cases h
 have ha:=jW λk=>by rw[jf,I (λq=>q hg),I k] at h;cases h
 obtain⟨-,e,en,ei⟩:=Nt (src:=f) hg ha
 have hk:=hg.1
 rw[e]
 have ⟨s1,s2,s3,s4⟩:=Gn (src:=f) (dst:=dI b) (proto:=1) (data:=kP (kind,code,b.take 28)) hg.2.2 Y hf (AX hb 12) (RP _) (Sl en (TE hb))
 intro k
 have hp1:fw (gW (lK f (dI b) 1 id ttl (kP (kind,code,b.take 28))))=1:=by rw[fw,s2]
 have:=(wz k).2.2.1 hp1
 rw[s3,(YN en).1] at this
 simp only at this
 omega
theorem aI7(hb:bytes b)(hf:u32 f)(h:jE b id ttl=0):¬ fV (md b f id ttl):=by
 have hn:=jW λk=>by rw[jE,ao k] at h;cases h
 have hg:=jW λk=>by rw[jE,I (λq=>q hn),I k] at h;cases h
 obtain⟨-,l1,l2⟩:=Eu hb hg.1.1
 have hd:=zL (n:=20) hb
 obtain⟨ha,⟨g1,g2⟩|⟨g1,g2⟩|⟨g1,g2,g3,g4⟩⟩:=hg
 .rw[(L8 (src:=f) hn ha g1 g2).1];have hE:(V (gY (cs8,(ip (b.drop 20)).2)):Int)<=1480/\bytes (gY (cs8,(ip (b.drop 20)).2)):=by
   have e:(ip (b.drop 20)).2.2.2=(b.drop 20).drop 8:=by unfold ip;rw[ao g2]
   refine Z4 ?_ ?_
   .show bytes (ip (b.drop 20)).2.2.2;rw[e];exact zL hd
   .show ((ip (b.drop 20)).2.2.2.length:Int)<=1472;rw[e];simp only[gR];omega
  have ⟨s1,s2,s3,s4⟩:=Gn (src:=f) (dst:=dI b) (proto:=1) hn Y hf (AX hb 12) hE.1 hE.2;intro k;have h8:=(wz k).2.2.1 (by rw[fw,s2]);have h28:=(wz k).2.1;rw[s3] at h8;rw[s4] at h28;unfold gY at h8 h28;split at h8
  .have:T (dR (fc (cs8,(ip (b.drop 20)).2)) 2 (eJ (fc (cs8,(ip (b.drop 20)).2)))) 0 cs5=0:=rfl;rw[this] at h8;cases h8
  next z=>rw[I z] at h28;simp at h28
 .rw[(LW (src:=f) hn ha g1 g2).1];exact OJ hb hf (Se hn ha)
 .rw[(Jv (src:=f) hn ha g1 g2 g3 g4).1];have hE:(V (io f (dI b) (pB (gG (dI b) (iw b) (b.drop 20)))):Int)<=1480/\bytes (io f (dI b) (pB (gG (dI b) (iw b) (b.drop 20)))):=ah4 rfl;have ⟨s1,s2,s3,s4⟩:=Gn (src:=f) (dst:=dI b) (proto:=6) hn Y hf (AX hb 12) hE.1 hE.2;intro k;have h28:=(wz k).2.1;rw[s4] at h28;unfold io at h28;split at h28
  next z=>have hfl:=(wz k).2.2.2.1 (by rw[fw,s2]);rw[s3] at hfl;unfold io at hfl;rw[ao z] at hfl;have h13:T (dR (pg (pB (gG (dI b) (iw b) (b.drop 20)))) 16 (jc f (dI b) 6 (pg (pB (gG (dI b) (iw b) (b.drop 20)))))) 13 cs5=20:=rfl;rw[h13,oJ,JP] at hfl;have:=hfl (by show 14<=20+_;omega);exact absurd this aD
  .simp at h28
theorem bR5{x}(S:wE x)(A:DB x)(hL:0<=f8 x L):u32 (pb x (dV x lk) L):=by
 have l1:=(zW hL).1
 unfold pb
 split
 .exact (JT A hL l1).1
 split
 .exact A.2.1
 split
 .exact A.2.2
 .exact (JT A (KZ x lk) (bM0 S lk)).1
theorem bf9{w}(hb:bytes w.2.2.2.2.1)(hf:u32 f)(hn:lF id (mD w.1))(h:kE ki w 0=0):¬ fV (kB ki w f id):=by
 have ha:=Qa h
 unfold kB
 split
 .exact OJ hb hf (by rw[jf,I (λk=>k ⟨.inl rfl,Y,hn⟩),ao ha])
 split
 .exact OJ hb hf (by rw[jf,I (λk=>k ⟨.inr rfl,Y,hn⟩),ao ha])
 next k2 k3=>
  have h:jE w.2.2.2.2.1 0 (mD w.1)=0:=by
   unfold kE at h;rw[I k2,I k3] at h;exact h
  have hg:CQ w.2.2.2.2.1:=jW λq=>by
   rw[jE] at h;split at h
   .cases h
   .cases h
  exact aI7 hb hf (Hp hn hg)
theorem bZ5{x s}(S:wE x)(A:DB x)(hrt:∀ r∈cR s,pO r (dc x))(hb:bytes b) :
  ((gX x s lk t b).2.2=2->fV b∧¬ fV (gX x s lk t b).2.1.2)/\((gX x s lk t b).2.2=0→¬ fV b→¬ fV (gX x s lk t b).2.1.2):=by
 constructor
 .intro h2;have hbo:=jW λk=>aC5 k h2;refine⟨hbo,?_⟩;have ⟨ki,e,hk⟩:=OD h2;rw[e] at h2 ⊢;obtain⟨w,hw⟩:∃ w,w=Mh x s lk t b:=⟨_,rfl⟩
  rw[← hw] at h2 ⊢;have ⟨a1,a2,a3⟩:=T3 h2;have w1:w.1=x:=by rw[hw];rfl
  have w2:w.2.1=s:=by rw[hw];rfl
  have w3:w.2.2.1=lk:=by rw[hw];rfl
  have w5:w.2.2.2.2.1=b:=by rw[hw];rfl
  have w6:w.2.2.2.2.2=cC b:=by
   have:w.2.2.2.2.2=(cN b).1:=by rw[hw];rfl
   rw[this,cN,ao hbo.1]
  have hn:=Yd (w:=w) (by rw[w1];exact S.id) (by rw[w1];exact S.form) (by rw[w6];exact tu hb 4);have hL:0<=f8 x (mL (kB ki w) w):=by
   have:=Pt hrt (a:=rb w.2.2.2.2.2) (by rw[← w2];exact a2) (pc w) (jY (kB ki w (adr w.1 (dV w.1 w.2.2.1)) 0));unfold mL pV;rw[w1,w2];rw[w1] at this;exact this
  have hf:u32 (lG (kB ki w) w (tM ki w)):=by
   unfold lG;split
   .rw[w1,w3];exact bR5 S A hL
   .rename_i k;unfold tM at k ⊢;split
    .rw[w6];exact AX hb 16
    next z=>rw[I z] at k;exact absurd rfl k
  have ho:(yO w ki).2.1.2=kB ki w (lG (kB ki w) w (tM ki w)) (jz w):=dL (λr:sO=>r.2.1.2) a3;rw[ho];exact bf9 (by rw[w5];exact hb) hf hn a1
 .intro h0 hno;have F:=SM h0;rw[QH (t:=t) F];show ¬ fV (if lk ≠ -1/\g7 x=ct2 then mg b else b);split
  .rename_i k;have ht:=F.ttl;have e1:(cN b).1=cC b:=by rw[cN,ao F.dec]
   rw[e1] at ht;have hl:kT b=0:=by
    rw[kT,I (λq=>q F.dec)];exact I (λq=>ht ⟨k.1,k.2,q⟩)
   have:=bz7 hb hno
   rwa [ao hl] at this
  .exact hno
def wx(w:aP)(at' who:Int)(b:Z):aP:=EV w (at',0,who,-1,dw w,b)
theorem dW.send{w}(h:dW w K)(hK:K<=2199023255552){who:Int}(ha:cu w<=at'∧at'<=1125899906842624)(hw:0<=who/\who<(aN w).1.length)(hb:bytes b)(hl:(V b:Int)<=2000)
  (hf:V (aO w)<4096):dW (wx w at' who b) (K+1)/\dw (wx w at' who b)=dw w+1:=by
 have hord:=h.ord
 have ew:ct0.wrap (dw w+1)=dw w+1:=aJ Y Y
 have eo:dw (wx w at' who b)=dw w+1:=ew
 have h':=h.more (K':=K+1) Y
 refine⟨⟨h'.net,h'.now,by rw[eo];omega,h'.done,h'.len,h'.st,h'.cl,h'.cr,?_,?_,?_⟩,eo⟩
 .exact XA h.fl λx hx=>(h.fo x hx).o.2
 .intro x hx;have hx:=hx;show zJ (aN w) (cu w) (dw (wx w at' who b)) x;rw[eo];obtain rfl|hx:=NW.1 hx
  .exact⟨ha,⟨by show 0<=dw w;omega,by show dw w<dw w+1;omega⟩,hw,.inl rfl,⟨by show 0<=dw w;omega,by show dw w<dw w+1;omega⟩,hb,hl⟩
  .have k:=h.fo x hx;exact⟨k.t,⟨k.o.1,by have:=k.o.2;omega⟩,k.nd,k.l,⟨k.g.1,by have:=k.g.2;omega⟩,k.b,k.d⟩
 .show (V (jt (aO w) _))<=4096;rw[G6];omega
def Cy(n:Net):aP:=(n,0,0,0,n.1.map vj,replicate (V n.2.1) 0,[],[],[])
variable{n:Net}
theorem dW.new(h:jA n=0):dW (Cy n) 0:=by
 refine⟨h,⟨by show (0:Int)<=0;omega,by show (0:Int)<=_;omega⟩,⟨by show (0:Int)<=0;omega,by show (0:Int)<=0;omega⟩,⟨by show (0:Int)<=0;omega,by show (0:Int)<=_;omega⟩,?_,λi hi=>?_,?_,λc hc=>?_,cx5,λf hf=>(by cases hf),by show (0:Nat)<=4096;omega⟩
 .show (V (n.1.map vj))=_;rw[nT];rfl
 .have hi:i<V n.1:=hi;show j6 (T n.1 i cs5) (T (n.1.map vj) i cs5) 0/\cR (T (n.1.map vj) i cs5)=T (gB n (M (0:Int))) i cs5;rw[GR hi];refine⟨VW (Cb h hi),?_⟩;show ce (T n.1 i cs5)=T (n.1.map ce) i cs5;rw[GR hi]
 .show (V (replicate (V n.2.1) (0:Int)))=_;rw[wU];rfl
 .have hc:=hc;rw[cN1 hc];omega
theorem Lr.one{g}(h:l.Pairwise λa b=>aZ a<=aZ b)(hg:c<aZ g):Lr c l (jt l g):=by
 refine⟨g,l.takeWhile λx=>cs7 (aZ x<=aZ g),l.dropWhile λx=>cs7 (aZ x<=aZ g),rfl,by rw[oR],hg,λy hy=>?_,?_⟩
 .simpa using cz6.1 (cR6 (p:=λx=>cs7 (aZ x<=aZ g)) (l:=l)) y hy
 .intro x hx;have h2:=h;rw[← oR (p:=λx=>cs7 (aZ x<=aZ g)) (l:=l)] at h2;obtain⟨-,b,-⟩:=cw9.1 h2;cases hh:l.dropWhile (λx=>cs7 (aZ x<=aZ g)) with
  | nil=>rw[hh] at hx;cases hx
  | cons y r =>
   have hy:¬ aZ y<=aZ g:=by
    have:=cN6 (p:=λx=>cs7 (aZ x<=aZ g)) (l:=l) (by rw[hh];simp);simp only[hh,cU2] at this;simpa using this
   rw[hh] at hx b;obtain rfl|hx:=dm.1 hx
   .omega
   .have:=(cu1.1 b).1 x hx;omega
def DZ(b:Z):Nat:=if eO b=0 then (cC b).2.2.1.toNat else 0
def va(n:Net)(f:Flight):Nat:=1+2*DZ (iH f)+(if g7 (T n.1 (M (ci f)) cs5)=cs8 then 1 else 0)+(if jU f = -1 then 2 else 0)+(if fV (iH f) then 600 else 0)
def vI(n:Net)(l:List Flight):Nat:=(l.map (va n)).sum
def mv(w:aP):Nat:=vI (aN w) (aO w)
def Fc(n:Net):Prop:=∀ i:Nat,i<V n.1->DB (T n.1 i cs5)
theorem W2(hb:bytes b):DZ b<=255:=by
 unfold DZ
 split
 next h=>obtain⟨⟨-,⟨h1,h2⟩,-⟩,-⟩:=Eu hb h;omega
 .omega
theorem a30(h:jA n=0):∀ l∈n.2.1,pH n.1 l=false:=by
 obtain⟨-,h⟩:=wy h
 obtain⟨-,h⟩:=wy h
 obtain⟨-,h⟩:=wy h
 obtain⟨-,h⟩:=wy h
 obtain⟨-,h⟩:=wy h
 obtain⟨h,-⟩:=wy h
 unfold xI at h
 simp_all
theorem aB6(h:jA n=0){x}(b:0<=k/\k<V n.2.1)(hx:g7 (T n.1 (M x) cs5)=cs8)(a:0<=kK n.2.1 k x):g7 (T n.1 (M (kK n.2.1 k x)) cs5)=false:=by
 have hd:=a30 h (T n.2.1 (M k) cs5) (cW b.1 b.2)
 unfold pH at hd
 unfold kK at a ⊢
 rw[I Y] at a ⊢
 split at a
 .simp_all
 .split at a
  .simp_all
  .omega
theorem aR4(hb:bytes b)(h:kT b=0):DZ (mg b)+1=DZ b:=by
 obtain⟨e1,e2,-⟩:=ZR hb h
 have a:=jW λk=>by rw[kT,ao k] at h;exact k h
 have ht:¬ (cC b).2.2.1<2:=λk=>by rw[kT,I (λq=>q a),ao k] at h;cases h
 unfold DZ
 rw[ao e2,ao a,e1]
 show M ((cC b).2.2.1-1)+1=_
 omega
variable{f:Flight}
theorem a31{v}(h:ij v)(c:Ba (aN v) (cu v) f)(A:Fc (aN v))(n:0<(cj v f).2.1.2.length)(t o og) :
  va (aN v) (t,o,kK (aN v).2.1 (cj v f).2.1.1 (ci f),(cj v f).2.1.1,og,(cj v f).2.1.2)+1<=va (aN v) f:=by
 have d:M (ci f)<(aN v).1.length:=by have:=c.nd;omega
 have S:=Cb h.net d
 have B:=h.out c
 obtain⟨-,-,h3⟩:=I0 (h.chk d)
 have D:=bZ5 (lk:=jU f) (t:=aZ f) S (A _ d) (λr a=>(h3 r a).2) c.b
 have l:cj v f=gX ((aN v).1.getD (M (ci f)) cs5) (T (dD v) (M (ci f)) cs5) (jU f) (aZ f) (iH f):=rfl
 have a:(cj v f).2.2=0∨(cj v f).2.2=2:=by
  by_cases p:(cj v f).2.2=0
  .exact .inl p
  by_cases j:(cj v f).2.2=2
  .exact .inr j
  .have:=B.none p j;rw[this] at n;exact absurd n (by simp[mE])
 obtain⟨⟨k0,k1⟩,-,⟨o1,-⟩,-⟩:=F9 h.net d (Ht h.net d (B.some a).2.2)
 rw[show ((M (ci f):Nat):Int)=ci f by have:=c.nd;omega] at o1
 have hk:¬ (cj v f).2.1.1 = -1:=Y
 show 1+2*DZ (cj v f).2.1.2+(if g7 ((aN v).1.getD (M (kK (aN v).2.1 (cj v f).2.1.1 (ci f))) cs5)=cs8 then 1 else 0)+(if (cj v f).2.1.1 = -1 then 2 else 0)+(if fV (cj v f).2.1.2 then 600 else 0)+1<=_
 rw[I hk]
 have hD:=aB6 (x:=ci f) h.net ⟨k0,k1⟩
 rw[← l] at D
 have m:=B.byt
 have t1:=W2 m
 unfold va
 generalize g7 ((aN v).1.getD (M (kK (aN v).2.1 (cj v f).2.1.1 (ci f))) cs5)=oy at *
 obtain a|a:=a
 .have F:=SM (by rw[← l];exact a);have e:=QH (t:=aZ f) F;rw[← l] at e;have s:(cj v f).2.1.2=if jU f ≠ -1/\g7 ((aN v).1.getD (M (ci f)) cs5)=ct2 then mg (iH f) else iH f:=by rw[e]
  have ha:(if fV (cj v f).2.1.2 then 600 else 0)<=(if fV (iH f) then 600 else 0):=by
   grind
  generalize (if fV (cj v f).2.1.2 then 600 else 0)=a1 at *;cases u:g7 ((aN v).1.getD (M (ci f)) cs5) with
  | true =>
   grind
  | false =>
   by_cases g:jU f = -1
   .rw[s,I (λq=>q.1 g),ao g];cases oy <;> simp <;> omega
   .have i:kT (iH f)=0:=by
     have w:=F.ttl;rw[cN,ao F.dec] at w;unfold kT;rw[I (λk=>k F.dec),I];intro q;exact w ⟨g,u,q⟩
    have:=aR4 c.b i;rw[s,ao ⟨g,u⟩,I g];cases oy <;> simp <;> omega
 .have ⟨z1,j⟩:=D.1 a;rw[I j,ao z1];cases oy <;> simp <;> omega
theorem ak5(n)(l)(f):vI n (jt l f)=vI n l+va n f:=by
 have e:vI n l=vI n ((l.takeWhile λx=>cs7 (aZ x<=aZ f))++(l.dropWhile λx=>cs7 (aZ x<=aZ f))):=by rw[oR]
 rw[e]
 unfold vI jt
 grind
theorem Wc(w)(f)(a):V (d9 (iO w f a))<=V (d9 w)+1/\bO (iO w f a)=bO w ∧
  (aO (iO w f a)=aO w∨∃ t o,aO (iO w f a)=jt (aO w) (t,o,kK (aN w).2.1 a.1 (ci f),a.1,rG f,a.2)):=by
 unfold iO
 split
 .exact⟨by show V ((d9 w)++[_])<=_;simp,rfl,.inl rfl⟩
 .split
  .exact⟨by show V ((d9 w)++[_])<=_;simp,rfl,.inl rfl⟩
  .exact⟨by show V (d9 w)<=_;omega,rfl,.inr ⟨_,_,rfl⟩⟩
theorem bK7{v}(h:ij v)(hf:Ba (aN v) (cu v) f)(A:Fc (aN v)) :
  V (d9 (lC v f))<=V (d9 v)+2/\V (bO (lC v f))<=V (bO v)+1/\vI (aN v) (aO (lC v f))+1<=vI (aN v) (aO v)+va (aN v) f:=by
 have h1:1<=va (aN v) f:=by unfold va;omega
 unfold lC
 dsimp only
 generalize hb:(if (cj v f).2.2=1 then A6 (ku v ((dD v).set (M (ci f)) (cj v f).1)) (bO (ku v ((dD v).set (M (ci f)) (cj v f).1))++[(aZ f,ci f,iH f)]) else ku v ((dD v).set (M (ci f)) (cj v f).1))=B
 have eB:aN B=aN v/\aO B=aO v/\d9 B=d9 v/\V (bO B)<=V (bO v)+1:=by
  rw[← hb];split
  .exact⟨rfl,rfl,rfl,by show V ((bO v)++[_])<=_;simp⟩
  .exact⟨rfl,rfl,rfl,by show V (bO v)<=_;omega⟩
 have ⟨b1,b2,b3,b4⟩:=eB
 generalize hc:(if (cj v f).2.2≠0 then sI B f (jU f) (cj v f).2.2 else B)=S
 have eC:aN S=aN v/\aO S=aO v/\V (d9 S)<=V (d9 v)+1/\bO S=bO B:=by
  rw[← hc];split
  .exact⟨b1,b2,by show V ((d9 B)++[_])<=_;rw[b3];simp,rfl⟩
  .simp_all
 have ⟨c1,b,c3,c4⟩:=eC
 split
 next hp=>
  have ⟨d1,d2,a⟩:=Wc S f (cj v f).2.1;refine⟨Y,by rw[d2,c4];exact b4,?_⟩;obtain a|⟨t,o,a⟩:=a
  .rw[a,b];omega
  .rw[a,b,ak5,c1];have:=a31 h hf A hp t o (rG f);omega
 .grind
theorem ij.okDn{w}(h:ij w):okDn w:=⟨h.done.1,by have:=I5 h.net;omega⟩
theorem bI9{w}(h:ij w)(a:oU w=cs8):dA w=dA (kq w):=by
 have ⟨h1,h2,h3⟩:=He h.okDn a
 have e:=N7 h.okDn (n:=mK (kq w)+1) Y
 rw[e,ft,ao a]
 rfl
theorem bm8{w}(hd:¬ oU w=cs8):dA w=w:=by
 unfold dA
 cases (aN w).2.2.length-M (eI w) with
 | zero=>rfl
 | succ n=>rw[ft,I hd]
theorem Cr(w):(dA w).1=w.1/\aO (dA w)=aO w/\d9 (dA w)=d9 w/\bO (dA w)=bO w/\dw (dA w)=dw w/\cu (dA w)=cu w:=by
 have k:=GX ((aN w).2.2.length-M (eI w)) w
 have e:=k.2.2.2
 exact⟨k.1,dL (λx:Z×List Flight×List Del×List EndR=>x.2.1) e,dL (λx:Z×List Flight×List Del×List EndR=>x.2.2.2) e,dL (λx:Z×List Flight×List Del×List EndR=>x.2.2.1) e,k.2.2.1,k.2.1⟩
theorem bP6(n)(f)(l):vI n (f::l)=va n f+vI n l:=by unfold vI;rw[f6,cN2]
theorem zJ.wk{o}(h:zJ n t o f):Ba n t f:=⟨h.t,h.nd,h.l,h.b,h.d⟩
def xi(n:Net):Prop:=(V n.1:Int)<=1000000/\(V n.2.1:Int)<=1000000/\(V n.2.2:Int)<=1000000/\(∀ x∈n.1,(V (aV x):Int)<=1000000/\okL (ce x))∧∀ c∈n.2.2,((ig c).2.1.length:Int)<=1099511627776
def E8(w:aP):Prop:=xi (aN w)/\(V (dD w):Int)<=1000000/\(V (iZ w):Int)<=1000000/\(V (aO w):Int)<=1000000/\(V (bO w):Int)<=1000000000000/\(V (d9 w):Int)<=1000000000000 ∧
 (∀ s∈dD w,(V (oh s):Int)<=1000000/\okL (cR s))/\(∀ f∈aO w,(V (iH f):Int)<=1000000)∧∀ e∈bO w,(V e.2.2:Int)<=1000000
theorem ZY(v)(f):bO (lC v f)=bO v∨bO (lC v f)=bO v++[(aZ f,ci f,iH f)]:=by
 unfold lC
 dsimp only
 generalize hb:(if (cj v f).2.2=1 then A6 (ku v ((dD v).set (M (ci f)) (cj v f).1)) (bO (ku v ((dD v).set (M (ci f)) (cj v f).1))++[(aZ f,ci f,iH f)]) else ku v ((dD v).set (M (ci f)) (cj v f).1))=B
 have a:bO B=bO v∨bO B=bO v++[(aZ f,ci f,iH f)]:=by
  rw[← hb];split
  .exact .inr rfl
  .exact .inl rfl
 generalize hc:(if (cj v f).2.2≠0 then sI B f (jU f) (cj v f).2.2 else B)=S
 have b:bO S=bO B:=by rw[← hc];split <;> rfl
 split
 .rw[(Wc S f _).2.1,b];exact a
 .rw[b];exact a
structure fj (B:Int) (w:aP):Prop where
 b:B<=549755813888
 sB:dW w (B-2*mv w)
 a:Fc (aN w)
 c:xi (aN w)
 dd:∀ x∈bO w,(V x.2.2:Int)<=2000
 e:(V (d9 w):Int)+2*mv w<=B
 d:(V (bO w):Int)+mv w<=B
abbrev CX(w:aP):Prop:=fj 549755813888 w
variable{B:Int}
theorem fj.s{w}(h:fj B w):dW w (549755813888-2*mv w):=h.sB.more (by have:=h.b;omega)
theorem fj.more{b w}(h:fj B w)(h1:B<=b)(h2:b<=549755813888):fj b w:=⟨h2,h.sB.more Y,h.a,h.c,h.dd,by have:=h.e;omega,by have:=h.d;omega⟩
theorem fj.sim{w}(h:fj B w):CX w:=h.more h.b (fJ _)
theorem fj.change{w}(h:fj B w):fj B (dA w):=by
 obtain⟨f,k2,k3,i,-⟩:=Cr w
 have g:mv (dA w)=mv w:=by unfold mv;rw[k2];show vI (dA w).1 _=_;rw[f];rfl
 exact⟨h.b,by rw[g];exact h.sB.change,by show Fc (dA w).1;rw[f];exact h.a,by show xi (dA w).1;rw[f];exact h.c,by rw[i];exact h.dd,by rw[g,k3];exact h.e,by rw[g,i];exact h.d⟩
theorem fj.cp{w}(h:fj B w):E8 w:=by
 have h1:=h.s.len
 have h2:=I5 h.s.net
 have h3:=h.s.cl
 have h4:=h.s.fn
 have h5:=h.e
 have h6:=h.d
 have h7:=h.b
 refine⟨h.c,Y,Y,Y,Y,Y,λs hs=>?_,λf hf=>by have:=(h.s.fo f hf).d;omega,λx hx=>by have:=h.dd x hx;omega⟩
 obtain⟨i,hi,rfl⟩:=cv8.1 hs
 have a:i<(aN w).1.length:=Y
 obtain⟨g,-⟩:=h.s.st i a
 have e:T (dD w) i cs5=(dD w)[i]:=by rw[cK,cT hi];rfl
 rw[e] at g
 have:=g.ps
 have:=(Cb h.s.net a).n32
 exact⟨Y,g.okl⟩
theorem bP3{w}(h:ij w)(A:Fc (aN w))(e:aO w=f::r) :
  mv (fi w)+1<=mv w/\V (d9 (fi w))<=V (d9 w)+2/\V (bO (fi w))<=V (bO w)+1:=by
 obtain⟨-,s2,-⟩:=h.step e
 have es:fi w=lC (dA (cV (gN w r) (aZ f))) f:=by unfold fi;rw[e];rfl
 obtain⟨c,g,k3,k4,-,k6⟩:=Cr (cV (gN w r) (aZ f))
 have g:aO (dA (cV (gN w r) (aZ f)))=r:=g
 have c:aN (dA (cV (gN w r) (aZ f)))=aN w:=c
 have a:=h.fo f (by rw[e];exact dU ..)
 have i:=h.fl
 rw[e] at i
 have h0:ij (cV (gN w r) (aZ f)):=by
  refine⟨h.net,⟨by have:=a.t;have:=h.now;show 0<=aZ f;omega,a.t.2⟩,h.done,h.len,h.st,h.cl,(cu1.1 i).2,λx n=>?_,?_⟩
  .have k:=h.fo x (by rw[e];exact eZ _ n);exact⟨⟨(cu1.1 i).1 x n,k.t.2⟩,k.nd,k.l,k.b,k.d⟩
  .have:=h.fn;rw[e] at this;simp at this;show V r<=4096;omega
 have h1:ij (dA (cV (gN w r) (aZ f))):=QU _ h0
 have ⟨j,m,o⟩:=bK7 h1 (f:=f) (by rw[c,k6];exact⟨⟨fJ _,a.t.2⟩,a.nd,a.l,a.b,a.d⟩) (by rw[c];exact A)
 rw[← es] at j m o
 rw[k3] at j
 rw[k4] at m
 rw[c,g] at o
 refine⟨?_,j,m⟩
 unfold mv
 rw[s2,e,bP6]
 omega
theorem fj.step{w}(h:fj B w)(e:aO w=f::r):fj B (fi w)/\mv (fi w)+1<=mv w:=by
 have ⟨p1,p2,p3⟩:=bP3 h.s.weak h.a e
 obtain⟨s1,i,-⟩:=h.sB.step (by have:=h.b;omega) e
 have h1:=h.e
 have h2:=h.d
 refine⟨⟨h.b,s1.more Y,by rw[i];exact h.a,by rw[i];exact h.c,?_,Y,Y⟩,p1⟩
 have es:fi w=lC (dA (cV (gN w r) (aZ f))) f:=by unfold fi;rw[e];rfl
 have j:bO (dA (cV (gN w r) (aZ f)))=bO w:=(Cr _).2.2.2.1
 have hf:=h.s.fo f (by rw[e];exact dU ..)
 rw[es]
 obtain q|q:=ZY (dA (cV (gN w r) (aZ f))) f
 .rw[q,j];exact h.dd
 .rw[q,j];intro x g;obtain g|g:=dX.1 g
  .exact h.dd x g
  .rw[iV.1 g];exact hf.d
theorem b49:∀ n m{w:aP},ij w->gK to (aO w)<=n->gK to (aO w)<=m->kD n w to=kD m w to:=by
 have a:∀{w:aP},gK to (aO w)=0->fO w to=false:=by
  intro w hw;unfold fO;cases e:aO w with
  | nil=>rfl
  | cons f r =>
   rw[e,we] at hw;exact gH Y
 intro n
 induction n with
 | zero =>
  intro m w h hn hm;have b:=a (w:=w) Y;cases m with
  | zero=>rfl
  | succ m=>rw[kD,kD,I (by rw[b];simp)]
 | succ n ih =>
  intro m w h hn hm;cases m with
  | zero =>
   grind
  | succ m =>
   rw[kD,kD];split
   .rename_i b;unfold fO at b;cases e:aO w with
    | nil=>rw[e] at b;cases b
    | cons f r =>
     obtain⟨s1,-,-,s4⟩:=h.step e;grind
   .rfl
theorem Ty{w}(h:ij w)(a:fO w to=cs8):gc w to=gc (fi w) to:=by
 have b:=a
 unfold fO at a
 cases e:aO w with
 | nil=>rw[e] at a;cases a
 | cons f r =>
  rw[e] at a;have a:=aX a;obtain⟨s1,-,-,s4⟩:=h.step e;have:=s4 to a;obtain⟨k,hk⟩:∃ k,gK to (aO w)=k+1:=⟨gK to (aO w)-1,Y⟩
  have e1:gc w to=kD k (fi w) to:=by unfold gc;rw[hk,kD,ao b]
  rw[e1];exact b49 _ _ s1 Y (dq _)
theorem RU{w}(hb:fO w to=ct2):gc w to=w:=IS hb _
theorem fj.run{B to}:∀ n{w:aP},fj B w->mv w<=n->fj B (gc w to)/\fO (gc w to) to=ct2/\aN (gc w to)=aN w/\mv (gc w to)<=mv w
 | n,w,h,hn=>by
  cases g:fO w to with
  | false=>rw[RU g];exact⟨h,g,rfl,dq _⟩
  | true =>
   rw[Ty h.s.weak g];cases e:aO w with
   | nil=>unfold fO at g;rw[e] at g;cases g
   | cons f r =>
    obtain⟨k1,k2⟩:=h.step e;obtain⟨-,s2,-⟩:=h.s.weak.step e;cases n with
    | zero=>omega
    | succ n =>
     obtain⟨a,b,c,d⟩:=fj.run n k1 Y;exact⟨a,b,c.trans s2,Y⟩
def Kp:aP:=(([],[],[]),0,0,0,[],[],[],[],[])
def xS(w:aP):Prop:=w=cV Kp (cu w)/\0<=cu w/\cu w<=1125899906842624
def s9(w:aP):Prop:=CX w∨xS w
theorem xS.fl{w}(h:xS w):aO w=[]:=by rw[h.1];rfl
theorem xS.cp{w}(h:xS w):E8 w:=by
 rw[h.1]
 have S:∀{b:Int},0<=b->((0:Nat):Int)<=b:=λh=>h
 exact⟨⟨S aD,S aD,S aD,λx a=>(by cases a),λx a=>(by cases a)⟩,S aD,S aD,S aD,S aD,S aD,λx a=>(by cases a),λx a=>(by cases a),λx a=>(by cases a)⟩
theorem s9.cp{w}(h:s9 w):E8 w:=h.elim fj.cp xS.cp
theorem s9.fl{w}(h:s9 w)(hf:aO w≠[]):CX w:=h.resolve_right λq=>hf q.fl
def Ae(w:aP):Prop:=ij w∨((aN w).2.2=[]/\eI w=0)
theorem xS.ch{w}(h:xS w)(t):Ae (cV w t) := .inr (by rw[h.1];exact⟨rfl,rfl⟩)
theorem xS.chg{w}(h:xS w)(t):dA (cV w t)=cV w t:=by rw[h.1];rfl
def mo(w:aP):Flight:=(aO w).headD cs5
def gQ(w:aP):aP:=dA (cV (gN w (aO w).tail) (aZ (mo w)))
def nK(w:aP):sO:=cj (gQ w) (mo w)
def DF(w:aP):aP:=ku (gQ w) ((dD (gQ w)).set (M (ci (mo w))) (nK w).1)
def rf(w:aP):aP:=if (nK w).2.2=1 then A6 (DF w) (bO (DF w)++[(aZ (mo w),ci (mo w),iH (mo w))]) else DF w
def lw(w:aP):aP:=if (nK w).2.2≠0 then sI (rf w) (mo w) (jU (mo w)) (nK w).2.2 else rf w
theorem ad1(w):fi w=if 0<(nK w).2.1.2.length then iO (lw w) (mo w) (nK w).2.1 else lw w:=by
 rfl
theorem Cw(w):rf w=A6 (DF w) (if (nK w).2.2=1 then bO (gQ w)++[(aZ (mo w),ci (mo w),iH (mo w))] else bO (gQ w)):=by unfold rf;split <;> rfl
theorem GA(w):lw w=QJ (rf w) (if (nK w).2.2≠0 then d9 (gQ w)++[(rG (mo w),aZ (mo w),ci (mo w),jU (mo w),(nK w).2.2)] else d9 (gQ w)):=by
 unfold lw
 rw[Cw]
 split <;> rfl
structure At (w:aP) (f:Flight) (r:List Flight):Prop where
 s:dW (gQ w) (549755813888-2*mv w)
 fk:zJ (aN (gQ w)) (cu (gQ w)) (dw (gQ w)) f
 eF:mo w=f
 net:aN (gQ w)=aN w
 now:cu (gQ w)=aZ f
 fl:aO (gQ w)=r
 en:d9 (gQ w)=d9 w
 dl:bO (gQ w)=bO w
 h0:dW (cV (gN w (aO w).tail) (aZ (mo w))) (549755813888-2*mv w)
theorem fj.at{w}(h:fj B w)(e:aO w=f::r):At w f r:=by
 have a:=h.s
 have p:=a.fl
 rw[e] at p
 have ⟨p1,p2⟩:=cu1.1 p
 have c:=a.fo f (by rw[e];exact dU)
 have m:∀ x∈r,aZ f<=aZ x:=λx j=>by obtain k|k:=p1 x j <;> omega
 have n:mo w=f:=by unfold mo;rw[e];rfl
 have q:(aO w).tail=r:=by rw[e];rfl
 have u:dW (cV (gN w r) (aZ f)) (549755813888-2*mv w):=by
  refine⟨a.net,⟨by show 0<=aZ f;have:=a.now;have:=c.t;omega,c.t.2⟩,a.ord,a.done,a.len,a.st,a.cl,a.cr,p2,λx j=>?_,?_⟩
  .have j:=j;have k:=a.fo x (by rw[e];exact eZ _ j);exact⟨⟨m x j,k.t.2⟩,k.o,k.nd,k.l,k.g,k.b,k.d⟩
  .show (V r)<=4096;have:=a.fn;grind
 have ⟨k1,k2,k3,k4,k5,k6⟩:=Cr (cV (gN w r) (aZ f))
 have i:gQ w=dA (cV (gN w r) (aZ f)):=by unfold gQ;rw[n,q]
 have v:aN (gQ w)=aN w:=by rw[i];exact k1
 have y:cu (gQ w)=aZ f:=by rw[i];exact k6
 have n3:dw (gQ w)=dw w:=by rw[i];exact k5
 refine⟨by rw[i];exact u.change,?_,n,v,y,by rw[i];exact k2,by rw[i];exact k3,by rw[i];exact k4,by rw[n,q];exact u⟩
 rw[v,y,n3]
 exact⟨⟨fJ _,c.t.2⟩,c.o,c.nd,c.l,c.g,c.b,c.d⟩
theorem At.out{w}(h:At w f r)(a:0<(nK w).2.1.2.length) :
  0<=(nK w).2.1.1/\(nK w).2.1.1<(aN w).2.1.length/\pE (aN w).1.length ((aN w).2.1.getD (nK w).2.1.1.toNat cs5):=by
 have b:M (ci f)<(aN (gQ w)).1.length:=by have:=h.fk.nd;omega
 have S:=h.s.weak.out h.fk.wk
 have eH:nK w=cj (gQ w) f:=by unfold nK;rw[h.eF]
 rw[eH] at a ⊢
 have hr:(cj (gQ w) f).2.2=0∨(cj (gQ w) f).2.2=2:=by
  by_cases c:(cj (gQ w) f).2.2=0
  .exact .inl c
  by_cases d:(cj (gQ w) f).2.2=2
  .exact .inr d
  .have:=S.none c d;rw[this] at a;exact absurd a (by simp[mE])
 obtain⟨⟨k0,e⟩,g,-⟩:=F9 h.s.net b (Ht h.s.net b (S.some hr).2.2)
 rw[h.net] at e g
 exact⟨k0,e,g⟩
end Go.RS
namespace Go.SX
open Go
variable {P:Program}
theorem wp(w)(dT sT ty qa)(z g o dLen dCap)(a)(sE A0)(cur)(t)(cs)
  (hu:P.underlying dT=cs6 (.slice qa)) (hs:(P.info? qa).map (·.size)=cs6 z)
  (hg:w.heap[g]? = cs6 (.cells cur t (0,0))) (hn:V cs=Nat.min sE dLen*z)
  (hsrc:∀ j v,cs[j]? = cs6 v->w.cell? (a.add j)=cs6 v) (hfit:o+V cs<=cur.size) (h1:∀ v∈cs,v.oneCell'=cs8) :
  (cx4 #[dT,sT] ty #[.slice (cs6 ⟨g,o,none⟩) dLen dCap,.slice (cs6 a) sE A0]).run P w =
   .ok (goInt (Nat.min sE dLen)) (w.setRow g (cur.toList.take o++cs++cur.toList.drop (o+V cs)).toArray):=by
 have hl:=run_loadCells_list (P:=P) w a cs hsrc
 have hst:=run_storeCells_at P g o t cs 0 cur w hg (by simpa using hfit) h1
 cases hq:P.info? qa with
 | none=>simp[hq] at hs
 | some i =>
  have hi:i.size=z:=by simpa[hq] using hs
  simp[cx4,run_underlying hu,Builtin.lenOf,Builtin.firstCells,sizeOf,typeInfo,hq,hi,← hn,hl,hst]
end Go.SX
namespace Go.SX
open Go.ChangeShapes Go.WideShapes Go.ChangeAt Go.RowKit
def FO{H:Type}(f:(t:CT)->ct5->t.D->cJ2 H):List Field->(t:CT)->t.D->List (cJ2 H)
 | [],_,_=>[]
 | [fd],t,d=>[f t fd.type d]
 | fd::g::r,.pair a b,(x,y)=>f a fd.type x::FO f (g::r) b y
 | _::_::_,_,_=>[]
def Em{H:Type}(f:(t:CT)->ct5->t.D->cJ2 H)(e:ct5):Nat->(t:CT)->t.D->List (cJ2 H)
 | 0,_,_=>[]
 | 1,t,d=>[f t e d]
 | n+2,.pair a b,(x,y)=>f a e x::Em f e (n+1) b y
 | _+2,_,_=>[]
def tL{H:Type}(P:Program):Nat->(t:CT)->ct5->t.D->cJ2 H
 | 0,_,_,_ => .agg []
 | n+1,t,τ,d=>match P.underlying τ,t,d with
  | some (.int k),.int _,d => .lit (.int k d)
  | some .bool,.bool,d => .lit (.bool d)
  | some (.struct fs),t,d => .agg (FO (tL P n) fs.toList t d)
  | some (.array k e),t,d => .agg (Em (tL P n) e k t d)
  | _,_,_ => .agg []
def zd:CT->Bool
 | .int _=>cs8
 | .bool=>cs8
 | .pair a b=>zd a&&zd b
 | _=>ct2
section
variable {H:Type} {enc:ct5×Value->H} {P:Program} {w:World} {base:Nat} {held:Bool}
theorem ag5{A f F}{cs:List Value}{n}
  (hf:∀ t τ cs d p,f t τ=cs8->zd t=cs8->cC2 enc P w base (λ_=>cs8) held n τ cs=cs6 (F t τ d,p)->Rd A w t (λj=>cs[j]?) 0 d) :
  ∀ fs t o d xs,zR P f fs t o=cs8->zd t=cs8->V xs=V fs->xs.map (·.1)=FO F fs t d →
   (∀ i (h1:i<V fs) (h2:i<V xs),cC2 enc P w base (λ_=>cs8) held n fs[i].type ((cs.drop fs[i].offset).take (P.cellsOf fs[i].type))=cs6 xs[i])->Rd A w t (λj=>cs[j]?) o d
 | [],t,o,d,xs,h,_,_,_,_=>by cases h
 | [fd],t,o,d,xs,h,ht,hl,he,hx=>by
  simp only[zR,fB] at h;obtain⟨⟨h1,h2⟩,h3⟩:=h;have h2:=bH h2;have h3:=bH h3
  match xs,hl with
  | [x],_ =>
   have:=hx 0 aw aw;simp only[cC7] at this;simp only[f6,cH3,FO,cF0.injEq,ir] at he;have hd:=hf t fd.type _ d x.2 h1 ht (by rw[this,← he]);rw[h2] at hd;exact CG h3 hd
 | fd::g::r,.pair a b,o,(d1,d2),xs,h,ht,hl,he,hx=>by
  simp only[zR,fB] at h;have ⟨⟨⟨h1,h2⟩,h3⟩,h4⟩:=h;simp only[zd,fB] at ht;have h2:=bH h2;have h3:=bH h3
  match xs,hl with
  | x::ys,hl =>
   simp only[f6,FO,cF0.injEq] at he;have:=hx 0 aw aw;simp only[cC7] at this;have hd:=hf a fd.type _ d1 x.2 h1 ht.1 (by rw[this,← he.1]);rw[h2] at hd;have hd':=ag5 hf (g::r) b (o+a.size) d2 ys h4 ht.2 (by simpa using hl) he.2 (λi k1 k2=>by
    have:=hx (i+1) (by simpa using k1) (by simpa using k2);simpa only[cO1] using this)
   exact⟨CG h3 hd,hd'⟩
 | _::_::_,.int _,_,_,_,h,_,_,_,_=>by cases h
 | _::_::_,.bool,_,_,_,h,_,_,_,_=>by cases h
 | _::_::_,.str,_,_,_,h,_,_,_,_=>by cases h
 | _::_::_,.sl _,_,_,_,h,_,_,_,_=>by cases h
theorem ai1{A f F}{cs:List Value}{n e}
  (hf:∀ t τ cs d p,f t τ=cs8->zd t=cs8->cC2 enc P w base (λ_=>cs8) held n τ cs=cs6 (F t τ d,p)->Rd A w t (λj=>cs[j]?) 0 d) :
  ∀ k t i d xs,A4 P f e k t=cs8->zd t=cs8->V xs=k->xs.map (·.1)=Em F e k t d →
   (∀ j (h2:j<V xs),cC2 enc P w base (λ_=>cs8) held n e ((cs.drop ((i+j)*P.cellsOf e)).take (P.cellsOf e))=cs6 xs[j])->Rd A w t (λj=>cs[j]?) (i*P.cellsOf e) d
 | 0,t,i,d,xs,h,_,_,_,_=>by cases h
 | 1,t,i,d,xs,h,ht,hl,he,hx=>by
  simp only[A4,fB] at h;obtain⟨h1,h2⟩:=h;have h2:=bH h2
  match xs,hl with
  | [x],_ =>
   have:=hx 0 aw;simp only[cC7] at this;simp only[f6,cH3,Em,cF0.injEq,ir] at he;have hd:=hf t e _ d x.2 h1 ht (by rw[this,← he]);exact CG h2 hd
 | k+2,.pair a b,i,(d1,d2),xs,h,ht,hl,he,hx=>by
  simp only[A4,fB] at h;have ⟨⟨h1,h2⟩,h4⟩:=h;simp only[zd,fB] at ht;have h2:=bH h2
  match xs,hl with
  | x::ys,hl =>
   simp only[f6,Em,cF0.injEq] at he;have:=hx 0 aw;simp only[cC7] at this;have hd:=hf a e _ d1 x.2 h1 ht.1 (by rw[this,← he.1]);have hd':=ai1 hf (k+1) b (i+1) d2 ys h4 ht.2 (by simpa using hl) he.2 (λj k2=>by
    have:=hx (j+1) (by simpa using k2);simp only[cO1] at this;rw[← this];congr 4;omega)
   refine⟨CG h2 hd,?_⟩;rw[gA,qS] at hd';rw[← h2];exact hd'
 | _+2,.int _,_,_,_,h,_,_,_,_=>by cases h
 | _+2,.bool,_,_,_,h,_,_,_,_=>by cases h
 | _+2,.str,_,_,_,h,_,_,_,_=>by cases h
 | _+2,.sl _,_,_,_,h,_,_,_,_=>by cases h
theorem P6:∀ n t(τ:ct5)(fuel:Nat)(cs:List Value)(d:t.D)(p:List cL7),pt P n t τ=cs8->zd t=cs8->cC2 enc P w base (λ_=>cs8) held fuel τ cs=cs6 (tL P n t τ d,p) →
  Rd (λb=>b<w.heap.size) w t (λj=>cs[j]?) 0 d
 | 0,t,τ,fuel,cs,d,p,h,_,_=>by cases h
 | n+1,t,τ,fuel,cs,d,p,h,ht,hx=>by
  cases hu:P.underlying τ with
  | none=>cases t <;> simp[pt,hu] at h
  | some ty =>
   cases ty with
   | int k =>
    cases t with
    | int k' =>
     simp only[pt,hu] at h;cases kI h;obtain⟨m,rfl,e,hw⟩:=DataW.trod_int hu hx;unfold tL at e;rw[hu] at e;simp only[ck,cX9.injEq,Lit.int.injEq,true_and] at e;obtain⟨rfl,-⟩:=e;exact⟨aw,Zc hw⟩
    | _=>simp[pt,hu] at h
   | bool =>
    cases t with
    | bool =>
     obtain⟨b,rfl,e⟩:=DataW.trod_bool hu hx;unfold tL at e;rw[hu] at e;simp only[ck,cX9.injEq,Lit.bool.injEq] at e;obtain⟨rfl,-⟩:=e;simp[Rd]
    | _=>simp[pt,hu] at h
   | struct fs =>
    have h':zR P (pt P n) fs.toList t 0=true:=by cases t <;> simpa[pt,hu] using h
    have ed:tL (H:=H) P (n+1) t τ d = .agg (FO (tL P n) fs.toList t d):=by
     cases t <;> first|(cases ht;done)|(unfold tL;rw[hu])
    have ⟨xs,m,_,e,hl,hlen,hf⟩:=DataW.trod_struct hu hx;rw[ed] at e;simp only[ck,cY0.injEq] at e;refine ag5 (F:=tL P n) (n:=m) (λt τ cs d p h1 h2 h3=>P6 n t τ m cs d p h1 h2 h3) fs.toList _ 0 d xs h' ht (by simpa using hlen) e.1.symm λi h1 h2=>?_;have:=hf i fs[i] (Array.getElem?_eq_getElem (by simpa using h1));rw[cT h2] at this;simpa using this
   | array k e' =>
    have h':A4 P (pt P n) e' k t=true:=by cases t <;> simpa[pt,hu] using h
    have ed:tL (H:=H) P (n+1) t τ d = .agg (Em (tL P n) e' k t d):=by
     cases t <;> first|(cases ht;done)|(unfold tL;rw[hu])
    have ⟨xs,m,_,e,hl,hlen,hf⟩:=DataW.trod_array hu hx;rw[ed] at e;simp only[ck,cY0.injEq] at e;have:=ai1 (F:=tL P n) (n:=m) (cs:=cs) (e:=e') (λt τ cs d p h1 h2 h3=>P6 n t τ m cs d p h1 h2 h3) k _ 0 d xs h' ht hlen e.1.symm λj h2=>by
     have:=hf j Y;rw[cT h2] at this;simpa using this
    simpa using this
   | _=>cases t <;> first|(cases ht;done)|(simp[pt,hu] at h;done)
end
theorem globs_at{P w l name t v g n}{τ:ct5}{d}(h:laidMetH P l w)(hh:(l.all λx=>x.2.handleName?.isNone)=cs8)(hm:(name,d)∈l)
  (hg:P.globalNamed name=cs6 g) (hτ:(P.globals[g]?).map (·.type)=cs6 τ) (hf:pt P n t τ=cs8) (hs:zd t=cs8) (hd:d=tL P n t τ v) :
  g<w.heap.size/\Rd (λb=>b<w.heap.size) w t (λo=>w.cell? ⟨g,o,none⟩) 0 v:=by
 rw[cZ0 _ _ _ hh] at h
 have ⟨g0,t0,cs0,f0,p0,hg0,ht0,hv0,hd0⟩:=Lib.laidMet.reads h hm
 obtain rfl:=cV4.inj (hg.symm.trans hg0)
 obtain rfl:=cV4.inj (hτ.symm.trans ht0)
 rw[hd] at hd0
 have hr:=P6 n t τ f0 cs0.toList v p0 hf hs hd0
 have hlt:g<w.heap.size:=by
  have hv:=hv0;simp only[World.var?,hg,Option.bind_some] at hv;split at hv
  next hb=>exact (Array.getElem?_eq_some_iff.1 hb).1
  .cases hv
 refine⟨hlt,?_⟩
 refine jM (λ_ h=>h) (λ_ _ _=>rfl) t _ _ _ _ (λj hj=>?_) hr
 have:=World.var?_cell hg hv0 j
 rw[gD,this];simp
end Go.SX
